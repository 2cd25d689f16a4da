/-
  sync.Once in a run of one goroutine: what its parts do, each by a contract of its own.
-/
import Derived.Test.YtkhcaamgjjhpeaaGreatDoorRows
import Derived.Tactics
import Derived.Tactics2
import Derived.Defers
import Derived.Laws.Pointers
import Derived.Laws.LoneSync
import Derived.RegionTactic
import Derived.RegionCalls
import Derived.ChangeAlike
import Derived.Test.YtkhcaamgjjhpeaaGreatDoorH07
import Derived.IntWalk
namespace Go.Proofs.YtkhcaamgjjhpeaaGreatDoor.once
theorem disable (w : World) : (callFunc 149 #[]).run Tryz.prog w = .ok (.value (.tuple #[])) w := run_call_mark0 Tryz.func149 (by kernel_rfl) (by kernel_rfl) (by kernel_rfl) .disable (by kernel_rfl) w
theorem enable (w : World) : (callFunc 151 #[]).run Tryz.prog w = .ok (.value (.tuple #[])) w := run_call_mark0 Tryz.func151 (by kernel_rfl) (by kernel_rfl) (by kernel_rfl) .enable (by kernel_rfl) w
theorem acquire (a : Addr) (w : World) : (callFunc 152 #[.pointer (some a)]).run Tryz.prog w = .ok (.value (.tuple #[])) w := run_call_marked Tryz.func152 (by kernel_rfl) (by kernel_rfl) (by kernel_rfl) .acquire (by kernel_rfl) a w
theorem releaseMerge (a : Addr) (w : World) : (callFunc 154 #[.pointer (some a)]).run Tryz.prog w = .ok (.value (.tuple #[])) w := run_call_marked Tryz.func154 (by kernel_rfl) (by kernel_rfl) (by kernel_rfl) .releaseMerge (by kernel_rfl) a w
set_option maxRecDepth 100000 in
set_option maxHeartbeats 1600000 in
theorem store_deferred (a : Addr) (x : Value) (u : FrameMode) (w : World) (hc : w.cell? a = some x) (hz : w.frozen? a = false) :
    CallsD Tryz.prog 121 #[.pointer (some a), .bool true] u w fun e u' w' => u' = u ∧ (e = .returned (.tuple #[]) ∧ w' = w.drew.setCell a (.int .u32 1)) := by
 have hc' : w.drew.cell? a = some x := by go_simp
 have hz' : w.drew.frozen? a = false := by go_simp
 have hst := run_call_store (P := Tryz.prog) Tryz.func139 (by kernel_rfl) (by kernel_rfl) (by kernel_rfl) (by kernel_rfl) (k := .u32) (y := 1) hc' hz'
 go_enter_d Tryz.func121, Tryz.ntmps121
 go_wp2
 go_region_calls
 all_goals (go_end0; exact ⟨rfl, rfl⟩)
set_option maxRecDepth 100000 in
set_option maxHeartbeats 1600000 in
theorem unlock_deferred (a : Addr) (u : FrameMode) (w : World) (hc : w.cell? a = some (.int .i32 1)) (hz : w.frozen? a = false) :
    CallsD Tryz.prog 120 #[.pointer (some a)] u w fun e u' w' => u' = u ∧ (e = .returned (.tuple #[]) ∧ w' = w.setCell a (.int .i32 0)) := by
 have hd := disable
 have he := enable
 have hr := releaseMerge
 have hadd := run_call_add (P := Tryz.prog) Tryz.func155 (by kernel_rfl) (by kernel_rfl) (by kernel_rfl) .i32 (by kernel_rfl) (y := -1) (s := 0) hc hz (by simp [go_sem]; rfl)
 have hcv := run_convert_to_unsafe (P := Tryz.prog) (src := 221) (dst := 162) Tryz.underlying221 Tryz.underlying162 (by kernel_rfl) hc
 go_enter_d Tryz.func120, Tryz.ntmps120
 go_wp2
 go_end0
 go_wp2
 go_end0
 exact ⟨rfl, rfl⟩
set_option maxRecDepth 100000 in
set_option maxHeartbeats 1600000 in
theorem lock_free (a : Addr) (w : World) (hc : w.cell? a = some (.int .i32 0)) (hz : w.frozen? a = false) :
    Calls Tryz.prog 119 #[.pointer (some a)] w fun e w' => e = .returned (.tuple #[]) ∧ w' = w.setCell a (.int .i32 1) := by
 have hd := disable
 have he := enable
 have ha := acquire
 have hcas := run_call_cas_hit (P := Tryz.prog) Tryz.func150 (by kernel_rfl) (by kernel_rfl) (by kernel_rfl) .i32 (by kernel_rfl) (y := 1) hc hz
 have hc' : (w.setCell a (.int .i32 1)).cell? a = some (.int .i32 1) := World.cell?_setCell_same w a _ hc
 have hcv := run_convert_to_unsafe (P := Tryz.prog) (src := 221) (dst := 162) Tryz.underlying221 Tryz.underlying162 (by kernel_rfl) hc'
 go_enter Tryz.func119, Tryz.ntmps119
 go_wp2
 first | go_end0 | (simp only [Exit.inBlock, Exit.then]; refine bodyPost_ret (results_none rfl _ _ _) rfl ?_) | refine bodyPost_ret (results_none rfl _ _ _) rfl ?_
 go_wp2
 go_end0
 exact ⟨rfl, rfl⟩
set_option maxRecDepth 100000 in
set_option maxHeartbeats 1600000 in
theorem slow_any (b off : Nat) (g : Nat) (vs : Array Value) (w : World) (Rc : World → Prop) (hg : ∀ args w, (callFunc g args).run Tryz.prog w = .ok (.enter g args) w)
    (h0 : w.cell? ⟨b, off, none⟩ = some (.int .u32 0)) (h1 : w.cell? ⟨b, off + 1, none⟩ = some (.int .i32 0)) (f0 : w.frozen? ⟨b, off, none⟩ = false) (f1 : w.frozen? ⟨b, off + 1, none⟩ = false)
    (hcall : Calls Tryz.prog g vs (w.setCell ⟨b, off + 1, none⟩ (.int .i32 1)) fun e w2 => (∃ v, e = .returned v) ∧ Rc w2)
    (hRc : ∀ w2, Rc w2 → w2.cell? ⟨b, off, none⟩ = some (.int .u32 0) ∧ w2.cell? ⟨b, off + 1, none⟩ = some (.int .i32 1) ∧ w2.frozen? ⟨b, off, none⟩ = false ∧ w2.frozen? ⟨b, off + 1, none⟩ = false) :
    Calls Tryz.prog 94 #[.pointer (some ⟨b, off, none⟩), .func (.func g) #[] vs] w fun e w' => e = .returned (.tuple #[]) ∧
     ∃ w2, Rc w2 ∧ w' = (w2.drew.setCell ⟨b, off, none⟩ (.int .u32 1)).setCell ⟨b, off + 1, none⟩ (.int .i32 0) := by
 have hl := run_call_load (P := Tryz.prog) Tryz.func118 (by kernel_rfl) (by kernel_rfl) (by kernel_rfl) .u32 (by kernel_rfl) (w := w.setCell ⟨b, off + 1, none⟩ (.int .i32 1)) (a := ⟨b, off, none⟩) (x := 0) ((World.cell?_setCell_other _ ⟨b, off + 1, none⟩ ⟨b, off, none⟩ _ (by simp)).trans h0)
 have hnot : ∀ (x : Bool) (w : World), (Op.unary .not (.bool x)).run Tryz.prog w = .ok (.bool (!x)) w := fun _ _ => rfl
 go_enter_defers Tryz.func94, Tryz.ntmps94
 go_wp2_with (go_at_call 119; refine (lock_free ⟨b, off + 1, none⟩ _ (by go_simp) (by go_simp)).mono ?_; rintro e w' ⟨rfl, rfl⟩)
 go_wp2
 refine hcall.mono ?_
 rintro e w2 ⟨⟨v, rfl⟩, hR⟩
 obtain ⟨c0, c1, z0, z1⟩ := hRc w2 hR
 go_wp2
 refine leaves_cons (f := 121) (args := #[.pointer (some ⟨b, off, none⟩), .bool true]) (by simp) (by simp [go_sem]) ?_
 refine (store_deferred ⟨b, off, none⟩ (.int .u32 0) .returning _ c0 z0).mono ?_
 rintro e u' w'' ⟨rfl, rfl, rfl⟩
 refine leaves_cons (f := 120) (args := #[.pointer (some ⟨b, off + 1, none⟩)]) (by simp [settle]) (by simp [go_sem]) ?_
 refine (unlock_deferred ⟨b, off + 1, none⟩ _ _ ?_ (by simp [z1])).mono ?_
 ·refine (World.cell?_setCell_other _ ⟨b, off, none⟩ ⟨b, off + 1, none⟩ _ (by simp)).trans ?_
  rw [World.cell?_drew]
  exact c1
 rintro e u' w'' ⟨rfl, rfl, rfl⟩
 simp [Leaves, settle, results, Tryz.results94]
 exact ⟨w2, hR, rfl⟩
set_option maxRecDepth 100000 in
set_option maxHeartbeats 1600000 in
theorem do_first (b off : Nat) (g : Nat) (vs : Array Value) (w : World) (Rc : World → Prop) (hg : ∀ args w, (callFunc g args).run Tryz.prog w = .ok (.enter g args) w)
    (h0 : w.cell? ⟨b, off, none⟩ = some (.int .u32 0)) (h1 : w.cell? ⟨b, off + 1, none⟩ = some (.int .i32 0)) (f0 : w.frozen? ⟨b, off, none⟩ = false) (f1 : w.frozen? ⟨b, off + 1, none⟩ = false)
    (hcall : Calls Tryz.prog g vs (w.setCell ⟨b, off + 1, none⟩ (.int .i32 1)) fun e w2 => (∃ v, e = .returned v) ∧ Rc w2)
    (hRc : ∀ w2, Rc w2 → w2.cell? ⟨b, off, none⟩ = some (.int .u32 0) ∧ w2.cell? ⟨b, off + 1, none⟩ = some (.int .i32 1) ∧ w2.frozen? ⟨b, off, none⟩ = false ∧ w2.frozen? ⟨b, off + 1, none⟩ = false) :
    Calls Tryz.prog 71 #[.pointer (some ⟨b, off, none⟩), .func (.func g) #[] vs] w fun e w' => e = .returned (.tuple #[]) ∧
     ∃ w2, Rc w2 ∧ w' = (w2.drew.setCell ⟨b, off, none⟩ (.int .u32 1)).setCell ⟨b, off + 1, none⟩ (.int .i32 0) := by
 have hl := run_call_load (P := Tryz.prog) Tryz.func118 (by kernel_rfl) (by kernel_rfl) (by kernel_rfl) .u32 (by kernel_rfl) h0
 have hnot : ∀ (x : Bool) (w : World), (Op.unary .not (.bool x)).run Tryz.prog w = .ok (.bool (!x)) w := fun _ _ => rfl
 go_enter Tryz.func71, Tryz.ntmps71
 go_wp2_with (first | (go_at_call 94; refine (slow_any b off g vs _ Rc hg h0 h1 f0 f1 hcall hRc).mono ?_; rintro e w' ⟨rfl, hw⟩) | (go_at_call 93; go_in))
 go_end0
 exact ⟨rfl, hw⟩
set_option maxRecDepth 100000 in
set_option maxHeartbeats 1600000 in
theorem do_done (a : Addr) (d : Int) (hd : ¬ d = 0) (fv : Value) (w : World) (h0 : w.cell? a = some (.int .u32 d)) :
    Calls Tryz.prog 71 #[.pointer (some a), fv] w fun e w' => e = .returned (.tuple #[]) ∧ w' = w := by
 have hl := run_call_load (P := Tryz.prog) Tryz.func118 (by kernel_rfl) (by kernel_rfl) (by kernel_rfl) .u32 (by kernel_rfl) h0
 have hnot : ∀ (x : Bool) (w : World), (Op.unary .not (.bool x)).run Tryz.prog w = .ok (.bool (!x)) w := fun _ _ => rfl
 have hd' : (d != 0) = true := by simp [hd]
 go_enter Tryz.func71, Tryz.ntmps71
 go_wp2
 go_end0
 exact ⟨rfl, rfl⟩
end Go.Proofs.YtkhcaamgjjhpeaaGreatDoor.once
set_option linter.unusedSectionVars false
namespace Go.Avm
open Go.RowKit Go.Proofs Go.Proofs.YtkhcaamgjjhpeaaGreatDoor
variable [GlobTab]
section
variable {P : Program} {G : Gh} {B : Nat} {w0 w : World} {I0 : Nat → Nat → Prop} {h : Heap}
theorem setCell_eq {b i : Nat} {arr : Array Value} {e : TypeId} {fz : Nat × Nat} (hb : w.heap[b]? = some (.cells arr e fz)) (u : Value) : w.setCell ⟨b, i, none⟩ u = w.setRow b (arr.setIfInBounds i u) := by
 unfold World.setCell World.setRow
 congr 1
 apply Array.ext
 ·simp
 ·intro j h1 h2
  simp only [Array.getElem_modify]
  split
  ·rename_i hj
   subst hj
   have : w.heap[b]'(by simpa using h1) = .cells arr e fz := by
    have := Array.getElem?_eq_some_iff.1 hb
    exact this.2
   rw [this]
   simp
  ·rfl
theorem HR.cell1 (hr : HR G B w0 I0 h w) {k i : Nat} {es : List AV} {L : Loc} (hob : (h k).ob = some (.arr 1 es)) (hL : G.loc k (h k).ver = some L) (hi : i < es.length) {y : AV} {u : Value} (hy : Rep G w y u) (h1 : u.oneCell' = true) (hl : y.lone = true) :
    HR G B w0 I0 (upd h k ⟨(h k).ver, some (.arr 1 (es.set i y))⟩) (w.setCell ⟨L.b, i, none⟩ u) ∧ Ext G w G (w.setCell ⟨L.b, i, none⟩ u) := by
 rcases hr.objs k _ hob with ⟨rfl, _⟩ | ⟨L', hL', g1, g2, g3, g4, g6, g5⟩
 ·simp at hi
 rw [hL] at hL'
 cases hL'
 obtain ⟨hB, ⟨arr, e, hb, hs⟩, _⟩ := hr.own k L hL
 rw [setCell_eq hb]
 have hall : ∀ x ∈ es.set i y, x.lone = true := fun x hx => by
  rcases List.mem_or_eq_of_mem_set hx with hx | rfl
  ·exact g6 rfl x hx
  ·exact hl
 refine hr.store hob hL g1 g2 hb (by simp) (by simpa using g3) (fun x hx => by rw [AV.cells_lone (hall x hx)]; rfl) (fun _ => hall) (fun t c ht => ?_)
 rw [flat_lone hall, List.getElem?_set] at ht
 by_cases hit : i = t
 ·subst hit
  simp only [if_true, hi] at ht
  cases ht
  have hlt : i < arr.size := by rw [hs.1, g1]; omega
  exact ⟨u, by simp [hlt], h1, hy⟩
 ·rw [if_neg hit] at ht
  obtain ⟨u', hu', hu1, hur⟩ := g5 t c (by rw [flat_lone (g6 rfl)]; exact ht)
  refine ⟨u', ?_, hu1, hur⟩
  rw [Array.getElem?_setIfInBounds_ne hit]
  simpa [World.cell?, hb] using hu'
theorem HR.cellAt (hr : HR G B w0 I0 h w) {k i : Nat} {es : List AV} {L : Loc} (hob : (h k).ob = some (.arr 1 es)) (hL : G.loc k (h k).ver = some L) {kd : IntKind} {n : Int} (hi : es[i]? = some (.d (.int kd n))) :
    w.cell? ⟨L.b, i, none⟩ = some (.int kd n) ∧ w.frozen? ⟨L.b, i, none⟩ = false := by
 rcases hr.objs k _ hob with ⟨rfl, _⟩ | ⟨L', hL', g1, g2, g3, g4, g6, g5⟩
 ·simp at hi
 rw [hL] at hL'
 cases hL'
 obtain ⟨hB, ⟨arr, e, hb, hs⟩, _⟩ := hr.own k L hL
 obtain ⟨u, hu, hu1, hur⟩ := g5 i _ (by rw [flat_lone (g6 rfl)]; exact hi)
 cases hur with
 | d hd =>
 cases hd
 exact ⟨hu, by simp [World.frozen?, hb]⟩
theorem onceAt_spec {a : AV} {k v i : Nat} {es : List AV} {n m : Int} (ha : onceAt h a = some (k, v, i, es, n, m)) : (∃ z, a = .ptr k v i 0 z) ∧ (h k).ver = v ∧ (h k).ob = some (.arr 1 es) ∧ es[i]? = some (.d (.int .u32 n)) ∧ es[i + 1]? = some (.d (.int .i32 m)) := by
 unfold onceAt at ha
 split at ha
 case h_2 => cases ha
 rename_i k' v' i' off z
 split at ha
 case isFalse => cases ha
 rename_i hoff
 subst hoff
 split at ha
 case h_2 => cases ha
 rename_i sz es' hob
 split at ha
 case isFalse => cases ha
 rename_i hc
 obtain ⟨rfl, hv⟩ := hc
 split at ha
 case h_2 => cases ha
 rename_i n' m' e1 e2
 simp only [Option.some.injEq, Prod.mk.injEq] at ha
 obtain ⟨rfl, rfl, rfl, rfl, rfl, rfl⟩ := ha
 exact ⟨⟨z, rfl⟩, hv, hob, e1, e2⟩
theorem upd_upd {α : Type} (f : Nat → α) (k : Nat) (x y : α) : upd (upd f k x) k y = upd f k y := by
 funext t
 simp only [upd]
 split <;> rfl
end
theorem onceOk : OnceOk Tryz.prog 71 := by
 intro h a f caps k v i es n m ha
 obtain ⟨⟨z, rfl⟩, hv, hob, e1, e2⟩ := onceAt_spec ha
 have hcl : Callable Tryz.prog 71 := ⟨Tryz.f71, Tryz.func71, by kernel_rfl, by kernel_rfl⟩
 have two : ∀ {cargs : Array Value} {G : Gh} {w : World}, cargs.size = [AV.ptr k v i 0 z, .fn f caps].length → (∀ (j : Nat) (x : AV) (u : Value), [AV.ptr k v i 0 z, .fn f caps][j]? = some x → cargs[j]? = some u → Rep G w x u) →
     ∃ va vf, cargs = #[va, vf] ∧ Rep G w (.ptr k v i 0 z) va ∧ Rep G w (.fn f caps) vf := by
  intro cargs G w hs hr
  have l0 : cargs[0]? = some (cargs[0]'(by simp at hs; omega)) := Array.getElem?_eq_getElem _
  have l1 : cargs[1]? = some (cargs[1]'(by simp at hs; omega)) := Array.getElem?_eq_getElem _
  refine ⟨_, _, ?_, hr 0 _ _ rfl l0, hr 1 _ _ rfl l1⟩
  apply Array.ext
  ·simpa using hs
  ·intro j h1 h2
   match j with
   | 0 => rfl
   | 1 => rfl
   | j + 2 => simp at h2; omega
 refine ⟨fun hn0 => ⟨hcl, fun G B w0 I0 w cargs hr hs hargs => ?_⟩, fun hn0 hm0 rs h2 es2 hcall ha2 => ⟨hcl, fun G B w0 I0 w cargs hr hs hargs => ?_⟩⟩
 ·obtain ⟨va, vf, rfl, ra, rf⟩ := two hs hargs
  cases ra with
  | ptr _ _ _ _ L hL =>
  have hsz : L.sz = 1 := by
   rcases hr.objs k _ hob with ⟨rfl, _⟩ | ⟨L', hL', g1, _⟩
   ·simp at e1
   ·rw [hv, hL] at hL'; cases hL'; exact g1
  rw [hsz, Nat.mul_one, Nat.add_zero]
  have hc := hr.cellAt hob (by rw [hv]; exact hL) e1
  refine (once.do_done ⟨L.b, i, none⟩ n hn0 vf w hc.1).mono ?_
  rintro e w' ⟨rfl, rfl⟩
  exact ⟨_, G, rfl, Ext.refl G _, hr, .tup [] #[] rfl (fun j c u hc => by simp at hc)⟩
 ·obtain ⟨⟨z2, _⟩, hv2, hob2, e12, e22⟩ := onceAt_spec ha2
  obtain ⟨va, vf, rfl, ra, rf⟩ := two hs hargs
  subst hn0; subst hm0
  cases ra with
  | ptr _ _ _ _ L hL =>
  have hLv : G.loc k (h k).ver = some L := by rw [hv]; exact hL
  have hsz : L.sz = 1 := by
   rcases hr.objs k _ hob with ⟨rfl, _⟩ | ⟨L', hL', g1, _⟩
   ·simp at e1
   ·rw [hLv] at hL'; cases hL'; exact g1
  rw [hsz, Nat.mul_one, Nat.add_zero]
  obtain ⟨c0, z0⟩ := hr.cellAt hob hLv e1
  obtain ⟨c1, z1⟩ := hr.cellAt hob hLv e2
  obtain ⟨vs, rfl, hvl, hvr⟩ : ∃ vs : Array Value, vf = .func (.func f) #[] vs ∧ vs.size = caps.length ∧ ∀ (j : Nat) (x : AV) (u : Value), caps[j]? = some x → vs[j]? = some u → Rep G w x u := by
   cases rf with
   | fn _ _ vs hl hh => exact ⟨vs, rfl, hl, hh⟩
  have hlt1 : i + 1 < es.length := (List.getElem?_eq_some_iff.1 e2).1
  obtain ⟨hr1, ex1⟩ := hr.cell1 hob hLv hlt1 (y := .d (.int .i32 1)) (u := .int .i32 1) (.d (.int _ _)) rfl rfl
  rw [hv] at hr1
  have hcall1 := hcall.2 G B w0 I0 _ vs hr1 hvl (fun j x u hx hu => (hvr j x u hx hu).mono ex1)
  refine (once.do_first L.b i f vs w (fun w2 => ∃ G2, Ext G (w.setCell ⟨L.b, i + 1, none⟩ (.int .i32 1)) G2 w2 ∧ HR G2 B w0 I0 h2 w2) (fun args w => run_callFunc hcall.1 args w) c0 c1 z0 z1 (hcall1.mono ?_) ?_).mono ?_
  ·rintro e w2 ⟨v', G2, rfl, x1, x2, _⟩
   exact ⟨⟨v', rfl⟩, G2, x1, x2⟩
  ·rintro w2 ⟨G2, x1, x2⟩
   have hL2 : G2.loc k (h2 k).ver = some L := by rw [hv2]; exact x1.loc _ _ _ hL
   obtain ⟨d0, y0⟩ := x2.cellAt hob2 hL2 e12
   obtain ⟨d1, y1⟩ := x2.cellAt hob2 hL2 e22
   exact ⟨d0, d1, y0, y1⟩
  ·rintro e w' ⟨rfl, w2, ⟨G2, x1, x2⟩, rfl⟩
   have hL2 : G2.loc k (h2 k).ver = some L := by rw [hv2]; exact x1.loc _ _ _ hL
   have hlt0 : i < es2.length := (List.getElem?_eq_some_iff.1 e12).1
   have hlt1 : i + 1 < es2.length := (List.getElem?_eq_some_iff.1 e22).1
   obtain ⟨q1, q2⟩ := x2.drew.cell1 hob2 hL2 hlt0 (y := .d (.int .u32 1)) (u := .int .u32 1) (.d (.int _ _)) rfl rfl
   obtain ⟨p1, p2⟩ := q1.cell1 (k := k) (i := i + 1) (es := es2.set i (.d (.int .u32 1))) (by rw [upd_same]) (by rw [upd_same]; exact hL2) (by simpa using hlt1) (y := .d (.int .i32 0)) (u := .int .i32 0) (.d (.int _ _)) rfl rfl
   rw [upd_upd, upd_same, hv2] at p1
   exact ⟨_, G2, rfl, ex1.trans (x1.trans ((Ext.drew G2 w2).trans (q2.trans p2))), p1, .tup [] #[] rfl (fun j c u hc => by simp at hc)⟩
end Go.Avm
namespace Go.Avm
open Go.Proofs
def asciiTab : List D := (List.range 256).map fun n => .int .u8 (if n = 9 ∨ n = 10 ∨ n = 11 ∨ n = 12 ∨ n = 13 ∨ n = 32 then 1 else 0)
instance lexTab : GlobTab := ⟨fun g => if g = 0 then some asciiTab else if g = 4 then some [.ifc] else none, some 71, fun g => if g = 123 then some .indexByte else if g = 104 then some .same else none⟩
theorem extOk : ExtAll Tryz.prog := fun g k h => by
 have h' : (if g = 123 then some ExtK.indexByte else if g = 104 then some ExtK.same else none) = some k := h
 split at h'
 ·rename_i hg
  subst hg
  cases h'
  exact ⟨Tryz.f123, Tryz.func123, by kernel_rfl, by kernel_rfl, by kernel_rfl, by show Extern.find Tryz.f123 = some Extern.BytealgIndexByte.indexByte; kernel_rfl⟩
 ·split at h'
  ·rename_i hg
   subst hg
   cases h'
   exact ⟨Tryz.f104, Tryz.func104, by kernel_rfl, by kernel_rfl, by kernel_rfl, by show Extern.find Tryz.f104 = some Extern.AbiNoEscape.same; kernel_rfl⟩
  ·cases h'
theorem okP : OkP Tryz.prog := ⟨Tryz.checked.mixed, extOk⟩
theorem onceAll : OnceAll Tryz.prog := fun g h => by
 have h' : some 71 = some g := h
 cases h'
 exact onceOk
theorem named : Named Tryz.prog := named_of (by kernel_rfl) onceAll
abbrev dN (n : Nat) : AV := .d (.int .i64 (n : Int))
abbrev dI (n : Int) : AV := .d (.int .i64 n)
abbrev dB (b : Bool) : AV := .d (.bool b)
def hLt (P : Program) (a b : Nat) (t : Bool) (h : decide (a < b) = t) : Hint P := .val (dB (decide ((a : Int) < (b : Int)))) (dB t) (by
 congr 2
 rw [← h]
 simp)
def hSucc (P : Program) (i : Nat) (h : i < 1099511627776) : Hint P := .val (dI (IntKind.i64.wrap ((i : Int) + 1))) (dN (i + 1)) (by
 congr 2
 rw [IntWalk.i64_in _ (by omega)]
 simp)
def bodyOf (P : Program) (f : Nat) : Code := ((P.funcs[f]?).bind (·.body)).getD .skip
def findLoop (r : Nat) : Code → Option Code
 | .loop x => if firstReg x = r then some x else findLoop r x
 | .seq x y => match findLoop r x with
  | some c => some c
  | none => findLoop r y
 | .block _ x => findLoop r x
 | .cond _ x y => match findLoop r x with
  | some c => some c
  | none => findLoop r y
 | _ => none
def loopOf (P : Program) (f r : Nat) : Code := (findLoop r (bodyOf P f)).getD .skip
end Go.Avm
namespace Go.Avm
open Go.Proofs
def lookK {P : Program} (f s : Nat) : List (Nat × Nat × Hint P) → Option (Hint P)
 | [] => none
 | (f', s', h) :: r => bif Nat.beq f f' && Nat.beq s s' then some h else lookK f s r
def tabH (P : Program) (l : List (Nat × Nat × Hint P)) : Nat → Nat → Option (Hint P) := fun f s => lookK f s l
def lookKB {P : Program} (f s b : Nat) : List (Nat × Nat × Nat × Hint P) → Option (Hint P)
 | [] => none
 | (f', s', b', h) :: r => bif Nat.beq f f' && Nat.beq s s' && Nat.beq b b' then some h else lookKB f s b r
def tabHB (P : Program) (l : List (Nat × Nat × Nat × Hint P)) : Nat → Nat → Nat → Option (Hint P) := fun f s b => lookKB f s b l
def lookC {P : Program} (f s b : Nat) : List (Nat × Nat × Nat × CHint P) → Option (CHint P)
 | [] => none
 | (f', s', b', h) :: r => bif Nat.beq f f' && Nat.beq s s' && Nat.beq b b' then some h else lookC f s b r
def tabC (P : Program) (l : List (Nat × Nat × Nat × CHint P)) : Nat → Nat → Nat → Option (CHint P) := fun f s b => lookC f s b l
def lookP {P : Program} (f s b : Nat) : List (Nat × Nat × Nat × PHint P) → Option (PHint P)
 | [] => none
 | (f', s', b', h) :: r => bif Nat.beq f f' && Nat.beq s s' && Nat.beq b b' then some h else lookP f s b r
def tabP (P : Program) (l : List (Nat × Nat × Nat × PHint P)) : Nat → Nat → Nat → Option (PHint P) := fun f s b => lookP f s b l
def cOf {P : Program} {g : Nat} {args rs : List AV} {pre post : List (Nat × Ent)} (h : ∀ rest : Heap, HCall P g args (ovl pre rest) rs (ovl post rest)) : CHint P := ⟨g, args, pre, rs, post, fits_of h⟩
def cRo {P : Program} {g : Nat} {args rs : List AV} {pre : List (Nat × Ent)} (hs : (pre.all fun p => p.2.ob.isSome) = true) (h : ∀ rest : Heap, HCall P g args (ovl pre rest) rs (ovl pre rest)) : CHint P := ⟨g, args, pre, rs, [], fits_ro hs h⟩
theorem hpan_forget {P : Program} {g : Nat} {args : List AV} {x : AV} {h h1 h2 : Heap} (hc : HPan P g args h1 x h2) (hh : ∀ k, (h1 k).ver = (h k).ver ∧ ((h1 k).ob = none ∨ (h1 k).ob = (h k).ob)) : HPan P g args h x h2 :=
 ⟨hc.1, fun G B w0 I0 w cargs hr hs hargs => hc.2 G B w0 I0 w cargs (hr.forget hh) hs hargs⟩
def pOf {P : Program} {g : Nat} {args : List AV} {x : AV} {pre post : List (Nat × Ent)} (h : ∀ rest : Heap, HPan P g args (ovl pre rest) x (ovl post rest)) : PCall P := ⟨g, args, pre, x, post, fun h' hf => hpan_forget (h h') (ovl_sub h' pre hf)⟩
def hB (P : Program) (a b : Bool) (h : a = b) : Hint P := .val (dB a) (dB b) (by rw [h])
abbrev toksD (L : List T) : D := .ro (L.map tD)
abbrev rdC (L : List T) (s : RS) : List AV := [.d (toksD L), dN s.i, dI s.op, dI s.n]
abbrev rd (L : List T) (s : RS) : List (Nat × Ent) := [(500000, ⟨1, some (.arr 1 (rdC L s))⟩)]
abbrev rP : AV := .ptr 500000 1 0 0 1
abbrev flt (p e : Int) : AV := .iv 102 (.d (.agg [.int .i64 p, .int .i64 e]))
def RC {α : Type} (L : List T) (f : Nat) (args : List AV) (g : α → List D) (s : RS) : Res α → Prop
 | .ok a s' => s'.i < L.length ∧ ∀ rest : Heap, HCall Tryz.prog f args (ovl (rd L s) rest) ((g a).map .d) (ovl (rd L s') rest)
 | .bad p e s' => ∀ rest : Heap, HPan Tryz.prog f args (ovl (rd L s) rest) (flt p e) (ovl (rd L s') rest)
 | .out => True
structure Toks (L : List T) : Prop where
 len : L.length < 1000000
 last : ∀ i x, L[i]? = some x → x.k ≠ 0 → i + 1 < L.length
theorem cur_get {L : List T} {s : RS} (h : s.i < L.length) : L[s.i]? = some (cur L s) := by
 unfold cur
 rw [List.getD_eq_getElem?_getD, List.getElem?_eq_getElem h]
 rfl
theorem nx_lt {L : List T} (hL : Toks L) {s : RS} (h : s.i < L.length) (hk : (cur L s).k ≠ 0) : s.i + 1 < L.length := hL.last s.i _ (cur_get h) hk
theorem isT_nx {L : List T} (hL : Toks L) {s : RS} (h : s.i < L.length) {x : List UInt8} (hi : isT L s x = true) : s.i + 1 < L.length := nx_lt hL h fun h0 => by
 unfold isT at hi
 rw [h0] at hi
 simp at hi
def hCur (P : Program) {L : List T} {s : RS} (h : s.i < L.length) : Hint P := .idx (L.map tD) ((s.i : Nat) : Int) (tD (cur L s)) (by omega) (by rw [Int.toNat_natCast, List.getElem?_map, cur_get h]; rfl)
end Go.Avm
namespace Go.Avm
open Go.Proofs
noncomputable abbrev Pg : Program := Tryz.prog
abbrev RE (N : Nat) (c : Code) (l : List (Nat × AV)) (hp : List (Nat × Ent)) (e : AExit) (l' : List (Nat × AV)) (hp' : List (Nat × Ent)) : Prop := ∀ (rest : Heap) (X : Fix), X.P = Pg → X.N = N → AW X c ⟨envOf l, ovl hp rest⟩ fun e' S' => e' = e ∧ S' = ⟨envOf l', ovl hp' rest⟩
abbrev RL (N : Nat) (c : Code) (l : List (Nat × AV)) (hp : List (Nat × Ent)) (e : AExit) (l' : List (Nat × AV)) (hp' : List (Nat × Ent)) : Prop := ∀ (rest : Heap) (X : Fix), X.P = Pg → X.N = N → LW X c ⟨envOf l, ovl hp rest⟩ fun e' S' => e' = e ∧ S' = ⟨envOf l', ovl hp' rest⟩
abbrev RZ (N : Nat) (c : Code) (l : List (Nat × AV)) (hp : List (Nat × Ent)) (e : AExit) (l' : List (Nat × AV)) (hp' : List (Nat × Ent)) : Prop := ∀ (rest : Heap) (X : Fix), X.P = Pg → X.N = N → AW X c ⟨envOf l, ovl hp rest⟩ fun e' S' => e' = e ∧ Weak X S' ⟨envOf l', ovl hp' rest⟩
abbrev HC (f : Nat) (a : List AV) (p : List (Nat × Ent)) (d : List D) (q : List (Nat × Ent)) : Prop := ∀ rest : Heap, HCall Pg f a (ovl p rest) (d.map .d) (ovl q rest)
abbrev HX (f : Nat) (a : List AV) (p : List (Nat × Ent)) (x : AV) (q : List (Nat × Ent)) : Prop := ∀ rest : Heap, HPan Pg f a (ovl p rest) x (ovl q rest)
noncomputable abbrev lO (f q : Nat) : Code := loopOf Pg f q
noncomputable abbrev tH (l : List (Nat × Nat × Hint Pg)) : Nat → Nat → Option (Hint Pg) := tabH Pg l
noncomputable abbrev tC (l : List (Nat × Nat × Nat × CHint Pg)) : Nat → Nat → Nat → Option (CHint Pg) := tabC Pg l
theorem qN (pr : Par Pg) (base : Nat) {g : Nat} {args : List AV} {ds : List D} {pre post : List (Nat × Ent)} (c : Cln (pre.map (·.1)) 1000000 args pre post := by exact ⟨rfl, rfl, rfl, by kernel_rfl, by kernel_rfl, by kernel_rfl⟩)
    (h : ∀ rest : Heap, outL (cleanRun (callHH Pg (execH Pg pr 2000) base g args (ovl pre (lowZ 1000000 rest))) (pre.map (·.1)) 1000000 ds post) = outR .ret (cleanRun (callHH Pg (execH Pg pr 2000) base g args (ovl pre (lowZ 1000000 rest))) (pre.map (·.1)) 1000000 ds post) := by (intro _; kernel_rfl)) : HC g args pre ds post := hclean_of_run okP named pr 2000 base g 1000000 c h
theorem qX (pr : Par Pg) (base : Nat) {g : Nat} {args : List AV} {x : AV} {pre post : List (Nat × Ent)} (c : Cln (pre.map (·.1)) 1000000 args pre post := by exact ⟨rfl, rfl, rfl, by kernel_rfl, by kernel_rfl, by kernel_rfl⟩) (hx : renA (rnK (pre.map (·.1)) 1000000) x = x := by kernel_rfl)
    (h : ∀ rest : Heap, outL (cleanPan (callPH Pg (execH Pg pr 2000) base g args (ovl pre (lowZ 1000000 rest))) 1000000 x post) = outR .ret (cleanPan (callPH Pg (execH Pg pr 2000) base g args (ovl pre (lowZ 1000000 rest))) 1000000 x post) := by (intro _; kernel_rfl)) : HX g args pre x post := hcleanP_of_run okP named pr 2000 base g 1000000 c hx h
theorem qE (pr : Par Pg) (fno base : Nat) {N : Nat} {c : Code} {l l' : List (Nat × AV)} {pre post : List (Nat × Ent)} {e : AExit} (cl : Cln (pre.map (·.1)) 1000000 (l.map (·.2)) pre post := by exact ⟨rfl, rfl, rfl, by kernel_rfl, by kernel_rfl, by kernel_rfl⟩) (cl' : renL (rnK (pre.map (·.1)) 1000000) (l'.map (·.2)) = l'.map (·.2) := by kernel_rfl) (hx : renX (rnK (pre.map (·.1)) 1000000) e = e := by kernel_rfl)
    (h : ∀ rest : Heap, outL (finC (execH Pg pr 2000 fno base N c ⟨envOf l, ovl pre (lowZ 1000000 rest)⟩) (pre.map (·.1)) 1000000 [] l' post) = outR e (finC (execH Pg pr 2000 fno base N c ⟨envOf l, ovl pre (lowZ 1000000 rest)⟩) (pre.map (·.1)) 1000000 [] l' post) := by (intro _; kernel_rfl)) : RE N c l pre e l' post := fun rest X hP hN => segC okP named pr 2000 fno base N 1000000 [] cl cl' hx h rest X hP hN
theorem qV (pr : Par Pg) (base : Nat) {g : Nat} {ds rs : List D} (h : outL (pureRunB (retBH (callBH Pg (execH Pg pr 2000) base g (ds.map .d) hp0)) rs) = outR .ret (pureRunB (retBH (callBH Pg (execH Pg pr 2000) base g (ds.map .d) hp0)) rs) := by kernel_rfl) : Pure Pg g ds rs := pure_of_runB okP named pr 2000 base h
noncomputable def qK {α : Type} (s : Nat) : List (Nat × α) → Option α
  | [] => none
  | (k, h) :: r => bif Nat.beq s k then some h else qK s r
noncomputable def qT (f : Nat) (l : List (Nat × Hint Pg)) : Nat → Nat → Option (Hint Pg) := fun f' s => bif Nat.beq f' f then qK s l else none
noncomputable def qB {a b : Bool} (h : a = b) : Hint Pg := hB Pg a b h
noncomputable def qL {a b : Nat} (h : a < b) : Hint Pg := hLt Pg a b true (by simpa using h)
noncomputable def qG (a : Nat) : Hint Pg := hLt Pg a a false (by simp)
end Go.Avm
namespace Go.Avm
open Go.Proofs
section
variable {L : List T} {s : RS} (hi : s.i < L.length)
include hi
theorem nowR : HC 22 [rP] (rd L s) [tD (cur L s)] (rd L s) :=
 qN { hint := qT 22 [(11, hCur Pg hi)] } 1000
theorem badR : HX 61 [rP] (rd L s) (flt (cur L s).p 4) (rd L s) :=
 qX { calls := tC [(61, 3, 1007, cOf (nowR hi))], pans := tabP Pg [(61, 0, 1000, ⟨5, none, []⟩)] } 1000
theorem isA (x : List UInt8) (h1 : ((cur L s).k == 2) = true) : HC 60 [rP, .d (.str x)] (rd L s) [.bool ((cur L s).t == x)] (rd L s) :=
 qN { hint := qT 60 [(10, qB h1)], calls := tC [(60, 7, 1044, cOf (nowR hi))] } 1000
theorem isB (x : List UInt8) (h1 : ((cur L s).k == 2) = false) (h2 : ((cur L s).k == 4) = true) : HC 60 [rP, .d (.str x)] (rd L s) [.bool ((cur L s).t == x)] (rd L s) :=
 qN { hint := qT 60 [(10, qB h1), (14, qB h2)], calls := tC [(60, 7, 1044, cOf (nowR hi))] } 1000
theorem isN (x : List UInt8) (h1 : ((cur L s).k == 2) = false) (h2 : ((cur L s).k == 4) = false) : HC 60 [rP, .d (.str x)] (rd L s) [.bool false] (rd L s) :=
 qN { hint := qT 60 [(10, qB h1), (14, qB h2)], calls := tC [(60, 7, 1044, cOf (nowR hi))] } 1000
theorem isR (x : List UInt8) : HC 60 [rP, .d (.str x)] (rd L s) [.bool (isT L s x)] (rd L s) := by
 unfold isT
 cases h1 : ((cur L s).k == 2) with
 | true => exact isA hi x h1
 | false => cases h2 : ((cur L s).k == 4) with
  | true => exact isB hi x h1 h2
  | false => exact isN hi x h1 h2
theorem takeT (hL : Toks L) (k : Int) (h : (cur L s).k = k) : HC 35 [rP, .d (.int .u8 k)] (rd L s) [tD (cur L s)] (rd L s.nx) :=
 qN { hint := qT 35 [(11, hB Pg ((cur L s).k != k) false (by simp [h])), (18, hSucc Pg s.i (by have := hL.len; omega))], calls := tC [(35, 7, 1044, cOf (nowR hi))] } 1000
theorem takeF (k : Int) (h : (cur L s).k ≠ k) : HX 35 [rP, .d (.int .u8 k)] (rd L s) (flt (cur L s).p 4) (rd L s) :=
 qX { hint := qT 35 [(11, hB Pg ((cur L s).k != k) true (by simpa using h))], calls := tC [(35, 7, 1044, cOf (nowR hi))], pans := tabP Pg [(35, 3, 1176, ⟨1, some (pOf (badR hi)), []⟩)] } 1000
theorem takeR (hL : Toks L) (k : Int) (hk : k ≠ 0) : RC L 35 [rP, .d (.int .u8 k)] (fun t => [tD t]) s (sTake L k s) := by
 unfold sTake
 cases h : ((cur L s).k == k) with
 | true =>
  have h := eq_of_beq h
  exact ⟨nx_lt hL hi (by rw [h]; exact hk), takeT hi hL k h⟩
 | false =>
  exact takeF hi k (by simpa using h)
theorem wantF (x : List UInt8) (h : isT L s x = false) : HX 34 [rP, .d (.str x)] (rd L s) (flt (cur L s).p 4) (rd L s) :=
 qX { hint := qT 34 [(9, hB Pg (!isT L s x) true (by simp [h]))], calls := tC [(34, 8, 1162, cOf (isR hi x))], pans := tabP Pg [(34, 2, 1216, ⟨1, some (pOf (badR hi)), []⟩)] } 1000
theorem want0 (hL : Toks L) (x : List UInt8) (h : isT L s x = true) (h1 : (x == [40]) = false) (h2 : (x == [91]) = false) (h3 : (x == [123]) = false) (h4 : (x == [41]) = false) (h5 : (x == [93]) = false) (h6 : (x == [125]) = false) :
    HC 34 [rP, .d (.str x)] (rd L s) [tD (cur L s)] (rd L s.nx) :=
 qN { hint := qT 34 [(9, hB Pg (!isT L s x) false (by simp [h])), (16, qB h1), (17, qB h2), (18, qB h3), (36, qB h4), (37, qB h5), (38, qB h6), (50, hSucc Pg s.i (by have := hL.len; omega))], calls := tC [(34, 8, 1162, cOf (isR hi x)), (34, 13, 1270, cOf (nowR hi))] } 1000
theorem wantO40 (hL : Toks L) (h : isT L s [40] = true) (hd : decide (200 < w64 (s.op + 1)) = false) :
    HC 34 [rP, .d (.str [40])] (rd L s) [tD (cur L s)] (rd L ⟨s.i + 1, w64 (s.op + 1), s.n⟩) :=
 qN { hint := qT 34 [(9, hB Pg (!isT L s [40]) false (by simp [h])), (30, qB hd), (50, hSucc Pg s.i (by have := hL.len; omega))], calls := tC [(34, 8, 1162, cOf (isR hi [40])), (34, 13, 1270, cOf (nowR hi))] } 1000
theorem wantD40 (h : isT L s [40] = true) (hd : decide (200 < w64 (s.op + 1)) = true) :
    HX 34 [rP, .d (.str [40])] (rd L s) (flt (cur L s).p 5) (rd L { s with op := w64 (s.op + 1) }) :=
 qX { hint := qT 34 [(9, hB Pg (!isT L s [40]) false (by simp [h])), (30, qB hd)], calls := tC [(34, 8, 1162, cOf (isR hi [40])), (34, 13, 1270, cOf (nowR hi))], pans := tabP Pg [(34, 10, 2242, ⟨4, none, []⟩)] } 1000
theorem wantO91 (hL : Toks L) (h : isT L s [91] = true) (hd : decide (200 < w64 (s.op + 1)) = false) :
    HC 34 [rP, .d (.str [91])] (rd L s) [tD (cur L s)] (rd L ⟨s.i + 1, w64 (s.op + 1), s.n⟩) :=
 qN { hint := qT 34 [(9, hB Pg (!isT L s [91]) false (by simp [h])), (30, qB hd), (50, hSucc Pg s.i (by have := hL.len; omega))], calls := tC [(34, 8, 1162, cOf (isR hi [91])), (34, 13, 1270, cOf (nowR hi))] } 1000
theorem wantD91 (h : isT L s [91] = true) (hd : decide (200 < w64 (s.op + 1)) = true) :
    HX 34 [rP, .d (.str [91])] (rd L s) (flt (cur L s).p 5) (rd L { s with op := w64 (s.op + 1) }) :=
 qX { hint := qT 34 [(9, hB Pg (!isT L s [91]) false (by simp [h])), (30, qB hd)], calls := tC [(34, 8, 1162, cOf (isR hi [91])), (34, 13, 1270, cOf (nowR hi))], pans := tabP Pg [(34, 10, 2350, ⟨4, none, []⟩)] } 1000
theorem wantO123 (hL : Toks L) (h : isT L s [123] = true) (hd : decide (200 < w64 (s.op + 1)) = false) :
    HC 34 [rP, .d (.str [123])] (rd L s) [tD (cur L s)] (rd L ⟨s.i + 1, w64 (s.op + 1), s.n⟩) :=
 qN { hint := qT 34 [(9, hB Pg (!isT L s [123]) false (by simp [h])), (30, qB hd), (50, hSucc Pg s.i (by have := hL.len; omega))], calls := tC [(34, 8, 1162, cOf (isR hi [123])), (34, 13, 1270, cOf (nowR hi))] } 1000
theorem wantD123 (h : isT L s [123] = true) (hd : decide (200 < w64 (s.op + 1)) = true) :
    HX 34 [rP, .d (.str [123])] (rd L s) (flt (cur L s).p 5) (rd L { s with op := w64 (s.op + 1) }) :=
 qX { hint := qT 34 [(9, hB Pg (!isT L s [123]) false (by simp [h])), (30, qB hd)], calls := tC [(34, 8, 1162, cOf (isR hi [123])), (34, 13, 1270, cOf (nowR hi))], pans := tabP Pg [(34, 10, 2458, ⟨4, none, []⟩)] } 1000
theorem wantC41 (hL : Toks L) (h : isT L s [41] = true) :
    HC 34 [rP, .d (.str [41])] (rd L s) [tD (cur L s)] (rd L ⟨s.i + 1, w64 (s.op - 1), s.n⟩) :=
 qN { hint := qT 34 [(9, hB Pg (!isT L s [41]) false (by simp [h])), (50, hSucc Pg s.i (by have := hL.len; omega))], calls := tC [(34, 8, 1162, cOf (isR hi [41])), (34, 13, 1270, cOf (nowR hi))] } 1000
theorem wantC93 (hL : Toks L) (h : isT L s [93] = true) :
    HC 34 [rP, .d (.str [93])] (rd L s) [tD (cur L s)] (rd L ⟨s.i + 1, w64 (s.op - 1), s.n⟩) :=
 qN { hint := qT 34 [(9, hB Pg (!isT L s [93]) false (by simp [h])), (50, hSucc Pg s.i (by have := hL.len; omega))], calls := tC [(34, 8, 1162, cOf (isR hi [93])), (34, 13, 1270, cOf (nowR hi))] } 1000
theorem wantC125 (hL : Toks L) (h : isT L s [125] = true) :
    HC 34 [rP, .d (.str [125])] (rd L s) [tD (cur L s)] (rd L ⟨s.i + 1, w64 (s.op - 1), s.n⟩) :=
 qN { hint := qT 34 [(9, hB Pg (!isT L s [125]) false (by simp [h])), (50, hSucc Pg s.i (by have := hL.len; omega))], calls := tC [(34, 8, 1162, cOf (isR hi [125])), (34, 13, 1270, cOf (nowR hi))] } 1000
theorem wantR (hL : Toks L) (x : List UInt8) : RC L 34 [rP, .d (.str x)] (fun t => [tD t]) s (sWant L x s) := by
 unfold sWant
 cases h : isT L s x with
 | false => exact wantF hi x h
 | true =>
  have hn := isT_nx hL hi h
  simp only [cond_true]
  cases h1 : (x == [40]) with
  | true =>
   obtain rfl : x = [40] := eq_of_beq h1
   simp only [Bool.true_or, cond_true]
   cases hd : decide (200 < w64 (s.op + 1)) with
   | true => exact wantD40 hi h hd
   | false => exact ⟨hn, wantO40 hi hL h hd⟩
  | false => cases h2 : (x == [91]) with
  | true =>
   obtain rfl : x = [91] := eq_of_beq h2
   simp only [Bool.true_or, Bool.or_true, cond_true]
   cases hd : decide (200 < w64 (s.op + 1)) with
   | true => exact wantD91 hi h hd
   | false => exact ⟨hn, wantO91 hi hL h hd⟩
  | false => cases h3 : (x == [123]) with
  | true =>
   obtain rfl : x = [123] := eq_of_beq h3
   simp only [Bool.true_or, Bool.or_true, cond_true]
   cases hd : decide (200 < w64 (s.op + 1)) with
   | true => exact wantD123 hi h hd
   | false => exact ⟨hn, wantO123 hi hL h hd⟩
  | false => cases h4 : (x == [41]) with
  | true =>
   obtain rfl : x = [41] := eq_of_beq h4
   exact ⟨hn, wantC41 hi hL h⟩
  | false => cases h5 : (x == [93]) with
  | true =>
   obtain rfl : x = [93] := eq_of_beq h5
   exact ⟨hn, wantC93 hi hL h⟩
  | false => cases h6 : (x == [125]) with
  | true =>
   obtain rfl : x = [125] := eq_of_beq h6
   exact ⟨hn, wantC125 hi hL h⟩
  | false => exact ⟨hn, want0 hi hL x h h1 h2 h3 h4 h5 h6⟩
theorem mayF (x : List UInt8) (h : isT L s x = false) : HC 39 [rP, .d (.str x)] (rd L s) [.bool false] (rd L s) :=
 qN { hint := qT 39 [(8, hB Pg (!isT L s x) true (by simp [h]))], calls := tC [(39, 7, 1036, cOf (isR hi x))] } 1000
theorem mayT (x : List UInt8) (h : isT L s x = true) (t : T) (s' : RS) (hw : HC 34 [rP, .d (.str x)] (rd L s) [tD t] (rd L s')) : HC 39 [rP, .d (.str x)] (rd L s) [.bool true] (rd L s') :=
 qN { hint := qT 39 [(8, hB Pg (!isT L s x) false (by simp [h]))], calls := tC [(39, 7, 1036, cOf (isR hi x)), (39, 11, 1072, cOf hw)] } 1000
theorem mayP (x : List UInt8) (h : isT L s x = true) (p e : Int) (s' : RS) (hw : HX 34 [rP, .d (.str x)] (rd L s) (flt p e) (rd L s')) : HX 39 [rP, .d (.str x)] (rd L s) (flt p e) (rd L s') :=
 qX { hint := qT 39 [(8, hB Pg (!isT L s x) false (by simp [h]))], calls := tC [(39, 7, 1036, cOf (isR hi x))], pans := tabP Pg [(39, 3, 1048, ⟨2, some (pOf hw), []⟩)] } 1000
theorem mayR (hL : Toks L) (x : List UInt8) : RC L 39 [rP, .d (.str x)] (fun b => [.bool b]) s (sMay L x s) := by
 unfold sMay
 cases h : isT L s x with
 | false => exact ⟨hi, mayF hi x h⟩
 | true =>
  simp only [cond_true]
  have hw := wantR hi hL x
  revert hw
  cases sWant L x s with
  | ok t s' => exact fun hw => ⟨hw.1, mayT hi x h t s' hw.2⟩
  | bad p e s' => exact fun hw => mayP hi x h p e s' hw
  | out => exact fun _ => trivial
theorem isRT (x : List UInt8) {b : Bool} (h : isT L s x = b) : HC 60 [rP, .d (.str x)] (rd L s) [.bool b] (rd L s) := h ▸ isR hi x
end
section
variable {L : List T} {F : Nat} {args : List AV} {s0 : RS} {α β : Type} {g : α → List D}
theorem RC.bind {f' : Nat} {args' : List AV} {g' : β → List D} {s : RS} {r : Res β} {k : β → RS → Res α} (h : RC L f' args' g' s r)
    (hb : ∀ p e s', (HX f' args' (rd L s) (flt p e) (rd L s')) → HX F args (rd L s0) (flt p e) (rd L s'))
    (hk : ∀ a s', s'.i < L.length → (HC f' args' (rd L s) (g' a) (rd L s')) → RC L F args g s0 (k a s')) : RC L F args g s0 (r.bind k) := by
 cases r with
 | ok a s' => exact hk a s' h.1 h.2
 | bad p e s' => exact hb p e s' h
 | out => trivial
theorem RC.may {s : RS} (hi : s.i < L.length) (hL : Toks L) (x : List UInt8) {X Y : RS → Res α}
    (hb : ∀ p e s', (HX 39 [rP, .d (.str x)] (rd L s) (flt p e) (rd L s')) → HX F args (rd L s0) (flt p e) (rd L s'))
    (hT : ∀ s', s'.i < L.length → (HC 39 [rP, .d (.str x)] (rd L s) [.bool true] (rd L s')) → RC L F args g s0 (X s'))
    (hF : isT L s x = false → RC L F args g s0 (Y s)) : RC L F args g s0 ((sMay L x s).bind fun b s1 => bif b then X s1 else Y s1) := by
 have h := mayR hi hL x
 revert h
 unfold sMay
 cases hx : isT L s x with
 | false => exact fun _ => hF hx
 | true =>
  simp only [cond_true]
  cases sWant L x s with
  | ok t s' => exact fun h => hT s' h.1 h.2
  | bad p e s' => exact fun h => hb p e s' h
  | out => exact fun _ => trivial
theorem RC.ite {c : Bool} {X Y : Res α} (hT : c = true → RC L F args g s0 X) (hF : c = false → RC L F args g s0 Y) : RC L F args g s0 (bif c then X else Y) := by
 cases h : c with
 | true => exact hT h
 | false => exact hF h
end
end Go.Avm
namespace Go.Avm
open Go.Proofs
theorem sgF1 : Pure Tryz.prog 13 [.int .u8 1] [.str [43], .int .i64 9] := pure_of_exec okP named (fun _ _ => false) (fun _ => false) 1000 (by kernel_rfl)
theorem sgF2 : Pure Tryz.prog 13 [.int .u8 2] [.str [45], .int .i64 9] := pure_of_exec okP named (fun _ _ => false) (fun _ => false) 1000 (by kernel_rfl)
theorem sgF3 : Pure Tryz.prog 13 [.int .u8 3] [.str [42], .int .i64 10] := pure_of_exec okP named (fun _ _ => false) (fun _ => false) 1000 (by kernel_rfl)
theorem sgF4 : Pure Tryz.prog 13 [.int .u8 4] [.str [47], .int .i64 10] := pure_of_exec okP named (fun _ _ => false) (fun _ => false) 1000 (by kernel_rfl)
theorem sgF5 : Pure Tryz.prog 13 [.int .u8 5] [.str [37], .int .i64 10] := pure_of_exec okP named (fun _ _ => false) (fun _ => false) 1000 (by kernel_rfl)
theorem sgF6 : Pure Tryz.prog 13 [.int .u8 6] [.str [38], .int .i64 7] := pure_of_exec okP named (fun _ _ => false) (fun _ => false) 1000 (by kernel_rfl)
theorem sgF7 : Pure Tryz.prog 13 [.int .u8 7] [.str [124], .int .i64 5] := pure_of_exec okP named (fun _ _ => false) (fun _ => false) 1000 (by kernel_rfl)
theorem sgF8 : Pure Tryz.prog 13 [.int .u8 8] [.str [94], .int .i64 6] := pure_of_exec okP named (fun _ _ => false) (fun _ => false) 1000 (by kernel_rfl)
theorem sgF9 : Pure Tryz.prog 13 [.int .u8 9] [.str [60, 60], .int .i64 8] := pure_of_exec okP named (fun _ _ => false) (fun _ => false) 1000 (by kernel_rfl)
theorem sgF10 : Pure Tryz.prog 13 [.int .u8 10] [.str [62, 62], .int .i64 8] := pure_of_exec okP named (fun _ _ => false) (fun _ => false) 1000 (by kernel_rfl)
theorem sgF11 : Pure Tryz.prog 13 [.int .u8 11] [.str [60], .int .i64 4] := pure_of_exec okP named (fun _ _ => false) (fun _ => false) 1000 (by kernel_rfl)
theorem sgF12 : Pure Tryz.prog 13 [.int .u8 12] [.str [60, 61], .int .i64 4] := pure_of_exec okP named (fun _ _ => false) (fun _ => false) 1000 (by kernel_rfl)
theorem sgF13 : Pure Tryz.prog 13 [.int .u8 13] [.str [62], .int .i64 4] := pure_of_exec okP named (fun _ _ => false) (fun _ => false) 1000 (by kernel_rfl)
theorem sgF14 : Pure Tryz.prog 13 [.int .u8 14] [.str [62, 61], .int .i64 4] := pure_of_exec okP named (fun _ _ => false) (fun _ => false) 1000 (by kernel_rfl)
theorem sgF15 : Pure Tryz.prog 13 [.int .u8 15] [.str [61, 61], .int .i64 3] := pure_of_exec okP named (fun _ _ => false) (fun _ => false) 1000 (by kernel_rfl)
theorem sgF16 : Pure Tryz.prog 13 [.int .u8 16] [.str [33, 61], .int .i64 3] := pure_of_exec okP named (fun _ _ => false) (fun _ => false) 1000 (by kernel_rfl)
theorem sgF17 : Pure Tryz.prog 13 [.int .u8 17] [.str [38, 38], .int .i64 2] := pure_of_exec okP named (fun _ _ => false) (fun _ => false) 1000 (by kernel_rfl)
theorem sgF18 : Pure Tryz.prog 13 [.int .u8 18] [.str [124, 124], .int .i64 1] := pure_of_exec okP named (fun _ _ => false) (fun _ => false) 1000 (by kernel_rfl)
theorem sgF19 : Pure Tryz.prog 13 [.int .u8 19] [.str [45], .int .i64 11] := pure_of_exec okP named (fun _ _ => false) (fun _ => false) 1000 (by kernel_rfl)
theorem sgF20 : Pure Tryz.prog 13 [.int .u8 20] [.str [126], .int .i64 11] := pure_of_exec okP named (fun _ _ => false) (fun _ => false) 1000 (by kernel_rfl)
theorem sgF21 : Pure Tryz.prog 13 [.int .u8 21] [.str [33], .int .i64 11] := pure_of_exec okP named (fun _ _ => false) (fun _ => false) 1000 (by kernel_rfl)
end Go.Avm
namespace Go.Avm
open Go.Proofs
section
variable {L : List T} (hL : Toks L)
include hL
theorem oneStep (n : Nat) (ih : ∀ s : RS, s.i < L.length → RC L 99 [rP] (fun e => [exD e]) s (sOne L n s)) (ihE : ∀ (k : Int) (s : RS), s.i < L.length → RC L 77 [rP, dI k] (fun e => [exD e]) s (sExpr L n k s)) (ihP : ∀ s : RS, s.i < L.length → RC L 102 [rP] (fun e => [exD e]) s (sPlace L n s))
    (ihC : ∀ (nm : List UInt8) (p : Int) (s : RS), s.i < L.length → RC L 101 [rP, .d (.str nm), dI p] (fun e => [exD e]) s (sCall L n nm p s)) (s : RS) (l : s.i < L.length) : RC L 99 [rP] (fun e => [exD e]) s (sOne L (n + 1) s) := by
 simp only [sOne]
 refine RC.may l hL [45] ?_ ?_ ?_
 ·exact fun _ _ _ c => qX { hint := qT 99 [(21, .call 13 _ _ sgF19)], calls := tC [(99, 12, 1244, cOf (nowR l))], pans := tabP Pg [(99, 6, 3074, ⟨2, some (pOf c), []⟩)] } 1000
 ·intro s1 l1 c1
  refine RC.bind (ih _ l1) ?_ ?_
  ·exact fun _ _ _ c => qX { hint := qT 99 [(21, .call 13 _ _ sgF19)], calls := tC [(99, 12, 1244, cOf (nowR l)), (99, 26, 3318, cOf c1)], pans := tabP Pg [(99, 7, 3318, ⟨4, some (pOf c), []⟩)] } 1000
  ·intro x s2 l2 c2
   obtain ⟨k0, o0, nm0, n0, p0, as0⟩ := x
   exact ⟨l2, qN { hint := qT 99 [(21, .call 13 _ _ sgF19)], calls := tC [(99, 12, 1244, cOf (nowR l)), (99, 26, 3318, cOf c1), (99, 31, 3806, cOf c2)] } 1000⟩
 ·intro h1
  refine RC.may l hL [126] ?_ ?_ ?_
  ·exact fun _ _ _ c => qX { hintB := tabHB Pg [(99, 21, 2464, .call 13 _ _ sgF19), (99, 21, 4172, .call 13 _ _ sgF20)], calls := tC [(99, 12, 1244, cOf (nowR l)), (99, 26, 3318, cOf (mayF l [45] h1))], pans := tabP Pg [(99, 6, 4782, ⟨2, some (pOf c), []⟩)] } 1000
  ·intro s2 l2 c2
   refine RC.bind (ih _ l2) ?_ ?_
   ·exact fun _ _ _ c => qX { hintB := tabHB Pg [(99, 21, 2464, .call 13 _ _ sgF19), (99, 21, 4172, .call 13 _ _ sgF20)], calls := tC [(99, 12, 1244, cOf (nowR l)), (99, 26, 3318, cOf (mayF l [45] h1)), (99, 26, 5026, cOf c2)], pans := tabP Pg [(99, 7, 5026, ⟨4, some (pOf c), []⟩)] } 1000
   ·intro x s3 l3 c3
    obtain ⟨k0, o0, nm0, n0, p0, as0⟩ := x
    exact ⟨l3, qN { hintB := tabHB Pg [(99, 21, 2464, .call 13 _ _ sgF19), (99, 21, 4172, .call 13 _ _ sgF20)], calls := tC [(99, 12, 1244, cOf (nowR l)), (99, 26, 3318, cOf (mayF l [45] h1)), (99, 26, 5026, cOf c2), (99, 31, 5514, cOf c3)] } 1000⟩
  ·intro h2
   refine RC.may l hL [33] ?_ ?_ ?_
   ·exact fun _ _ _ c => qX { hintB := tabHB Pg [(99, 21, 2464, .call 13 _ _ sgF19), (99, 21, 4172, .call 13 _ _ sgF20), (99, 21, 5880, .call 13 _ _ sgF21)], calls := tC [(99, 12, 1244, cOf (nowR l)), (99, 26, 3318, cOf (mayF l [45] h1)), (99, 26, 5026, cOf (mayF l [126] h2))], pans := tabP Pg [(99, 6, 6490, ⟨2, some (pOf c), []⟩)] } 1000
   ·intro s3 l3 c3
    refine RC.bind (ih _ l3) ?_ ?_
    ·exact fun _ _ _ c => qX { hintB := tabHB Pg [(99, 21, 2464, .call 13 _ _ sgF19), (99, 21, 4172, .call 13 _ _ sgF20), (99, 21, 5880, .call 13 _ _ sgF21)], calls := tC [(99, 12, 1244, cOf (nowR l)), (99, 26, 3318, cOf (mayF l [45] h1)), (99, 26, 5026, cOf (mayF l [126] h2)), (99, 26, 6734, cOf c3)], pans := tabP Pg [(99, 7, 6734, ⟨4, some (pOf c), []⟩)] } 1000
    ·intro x s4 l4 c4
     obtain ⟨k0, o0, nm0, n0, p0, as0⟩ := x
     exact ⟨l4, qN { hintB := tabHB Pg [(99, 21, 2464, .call 13 _ _ sgF19), (99, 21, 4172, .call 13 _ _ sgF20), (99, 21, 5880, .call 13 _ _ sgF21)], calls := tC [(99, 12, 1244, cOf (nowR l)), (99, 26, 3318, cOf (mayF l [45] h1)), (99, 26, 5026, cOf (mayF l [126] h2)), (99, 26, 6734, cOf c3), (99, 31, 7222, cOf c4)] } 1000⟩
   ·intro h3
    refine RC.ite (fun h4 => ?_) (fun h4 => ?_)
    ·
     have l5 : s.nx.i < L.length := nx_lt hL l (by rw [eq_of_beq h4]; decide)
     exact ⟨l5, qN { hintB := tabHB Pg [(99, 21, 2464, .call 13 _ _ sgF19), (99, 21, 4172, .call 13 _ _ sgF20), (99, 21, 5880, .call 13 _ _ sgF21), (99, 38, 7344, qB h4), (99, 43, 8076, hSucc Pg s.i (by have := hL.len; omega))], calls := tC [(99, 12, 1244, cOf (nowR l)), (99, 26, 3318, cOf (mayF l [45] h1)), (99, 26, 5026, cOf (mayF l [126] h2)), (99, 26, 6734, cOf (mayF l [33] h3))] } 1000⟩
    ·
     refine RC.may l hL [116, 114, 117, 101] ?_ ?_ ?_
     ·exact fun _ _ _ c => qX { hintB := tabHB Pg [(99, 21, 2464, .call 13 _ _ sgF19), (99, 21, 4172, .call 13 _ _ sgF20), (99, 21, 5880, .call 13 _ _ sgF21), (99, 38, 7344, qB h4)], calls := tC [(99, 12, 1244, cOf (nowR l)), (99, 26, 3318, cOf (mayF l [45] h1)), (99, 26, 5026, cOf (mayF l [126] h2)), (99, 26, 6734, cOf (mayF l [33] h3))], pans := tabP Pg [(99, 12, 7588, ⟨1, some (pOf c), []⟩)] } 1000
     ·intro s5 l5 c5
      exact ⟨l5, qN { hintB := tabHB Pg [(99, 21, 2464, .call 13 _ _ sgF19), (99, 21, 4172, .call 13 _ _ sgF20), (99, 21, 5880, .call 13 _ _ sgF21), (99, 38, 7344, qB h4)], calls := tC [(99, 12, 1244, cOf (nowR l)), (99, 26, 3318, cOf (mayF l [45] h1)), (99, 26, 5026, cOf (mayF l [126] h2)), (99, 26, 6734, cOf (mayF l [33] h3)), (99, 53, 7710, cOf c5)] } 1000⟩
     ·intro h5
      refine RC.may l hL [102, 97, 108, 115, 101] ?_ ?_ ?_
      ·exact fun _ _ _ c => qX { hintB := tabHB Pg [(99, 21, 2464, .call 13 _ _ sgF19), (99, 21, 4172, .call 13 _ _ sgF20), (99, 21, 5880, .call 13 _ _ sgF21), (99, 38, 7344, qB h4)], calls := tC [(99, 12, 1244, cOf (nowR l)), (99, 26, 3318, cOf (mayF l [45] h1)), (99, 26, 5026, cOf (mayF l [126] h2)), (99, 26, 6734, cOf (mayF l [33] h3)), (99, 53, 7710, cOf (mayF l [116, 114, 117, 101] h5))], pans := tabP Pg [(99, 14, 7832, ⟨1, some (pOf c), []⟩)] } 1000
      ·intro s6 l6 c6
       exact ⟨l6, qN { hintB := tabHB Pg [(99, 21, 2464, .call 13 _ _ sgF19), (99, 21, 4172, .call 13 _ _ sgF20), (99, 21, 5880, .call 13 _ _ sgF21), (99, 38, 7344, qB h4)], calls := tC [(99, 12, 1244, cOf (nowR l)), (99, 26, 3318, cOf (mayF l [45] h1)), (99, 26, 5026, cOf (mayF l [126] h2)), (99, 26, 6734, cOf (mayF l [33] h3)), (99, 53, 7710, cOf (mayF l [116, 114, 117, 101] h5)), (99, 59, 7954, cOf c6)] } 1000⟩
      ·intro h6
       refine RC.may l hL [114, 101, 97, 100] ?_ ?_ ?_
       ·exact fun _ _ _ c => qX { hintB := tabHB Pg [(99, 21, 2464, .call 13 _ _ sgF19), (99, 21, 4172, .call 13 _ _ sgF20), (99, 21, 5880, .call 13 _ _ sgF21), (99, 38, 7344, qB h4)], calls := tC [(99, 12, 1244, cOf (nowR l)), (99, 26, 3318, cOf (mayF l [45] h1)), (99, 26, 5026, cOf (mayF l [126] h2)), (99, 26, 6734, cOf (mayF l [33] h3)), (99, 53, 7710, cOf (mayF l [116, 114, 117, 101] h5)), (99, 59, 7954, cOf (mayF l [102, 97, 108, 115, 101] h6))], pans := tabP Pg [(99, 16, 8076, ⟨1, some (pOf c), []⟩)] } 1000
       ·intro s7 l7 c7
        refine RC.bind (wantR l7 hL [40]) ?_ ?_
        ·exact fun _ _ _ c => qX { hintB := tabHB Pg [(99, 21, 2464, .call 13 _ _ sgF19), (99, 21, 4172, .call 13 _ _ sgF20), (99, 21, 5880, .call 13 _ _ sgF21), (99, 38, 7344, qB h4)], calls := tC [(99, 12, 1244, cOf (nowR l)), (99, 26, 3318, cOf (mayF l [45] h1)), (99, 26, 5026, cOf (mayF l [126] h2)), (99, 26, 6734, cOf (mayF l [33] h3)), (99, 53, 7710, cOf (mayF l [116, 114, 117, 101] h5)), (99, 59, 7954, cOf (mayF l [102, 97, 108, 115, 101] h6)), (99, 65, 8198, cOf c7)], pans := tabP Pg [(99, 17, 8320, ⟨1, some (pOf c), []⟩)] } 1000
        ·intro _ s8 l8 c8
         refine RC.bind (wantR l8 hL [41]) ?_ ?_
         ·exact fun _ _ _ c => qX { hintB := tabHB Pg [(99, 21, 2464, .call 13 _ _ sgF19), (99, 21, 4172, .call 13 _ _ sgF20), (99, 21, 5880, .call 13 _ _ sgF21), (99, 38, 7344, qB h4)], calls := tC [(99, 12, 1244, cOf (nowR l)), (99, 26, 3318, cOf (mayF l [45] h1)), (99, 26, 5026, cOf (mayF l [126] h2)), (99, 26, 6734, cOf (mayF l [33] h3)), (99, 53, 7710, cOf (mayF l [116, 114, 117, 101] h5)), (99, 59, 7954, cOf (mayF l [102, 97, 108, 115, 101] h6)), (99, 65, 8198, cOf c7), (99, 67, 8442, cOf c8)], pans := tabP Pg [(99, 18, 8442, ⟨1, some (pOf c), []⟩)] } 1000
         ·intro _ s9 l9 c9
          exact ⟨l9, qN { hintB := tabHB Pg [(99, 21, 2464, .call 13 _ _ sgF19), (99, 21, 4172, .call 13 _ _ sgF20), (99, 21, 5880, .call 13 _ _ sgF21), (99, 38, 7344, qB h4)], calls := tC [(99, 12, 1244, cOf (nowR l)), (99, 26, 3318, cOf (mayF l [45] h1)), (99, 26, 5026, cOf (mayF l [126] h2)), (99, 26, 6734, cOf (mayF l [33] h3)), (99, 53, 7710, cOf (mayF l [116, 114, 117, 101] h5)), (99, 59, 7954, cOf (mayF l [102, 97, 108, 115, 101] h6)), (99, 65, 8198, cOf c7), (99, 67, 8442, cOf c8), (99, 69, 8564, cOf c9)] } 1000⟩
       ·intro h7
        refine RC.may l hL [108, 101, 110] ?_ ?_ ?_
        ·exact fun _ _ _ c => qX { hintB := tabHB Pg [(99, 21, 2464, .call 13 _ _ sgF19), (99, 21, 4172, .call 13 _ _ sgF20), (99, 21, 5880, .call 13 _ _ sgF21), (99, 38, 7344, qB h4)], calls := tC [(99, 12, 1244, cOf (nowR l)), (99, 26, 3318, cOf (mayF l [45] h1)), (99, 26, 5026, cOf (mayF l [126] h2)), (99, 26, 6734, cOf (mayF l [33] h3)), (99, 53, 7710, cOf (mayF l [116, 114, 117, 101] h5)), (99, 59, 7954, cOf (mayF l [102, 97, 108, 115, 101] h6)), (99, 65, 8198, cOf (mayF l [114, 101, 97, 100] h7))], pans := tabP Pg [(99, 20, 8320, ⟨1, some (pOf c), []⟩)] } 1000
        ·intro s8 l8 c8
         refine RC.bind (wantR l8 hL [40]) ?_ ?_
         ·exact fun _ _ _ c => qX { hintB := tabHB Pg [(99, 21, 2464, .call 13 _ _ sgF19), (99, 21, 4172, .call 13 _ _ sgF20), (99, 21, 5880, .call 13 _ _ sgF21), (99, 38, 7344, qB h4)], calls := tC [(99, 12, 1244, cOf (nowR l)), (99, 26, 3318, cOf (mayF l [45] h1)), (99, 26, 5026, cOf (mayF l [126] h2)), (99, 26, 6734, cOf (mayF l [33] h3)), (99, 53, 7710, cOf (mayF l [116, 114, 117, 101] h5)), (99, 59, 7954, cOf (mayF l [102, 97, 108, 115, 101] h6)), (99, 65, 8198, cOf (mayF l [114, 101, 97, 100] h7)), (99, 75, 8442, cOf c8)], pans := tabP Pg [(99, 21, 8564, ⟨1, some (pOf c), []⟩)] } 1000
         ·intro _ s9 l9 c9
          refine RC.bind (takeR l9 hL 1 (by decide)) ?_ ?_
          ·exact fun _ _ _ c => qX { hintB := tabHB Pg [(99, 21, 2464, .call 13 _ _ sgF19), (99, 21, 4172, .call 13 _ _ sgF20), (99, 21, 5880, .call 13 _ _ sgF21), (99, 38, 7344, qB h4)], calls := tC [(99, 12, 1244, cOf (nowR l)), (99, 26, 3318, cOf (mayF l [45] h1)), (99, 26, 5026, cOf (mayF l [126] h2)), (99, 26, 6734, cOf (mayF l [33] h3)), (99, 53, 7710, cOf (mayF l [116, 114, 117, 101] h5)), (99, 59, 7954, cOf (mayF l [102, 97, 108, 115, 101] h6)), (99, 65, 8198, cOf (mayF l [114, 101, 97, 100] h7)), (99, 75, 8442, cOf c8), (99, 77, 8686, cOf c9)], pans := tabP Pg [(99, 22, 8686, ⟨1, some (pOf c), []⟩)] } 1000
          ·intro t s10 l10 c10
           refine RC.bind (wantR l10 hL [41]) ?_ ?_
           ·exact fun _ _ _ c => qX { hintB := tabHB Pg [(99, 21, 2464, .call 13 _ _ sgF19), (99, 21, 4172, .call 13 _ _ sgF20), (99, 21, 5880, .call 13 _ _ sgF21), (99, 38, 7344, qB h4)], calls := tC [(99, 12, 1244, cOf (nowR l)), (99, 26, 3318, cOf (mayF l [45] h1)), (99, 26, 5026, cOf (mayF l [126] h2)), (99, 26, 6734, cOf (mayF l [33] h3)), (99, 53, 7710, cOf (mayF l [116, 114, 117, 101] h5)), (99, 59, 7954, cOf (mayF l [102, 97, 108, 115, 101] h6)), (99, 65, 8198, cOf (mayF l [114, 101, 97, 100] h7)), (99, 75, 8442, cOf c8), (99, 77, 8686, cOf c9), (99, 79, 8808, cOf c10)], pans := tabP Pg [(99, 23, 9052, ⟨1, some (pOf c), []⟩)] } 1000
           ·intro _ s11 l11 c11
            exact ⟨l11, qN { hintB := tabHB Pg [(99, 21, 2464, .call 13 _ _ sgF19), (99, 21, 4172, .call 13 _ _ sgF20), (99, 21, 5880, .call 13 _ _ sgF21), (99, 38, 7344, qB h4)], calls := tC [(99, 12, 1244, cOf (nowR l)), (99, 26, 3318, cOf (mayF l [45] h1)), (99, 26, 5026, cOf (mayF l [126] h2)), (99, 26, 6734, cOf (mayF l [33] h3)), (99, 53, 7710, cOf (mayF l [116, 114, 117, 101] h5)), (99, 59, 7954, cOf (mayF l [102, 97, 108, 115, 101] h6)), (99, 65, 8198, cOf (mayF l [114, 101, 97, 100] h7)), (99, 75, 8442, cOf c8), (99, 77, 8686, cOf c9), (99, 79, 8808, cOf c10), (99, 82, 9174, cOf c11)] } 1000⟩
        ·intro h8
         refine RC.ite (fun h9 => ?_) (fun h9 => ?_)
         ·
          refine RC.bind (wantR l hL [40]) ?_ ?_
          ·exact fun _ _ _ c => qX { hintB := tabHB Pg [(99, 21, 2464, .call 13 _ _ sgF19), (99, 21, 4172, .call 13 _ _ sgF20), (99, 21, 5880, .call 13 _ _ sgF21), (99, 38, 7344, qB h4)], calls := tC [(99, 12, 1244, cOf (nowR l)), (99, 26, 3318, cOf (mayF l [45] h1)), (99, 26, 5026, cOf (mayF l [126] h2)), (99, 26, 6734, cOf (mayF l [33] h3)), (99, 53, 7710, cOf (mayF l [116, 114, 117, 101] h5)), (99, 59, 7954, cOf (mayF l [102, 97, 108, 115, 101] h6)), (99, 65, 8198, cOf (mayF l [114, 101, 97, 100] h7)), (99, 75, 8442, cOf (mayF l [108, 101, 110] h8)), (99, 89, 8686, cOf (isRT l [40] h9))], pans := tabP Pg [(99, 26, 8808, ⟨1, some (pOf c), []⟩)] } 1000
          ·intro _ s10 l10 c10
           refine RC.bind (ihE 1 _ l10) ?_ ?_
           ·exact fun _ _ _ c => qX { hintB := tabHB Pg [(99, 21, 2464, .call 13 _ _ sgF19), (99, 21, 4172, .call 13 _ _ sgF20), (99, 21, 5880, .call 13 _ _ sgF21), (99, 38, 7344, qB h4)], calls := tC [(99, 12, 1244, cOf (nowR l)), (99, 26, 3318, cOf (mayF l [45] h1)), (99, 26, 5026, cOf (mayF l [126] h2)), (99, 26, 6734, cOf (mayF l [33] h3)), (99, 53, 7710, cOf (mayF l [116, 114, 117, 101] h5)), (99, 59, 7954, cOf (mayF l [102, 97, 108, 115, 101] h6)), (99, 65, 8198, cOf (mayF l [114, 101, 97, 100] h7)), (99, 75, 8442, cOf (mayF l [108, 101, 110] h8)), (99, 89, 8686, cOf (isRT l [40] h9)), (99, 91, 8930, cOf c10)], pans := tabP Pg [(99, 27, 8930, ⟨1, some (pOf c), []⟩)] } 1000
           ·intro x s11 l11 c11
            obtain ⟨k0, o0, nm0, n0, p0, as0⟩ := x
            refine RC.bind (wantR l11 hL [41]) ?_ ?_
            ·exact fun _ _ _ c => qX { hintB := tabHB Pg [(99, 21, 2464, .call 13 _ _ sgF19), (99, 21, 4172, .call 13 _ _ sgF20), (99, 21, 5880, .call 13 _ _ sgF21), (99, 38, 7344, qB h4)], calls := tC [(99, 12, 1244, cOf (nowR l)), (99, 26, 3318, cOf (mayF l [45] h1)), (99, 26, 5026, cOf (mayF l [126] h2)), (99, 26, 6734, cOf (mayF l [33] h3)), (99, 53, 7710, cOf (mayF l [116, 114, 117, 101] h5)), (99, 59, 7954, cOf (mayF l [102, 97, 108, 115, 101] h6)), (99, 65, 8198, cOf (mayF l [114, 101, 97, 100] h7)), (99, 75, 8442, cOf (mayF l [108, 101, 110] h8)), (99, 89, 8686, cOf (isRT l [40] h9)), (99, 91, 8930, cOf c10), (99, 93, 9052, cOf c11)], pans := tabP Pg [(99, 28, 9296, ⟨1, some (pOf c), []⟩)] } 1000
            ·intro _ s12 l12 c12
             exact ⟨l12, qN { hintB := tabHB Pg [(99, 21, 2464, .call 13 _ _ sgF19), (99, 21, 4172, .call 13 _ _ sgF20), (99, 21, 5880, .call 13 _ _ sgF21), (99, 38, 7344, qB h4)], calls := tC [(99, 12, 1244, cOf (nowR l)), (99, 26, 3318, cOf (mayF l [45] h1)), (99, 26, 5026, cOf (mayF l [126] h2)), (99, 26, 6734, cOf (mayF l [33] h3)), (99, 53, 7710, cOf (mayF l [116, 114, 117, 101] h5)), (99, 59, 7954, cOf (mayF l [102, 97, 108, 115, 101] h6)), (99, 65, 8198, cOf (mayF l [114, 101, 97, 100] h7)), (99, 75, 8442, cOf (mayF l [108, 101, 110] h8)), (99, 89, 8686, cOf (isRT l [40] h9)), (99, 91, 8930, cOf c10), (99, 93, 9052, cOf c11), (99, 95, 9418, cOf c12)] } 1000⟩
         ·
          refine RC.bind (takeR l hL 1 (by decide)) ?_ ?_
          ·exact fun _ _ _ c => qX { hintB := tabHB Pg [(99, 21, 2464, .call 13 _ _ sgF19), (99, 21, 4172, .call 13 _ _ sgF20), (99, 21, 5880, .call 13 _ _ sgF21), (99, 38, 7344, qB h4)], calls := tC [(99, 12, 1244, cOf (nowR l)), (99, 26, 3318, cOf (mayF l [45] h1)), (99, 26, 5026, cOf (mayF l [126] h2)), (99, 26, 6734, cOf (mayF l [33] h3)), (99, 53, 7710, cOf (mayF l [116, 114, 117, 101] h5)), (99, 59, 7954, cOf (mayF l [102, 97, 108, 115, 101] h6)), (99, 65, 8198, cOf (mayF l [114, 101, 97, 100] h7)), (99, 75, 8442, cOf (mayF l [108, 101, 110] h8)), (99, 89, 8686, cOf (isRT l [40] h9))], pans := tabP Pg [(99, 30, 8808, ⟨1, some (pOf c), []⟩)] } 1000
          ·intro t s10 l10 c10
           refine RC.ite (fun h11 => ?_) (fun h11 => ?_)
           ·
            refine RC.bind (ihP _ l10) ?_ ?_
            ·exact fun _ _ _ c => qX { hintB := tabHB Pg [(99, 21, 2464, .call 13 _ _ sgF19), (99, 21, 4172, .call 13 _ _ sgF20), (99, 21, 5880, .call 13 _ _ sgF21), (99, 38, 7344, qB h4)], calls := tC [(99, 12, 1244, cOf (nowR l)), (99, 26, 3318, cOf (mayF l [45] h1)), (99, 26, 5026, cOf (mayF l [126] h2)), (99, 26, 6734, cOf (mayF l [33] h3)), (99, 53, 7710, cOf (mayF l [116, 114, 117, 101] h5)), (99, 59, 7954, cOf (mayF l [102, 97, 108, 115, 101] h6)), (99, 65, 8198, cOf (mayF l [114, 101, 97, 100] h7)), (99, 75, 8442, cOf (mayF l [108, 101, 110] h8)), (99, 89, 8686, cOf (isRT l [40] h9)), (99, 98, 8930, cOf c10), (99, 102, 9296, cOf (isRT l10 [91] h11))], pans := tabP Pg [(99, 32, 9418, ⟨4, some (pOf c), []⟩)] } 1000
            ·intro x s12 l12 c12
             obtain ⟨k0, o0, nm0, n0, p0, as0⟩ := x
             exact ⟨l12, qN { hintB := tabHB Pg [(99, 21, 2464, .call 13 _ _ sgF19), (99, 21, 4172, .call 13 _ _ sgF20), (99, 21, 5880, .call 13 _ _ sgF21), (99, 38, 7344, qB h4)], calls := tC [(99, 12, 1244, cOf (nowR l)), (99, 26, 3318, cOf (mayF l [45] h1)), (99, 26, 5026, cOf (mayF l [126] h2)), (99, 26, 6734, cOf (mayF l [33] h3)), (99, 53, 7710, cOf (mayF l [116, 114, 117, 101] h5)), (99, 59, 7954, cOf (mayF l [102, 97, 108, 115, 101] h6)), (99, 65, 8198, cOf (mayF l [114, 101, 97, 100] h7)), (99, 75, 8442, cOf (mayF l [108, 101, 110] h8)), (99, 89, 8686, cOf (isRT l [40] h9)), (99, 98, 8930, cOf c10), (99, 102, 9296, cOf (isRT l10 [91] h11)), (99, 107, 9906, cOf c12)] } 1000⟩
           ·
            refine RC.ite (fun h12 => ?_) (fun h12 => ?_)
            ·
             refine RC.bind (ihC t.t (cur L s).p _ l10) ?_ ?_
             ·exact fun _ _ _ c => qX { hintB := tabHB Pg [(99, 21, 2464, .call 13 _ _ sgF19), (99, 21, 4172, .call 13 _ _ sgF20), (99, 21, 5880, .call 13 _ _ sgF21), (99, 38, 7344, qB h4)], calls := tC [(99, 12, 1244, cOf (nowR l)), (99, 26, 3318, cOf (mayF l [45] h1)), (99, 26, 5026, cOf (mayF l [126] h2)), (99, 26, 6734, cOf (mayF l [33] h3)), (99, 53, 7710, cOf (mayF l [116, 114, 117, 101] h5)), (99, 59, 7954, cOf (mayF l [102, 97, 108, 115, 101] h6)), (99, 65, 8198, cOf (mayF l [114, 101, 97, 100] h7)), (99, 75, 8442, cOf (mayF l [108, 101, 110] h8)), (99, 89, 8686, cOf (isRT l [40] h9)), (99, 98, 8930, cOf c10), (99, 102, 9296, cOf (isRT l10 [91] h11)), (99, 112, 9540, cOf (isRT l10 [40] h12))], pans := tabP Pg [(99, 34, 9662, ⟨4, some (pOf c), []⟩)] } 1000
             ·intro x s13 l13 c13
              obtain ⟨k0, o0, nm0, n0, p0, as0⟩ := x
              exact ⟨l13, qN { hintB := tabHB Pg [(99, 21, 2464, .call 13 _ _ sgF19), (99, 21, 4172, .call 13 _ _ sgF20), (99, 21, 5880, .call 13 _ _ sgF21), (99, 38, 7344, qB h4)], calls := tC [(99, 12, 1244, cOf (nowR l)), (99, 26, 3318, cOf (mayF l [45] h1)), (99, 26, 5026, cOf (mayF l [126] h2)), (99, 26, 6734, cOf (mayF l [33] h3)), (99, 53, 7710, cOf (mayF l [116, 114, 117, 101] h5)), (99, 59, 7954, cOf (mayF l [102, 97, 108, 115, 101] h6)), (99, 65, 8198, cOf (mayF l [114, 101, 97, 100] h7)), (99, 75, 8442, cOf (mayF l [108, 101, 110] h8)), (99, 89, 8686, cOf (isRT l [40] h9)), (99, 98, 8930, cOf c10), (99, 102, 9296, cOf (isRT l10 [91] h11)), (99, 112, 9540, cOf (isRT l10 [40] h12)), (99, 117, 10150, cOf c13)] } 1000⟩
            ·
             exact ⟨l10, qN { hintB := tabHB Pg [(99, 21, 2464, .call 13 _ _ sgF19), (99, 21, 4172, .call 13 _ _ sgF20), (99, 21, 5880, .call 13 _ _ sgF21), (99, 38, 7344, qB h4)], calls := tC [(99, 12, 1244, cOf (nowR l)), (99, 26, 3318, cOf (mayF l [45] h1)), (99, 26, 5026, cOf (mayF l [126] h2)), (99, 26, 6734, cOf (mayF l [33] h3)), (99, 53, 7710, cOf (mayF l [116, 114, 117, 101] h5)), (99, 59, 7954, cOf (mayF l [102, 97, 108, 115, 101] h6)), (99, 65, 8198, cOf (mayF l [114, 101, 97, 100] h7)), (99, 75, 8442, cOf (mayF l [108, 101, 110] h8)), (99, 89, 8686, cOf (isRT l [40] h9)), (99, 98, 8930, cOf c10), (99, 102, 9296, cOf (isRT l10 [91] h11)), (99, 112, 9540, cOf (isRT l10 [40] h12))] } 1000⟩
theorem placeStep (n : Nat) (ihE : ∀ (k : Int) (s : RS), s.i < L.length → RC L 77 [rP, dI k] (fun e => [exD e]) s (sExpr L n k s)) (s : RS) (l : s.i < L.length) : RC L 102 [rP] (fun e => [exD e]) s (sPlace L (n + 1) s) := by
 simp only [sPlace]
 refine RC.bind (wantR l hL [91]) ?_ ?_
 ·exact fun _ _ _ c => qX { pans := tabP Pg [(102, 1, 1011, ⟨1, some (pOf c), []⟩)] } 1000
 ·intro _ s1 l1 c1
  refine RC.bind (ihE 1 _ l1) ?_ ?_
  ·exact fun _ _ _ c => qX { calls := tC [(102, 5, 1022, cOf c1)], pans := tabP Pg [(102, 2, 1022, ⟨1, some (pOf c), []⟩)] } 1000
  ·intro x s2 l2 c2
   obtain ⟨k0, o0, nm0, n0, p0, as0⟩ := x
   refine RC.bind (wantR l2 hL [93]) ?_ ?_
   ·exact fun _ _ _ c => qX { calls := tC [(102, 5, 1022, cOf c1), (102, 7, 1033, cOf c2)], pans := tabP Pg [(102, 3, 1055, ⟨1, some (pOf c), []⟩)] } 1000
   ·intro _ s3 l3 c3
    exact ⟨l3, qN { calls := tC [(102, 5, 1022, cOf c1), (102, 7, 1033, cOf c2), (102, 9, 1066, cOf c3)] } 1000⟩
end
end Go.Avm
namespace Go.Avm
open Go.Proofs
def u8 (n : Int) : AV := .d (.int .u8 n)
def sgOut (r : Int × Int) : AExit × List (Nat × AV) := bif r.1 == 0 then (.exit 0, []) else (.ret, [(4, u8 r.1), (5, dI r.2)])
def sgSt (least o : Int) : List (Nat × AV) := [(0, rP), (1, dI least), (6, u8 o)]
def SgS (L : List T) (s : RS) (least o : Int) (e : AExit) (l' : List (Nat × AV)) : Prop := RE 28 (lO 100 2) (sgSt least o) (rd L s) e l' (rd L s)
def SgAt (L : List T) (s : RS) (least : Int) (o : Int) (r : Int × Int) : Prop := RL 28 (lO 100 2) (sgSt least o) (rd L s) ((sgOut r).1) ((sgOut r).2) (rd L s)
theorem sg_step {L : List T} {s : RS} {least o o2 k : Int} {x : List UInt8} {R : List (Int × List UInt8 × Int)} (ho : (o == 0) = false) (hA : decide (k ≥ least) = false → SgS L s least o .normal (sgSt least o2))
    (hB : decide (k ≥ least) = true → isT L s x = false → SgS L s least o .normal (sgSt least o2)) (hC : decide (k ≥ least) = true → isT L s x = true → SgS L s least o .ret [(4, u8 o), (5, dI k)])
    (hn : SgAt L s least o2 (signOf L s least R)) : SgAt L s least o (signOf L s least ((o, x, k) :: R)) := fun rest X hP hN => by
 simp only [signOf]
 cases h1 : decide (k ≥ least) with
 | false => exact lw_step (hA h1 rest X hP hN) (hn rest X hP hN)
 | true => cases h2 : isT L s x with
  | false => exact lw_step (hB h1 h2 rest X hP hN) (hn rest X hP hN)
  | true =>
   have : sgOut (o, k) = (.ret, [(4, u8 o), (5, dI k)]) := by simp only [sgOut, ho, cond_false]
   simp only [Bool.and_true, cond_true, this]
   exact lw_stop (hC h1 h2 rest X hP hN) (by simp)
section
variable {L : List T} {s : RS} (hi : s.i < L.length) (least : Int)
include hi
theorem sgS19 : SgS L s least 19 (.exit 0) [] :=
 fun rest X hP hN => (qE {} 100 1000 : RE 28 (lO 100 2) [(0, rP), (1, dI least), (6, u8 19)] (rd L s) (.exit 0) [] (rd L s)) rest X hP hN
theorem sg19 : SgAt L s least 19 (0, 0) := fun rest X hP hN => lw_stop (sgS19 hi least rest X hP hN) (by simp [sgOut])
theorem sgA1 (h : decide ((9 : Int) ≥ least) = false) : RE 28 (lO 100 2) [(0, rP), (1, dI least), (6, u8 1)] (rd L s) .normal [(0, rP), (1, dI least), (6, u8 2)] (rd L s) :=
 qE { hint := qT 100 [(15, .call 13 _ _ sgF1), (20, qB h)] } 100 1000
theorem sgB1 (h : decide ((9 : Int) ≥ least) = true) (h2 : isT L s [43] = false) : RE 28 (lO 100 2) [(0, rP), (1, dI least), (6, u8 1)] (rd L s) .normal [(0, rP), (1, dI least), (6, u8 2)] (rd L s) :=
 qE { hint := qT 100 [(15, .call 13 _ _ sgF1), (20, qB h)], calls := tC [(100, 24, 1392, cOf (isRT hi [43] h2))] } 100 1000
theorem sgC1 (h : decide ((9 : Int) ≥ least) = true) (h2 : isT L s [43] = true) : RE 28 (lO 100 2) [(0, rP), (1, dI least), (6, u8 1)] (rd L s) .ret [(4, u8 1), (5, dI 9)] (rd L s) :=
 qE { hint := qT 100 [(15, .call 13 _ _ sgF1), (20, qB h)], calls := tC [(100, 24, 1392, cOf (isRT hi [43] h2))] } 100 1000
theorem sgA2 (h : decide ((9 : Int) ≥ least) = false) : RE 28 (lO 100 2) [(0, rP), (1, dI least), (6, u8 2)] (rd L s) .normal [(0, rP), (1, dI least), (6, u8 3)] (rd L s) :=
 qE { hint := qT 100 [(15, .call 13 _ _ sgF2), (20, qB h)] } 100 1000
theorem sgB2 (h : decide ((9 : Int) ≥ least) = true) (h2 : isT L s [45] = false) : RE 28 (lO 100 2) [(0, rP), (1, dI least), (6, u8 2)] (rd L s) .normal [(0, rP), (1, dI least), (6, u8 3)] (rd L s) :=
 qE { hint := qT 100 [(15, .call 13 _ _ sgF2), (20, qB h)], calls := tC [(100, 24, 1392, cOf (isRT hi [45] h2))] } 100 1000
theorem sgC2 (h : decide ((9 : Int) ≥ least) = true) (h2 : isT L s [45] = true) : RE 28 (lO 100 2) [(0, rP), (1, dI least), (6, u8 2)] (rd L s) .ret [(4, u8 2), (5, dI 9)] (rd L s) :=
 qE { hint := qT 100 [(15, .call 13 _ _ sgF2), (20, qB h)], calls := tC [(100, 24, 1392, cOf (isRT hi [45] h2))] } 100 1000
theorem sgA3 (h : decide ((10 : Int) ≥ least) = false) : RE 28 (lO 100 2) [(0, rP), (1, dI least), (6, u8 3)] (rd L s) .normal [(0, rP), (1, dI least), (6, u8 4)] (rd L s) :=
 qE { hint := qT 100 [(15, .call 13 _ _ sgF3), (20, qB h)] } 100 1000
theorem sgB3 (h : decide ((10 : Int) ≥ least) = true) (h2 : isT L s [42] = false) : RE 28 (lO 100 2) [(0, rP), (1, dI least), (6, u8 3)] (rd L s) .normal [(0, rP), (1, dI least), (6, u8 4)] (rd L s) :=
 qE { hint := qT 100 [(15, .call 13 _ _ sgF3), (20, qB h)], calls := tC [(100, 24, 1392, cOf (isRT hi [42] h2))] } 100 1000
theorem sgC3 (h : decide ((10 : Int) ≥ least) = true) (h2 : isT L s [42] = true) : RE 28 (lO 100 2) [(0, rP), (1, dI least), (6, u8 3)] (rd L s) .ret [(4, u8 3), (5, dI 10)] (rd L s) :=
 qE { hint := qT 100 [(15, .call 13 _ _ sgF3), (20, qB h)], calls := tC [(100, 24, 1392, cOf (isRT hi [42] h2))] } 100 1000
theorem sgA4 (h : decide ((10 : Int) ≥ least) = false) : RE 28 (lO 100 2) [(0, rP), (1, dI least), (6, u8 4)] (rd L s) .normal [(0, rP), (1, dI least), (6, u8 5)] (rd L s) :=
 qE { hint := qT 100 [(15, .call 13 _ _ sgF4), (20, qB h)] } 100 1000
theorem sgB4 (h : decide ((10 : Int) ≥ least) = true) (h2 : isT L s [47] = false) : RE 28 (lO 100 2) [(0, rP), (1, dI least), (6, u8 4)] (rd L s) .normal [(0, rP), (1, dI least), (6, u8 5)] (rd L s) :=
 qE { hint := qT 100 [(15, .call 13 _ _ sgF4), (20, qB h)], calls := tC [(100, 24, 1392, cOf (isRT hi [47] h2))] } 100 1000
theorem sgC4 (h : decide ((10 : Int) ≥ least) = true) (h2 : isT L s [47] = true) : RE 28 (lO 100 2) [(0, rP), (1, dI least), (6, u8 4)] (rd L s) .ret [(4, u8 4), (5, dI 10)] (rd L s) :=
 qE { hint := qT 100 [(15, .call 13 _ _ sgF4), (20, qB h)], calls := tC [(100, 24, 1392, cOf (isRT hi [47] h2))] } 100 1000
theorem sgA5 (h : decide ((10 : Int) ≥ least) = false) : RE 28 (lO 100 2) [(0, rP), (1, dI least), (6, u8 5)] (rd L s) .normal [(0, rP), (1, dI least), (6, u8 6)] (rd L s) :=
 qE { hint := qT 100 [(15, .call 13 _ _ sgF5), (20, qB h)] } 100 1000
theorem sgB5 (h : decide ((10 : Int) ≥ least) = true) (h2 : isT L s [37] = false) : RE 28 (lO 100 2) [(0, rP), (1, dI least), (6, u8 5)] (rd L s) .normal [(0, rP), (1, dI least), (6, u8 6)] (rd L s) :=
 qE { hint := qT 100 [(15, .call 13 _ _ sgF5), (20, qB h)], calls := tC [(100, 24, 1392, cOf (isRT hi [37] h2))] } 100 1000
theorem sgC5 (h : decide ((10 : Int) ≥ least) = true) (h2 : isT L s [37] = true) : RE 28 (lO 100 2) [(0, rP), (1, dI least), (6, u8 5)] (rd L s) .ret [(4, u8 5), (5, dI 10)] (rd L s) :=
 qE { hint := qT 100 [(15, .call 13 _ _ sgF5), (20, qB h)], calls := tC [(100, 24, 1392, cOf (isRT hi [37] h2))] } 100 1000
theorem sgA6 (h : decide ((7 : Int) ≥ least) = false) : RE 28 (lO 100 2) [(0, rP), (1, dI least), (6, u8 6)] (rd L s) .normal [(0, rP), (1, dI least), (6, u8 7)] (rd L s) :=
 qE { hint := qT 100 [(15, .call 13 _ _ sgF6), (20, qB h)] } 100 1000
theorem sgB6 (h : decide ((7 : Int) ≥ least) = true) (h2 : isT L s [38] = false) : RE 28 (lO 100 2) [(0, rP), (1, dI least), (6, u8 6)] (rd L s) .normal [(0, rP), (1, dI least), (6, u8 7)] (rd L s) :=
 qE { hint := qT 100 [(15, .call 13 _ _ sgF6), (20, qB h)], calls := tC [(100, 24, 1392, cOf (isRT hi [38] h2))] } 100 1000
theorem sgC6 (h : decide ((7 : Int) ≥ least) = true) (h2 : isT L s [38] = true) : RE 28 (lO 100 2) [(0, rP), (1, dI least), (6, u8 6)] (rd L s) .ret [(4, u8 6), (5, dI 7)] (rd L s) :=
 qE { hint := qT 100 [(15, .call 13 _ _ sgF6), (20, qB h)], calls := tC [(100, 24, 1392, cOf (isRT hi [38] h2))] } 100 1000
theorem sgA7 (h : decide ((5 : Int) ≥ least) = false) : RE 28 (lO 100 2) [(0, rP), (1, dI least), (6, u8 7)] (rd L s) .normal [(0, rP), (1, dI least), (6, u8 8)] (rd L s) :=
 qE { hint := qT 100 [(15, .call 13 _ _ sgF7), (20, qB h)] } 100 1000
theorem sgB7 (h : decide ((5 : Int) ≥ least) = true) (h2 : isT L s [124] = false) : RE 28 (lO 100 2) [(0, rP), (1, dI least), (6, u8 7)] (rd L s) .normal [(0, rP), (1, dI least), (6, u8 8)] (rd L s) :=
 qE { hint := qT 100 [(15, .call 13 _ _ sgF7), (20, qB h)], calls := tC [(100, 24, 1392, cOf (isRT hi [124] h2))] } 100 1000
theorem sgC7 (h : decide ((5 : Int) ≥ least) = true) (h2 : isT L s [124] = true) : RE 28 (lO 100 2) [(0, rP), (1, dI least), (6, u8 7)] (rd L s) .ret [(4, u8 7), (5, dI 5)] (rd L s) :=
 qE { hint := qT 100 [(15, .call 13 _ _ sgF7), (20, qB h)], calls := tC [(100, 24, 1392, cOf (isRT hi [124] h2))] } 100 1000
theorem sgA8 (h : decide ((6 : Int) ≥ least) = false) : RE 28 (lO 100 2) [(0, rP), (1, dI least), (6, u8 8)] (rd L s) .normal [(0, rP), (1, dI least), (6, u8 9)] (rd L s) :=
 qE { hint := qT 100 [(15, .call 13 _ _ sgF8), (20, qB h)] } 100 1000
theorem sgB8 (h : decide ((6 : Int) ≥ least) = true) (h2 : isT L s [94] = false) : RE 28 (lO 100 2) [(0, rP), (1, dI least), (6, u8 8)] (rd L s) .normal [(0, rP), (1, dI least), (6, u8 9)] (rd L s) :=
 qE { hint := qT 100 [(15, .call 13 _ _ sgF8), (20, qB h)], calls := tC [(100, 24, 1392, cOf (isRT hi [94] h2))] } 100 1000
theorem sgC8 (h : decide ((6 : Int) ≥ least) = true) (h2 : isT L s [94] = true) : RE 28 (lO 100 2) [(0, rP), (1, dI least), (6, u8 8)] (rd L s) .ret [(4, u8 8), (5, dI 6)] (rd L s) :=
 qE { hint := qT 100 [(15, .call 13 _ _ sgF8), (20, qB h)], calls := tC [(100, 24, 1392, cOf (isRT hi [94] h2))] } 100 1000
theorem sgA9 (h : decide ((8 : Int) ≥ least) = false) : RE 28 (lO 100 2) [(0, rP), (1, dI least), (6, u8 9)] (rd L s) .normal [(0, rP), (1, dI least), (6, u8 10)] (rd L s) :=
 qE { hint := qT 100 [(15, .call 13 _ _ sgF9), (20, qB h)] } 100 1000
theorem sgB9 (h : decide ((8 : Int) ≥ least) = true) (h2 : isT L s [60, 60] = false) : RE 28 (lO 100 2) [(0, rP), (1, dI least), (6, u8 9)] (rd L s) .normal [(0, rP), (1, dI least), (6, u8 10)] (rd L s) :=
 qE { hint := qT 100 [(15, .call 13 _ _ sgF9), (20, qB h)], calls := tC [(100, 24, 1392, cOf (isRT hi [60, 60] h2))] } 100 1000
theorem sgC9 (h : decide ((8 : Int) ≥ least) = true) (h2 : isT L s [60, 60] = true) : RE 28 (lO 100 2) [(0, rP), (1, dI least), (6, u8 9)] (rd L s) .ret [(4, u8 9), (5, dI 8)] (rd L s) :=
 qE { hint := qT 100 [(15, .call 13 _ _ sgF9), (20, qB h)], calls := tC [(100, 24, 1392, cOf (isRT hi [60, 60] h2))] } 100 1000
theorem sgA10 (h : decide ((8 : Int) ≥ least) = false) : RE 28 (lO 100 2) [(0, rP), (1, dI least), (6, u8 10)] (rd L s) .normal [(0, rP), (1, dI least), (6, u8 11)] (rd L s) :=
 qE { hint := qT 100 [(15, .call 13 _ _ sgF10), (20, qB h)] } 100 1000
theorem sgB10 (h : decide ((8 : Int) ≥ least) = true) (h2 : isT L s [62, 62] = false) : RE 28 (lO 100 2) [(0, rP), (1, dI least), (6, u8 10)] (rd L s) .normal [(0, rP), (1, dI least), (6, u8 11)] (rd L s) :=
 qE { hint := qT 100 [(15, .call 13 _ _ sgF10), (20, qB h)], calls := tC [(100, 24, 1392, cOf (isRT hi [62, 62] h2))] } 100 1000
theorem sgC10 (h : decide ((8 : Int) ≥ least) = true) (h2 : isT L s [62, 62] = true) : RE 28 (lO 100 2) [(0, rP), (1, dI least), (6, u8 10)] (rd L s) .ret [(4, u8 10), (5, dI 8)] (rd L s) :=
 qE { hint := qT 100 [(15, .call 13 _ _ sgF10), (20, qB h)], calls := tC [(100, 24, 1392, cOf (isRT hi [62, 62] h2))] } 100 1000
theorem sgA11 (h : decide ((4 : Int) ≥ least) = false) : RE 28 (lO 100 2) [(0, rP), (1, dI least), (6, u8 11)] (rd L s) .normal [(0, rP), (1, dI least), (6, u8 12)] (rd L s) :=
 qE { hint := qT 100 [(15, .call 13 _ _ sgF11), (20, qB h)] } 100 1000
theorem sgB11 (h : decide ((4 : Int) ≥ least) = true) (h2 : isT L s [60] = false) : RE 28 (lO 100 2) [(0, rP), (1, dI least), (6, u8 11)] (rd L s) .normal [(0, rP), (1, dI least), (6, u8 12)] (rd L s) :=
 qE { hint := qT 100 [(15, .call 13 _ _ sgF11), (20, qB h)], calls := tC [(100, 24, 1392, cOf (isRT hi [60] h2))] } 100 1000
theorem sgC11 (h : decide ((4 : Int) ≥ least) = true) (h2 : isT L s [60] = true) : RE 28 (lO 100 2) [(0, rP), (1, dI least), (6, u8 11)] (rd L s) .ret [(4, u8 11), (5, dI 4)] (rd L s) :=
 qE { hint := qT 100 [(15, .call 13 _ _ sgF11), (20, qB h)], calls := tC [(100, 24, 1392, cOf (isRT hi [60] h2))] } 100 1000
theorem sgA12 (h : decide ((4 : Int) ≥ least) = false) : RE 28 (lO 100 2) [(0, rP), (1, dI least), (6, u8 12)] (rd L s) .normal [(0, rP), (1, dI least), (6, u8 13)] (rd L s) :=
 qE { hint := qT 100 [(15, .call 13 _ _ sgF12), (20, qB h)] } 100 1000
theorem sgB12 (h : decide ((4 : Int) ≥ least) = true) (h2 : isT L s [60, 61] = false) : RE 28 (lO 100 2) [(0, rP), (1, dI least), (6, u8 12)] (rd L s) .normal [(0, rP), (1, dI least), (6, u8 13)] (rd L s) :=
 qE { hint := qT 100 [(15, .call 13 _ _ sgF12), (20, qB h)], calls := tC [(100, 24, 1392, cOf (isRT hi [60, 61] h2))] } 100 1000
theorem sgC12 (h : decide ((4 : Int) ≥ least) = true) (h2 : isT L s [60, 61] = true) : RE 28 (lO 100 2) [(0, rP), (1, dI least), (6, u8 12)] (rd L s) .ret [(4, u8 12), (5, dI 4)] (rd L s) :=
 qE { hint := qT 100 [(15, .call 13 _ _ sgF12), (20, qB h)], calls := tC [(100, 24, 1392, cOf (isRT hi [60, 61] h2))] } 100 1000
theorem sgA13 (h : decide ((4 : Int) ≥ least) = false) : RE 28 (lO 100 2) [(0, rP), (1, dI least), (6, u8 13)] (rd L s) .normal [(0, rP), (1, dI least), (6, u8 14)] (rd L s) :=
 qE { hint := qT 100 [(15, .call 13 _ _ sgF13), (20, qB h)] } 100 1000
theorem sgB13 (h : decide ((4 : Int) ≥ least) = true) (h2 : isT L s [62] = false) : RE 28 (lO 100 2) [(0, rP), (1, dI least), (6, u8 13)] (rd L s) .normal [(0, rP), (1, dI least), (6, u8 14)] (rd L s) :=
 qE { hint := qT 100 [(15, .call 13 _ _ sgF13), (20, qB h)], calls := tC [(100, 24, 1392, cOf (isRT hi [62] h2))] } 100 1000
theorem sgC13 (h : decide ((4 : Int) ≥ least) = true) (h2 : isT L s [62] = true) : RE 28 (lO 100 2) [(0, rP), (1, dI least), (6, u8 13)] (rd L s) .ret [(4, u8 13), (5, dI 4)] (rd L s) :=
 qE { hint := qT 100 [(15, .call 13 _ _ sgF13), (20, qB h)], calls := tC [(100, 24, 1392, cOf (isRT hi [62] h2))] } 100 1000
theorem sgA14 (h : decide ((4 : Int) ≥ least) = false) : RE 28 (lO 100 2) [(0, rP), (1, dI least), (6, u8 14)] (rd L s) .normal [(0, rP), (1, dI least), (6, u8 15)] (rd L s) :=
 qE { hint := qT 100 [(15, .call 13 _ _ sgF14), (20, qB h)] } 100 1000
theorem sgB14 (h : decide ((4 : Int) ≥ least) = true) (h2 : isT L s [62, 61] = false) : RE 28 (lO 100 2) [(0, rP), (1, dI least), (6, u8 14)] (rd L s) .normal [(0, rP), (1, dI least), (6, u8 15)] (rd L s) :=
 qE { hint := qT 100 [(15, .call 13 _ _ sgF14), (20, qB h)], calls := tC [(100, 24, 1392, cOf (isRT hi [62, 61] h2))] } 100 1000
theorem sgC14 (h : decide ((4 : Int) ≥ least) = true) (h2 : isT L s [62, 61] = true) : RE 28 (lO 100 2) [(0, rP), (1, dI least), (6, u8 14)] (rd L s) .ret [(4, u8 14), (5, dI 4)] (rd L s) :=
 qE { hint := qT 100 [(15, .call 13 _ _ sgF14), (20, qB h)], calls := tC [(100, 24, 1392, cOf (isRT hi [62, 61] h2))] } 100 1000
theorem sgA15 (h : decide ((3 : Int) ≥ least) = false) : RE 28 (lO 100 2) [(0, rP), (1, dI least), (6, u8 15)] (rd L s) .normal [(0, rP), (1, dI least), (6, u8 16)] (rd L s) :=
 qE { hint := qT 100 [(15, .call 13 _ _ sgF15), (20, qB h)] } 100 1000
theorem sgB15 (h : decide ((3 : Int) ≥ least) = true) (h2 : isT L s [61, 61] = false) : RE 28 (lO 100 2) [(0, rP), (1, dI least), (6, u8 15)] (rd L s) .normal [(0, rP), (1, dI least), (6, u8 16)] (rd L s) :=
 qE { hint := qT 100 [(15, .call 13 _ _ sgF15), (20, qB h)], calls := tC [(100, 24, 1392, cOf (isRT hi [61, 61] h2))] } 100 1000
theorem sgC15 (h : decide ((3 : Int) ≥ least) = true) (h2 : isT L s [61, 61] = true) : RE 28 (lO 100 2) [(0, rP), (1, dI least), (6, u8 15)] (rd L s) .ret [(4, u8 15), (5, dI 3)] (rd L s) :=
 qE { hint := qT 100 [(15, .call 13 _ _ sgF15), (20, qB h)], calls := tC [(100, 24, 1392, cOf (isRT hi [61, 61] h2))] } 100 1000
theorem sgA16 (h : decide ((3 : Int) ≥ least) = false) : RE 28 (lO 100 2) [(0, rP), (1, dI least), (6, u8 16)] (rd L s) .normal [(0, rP), (1, dI least), (6, u8 17)] (rd L s) :=
 qE { hint := qT 100 [(15, .call 13 _ _ sgF16), (20, qB h)] } 100 1000
theorem sgB16 (h : decide ((3 : Int) ≥ least) = true) (h2 : isT L s [33, 61] = false) : RE 28 (lO 100 2) [(0, rP), (1, dI least), (6, u8 16)] (rd L s) .normal [(0, rP), (1, dI least), (6, u8 17)] (rd L s) :=
 qE { hint := qT 100 [(15, .call 13 _ _ sgF16), (20, qB h)], calls := tC [(100, 24, 1392, cOf (isRT hi [33, 61] h2))] } 100 1000
theorem sgC16 (h : decide ((3 : Int) ≥ least) = true) (h2 : isT L s [33, 61] = true) : RE 28 (lO 100 2) [(0, rP), (1, dI least), (6, u8 16)] (rd L s) .ret [(4, u8 16), (5, dI 3)] (rd L s) :=
 qE { hint := qT 100 [(15, .call 13 _ _ sgF16), (20, qB h)], calls := tC [(100, 24, 1392, cOf (isRT hi [33, 61] h2))] } 100 1000
theorem sgA17 (h : decide ((2 : Int) ≥ least) = false) : RE 28 (lO 100 2) [(0, rP), (1, dI least), (6, u8 17)] (rd L s) .normal [(0, rP), (1, dI least), (6, u8 18)] (rd L s) :=
 qE { hint := qT 100 [(15, .call 13 _ _ sgF17), (20, qB h)] } 100 1000
theorem sgB17 (h : decide ((2 : Int) ≥ least) = true) (h2 : isT L s [38, 38] = false) : RE 28 (lO 100 2) [(0, rP), (1, dI least), (6, u8 17)] (rd L s) .normal [(0, rP), (1, dI least), (6, u8 18)] (rd L s) :=
 qE { hint := qT 100 [(15, .call 13 _ _ sgF17), (20, qB h)], calls := tC [(100, 24, 1392, cOf (isRT hi [38, 38] h2))] } 100 1000
theorem sgC17 (h : decide ((2 : Int) ≥ least) = true) (h2 : isT L s [38, 38] = true) : RE 28 (lO 100 2) [(0, rP), (1, dI least), (6, u8 17)] (rd L s) .ret [(4, u8 17), (5, dI 2)] (rd L s) :=
 qE { hint := qT 100 [(15, .call 13 _ _ sgF17), (20, qB h)], calls := tC [(100, 24, 1392, cOf (isRT hi [38, 38] h2))] } 100 1000
theorem sgA18 (h : decide ((1 : Int) ≥ least) = false) : RE 28 (lO 100 2) [(0, rP), (1, dI least), (6, u8 18)] (rd L s) .normal [(0, rP), (1, dI least), (6, u8 19)] (rd L s) :=
 qE { hint := qT 100 [(15, .call 13 _ _ sgF18), (20, qB h)] } 100 1000
theorem sgB18 (h : decide ((1 : Int) ≥ least) = true) (h2 : isT L s [124, 124] = false) : RE 28 (lO 100 2) [(0, rP), (1, dI least), (6, u8 18)] (rd L s) .normal [(0, rP), (1, dI least), (6, u8 19)] (rd L s) :=
 qE { hint := qT 100 [(15, .call 13 _ _ sgF18), (20, qB h)], calls := tC [(100, 24, 1392, cOf (isRT hi [124, 124] h2))] } 100 1000
theorem sgC18 (h : decide ((1 : Int) ≥ least) = true) (h2 : isT L s [124, 124] = true) : RE 28 (lO 100 2) [(0, rP), (1, dI least), (6, u8 18)] (rd L s) .ret [(4, u8 18), (5, dI 1)] (rd L s) :=
 qE { hint := qT 100 [(15, .call 13 _ _ sgF18), (20, qB h)], calls := tC [(100, 24, 1392, cOf (isRT hi [124, 124] h2))] } 100 1000
theorem sgn1 : SgAt L s least 1 (sSign L least s) :=
 sg_step (by decide) (sgA1 hi least) (sgB1 hi least) (sgC1 hi least) (sg_step (by decide) (sgA2 hi least) (sgB2 hi least) (sgC2 hi least) (sg_step (by decide) (sgA3 hi least) (sgB3 hi least) (sgC3 hi least) (sg_step (by decide) (sgA4 hi least) (sgB4 hi least) (sgC4 hi least) (sg_step (by decide) (sgA5 hi least) (sgB5 hi least) (sgC5 hi least) (sg_step (by decide) (sgA6 hi least) (sgB6 hi least) (sgC6 hi least) (sg_step (by decide) (sgA7 hi least) (sgB7 hi least) (sgC7 hi least) (sg_step (by decide) (sgA8 hi least) (sgB8 hi least) (sgC8 hi least) (sg_step (by decide) (sgA9 hi least) (sgB9 hi least) (sgC9 hi least) (sg_step (by decide) (sgA10 hi least) (sgB10 hi least) (sgC10 hi least) (sg_step (by decide) (sgA11 hi least) (sgB11 hi least) (sgC11 hi least) (sg_step (by decide) (sgA12 hi least) (sgB12 hi least) (sgC12 hi least) (sg_step (by decide) (sgA13 hi least) (sgB13 hi least) (sgC13 hi least) (sg_step (by decide) (sgA14 hi least) (sgB14 hi least) (sgC14 hi least) (sg_step (by decide) (sgA15 hi least) (sgB15 hi least) (sgC15 hi least) (sg_step (by decide) (sgA16 hi least) (sgB16 hi least) (sgC16 hi least) (sg_step (by decide) (sgA17 hi least) (sgB17 hi least) (sgC17 hi least) (sg_step (by decide) (sgA18 hi least) (sgB18 hi least) (sgC18 hi least) (sg19 hi least))))))))))))))))))
noncomputable def sgLH {e : AExit} {l' : List (Nat × AV)} (h : RL 28 (lO 100 2) (sgSt least 1) (rd L s) e l' (rd L s)) : LHint Pg :=
 ⟨28, loopOf Pg 100 2, sgSt least 1, fun _ => rd L s, e, l', fun _ => rd L s, fun rest X hP hN => (h rest X hP hN).aw⟩
theorem signN (h : RL 28 (lO 100 2) (sgSt least 1) (rd L s) (.exit 0) [] (rd L s)) : HC 100 [rP, dI least] (rd L s) [.int .u8 0, .int .i64 0] (rd L s) :=
 qN ({ loops := fun f q => if f = 100 then (if q = 2 then some (sgLH least h) else none) else none }) 1000
theorem signY (o k : Int) (h : RL 28 (lO 100 2) (sgSt least 1) (rd L s) .ret [(4, u8 o), (5, dI k)] (rd L s)) : HC 100 [rP, dI least] (rd L s) [.int .u8 o, .int .i64 k] (rd L s) :=
 qN ({ loops := fun f q => if f = 100 then (if q = 2 then some (sgLH least h) else none) else none }) 1000
theorem signOf_zero : ∀ l : List (Int × List UInt8 × Int), (signOf L s least l).1 = 0 → (∀ p ∈ l, p.1 ≠ 0) → signOf L s least l = (0, 0)
 | [], _, _ => rfl
 | (o, x, k) :: r, h, hl => by
  simp only [signOf] at h ⊢
  cases hc : (decide (least ≤ k) && isT L s x) with
  | true => rw [hc] at h; exact absurd h (hl (o, x, k) (by simp))
  | false => rw [hc] at h; exact signOf_zero r h fun p hp => hl p (by simp [hp])
theorem signR : HC 100 [rP, dI least] (rd L s) [.int .u8 (sSign L least s).1, .int .i64 (sSign L least s).2] (rd L s) := by
 have h := sgn1 hi least
 unfold SgAt sgOut at h
 cases h0 : ((sSign L least s).1 == 0) with
 | true =>
  rw [h0] at h
  have hz : sSign L least s = (0, 0) := signOf_zero hi least signs (eq_of_beq h0) (by decide)
  rw [hz]
  exact signN hi least h
 | false =>
  rw [h0] at h
  exact signY hi least _ _ h
theorem sign_some (hL : Toks L) : ∀ l : List (Int × List UInt8 × Int), (signOf L s least l).1 ≠ 0 → s.i + 1 < L.length
 | [], h => by simp [signOf] at h
 | (o, x, k) :: r, h => by
  simp only [signOf] at h
  cases hc : (decide (least ≤ k) && isT L s x) with
  | true => exact isT_nx hL hi (Bool.and_eq_true .. ▸ hc).2
  | false => rw [hc] at h; exact sign_some hL r h
end
end Go.Avm
namespace Go.Avm
open Go.Proofs
def exC : Ex → List AV
 | .mk k o nm n p xs => [u8 k, u8 o, .d (.str nm), dI n, dI p, .d (.ro (exL xs))]
def exE (K : Nat) (e : Ex) : Nat × Ent := (K, ⟨1, some (.arr 1 (exC e))⟩)
def z0E (K : Nat) : Nat × Ent := (K, ⟨1, some (.arr 1 [u8 0, u8 0, .d (.str []), dI 0, dI 0, .nils])⟩)
def pC (K : Nat) : AV := .ptr K 1 0 0 1
def tlL (least : Int) : List (Nat × AV) := [(0, rP), (1, dI least), (4, pC 1004), (5, pC 1083)]
def tlH (L : List T) (s : RS) (e : Ex) : List (Nat × Ent) := rd L s ++ [z0E 1004, exE 1083 e]
def tlR (L : List T) (s : RS) (e : Ex) : List (Nat × Ent) := rd L s ++ [exE 1004 e, (1083, ⟨1, none⟩)]
def tlB (L : List T) (s : RS) : List (Nat × Ent) := rd L s ++ [(1004, ⟨1, none⟩), (1083, ⟨1, none⟩)]
def TlAt (L : List T) (least : Int) (s : RS) (e : Ex) : Res Ex → Prop
 | .ok a s' => s'.i < L.length ∧ RL 39 (lO 77 2) (tlL least) (tlH L s e) .ret [(4, pC 1004)] (tlR L s' a)
 | .bad p q s' => RL 39 (lO 77 2) (tlL least) (tlH L s e) (.panic (flt p q)) [] (tlB L s')
 | .out => True
section
variable {L : List T} (hL : Toks L) {s : RS} (l : s.i < L.length) (least : Int) (k o : Int) (nm : List UInt8) (n p : Int) (xs : List Ex)
include l hL
theorem tlStop (h : ((sSign L least s).1 == 0) = true) : RE 39 (lO 77 2) (tlL least) (tlH L s (.mk k o nm n p xs)) .ret [(4, pC 1004)] (tlR L s (.mk k o nm n p xs)) :=
 qE { hint := qT 77 [(18, qB h)], calls := tC [(77, 14, 2078, cOf (signR l least))] } 77 2000
theorem tlBad (h : ((sSign L least s).1 == 0) = false) (q r : Int) (s2 : RS) (c : HX 77 [rP, dI (w64 ((sSign L least s).2 + 1))] (rd L s.nx) (flt q r) (rd L s2)) :
    RE 39 (lO 77 2) (tlL least) (tlH L s (.mk k o nm n p xs)) (.panic (flt q r)) [] (tlB L s2) :=
 qE { hint := qT 77 [(18, qB h), (27, hSucc Pg s.i (by have := hL.len; omega))], calls := tC [(77, 14, 2078, cOf (signR l least)), (77, 21, 2390, cOf (nowR l))], pans := tabP Pg [(77, 7, 2780, ⟨6, some (pOf c), []⟩)] } 77 2000
theorem tlGo (h : ((sSign L least s).1 == 0) = false) (k2 o2 : Int) (nm2 : List UInt8) (n2 p2 : Int) (xs2 : List Ex) (s2 : RS) (c : HC 77 [rP, dI (w64 ((sSign L least s).2 + 1))] (rd L s.nx) [exD (.mk k2 o2 nm2 n2 p2 xs2)] (rd L s2)) :
    RE 39 (lO 77 2) (tlL least) (tlH L s (.mk k o nm n p xs)) .normal (tlL least) (tlH L s2 (.mk 9 (sSign L least s).1 [] 0 (cur L s).p [.mk k o nm n p xs, .mk k2 o2 nm2 n2 p2 xs2])) :=
 segC okP named { hint := qT 77 [(18, qB h), (27, hSucc Pg s.i (by have := hL.len; omega))], calls := tC [(77, 14, 2078, cOf (signR l least)), (77, 21, 2390, cOf (nowR l)), (77, 36, 3014, cOf c)] } 2000 77 2000 39 1000000 ([(1083, 5)]) ⟨rfl, rfl, rfl, by kernel_rfl, by kernel_rfl, by kernel_rfl⟩ (by kernel_rfl) (by kernel_rfl) (fun _ => by kernel_rfl)
end
noncomputable def tlLH {L : List T} {least : Int} {s : RS} {e : Ex} {hp' : List (Nat × Ent)} {x : AExit} {l' : List (Nat × AV)} (h : RL 39 (lO 77 2) (tlL least) (tlH L s e) x l' hp') : LHint Pg :=
 ⟨39, loopOf Pg 77 2, tlL least, fun _ => tlH L s e, x, l', fun _ => hp', fun rest X hP hN => (h rest X hP hN).aw⟩
theorem exprOk {L : List T} {least : Int} {s s1 s2 : RS} {k o : Int} {nm : List UInt8} {n p : Int} {xs : List Ex} {k2 o2 : Int} {nm2 : List UInt8} {n2 p2 : Int} {xs2 : List Ex}
    (c : HC 99 [rP] (rd L s) [exD (.mk k o nm n p xs)] (rd L s1))
    (h : RL 39 (lO 77 2) (tlL least) (tlH L s1 (.mk k o nm n p xs)) .ret [(4, pC 1004)] (tlR L s2 (.mk k2 o2 nm2 n2 p2 xs2))) :
    HC 77 [rP, dI least] (rd L s) [exD (.mk k2 o2 nm2 n2 p2 xs2)] (rd L s2) :=
 qN { loops := fun f q => if f = 77 then (if q = 2 then some (tlLH h) else none) else none, calls := tC [(77, 10, 1078, cOf c)] } 1000
theorem exprBad {L : List T} {least : Int} {s s1 s2 : RS} {k o : Int} {nm : List UInt8} {n p : Int} {xs : List Ex} {q r : Int}
    (c : HC 99 [rP] (rd L s) [exD (.mk k o nm n p xs)] (rd L s1))
    (h : RL 39 (lO 77 2) (tlL least) (tlH L s1 (.mk k o nm n p xs)) (.panic (flt q r)) [] (tlB L s2)) :
    HX 77 [rP, dI least] (rd L s) (flt q r) (rd L s2) :=
 qX { loops := fun f q => if f = 77 then (if q = 2 then some (tlLH h) else none) else none, calls := tC [(77, 10, 1078, cOf c)] } 1000
theorem exprOne {L : List T} {least : Int} {s s1 : RS} {q r : Int} (c : HX 99 [rP] (rd L s) (flt q r) (rd L s1)) :
    HX 77 [rP, dI least] (rd L s) (flt q r) (rd L s1) :=
 qX { pans := tabP Pg [(77, 1, 1039, ⟨1, some (pOf c), []⟩)] } 1000
section
variable {L : List T} (hL : Toks L)
include hL
theorem tailStep (n : Nat) (ihE : ∀ (k : Int) (s : RS), s.i < L.length → RC L 77 [rP, dI k] (fun e => [exD e]) s (sExpr L n k s)) (ihT : ∀ (k : Int) (e : Ex) (s : RS), s.i < L.length → TlAt L k s e (sTail L n k e s))
    (least : Int) (e : Ex) (s : RS) (l : s.i < L.length) : TlAt L least s e (sTail L (n + 1) least e s) := by
 obtain ⟨k, o, nm, m, p, xs⟩ := e
 simp only [sTail]
 cases h : ((sSign L least s).1 == 0) with
 | true => exact ⟨l, fun rest X hP hN => lw_stop (tlStop hL l least k o nm m p xs h rest X hP hN) (by simp)⟩
 | false =>
  have ln : s.nx.i < L.length := sign_some l least hL signs (by simpa [sSign] using h)
  have c := ihE (w64 ((sSign L least s).2 + 1)) s.nx ln
  simp only [cond_false]
  revert c
  cases sExpr L n (w64 ((sSign L least s).2 + 1)) s.nx with
  | out => exact fun _ => trivial
  | bad q r s2 => exact fun c rest X hP hN => lw_stop (tlBad hL l least k o nm m p xs h q r s2 c rest X hP hN) (by simp)
  | ok e2 s2 =>
   obtain ⟨k2, o2, nm2, n2, p2, xs2⟩ := e2
   intro c
   have c2 := ihT least (.mk 9 (sSign L least s).1 [] 0 (cur L s).p [.mk k o nm m p xs, .mk k2 o2 nm2 n2 p2 xs2]) s2 c.1
   simp only [Res.bind]
   revert c2
   cases sTail L n least (.mk 9 (sSign L least s).1 [] 0 (cur L s).p [.mk k o nm m p xs, .mk k2 o2 nm2 n2 p2 xs2]) s2 with
   | out => exact fun _ => trivial
   | bad q r s3 => exact fun c2 rest X hP hN => lw_step (tlGo hL l least k o nm m p xs h k2 o2 nm2 n2 p2 xs2 s2 c.2 rest X hP hN) (c2 rest X hP hN)
   | ok a s3 => exact fun c2 => ⟨c2.1, fun rest X hP hN => lw_step (tlGo hL l least k o nm m p xs h k2 o2 nm2 n2 p2 xs2 s2 c.2 rest X hP hN) (c2.2 rest X hP hN)⟩
theorem exprStep (n : Nat) (ih1 : ∀ s : RS, s.i < L.length → RC L 99 [rP] (fun e => [exD e]) s (sOne L n s)) (ihT : ∀ (k : Int) (e : Ex) (s : RS), s.i < L.length → TlAt L k s e (sTail L n k e s))
    (least : Int) (s : RS) (l : s.i < L.length) : RC L 77 [rP, dI least] (fun e => [exD e]) s (sExpr L (n + 1) least s) := by
 simp only [sExpr]
 refine RC.bind (ih1 s l) (fun q r s1 c => exprOne c) (fun e s1 l1 c => ?_)
 have c2 := ihT least e s1 l1
 obtain ⟨k, o, nm, m, p, xs⟩ := e
 revert c2
 cases sTail L n least (.mk k o nm m p xs) s1 with
 | out => exact fun _ => trivial
 | bad q r s3 => exact fun c2 => exprBad c c2
 | ok a s3 =>
  obtain ⟨k2, o2, nm2, n2, p2, xs2⟩ := a
  exact fun c2 => ⟨c2.1, exprOk c c2.2⟩
end
end Go.Avm
namespace Go.Avm
open Go.Proofs
def boxE : Nat × Ent := (1003, ⟨1, some (.arr 1 [rP])⟩)
def elA (l : List Ex) : List AV := l.map fun e => .d (exD e)
def caE (nm : List UInt8) (p : Int) (a : AV) : Nat × Ent := (1082, ⟨1, some (.arr 1 [u8 5, u8 0, .d (.str nm), dI 0, dI p, a])⟩)
def clo : AV := .fn 124 [pC 1082, pC 1003]
theorem renL_data (ρ : Nat → Nat) : ∀ {l : List AV}, (∀ x ∈ l, ∃ d, x = .d d) → renL ρ l = l
 | [], _ => rfl
 | x :: l, h => by
  obtain ⟨d, rfl⟩ := h x (by simp)
  have ih := renL_data ρ (l := l) fun y hy => h y (by simp [hy])
  simp only [renL, renA, ih]
theorem elA_data (r : List Ex) : ∀ x ∈ elA r, ∃ d, x = .d d := fun x hx => by
 obtain ⟨e, _, rfl⟩ := List.mem_map.1 hx
 exact ⟨_, rfl⟩
def zD : D := .agg [.int .u8 0, .int .u8 0, .str [], .int .i64 0, .int .i64 0, .ro []]
section
variable {L : List T} (hL : Toks L) {s : RS} (l : s.i < L.length) (nm : List UInt8) (p : Int)
theorem cloA (k2 o2 : Int) (nm2 : List UInt8) (n2 p2 : Int) (xs2 : List Ex) (s2 : RS) (c : HC 77 [rP, dI 1] (rd L s) [exD (.mk k2 o2 nm2 n2 p2 xs2)] (rd L s2)) :
    HC 124 [pC 1082, pC 1003] (rd L s ++ [caE nm p .nils, boxE, (400000, ⟨0, none⟩)]) [] (rd L s2 ++ [caE nm p (.sl 400000 2 0 1 6), boxE, (400000, ⟨2, some (.arr 6 (elA [.mk k2 o2 nm2 n2 p2 xs2]))⟩)]) :=
 qN { nils := fun f r => if f = 124 then (if r = 0 then some ⟨1082, 5, 400000, 6, false, true⟩ else none) else none, calls := tC [(124, 5, 2033, cOf c)] } 2000
theorem cloData (r0 : List Ex) (n : Nat) (e : D) : ∀ x ∈ ((elA r0).take r0.length ++ [AV.d zD]).set n (AV.d e), ∃ d, x = .d d := fun x hx => by
 rcases List.mem_or_eq_of_mem_set hx with hx | rfl
 ·rcases List.mem_append.1 hx with hx | hx
  ·exact elA_data r0 x (List.mem_of_mem_take hx)
  ·simp only [List.mem_singleton] at hx; exact ⟨_, hx⟩
 ·exact ⟨_, rfl⟩
theorem cloB (v : Nat) (r0 : List Ex) (hr : r0.length < 1000000) (k2 o2 : Int) (nm2 : List UInt8) (n2 p2 : Int) (xs2 : List Ex) (s2 : RS) (c : HC 77 [rP, dI 1] (rd L s) [exD (.mk k2 o2 nm2 n2 p2 xs2)] (rd L s2)) :
    HC 124 [pC 1082, pC 1003] (rd L s ++ [caE nm p (.sl 400000 v 0 r0.length 6), boxE, (400000, ⟨v, some (.arr 6 (elA r0))⟩)]) [] (rd L s2 ++ [caE nm p (.sl 400000 (v + 1) 0 (r0.length + 1) 6), boxE, (400000, ⟨v + 1, some (.arr 6 (((elA r0).take r0.length ++ [AV.d zD]).set (0 + r0.length) (AV.d (exD (.mk k2 o2 nm2 n2 p2 xs2)))))⟩)]) :=
 hclean_of_run okP named { hint := qT 124 [(8, .apps (elA r0) r0.length 1 ⟨by simp [elA], by omega⟩), (9, .inb (r0.length : Int) (r0.length + 1) (by omega) (by simp)), (100008, .elt ((elA r0).take r0.length ++ [AV.d zD]) (0 + r0.length) (AV.d zD) (by simp [elA]))], calls := tC [(124, 5, 2033, cOf c)] } 2000 2000 _ 1000000 ⟨rfl, rfl, rfl, by kernel_rfl, by simp [renE, renO, renL, renA, rnK, caE, boxE, pC, rd, rP, rdC, u8, renL_data _ (elA_data r0)], by simp [renE, renO, renL, renA, rnK, caE, boxE, pC, rd, rP, rdC, u8, renL_data _ (cloData r0 _ _)]⟩ (fun _ => by kernel_rfl)
end
def acc0 (nm : List UInt8) (p : Int) : List (Nat × Ent) := [caE nm p .nils, boxE, (400000, ⟨0, none⟩)]
def accN (nm : List UInt8) (p : Int) (r : List Ex) : List (Nat × Ent) := [caE nm p (.sl 400000 (r.length + 1) 0 r.length 6), boxE, (400000, ⟨r.length + 1, some (.arr 6 (elA r))⟩)]
def accB (v : Nat) : List (Nat × Ent) := [(1082, ⟨1, none⟩), (1003, ⟨1, none⟩), (400000, ⟨v, none⟩)]
def accE (nm : List UInt8) (p : Int) : List Ex → List (Nat × Ent)
 | [] => acc0 nm p
 | r => accN nm p r
section
variable {L : List T} (hL : Toks L) {s : RS} (l : s.i < L.length) (nm : List UInt8) (p : Int)
theorem clo0 (e : Ex) (s2 : RS) (c : HC 77 [rP, dI 1] (rd L s) [exD e] (rd L s2)) :
    HC 124 [pC 1082, pC 1003] (rd L s ++ acc0 nm p) [] (rd L s2 ++ accN nm p [e]) := by
 obtain ⟨k2, o2, nm2, n2, p2, xs2⟩ := e
 exact cloA nm p k2 o2 nm2 n2 p2 xs2 s2 c
theorem cloN (r : List Ex) (hr : r.length < 1000000) (e : Ex) (s2 : RS) (c : HC 77 [rP, dI 1] (rd L s) [exD e] (rd L s2)) :
    HC 124 [pC 1082, pC 1003] (rd L s ++ accN nm p r) [] (rd L s2 ++ accN nm p (r ++ [e])) := by
 obtain ⟨k2, o2, nm2, n2, p2, xs2⟩ := e
 have h := cloB nm p (r.length + 1) r hr k2 o2 nm2 n2 p2 xs2 s2 c
 have e1 : ((elA r).take r.length ++ [AV.d zD]).set (0 + r.length) (AV.d (exD (.mk k2 o2 nm2 n2 p2 xs2))) = elA (r ++ [.mk k2 o2 nm2 n2 p2 xs2]) := by
  have hl : r.length = (elA r).length := by simp [elA]
  rw [Nat.zero_add, hl, List.take_length]
  simp [elA]
 rw [e1] at h
 have e2 : r.length + 1 = (r ++ [Ex.mk k2 o2 nm2 n2 p2 xs2]).length := by simp
 simp only [accN, ← e2]
 exact h
theorem cloP0 (q t : Int) (s2 : RS) (c : HX 77 [rP, dI 1] (rd L s) (flt q t) (rd L s2)) :
    HX 124 [pC 1082, pC 1003] (rd L s ++ acc0 nm p) (flt q t) (rd L s2 ++ accB 0) :=
 qX { pans := tabP Pg [(124, 0, 2000, ⟨3, some (pOf c), [4, 5]⟩)] } 2000
theorem cloPN (r : List Ex) (q t : Int) (s2 : RS) (c : HX 77 [rP, dI 1] (rd L s) (flt q t) (rd L s2)) :
    HX 124 [pC 1082, pC 1003] (rd L s ++ accN nm p r) (flt q t) (rd L s2 ++ accB (r.length + 1)) :=
 hcleanP_of_run okP named { pans := tabP Pg [(124, 0, 2000, ⟨3, some (pOf c), [4, 5]⟩)] } 2000 2000 _ 1000000 ⟨rfl, rfl, rfl, by kernel_rfl, by simp [renE, renO, renL, renA, rnK, acc0, accN, caE, boxE, pC, rd, rP, rdC, u8, renL_data _ (elA_data _)], by simp [renE, renO, renL, renA, rnK, acc0, accN, accB, caE, boxE, pC, rd, rP, rdC, u8, renL_data _ (elA_data _)]⟩ (by kernel_rfl) (fun _ => by kernel_rfl)
def liL : List (Nat × AV) := [(0, rP), (1, clo)]
include l
theorem liStop (r : List Ex) (h : isT L s [44] = false) : RE 17 (lO 36 3) liL (rd L s ++ accN nm p r) (.exit 0) [(0, rP)] (rd L s ++ accN nm p r) :=
 segC okP named { calls := tC [(36, 12, 3017, cOf (mayF l [44] h))] } 2000 36 3000 17 1000000 ([]) ⟨rfl, rfl, rfl, by kernel_rfl, by simp [renE, renO, renL, renA, rnK, acc0, accN, caE, boxE, pC, rd, rP, rdC, u8, renL_data _ (elA_data _)], by simp [renE, renO, renL, renA, rnK, acc0, accN, accB, caE, boxE, pC, rd, rP, rdC, u8, renL_data _ (elA_data _)]⟩ (by kernel_rfl) (by kernel_rfl) (fun _ => by kernel_rfl)
theorem liBad2 (r : List Ex) (s1 : RS) (c1 : HC 39 [rP, .d (.str [44])] (rd L s) [.bool true] (rd L s1)) (q t : Int) (s2 : RS)
    (c : HX 124 [pC 1082, pC 1003] (rd L s1 ++ accN nm p r) (flt q t) (rd L s2 ++ accB (r.length + 1))) : RE 17 (lO 36 3) liL (rd L s ++ accN nm p r) (.panic (flt q t)) [] (rd L s2 ++ accB (r.length + 1)) :=
 segC okP named { calls := tC [(36, 12, 3017, cOf c1)], pans := tabP Pg [(36, 4, 3017, ⟨1, some (pOf c), []⟩)] } 2000 36 3000 17 1000000 ([]) ⟨rfl, rfl, rfl, by kernel_rfl, by simp [renE, renO, renL, renA, rnK, acc0, accN, caE, boxE, pC, rd, rP, rdC, u8, renL_data _ (elA_data _)], by simp [renE, renO, renL, renA, rnK, acc0, accN, accB, caE, boxE, pC, rd, rP, rdC, u8, renL_data _ (elA_data _)]⟩ (by kernel_rfl) (by kernel_rfl) (fun _ => by kernel_rfl)
theorem liGo (r : List Ex) (s1 : RS) (c1 : HC 39 [rP, .d (.str [44])] (rd L s) [.bool true] (rd L s1)) (e : Ex) (s2 : RS)
    (c : HC 124 [pC 1082, pC 1003] (rd L s1 ++ accN nm p r) [] (rd L s2 ++ accN nm p (r ++ [e]))) : RE 17 (lO 36 3) liL (rd L s ++ accN nm p r) .normal liL (rd L s2 ++ accN nm p (r ++ [e])) :=
 segC okP named { calls := tC [(36, 12, 3017, cOf c1), (36, 14, 3034, cOf c)] } 2000 36 3000 17 1000000 ([]) ⟨rfl, rfl, rfl, by kernel_rfl, by simp [renE, renO, renL, renA, rnK, acc0, accN, caE, boxE, pC, rd, rP, rdC, u8, renL_data _ (elA_data _)], by simp [renE, renO, renL, renA, rnK, acc0, accN, accB, caE, boxE, pC, rd, rP, rdC, u8, renL_data _ (elA_data _)]⟩ (by kernel_rfl) (by kernel_rfl) (fun _ => by kernel_rfl)
end
def LiAt (L : List T) (nm : List UInt8) (p : Int) (s : RS) (r : List Ex) : Res (List Ex) → Prop
 | .ok r2 s' => s'.i < L.length ∧ r2 ≠ [] ∧ RL 17 (lO 36 3) liL (rd L s ++ accN nm p r) (.exit 0) [(0, rP)] (rd L s' ++ accN nm p r2)
 | .bad q t s' => ∃ v, RL 17 (lO 36 3) liL (rd L s ++ accN nm p r) (.panic (flt q t)) [] (rd L s' ++ accB v)
 | .out => True
noncomputable def liLH {L : List T} {nm : List UInt8} {p : Int} {s : RS} {r : List Ex} {hp' : List (Nat × Ent)} {x : AExit} {l' : List (Nat × AV)} (h : RL 17 (lO 36 3) liL (rd L s ++ accN nm p r) x l' hp') : LHint Pg :=
 ⟨17, loopOf Pg 36 3, liL, fun _ => rd L s ++ accN nm p r, x, l', fun _ => hp', fun rest X hP hN => (h rest X hP hN).aw⟩
section
variable {L : List T} (hL : Toks L) (nm : List UInt8) (p : Int)
include hL
theorem moreStep (n : Nat) (ihE : ∀ (k : Int) (s : RS), s.i < L.length → RC L 77 [rP, dI k] (fun e => [exD e]) s (sExpr L n k s)) (ihM : ∀ (r : List Ex) (s : RS), s.i < L.length → r.length ≤ s.i → r ≠ [] → LiAt L nm p s r (sMore L n r s))
    (r : List Ex) (s : RS) (l : s.i < L.length) (hr : r.length ≤ s.i) (hne : r ≠ []) : LiAt L nm p s r (sMore L (n + 1) r s) := by
 have hlen : r.length < 1000000 := by have := hL.len; omega
 simp only [sMore, sMay]
 cases h : isT L s [44] with
 | false => exact ⟨l, hne, fun rest X hP hN => lw_stop (liStop l nm p r h rest X hP hN) (by simp)⟩
 | true =>
  have hw : sWant L [44] s = .ok (cur L s) s.nx := by simp only [sWant, h]; rfl
  have hn := isT_nx hL l h
  have c1 := mayT l [44] h (cur L s) s.nx (want0 l hL [44] h rfl rfl rfl rfl rfl rfl)
  simp only [cond_true, hw, Res.bind]
  have c := ihE 1 s.nx hn
  revert c
  have hi2 : ∀ a s2, sExpr L n 1 s.nx = .ok a s2 → s.nx.i < s2.i := fun a s2 he => exprGrows L n 1 s.nx a s2 he
  cases he : sExpr L n 1 s.nx with
  | out => exact fun _ => trivial
  | bad q t s2 => exact fun c => ⟨_, fun rest X hP hN => lw_stop (liBad2 l nm p r s.nx c1 q t s2 (cloPN nm p r q t s2 c) rest X hP hN) (by simp)⟩
  | ok e s2 =>
   intro c
   have h3 := hi2 e s2 he
   have c2 := ihM (r ++ [e]) s2 c.1 (by simp only [List.length_append, List.length_cons, List.length_nil, RS.nx] at *; omega) (by simp)
   have hgo := liGo l nm p r s.nx c1 e s2 (cloN nm p r hlen e s2 c.2)
   simp only
   revert c2
   cases sMore L n (r ++ [e]) s2 with
   | out => exact fun _ => trivial
   | bad q t s3 => exact fun ⟨v, c2⟩ => ⟨v, fun rest X hP hN => lw_step (hgo rest X hP hN) (c2 rest X hP hN)⟩
   | ok a s3 => exact fun c2 => ⟨c2.1, c2.2.1, fun rest X hP hN => lw_step (hgo rest X hP hN) (c2.2.2 rest X hP hN)⟩
end
section
variable {L : List T} (nm : List UInt8) (p : Int) {s s1 s2 s3 s4 : RS} {t1 t2 : T} {q t : Int}
theorem liP1 (c : HX 34 [rP, .d (.str [40])] (rd L s) (flt q t) (rd L s1)) :
    HX 36 [rP, clo] (rd L s ++ acc0 nm p) (flt q t) (rd L s1 ++ accB 0) :=
 qX { pans := tabP Pg [(36, 0, 1000, ⟨1, some (pOf c), []⟩)] } 1000
section
variable (l1 : s1.i < L.length) (c1 : HC 34 [rP, .d (.str [40])] (rd L s) [tD t1] (rd L s1))
include l1 c1
theorem liE0 (h : isT L s1 [41] = true) (c2 : HC 34 [rP, .d (.str [41])] (rd L s1) [tD t2] (rd L s2)) :
    HC 36 [rP, clo] (rd L s ++ acc0 nm p) [] (rd L s2 ++ acc0 nm p) :=
 qN { calls := tC [(36, 5, 1017, cOf c1), (36, 7, 1034, cOf (isRT l1 [41] h)), (36, 16, 1068, cOf c2)] } 1000
theorem liE1 (h : isT L s1 [41] = true) (c2 : HX 34 [rP, .d (.str [41])] (rd L s1) (flt q t) (rd L s2)) :
    HX 36 [rP, clo] (rd L s ++ acc0 nm p) (flt q t) (rd L s2 ++ accB 0) :=
 qX { calls := tC [(36, 5, 1017, cOf c1), (36, 7, 1034, cOf (isRT l1 [41] h))], pans := tabP Pg [(36, 5, 1051, ⟨1, some (pOf c2), []⟩)] } 1000
theorem liB1 (h : isT L s1 [41] = false) (c2 : HX 124 [pC 1082, pC 1003] (rd L s1 ++ acc0 nm p) (flt q t) (rd L s2 ++ accB 0)) :
    HX 36 [rP, clo] (rd L s ++ acc0 nm p) (flt q t) (rd L s2 ++ accB 0) :=
 qX { calls := tC [(36, 5, 1017, cOf c1), (36, 7, 1034, cOf (isRT l1 [41] h))], pans := tabP Pg [(36, 2, 1051, ⟨1, some (pOf c2), []⟩)] } 1000
theorem liB2 (h0 : isT L s1 [41] = false) (e : Ex) (c2 : HC 124 [pC 1082, pC 1003] (rd L s1 ++ acc0 nm p) [] (rd L s2 ++ accN nm p [e])) (v : Nat) (h : RL 17 (lO 36 3) liL (rd L s2 ++ accN nm p [e]) (.panic (flt q t)) [] (rd L s3 ++ accB v)) :
    HX 36 [rP, clo] (rd L s ++ acc0 nm p) (flt q t) (rd L s3 ++ accB v) :=
 qX { loops := fun f q => if f = 36 then (if q = 3 then some (liLH h) else none) else none, calls := tC [(36, 5, 1017, cOf c1), (36, 7, 1034, cOf (isRT l1 [41] h0)), (36, 10, 1068, cOf c2)] } 1000
theorem liB3 (h0 : isT L s1 [41] = false) (e : Ex) (c2 : HC 124 [pC 1082, pC 1003] (rd L s1 ++ acc0 nm p) [] (rd L s2 ++ accN nm p [e])) (r : List Ex) (h : RL 17 (lO 36 3) liL (rd L s2 ++ accN nm p [e]) (.exit 0) [(0, rP)] (rd L s3 ++ accN nm p r)) (c3 : HX 34 [rP, .d (.str [41])] (rd L s3) (flt q t) (rd L s4)) :
    HX 36 [rP, clo] (rd L s ++ acc0 nm p) (flt q t) (rd L s4 ++ accB (r.length + 1)) :=
 qX { loops := fun f q => if f = 36 then (if q = 3 then some (liLH h) else none) else none, calls := tC [(36, 5, 1017, cOf c1), (36, 7, 1034, cOf (isRT l1 [41] h0)), (36, 10, 1068, cOf c2)], pans := tabP Pg [(36, 5, 1068, ⟨1, some (pOf c3), []⟩)] } 1000
theorem liOk (h0 : isT L s1 [41] = false) (e : Ex) (c2 : HC 124 [pC 1082, pC 1003] (rd L s1 ++ acc0 nm p) [] (rd L s2 ++ accN nm p [e])) (r : List Ex) (h : RL 17 (lO 36 3) liL (rd L s2 ++ accN nm p [e]) (.exit 0) [(0, rP)] (rd L s3 ++ accN nm p r)) (c3 : HC 34 [rP, .d (.str [41])] (rd L s3) [tD t2] (rd L s4)) :
    HC 36 [rP, clo] (rd L s ++ acc0 nm p) [] (rd L s4 ++ accN nm p r) :=
 hclean_of_run okP named { loops := fun f q => if f = 36 then (if q = 3 then some (liLH h) else none) else none, calls := tC [(36, 5, 1017, cOf c1), (36, 7, 1034, cOf (isRT l1 [41] h0)), (36, 10, 1068, cOf c2), (36, 16, 1085, cOf c3)] } 2000 1000 _ 1000000 ⟨rfl, rfl, rfl, by kernel_rfl, by simp [renE, renO, renL, renA, rnK, acc0, accN, caE, boxE, pC, rd, rP, rdC, u8, renL_data _ (elA_data _)], by simp [renE, renO, renL, renA, rnK, acc0, accN, accB, caE, boxE, pC, rd, rP, rdC, u8, renL_data _ (elA_data _)]⟩ (fun _ => by kernel_rfl)
end
theorem caOk0 (c : HC 36 [rP, clo] (rd L s ++ acc0 nm p) [] (rd L s1 ++ acc0 nm p)) :
    HC 101 [rP, .d (.str nm), dI p] (rd L s) [exD (.mk 5 0 nm 0 p [])] (rd L s1) :=
 qN { calls := tC [(101, 13, 1135, cOf c)] } 1000
theorem elA_view (h : Heap) : ∀ r : List Ex, viewL (view 3 h) (elA r) = some (exL r, [])
 | [] => rfl
 | x :: r => by
  have ih := elA_view h r
  simp only [elA] at ih
  simp only [elA, List.map_cons, viewL, ih, exL]
  rfl
def caZ (r : List Ex) : ZHint := ⟨1082, 5, 400000, r.length, elA r, exL r, by simp [elA], fun h => elA_view h r⟩
theorem caOkN (r : List Ex) (c : HC 36 [rP, clo] (rd L s ++ acc0 nm p) [] (rd L s1 ++ accN nm p r)) :
    HC 101 [rP, .d (.str nm), dI p] (rd L s) [exD (.mk 5 0 nm 0 p r)] (rd L s1) :=
 qN { frz := fun f q => if f = 101 then (if q = 3 then some (caZ r) else none) else none, calls := tC [(101, 13, 1135, cOf c)] } 1000
theorem caBad (v : Nat) (c : HX 36 [rP, clo] (rd L s ++ acc0 nm p) (flt q t) (rd L s1 ++ accB v)) :
    HX 101 [rP, .d (.str nm), dI p] (rd L s) (flt q t) (rd L s1) :=
 qX { pans := tabP Pg [(101, 2, 1105, ⟨2, some (pOf c), []⟩)] } 1000
end
end Go.Avm
namespace Go.Avm
open Go.Proofs
def ArC (L : List T) (nm : List UInt8) (p : Int) (s : RS) : Res (List Ex) → Prop
 | .ok r s' => s'.i < L.length ∧ HC 36 [rP, clo] (rd L s ++ acc0 nm p) [] (rd L s' ++ accE nm p r)
 | .bad q t s' => ∃ v, HX 36 [rP, clo] (rd L s ++ acc0 nm p) (flt q t) (rd L s' ++ accB v)
 | .out => True
abbrev eR : Ex → List D := fun e => [exD e]
structure ExAll (L : List T) (n : Nat) : Prop where
 one : ∀ s : RS, s.i < L.length → RC L 99 [rP] eR s (sOne L n s)
 place : ∀ s : RS, s.i < L.length → RC L 102 [rP] eR s (sPlace L n s)
 call : ∀ (nm : List UInt8) (p : Int) (s : RS), s.i < L.length → RC L 101 [rP, .d (.str nm), dI p] eR s (sCall L n nm p s)
 expr : ∀ (k : Int) (s : RS), s.i < L.length → RC L 77 [rP, dI k] eR s (sExpr L n k s)
 tail : ∀ (k : Int) (e : Ex) (s : RS), s.i < L.length → TlAt L k s e (sTail L n k e s)
 args : ∀ (nm : List UInt8) (p : Int) (s : RS), s.i < L.length → ArC L nm p s (sArgs L n s)
 more : ∀ (nm : List UInt8) (p : Int) (r : List Ex) (s : RS), s.i < L.length → r.length ≤ s.i → r ≠ [] → LiAt L nm p s r (sMore L n r s)
theorem argsStep {L : List T} (hL : Toks L) {n : Nat} (h : ExAll L n) (nm : List UInt8) (p : Int) (s : RS) (l : s.i < L.length) : ArC L nm p s (sArgs L (n + 1) s) := by
 simp only [sArgs]
 have c1 := wantR l hL [40]
 have g1 := want_gr L [40] s
 revert c1 g1
 cases sWant L [40] s with
 | out => exact fun _ _ => trivial
 | bad q t s1 => exact fun c1 _ => ⟨0, liP1 nm p c1⟩
 | ok t1 s1 =>
  intro c1 g1
  have g1 := g1 t1 s1 rfl
  have l1 := c1.1
  simp only [Res.bind]
  cases h41 : isT L s1 [41] with
  | true =>
   have c2 := wantR l1 hL [41]
   simp only [cond_true]
   revert c2
   cases sWant L [41] s1 with
   | out => exact fun _ => trivial
   | bad q t s2 => exact fun c2 => ⟨0, liE1 nm p l1 c1.2 h41 c2⟩
   | ok t2 s2 => exact fun c2 => ⟨c2.1, liE0 nm p l1 c1.2 h41 c2.2⟩
  | false =>
   have c2 := h.expr 1 s1 l1
   have g2 := exprGrows L n 1 s1
   simp only [cond_false]
   revert c2 g2
   cases sExpr L n 1 s1 with
   | out => exact fun _ _ => trivial
   | bad q t s2 => exact fun c2 _ => ⟨0, liB1 nm p l1 c1.2 h41 (cloP0 nm p q t s2 c2)⟩
   | ok e s2 =>
    intro c2 g2
    have g2 := g2 e s2 rfl
    have k2 := clo0 nm p e s2 c2.2
    have c3 := h.more nm p [e] s2 c2.1 (by simp only [List.length_cons, List.length_nil]; omega) (by simp)
    simp only
    revert c3
    cases sMore L n [e] s2 with
    | out => exact fun _ => trivial
    | bad q t s3 => exact fun ⟨v, c3⟩ => ⟨v, liB2 nm p l1 c1.2 h41 e k2 v c3⟩
    | ok r s3 =>
     rintro ⟨l3, hne, c3⟩
     have c4 := wantR l3 hL [41]
     simp only
     revert c4
     cases sWant L [41] s3 with
     | out => exact fun _ => trivial
     | bad q t s4 => exact fun c4 => ⟨_, liB3 nm p l1 c1.2 h41 e k2 r c3 c4⟩
     | ok t4 s4 =>
      intro c4
      have hr : accE nm p r = accN nm p r := by
       cases r with
       | nil => exact absurd rfl hne
       | cons a b => rfl
      refine ⟨c4.1, ?_⟩
      rw [hr]
      exact liOk nm p l1 c1.2 h41 e k2 r c3 c4.2
theorem callStep {L : List T} {n : Nat} (h : ExAll L n) (nm : List UInt8) (p : Int) (s : RS) (l : s.i < L.length) : RC L 101 [rP, .d (.str nm), dI p] eR s (sCall L (n + 1) nm p s) := by
 simp only [sCall]
 have c := h.args nm p s l
 revert c
 cases sArgs L n s with
 | out => exact fun _ => trivial
 | bad q t s1 => exact fun ⟨v, c⟩ => caBad nm p v c
 | ok r s1 =>
  intro c
  refine ⟨c.1, ?_⟩
  cases r with
  | nil => exact caOk0 nm p c.2
  | cons a b => exact caOkN nm p (a :: b) c.2
theorem exAll {L : List T} (hL : Toks L) : ∀ n, ExAll L n
 | 0 => ⟨fun _ _ => trivial, fun _ _ => trivial, fun _ _ _ _ => trivial, fun _ _ _ => trivial, fun _ _ _ _ => trivial, fun _ _ _ _ => trivial, fun _ _ _ _ _ _ _ => trivial⟩
 | n + 1 => by
  have h := exAll hL n
  exact ⟨oneStep hL n h.one h.expr h.place h.call, placeStep hL n h.expr, callStep h, exprStep hL n h.one h.tail, tailStep hL n h.expr h.tail, argsStep hL h, fun nm p => moreStep hL nm p n h.expr (h.more nm p)⟩
end Go.Avm
namespace Go.Avm
open Go.Proofs
def RCp {α : Type} (L : List T) (f : Nat) (args : List AV) (pre : List (Nat × Ent)) (post : α → List (Nat × Ent)) (bd : List (Nat × Ent)) (g : α → List D) (s : RS) : Res α → Prop
 | .ok a s' => s'.i < L.length ∧ HC f args (rd L s ++ pre) (g a) (rd L s' ++ post a)
 | .bad p e s' => HX f args (rd L s ++ pre) (flt p e) (rd L s' ++ bd)
 | .out => True
section
variable {L : List T} {F : Nat} {args : List AV} {s0 : RS} {α β : Type} {g : α → List D} {pre : List (Nat × Ent)} {post : α → List (Nat × Ent)} {bd : List (Nat × Ent)}
theorem RCp.bind {f' : Nat} {args' : List AV} {g' : β → List D} {s : RS} {r : Res β} {k : β → RS → Res α} (h : RC L f' args' g' s r)
    (hb : ∀ p e s', (HX f' args' (rd L s) (flt p e) (rd L s')) → HX F args (rd L s0 ++ pre) (flt p e) (rd L s' ++ bd))
    (hk : ∀ a s', s'.i < L.length → (HC f' args' (rd L s) (g' a) (rd L s')) → RCp L F args pre post bd g s0 (k a s')) : RCp L F args pre post bd g s0 (r.bind k) := by
 cases r with
 | ok a s' => exact hk a s' h.1 h.2
 | bad p e s' => exact hb p e s' h
 | out => trivial
theorem RCp.bindp {f' : Nat} {args' : List AV} {pre' : List (Nat × Ent)} {post' : β → List (Nat × Ent)} {bd' : List (Nat × Ent)} {g' : β → List D} {s : RS} {r : Res β} {k : β → RS → Res α} (h : RCp L f' args' pre' post' bd' g' s r)
    (hb : ∀ p e s', (HX f' args' (rd L s ++ pre') (flt p e) (rd L s' ++ bd')) → HX F args (rd L s0 ++ pre) (flt p e) (rd L s' ++ bd))
    (hk : ∀ a s', s'.i < L.length → (HC f' args' (rd L s ++ pre') (g' a) (rd L s' ++ post' a)) → RCp L F args pre post bd g s0 (k a s')) : RCp L F args pre post bd g s0 (r.bind k) := by
 cases r with
 | ok a s' => exact hk a s' h.1 h.2
 | bad p e s' => exact hb p e s' h
 | out => trivial
theorem RCp.may {s : RS} (hi : s.i < L.length) (hL : Toks L) (x : List UInt8) {X Y : RS → Res α}
    (hb : ∀ p e s', (HX 39 [rP, .d (.str x)] (rd L s) (flt p e) (rd L s')) → HX F args (rd L s0 ++ pre) (flt p e) (rd L s' ++ bd))
    (hT : ∀ s', s'.i < L.length → (HC 39 [rP, .d (.str x)] (rd L s) [.bool true] (rd L s')) → RCp L F args pre post bd g s0 (X s'))
    (hF : isT L s x = false → RCp L F args pre post bd g s0 (Y s)) : RCp L F args pre post bd g s0 ((sMay L x s).bind fun b s1 => bif b then X s1 else Y s1) := by
 have h := mayR hi hL x
 revert h
 unfold sMay
 cases hx : isT L s x with
 | false => exact fun _ => hF hx
 | true =>
  simp only [cond_true]
  cases sWant L x s with
  | ok t s' => exact fun h => hT s' h.1 h.2
  | bad p e s' => exact fun h => hb p e s' h
  | out => exact fun _ => trivial
theorem RCp.ite {c : Bool} {X Y : Res α} (hT : c = true → RCp L F args pre post bd g s0 X) (hF : c = false → RCp L F args pre post bd g s0 Y) : RCp L F args pre post bd g s0 (bif c then X else Y) := by
 cases h : c with
 | true => exact hT h
 | false => exact hF h
end
abbrev kE : List (Nat × Ent) := [(300000, ⟨1, none⟩)]
abbrev kV (l : List Int) : AV := .vec 300000 1 1 (l.map fun k => .int .u8 k)
abbrev kG : Int → List D := fun k => [.int .u8 k]
section
variable {L : List T} (hL : Toks L)
include hL
theorem kind3 (s : RS) (l : s.i < L.length) : RCp L 38 [rP, kV [1, 2, 3]] kE (fun _ => kE) kE kG s (sKind L [1, 2, 3] s) := by
 simp only [sKind]
 refine RCp.may l hL (tName 1) ?_ ?_ ?_
 ·exact fun _ _ _ c => qX { pans := tabP Pg [(38, 4, 310168, ⟨3, some (pOf c), []⟩)] } 310000
 ·intro s1 l1 c1
  exact ⟨l1, qN { calls := tC [(38, 16, 310210, cOf c1)] } 310000⟩
 ·intro h1
  refine RCp.may l hL (tName 2) ?_ ?_ ?_
  ·exact fun _ _ _ c => qX { calls := tC [(38, 16, 310210, cOf (mayF l (tName 1) h1))], pans := tabP Pg [(38, 4, 310336, ⟨3, some (pOf c), []⟩)] } 310000
  ·intro s2 l2 c2
   exact ⟨l2, qN { calls := tC [(38, 16, 310210, cOf (mayF l (tName 1) h1)), (38, 16, 310378, cOf c2)] } 310000⟩
  ·intro h2
   refine RCp.may l hL (tName 3) ?_ ?_ ?_
   ·exact fun _ _ _ c => qX { calls := tC [(38, 16, 310210, cOf (mayF l (tName 1) h1)), (38, 16, 310378, cOf (mayF l (tName 2) h2))], pans := tabP Pg [(38, 4, 310504, ⟨3, some (pOf c), []⟩)] } 310000
   ·intro s3 l3 c3
    exact ⟨l3, qN { calls := tC [(38, 16, 310210, cOf (mayF l (tName 1) h1)), (38, 16, 310378, cOf (mayF l (tName 2) h2)), (38, 16, 310546, cOf c3)] } 310000⟩
   ·intro h3
    exact (qX { calls := tC [(38, 16, 310210, cOf (mayF l (tName 1) h1)), (38, 16, 310378, cOf (mayF l (tName 2) h2)), (38, 16, 310546, cOf (mayF l (tName 3) h3))], pans := tabP Pg [(38, 7, 310609, ⟨1, some (pOf (badR l)), []⟩)] } 310000 : HX 38 [rP, kV [1, 2, 3]] (rd L s ++ kE) (flt (cur L s).p 4) (rd L s ++ kE))
theorem kind2 (s : RS) (l : s.i < L.length) : RCp L 38 [rP, kV [1, 2]] kE (fun _ => kE) kE kG s (sKind L [1, 2] s) := by
 simp only [sKind]
 refine RCp.may l hL (tName 1) ?_ ?_ ?_
 ·exact fun _ _ _ c => qX { pans := tabP Pg [(38, 4, 310168, ⟨3, some (pOf c), []⟩)] } 310000
 ·intro s1 l1 c1
  exact ⟨l1, qN { calls := tC [(38, 16, 310210, cOf c1)] } 310000⟩
 ·intro h1
  refine RCp.may l hL (tName 2) ?_ ?_ ?_
  ·exact fun _ _ _ c => qX { calls := tC [(38, 16, 310210, cOf (mayF l (tName 1) h1))], pans := tabP Pg [(38, 4, 310336, ⟨3, some (pOf c), []⟩)] } 310000
  ·intro s2 l2 c2
   exact ⟨l2, qN { calls := tC [(38, 16, 310210, cOf (mayF l (tName 1) h1)), (38, 16, 310378, cOf c2)] } 310000⟩
  ·intro h2
   exact (qX { calls := tC [(38, 16, 310210, cOf (mayF l (tName 1) h1)), (38, 16, 310378, cOf (mayF l (tName 2) h2))], pans := tabP Pg [(38, 7, 310441, ⟨1, some (pOf (badR l)), []⟩)] } 310000 : HX 38 [rP, kV [1, 2]] (rd L s ++ kE) (flt (cur L s).p 4) (rd L s ++ kE))
end
def stmC : St' → List AV
 | .mk k id nm ty n p es bd el => [u8 k, dI id, .d (.str nm), u8 ty, dI n, dI p, .d (.ro (exL es)), .d (.ro (stL bd)), .d (.ro (stL el))]
abbrev smE (a : St') : List (Nat × Ent) := [(2235, ⟨1, some (.arr 1 (stmC a))⟩)]
abbrev smZ (id p : Int) : List (Nat × Ent) := [(2235, ⟨1, some (.arr 1 [u8 0, dI id, .d (.str []), u8 0, dI 0, dI p, .nils, .nils, .nils])⟩)]
abbrev smX : List (Nat × Ent) := [(2235, ⟨1, none⟩)]
section
variable {L : List T} (hL : Toks L)
include hL
theorem letR (n : Nat) (id p : Int) (s : RS) (l : s.i < L.length) : RCp L 76 [rP, pC 2235] (smZ id p) smE smX (fun _ => []) s (sLet L n id p s) := by
 unfold sLet
 refine RCp.bind (takeR l hL 1 (by decide)) ?_ ?_
 ·exact fun _ _ _ c => qX { pans := tabP Pg [(76, 0, 299385, ⟨3, some (pOf c), []⟩)] } 299385
 ·intro t s1 l1 c1
  refine RCp.bind (wantR l1 hL [58]) ?_ ?_
  ·exact fun _ _ _ c => qX { calls := tC [(76, 7, 299523, cOf c1)], pans := tabP Pg [(76, 1, 299845, ⟨1, some (pOf c), []⟩)] } 299385
  ·intro _ s2 l2 c2
   refine RCp.bindp (kind3 hL _ l2) ?_ ?_
   ·exact fun _ _ _ c => qX { calls := tC [(76, 7, 299523, cOf c1), (76, 14, 299891, cOf c2)], pans := tabP Pg [(76, 2, 299891, ⟨3, some (pOf c), []⟩)] } 299385
   ·intro ty s3 l3 c3
    refine RCp.ite (fun h4 => ?_) (fun h4 => ?_)
    ·
     refine RCp.bind (wantR l3 hL [91]) ?_ ?_
     ·exact fun _ _ _ c => qX { hint := qT 76 [(25, qB h4)], calls := tC [(76, 7, 299523, cOf c1), (76, 14, 299891, cOf c2), (76, 18, 300029, cOf c3)], pans := tabP Pg [(76, 4, 300397, ⟨1, some (pOf c), []⟩)] } 299385
     ·intro _ s5 l5 c5
      refine RCp.bind (takeR l5 hL 3 (by decide)) ?_ ?_
      ·exact fun _ _ _ c => qX { hint := qT 76 [(25, qB h4)], calls := tC [(76, 7, 299523, cOf c1), (76, 14, 299891, cOf c2), (76, 18, 300029, cOf c3), (76, 27, 300443, cOf c5)], pans := tabP Pg [(76, 5, 300443, ⟨2, some (pOf c), []⟩)] } 299385
      ·intro m s6 l6 c6
       refine RCp.bind (wantR l6 hL [93]) ?_ ?_
       ·exact fun _ _ _ c => qX { hint := qT 76 [(25, qB h4)], calls := tC [(76, 7, 299523, cOf c1), (76, 14, 299891, cOf c2), (76, 18, 300029, cOf c3), (76, 27, 300443, cOf c5), (76, 30, 300535, cOf c6)], pans := tabP Pg [(76, 6, 300719, ⟨1, some (pOf c), []⟩)] } 299385
       ·intro _ s7 l7 c7
        refine RCp.bind (wantR l7 hL [59]) ?_ ?_
        ·exact fun _ _ _ c => qX { hint := qT 76 [(25, qB h4)], calls := tC [(76, 7, 299523, cOf c1), (76, 14, 299891, cOf c2), (76, 18, 300029, cOf c3), (76, 27, 300443, cOf c5), (76, 30, 300535, cOf c6), (76, 35, 300765, cOf c7)], pans := tabP Pg [(76, 9, 300765, ⟨1, some (pOf c), []⟩)] } 299385
        ·intro _ s8 l8 c8
         exact ⟨l8, hcleanF_of_run okP named { hint := qT 76 [(25, qB h4)], calls := tC [(76, 7, 299523, cOf c1), (76, 14, 299891, cOf c2), (76, 18, 300029, cOf c3), (76, 27, 300443, cOf c5), (76, 30, 300535, cOf c6), (76, 35, 300765, cOf c7), (76, 45, 300811, cOf c8)] } 2000 299385 _ 1000000 ([(2235, 6), (2235, 7), (2235, 8)]) ⟨rfl, rfl, rfl, by kernel_rfl, by kernel_rfl, by kernel_rfl⟩ (fun _ => by kernel_rfl)⟩
    ·
     refine RCp.may l3 hL [61] ?_ ?_ ?_
     ·exact fun _ _ _ c => qX { hint := qT 76 [(25, qB h4)], calls := tC [(76, 7, 299523, cOf c1), (76, 14, 299891, cOf c2), (76, 18, 300029, cOf c3)], pans := tabP Pg [(76, 7, 300397, ⟨1, some (pOf c), []⟩)] } 299385
     ·intro s5 l5 c5
      refine RCp.bind ((exAll hL n).expr 1 _ l5) ?_ ?_
      ·exact fun _ _ _ c => qX { hint := qT 76 [(25, qB h4)], calls := tC [(76, 7, 299523, cOf c1), (76, 14, 299891, cOf c2), (76, 18, 300029, cOf c3), (76, 37, 300443, cOf c5)], pans := tabP Pg [(76, 8, 300443, ⟨2, some (pOf c), []⟩)] } 299385
      ·intro x s6 l6 c6
       obtain ⟨kx, ox, nmx, nx, px, xsx⟩ := x
       refine RCp.bind (wantR l6 hL [59]) ?_ ?_
       ·exact fun _ _ _ c => qX { hint := qT 76 [(25, qB h4)], calls := tC [(76, 7, 299523, cOf c1), (76, 14, 299891, cOf c2), (76, 18, 300029, cOf c3), (76, 37, 300443, cOf c5), (76, 40, 300535, cOf c6)], pans := tabP Pg [(76, 9, 300719, ⟨1, some (pOf c), []⟩)] } 299385
       ·intro _ s7 l7 c7
        exact ⟨l7, hcleanF_of_run okP named { hint := qT 76 [(25, qB h4)], calls := tC [(76, 7, 299523, cOf c1), (76, 14, 299891, cOf c2), (76, 18, 300029, cOf c3), (76, 37, 300443, cOf c5), (76, 40, 300535, cOf c6), (76, 45, 300765, cOf c7)] } 2000 299385 _ 1000000 ([(2235, 6), (2235, 7), (2235, 8)]) ⟨rfl, rfl, rfl, by kernel_rfl, by kernel_rfl, by kernel_rfl⟩ (fun _ => by kernel_rfl)⟩
     ·intro h5
      refine RCp.bind (wantR l3 hL [59]) ?_ ?_
      ·exact fun _ _ _ c => qX { hint := qT 76 [(25, qB h4)], calls := tC [(76, 7, 299523, cOf c1), (76, 14, 299891, cOf c2), (76, 18, 300029, cOf c3), (76, 37, 300443, cOf (mayF l3 [61] h5))], pans := tabP Pg [(76, 9, 300443, ⟨1, some (pOf c), []⟩)] } 299385
      ·intro _ s6 l6 c6
       exact ⟨l6, hcleanF_of_run okP named { hint := qT 76 [(25, qB h4)], calls := tC [(76, 7, 299523, cOf c1), (76, 14, 299891, cOf c2), (76, 18, 300029, cOf c3), (76, 37, 300443, cOf (mayF l3 [61] h5)), (76, 45, 300489, cOf c6)] } 2000 299385 _ 1000000 ([(2235, 6), (2235, 7), (2235, 8)]) ⟨rfl, rfl, rfl, by kernel_rfl, by kernel_rfl, by kernel_rfl⟩ (fun _ => by kernel_rfl)⟩
theorem namedR (n : Nat) (id p : Int) (s : RS) (l : s.i < L.length) : RCp L 78 [rP, pC 2235] (smZ id p) smE smX (fun _ => []) s (sNamed L n id p s) := by
 unfold sNamed
 refine RCp.bind (takeR l hL 1 (by decide)) ?_ ?_
 ·exact fun _ _ _ c => qX { pans := tabP Pg [(78, 0, 10000, ⟨1, some (pOf c), []⟩)] } 10000
 ·intro t s1 l1 c1
  refine RCp.ite (fun h2 => ?_) (fun h2 => ?_)
  ·
   refine RCp.bind ((exAll hL n).call t.t p _ l1) ?_ ?_
   ·exact fun _ _ _ c => qX { calls := tC [(78, 7, 10064, cOf c1), (78, 26, 10256, cOf (isRT l1 [40] h2))], pans := tabP Pg [(78, 5, 10320, ⟨8, some (pOf c), []⟩)] } 10000
   ·intro x s3 l3 c3
    obtain ⟨kx, ox, nmx, nx, px, xsx⟩ := x
    refine RCp.bind (wantR l3 hL [59]) ?_ ?_
    ·exact fun _ _ _ c => qX { calls := tC [(78, 7, 10064, cOf c1), (78, 26, 10256, cOf (isRT l1 [40] h2)), (78, 35, 10832, cOf c3)], pans := tabP Pg [(78, 11, 11280, ⟨1, some (pOf c), []⟩)] } 10000
    ·intro _ s4 l4 c4
     exact ⟨l4, hcleanF_of_run okP named { calls := tC [(78, 7, 10064, cOf c1), (78, 26, 10256, cOf (isRT l1 [40] h2)), (78, 35, 10832, cOf c3), (78, 63, 11344, cOf c4)] } 2000 10000 _ 1000000 ([(2235, 6), (2235, 7), (2235, 8)]) ⟨rfl, rfl, rfl, by kernel_rfl, by kernel_rfl, by kernel_rfl⟩ (fun _ => by kernel_rfl)⟩
  ·
   refine RCp.ite (fun h3 => ?_) (fun h3 => ?_)
   ·
    refine RCp.bind ((exAll hL n).place _ l1) ?_ ?_
    ·exact fun _ _ _ c => qX { calls := tC [(78, 7, 10064, cOf c1), (78, 26, 10256, cOf (isRT l1 [40] h2)), (78, 43, 10384, cOf (isRT l1 [91] h3))], pans := tabP Pg [(78, 8, 11024, ⟨1, some (pOf c), []⟩)] } 10000
    ·intro x s4 l4 c4
     obtain ⟨kx, ox, nmx, nx, px, xsx⟩ := x
     refine RCp.bind (wantR l4 hL [61]) ?_ ?_
     ·exact fun _ _ _ c => qX { calls := tC [(78, 7, 10064, cOf c1), (78, 26, 10256, cOf (isRT l1 [40] h2)), (78, 43, 10384, cOf (isRT l1 [91] h3)), (78, 52, 11088, cOf c4)], pans := tabP Pg [(78, 9, 11216, ⟨1, some (pOf c), []⟩)] } 10000
     ·intro _ s5 l5 c5
      refine RCp.bind ((exAll hL n).expr 1 _ l5) ?_ ?_
      ·exact fun _ _ _ c => qX { calls := tC [(78, 7, 10064, cOf c1), (78, 26, 10256, cOf (isRT l1 [40] h2)), (78, 43, 10384, cOf (isRT l1 [91] h3)), (78, 52, 11088, cOf c4), (78, 54, 11280, cOf c5)], pans := tabP Pg [(78, 10, 11280, ⟨3, some (pOf c), []⟩)] } 10000
      ·intro y s6 l6 c6
       obtain ⟨ky, oy, nmy, ny, py, xsy⟩ := y
       refine RCp.bind (wantR l6 hL [59]) ?_ ?_
       ·exact fun _ _ _ c => qX { calls := tC [(78, 7, 10064, cOf c1), (78, 26, 10256, cOf (isRT l1 [40] h2)), (78, 43, 10384, cOf (isRT l1 [91] h3)), (78, 52, 11088, cOf c4), (78, 54, 11280, cOf c5), (78, 58, 11472, cOf c6)], pans := tabP Pg [(78, 11, 11728, ⟨1, some (pOf c), []⟩)] } 10000
       ·intro _ s7 l7 c7
        exact ⟨l7, hcleanF_of_run okP named { calls := tC [(78, 7, 10064, cOf c1), (78, 26, 10256, cOf (isRT l1 [40] h2)), (78, 43, 10384, cOf (isRT l1 [91] h3)), (78, 52, 11088, cOf c4), (78, 54, 11280, cOf c5), (78, 58, 11472, cOf c6), (78, 63, 11792, cOf c7)] } 2000 10000 _ 1000000 ([(2235, 6), (2235, 7), (2235, 8)]) ⟨rfl, rfl, rfl, by kernel_rfl, by kernel_rfl, by kernel_rfl⟩ (fun _ => by kernel_rfl)⟩
   ·
    refine RCp.bind (wantR l1 hL [61]) ?_ ?_
    ·exact fun _ _ _ c => qX { calls := tC [(78, 7, 10064, cOf c1), (78, 26, 10256, cOf (isRT l1 [40] h2)), (78, 43, 10384, cOf (isRT l1 [91] h3))], pans := tabP Pg [(78, 2, 11024, ⟨1, some (pOf c), []⟩)] } 10000
    ·intro _ s4 l4 c4
     refine RCp.bind ((exAll hL n).expr 1 _ l4) ?_ ?_
     ·exact fun _ _ _ c => qX { calls := tC [(78, 7, 10064, cOf c1), (78, 26, 10256, cOf (isRT l1 [40] h2)), (78, 43, 10384, cOf (isRT l1 [91] h3)), (78, 17, 11088, cOf c4)], pans := tabP Pg [(78, 3, 11088, ⟨2, some (pOf c), []⟩)] } 10000
     ·intro x s5 l5 c5
      obtain ⟨kx, ox, nmx, nx, px, xsx⟩ := x
      refine RCp.bind (wantR l5 hL [59]) ?_ ?_
      ·exact fun _ _ _ c => qX { calls := tC [(78, 7, 10064, cOf c1), (78, 26, 10256, cOf (isRT l1 [40] h2)), (78, 43, 10384, cOf (isRT l1 [91] h3)), (78, 17, 11088, cOf c4), (78, 20, 11216, cOf c5)], pans := tabP Pg [(78, 11, 11472, ⟨1, some (pOf c), []⟩)] } 10000
      ·intro _ s6 l6 c6
       exact ⟨l6, hcleanF_of_run okP named { calls := tC [(78, 7, 10064, cOf c1), (78, 26, 10256, cOf (isRT l1 [40] h2)), (78, 43, 10384, cOf (isRT l1 [91] h3)), (78, 17, 11088, cOf c4), (78, 20, 11216, cOf c5), (78, 63, 11536, cOf c6)] } 2000 10000 _ 1000000 ([(2235, 6), (2235, 7), (2235, 8)]) ⟨rfl, rfl, rfl, by kernel_rfl, by kernel_rfl, by kernel_rfl⟩ (fun _ => by kernel_rfl)⟩
end
end Go.Avm
