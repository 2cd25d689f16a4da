/-
  The abstract machine, part S: runs on open data ('execH'), and what such a run says of the program.
-/
import Derived.Test.YtkhcaamgjjhpeaaGreatDoorAvmR
import Derived.Test.YtkhcaamgjjhpeaaGreatDoorAvmMd
set_option linter.unusedSectionVars false
namespace Go.Avm
open Go.RowKit
variable [GlobTab]

/-! ### Heaps, a few entries laid over -/
theorem ovl_ne : ∀ (l : List (Nat × Ent)) (h : Heap) {k : Nat}, k ∉ l.map (·.1) → ovl l h k = h k
  | [], _, _, _ => rfl
  | (k', e) :: r, h, k, hk => by
    simp only [List.map_cons, List.mem_cons, not_or] at hk
    simp only [ovl, upd_ne _ _ hk.1]
    exact ovl_ne r h hk.2
theorem ovl_in : ∀ (l : List (Nat × Ent)) (h h2 : Heap) {k : Nat}, k ∈ l.map (·.1) → ovl l h k = ovl l h2 k
  | [], _, _, _, hk => by simp at hk
  | (k', e) :: r, h, h2, k, hk => by
    simp only [ovl, upd]
    split
    · rfl
    · rename_i hne
      simp only [List.map_cons, List.mem_cons] at hk
      exact ovl_in r h h2 (hk.resolve_left hne)
def envPairs (env : Nat → AV) (l : List (Nat × AV)) : Pairs := l.map fun p => (.av (env p.1), .av p.2)
theorem envPairs_spec {env : Nat → AV} {l : List (Nat × AV)} (h : Alike (envPairs env l)) : ∀ p ∈ l, p.2 = env p.1 := fun p hp => by
  have := h (.av (env p.1), .av p.2) (List.mem_map.2 ⟨p, hp, rfl⟩)
  simp only [Side.av.injEq] at this
  exact this.symm
def heapPairs (h : Heap) : List (Nat × Ent) → Option Pairs
  | [] => some []
  | (k, ⟨v, none⟩) :: r => match heapPairs h r with
    | some q => some ((.nat (h k).ver, .nat v) :: q)
    | none => none
  | (k, ⟨v, some (.arr sz es)⟩) :: r => match (h k).ob, heapPairs h r with
    | some (.arr sz' es'), some q => some ((.nat (h k).ver, .nat v) :: (.nat sz', .nat sz) :: (.av (.tup es'), .av (.tup es)) :: q)
    | _, _ => none
  | (k, ⟨v, some (.map es c)⟩) :: r => match (h k).ob, heapPairs h r with
    | some (.map es' c'), some q => some ((.nat (h k).ver, .nat v) :: (.nat c', .nat c) :: (.mp es', .mp es) :: q)
    | _, _ => none
  | (k, ⟨v, some (.lp fno N env ps as bd st)⟩) :: r => match (h k).ob, heapPairs h r with
    | some o, some q => some ((.nat (h k).ver, .nat v) :: (.ob o, .ob (.lp fno N env ps as bd st)) :: q)
    | _, _ => none
  | (k, ⟨v, some (.itr km vm since seen)⟩) :: r => match (h k).ob, heapPairs h r with
    | some o, some q => some ((.nat (h k).ver, .nat v) :: (.ob o, .ob (.itr km vm since seen)) :: q)
    | _, _ => none
  | (k, ⟨v, some (.typ kk vv T n)⟩) :: r => match (h k).ob, heapPairs h r with
    | some o, some q => some ((.nat (h k).ver, .nat v) :: (.ob o, .ob (.typ kk vv T n)) :: q)
    | _, _ => none
theorem heapPairs_spec {h : Heap} : ∀ {l : List (Nat × Ent)} {q : Pairs}, heapPairs h l = some q → Alike q → ∀ p ∈ l, p.2.ver = (h p.1).ver ∧ (p.2.ob = none ∨ p.2.ob = (h p.1).ob)
  | [], _, _, _, p, hp => by simp at hp
  | (k, ⟨v, none⟩) :: r, q, hq, hs, p, hp => by
    simp only [heapPairs] at hq
    split at hq
    · rename_i q' hq'
      simp only [Option.some.injEq] at hq
      subst hq
      rcases List.mem_cons.1 hp with rfl | hp
      · have := hs.head
        simp only [Side.nat.injEq] at this
        exact ⟨this.symm, .inl rfl⟩
      · exact heapPairs_spec hq' hs.tail p hp
    · cases hq
  | (k, ⟨v, some (.arr sz es)⟩) :: r, q, hq, hs, p, hp => by
    simp only [heapPairs] at hq
    split at hq
    · rename_i sz' es' q' hob hq'
      simp only [Option.some.injEq] at hq
      subst hq
      rcases List.mem_cons.1 hp with rfl | hp
      · have h1 := hs.head
        have h2 := hs.tail.head
        have h3 := hs.tail.tail.head
        simp only [Side.nat.injEq, Side.av.injEq, AV.tup.injEq] at h1 h2 h3
        subst h2; subst h3
        exact ⟨h1.symm, .inr hob.symm⟩
      · exact heapPairs_spec hq' hs.tail.tail.tail p hp
    · cases hq
  | (k, ⟨v, some (.map es c)⟩) :: r, q, hq, hs, p, hp => by
    simp only [heapPairs] at hq
    split at hq
    · rename_i es' c' q' hob hq'
      simp only [Option.some.injEq] at hq
      subst hq
      rcases List.mem_cons.1 hp with rfl | hp
      · have h1 := hs.head
        have h2 := hs.tail.head
        have h3 := hs.tail.tail.head
        simp only [Side.nat.injEq, Side.mp.injEq] at h1 h2 h3
        subst h2; subst h3
        exact ⟨h1.symm, .inr hob.symm⟩
      · exact heapPairs_spec hq' hs.tail.tail.tail p hp
    · cases hq
  | (k, ⟨v, some (.lp fno N env ps as bd st)⟩) :: r, q, hq, hs, p, hp => by
    simp only [heapPairs] at hq
    split at hq
    · rename_i o q' hob hq'
      simp only [Option.some.injEq] at hq
      subst hq
      rcases List.mem_cons.1 hp with rfl | hp
      · have h1 := hs.head
        have h2 := hs.tail.head
        simp only [Side.nat.injEq, Side.ob.injEq] at h1 h2
        subst h2
        exact ⟨h1.symm, .inr hob.symm⟩
      · exact heapPairs_spec hq' hs.tail.tail p hp
    · cases hq
  | (k, ⟨v, some (.itr km vm since seen)⟩) :: r, q, hq, hs, p, hp => by
    simp only [heapPairs] at hq
    split at hq
    · rename_i o q' hob hq'
      simp only [Option.some.injEq] at hq
      subst hq
      rcases List.mem_cons.1 hp with rfl | hp
      · have h1 := hs.head
        have h2 := hs.tail.head
        simp only [Side.nat.injEq, Side.ob.injEq] at h1 h2
        subst h2
        exact ⟨h1.symm, .inr hob.symm⟩
      · exact heapPairs_spec hq' hs.tail.tail p hp
    · cases hq
  | (k, ⟨v, some (.typ kk vv T n)⟩) :: r, q, hq, hs, p, hp => by
    simp only [heapPairs] at hq
    split at hq
    · rename_i o q' hob hq'
      simp only [Option.some.injEq] at hq
      subst hq
      rcases List.mem_cons.1 hp with rfl | hp
      · have h1 := hs.head
        have h2 := hs.tail.head
        simp only [Side.nat.injEq, Side.ob.injEq] at h1 h2
        subst h2
        exact ⟨h1.symm, .inr hob.symm⟩
      · exact heapPairs_spec hq' hs.tail.tail p hp
    · cases hq

theorem weak_heap {X : Fix} {env : Nat → AV} {h h' : Heap} (hh : ∀ k, (h' k).ver = (h k).ver ∧ ((h' k).ob = none ∨ (h' k).ob = (h k).ob)) : Weak X ⟨env, h⟩ ⟨env, h'⟩ := fun G a w hq => ⟨G, Ext.refl G w, hq.1.forget hh, hq.2⟩
theorem weak_to {X : Fix} {S : St} {l : List (Nat × AV)} {hp : List (Nat × Ent)} {q : Pairs} (h1 : Alike (envPairs S.env l)) (h2 : heapPairs S.heap hp = some q) (h3 : Alike q) : Weak X S ⟨envOf l, ovl hp S.heap⟩ :=
  (weak_envOf (heap := S.heap) (envPairs_spec h1)).trans (weak_heap (ovl_sub S.heap hp (heapPairs_spec h2 h3)))

theorem aw_post {X : Fix} {c : Code} {S : St} {Q : AExit → St → Prop} (h : AW X c S fun e S' => ∃ S'', Weak X S' S'' ∧ Q e S'') : AW X c S Q := fun G a w hh =>
  wpIn_mono (h G a w hh) fun e a' w' ⟨e', S', G', x, ⟨S'', hw, hq⟩, e1, r⟩ => by
    obtain ⟨G2, e2, r2⟩ := hw G' a' w' r
    exact ⟨e', S'', G2, x.mono e2, hq, e1.trans e2, r2⟩

/-! ### What the prover says of loops; of objects that are read alone from here on -/
structure LHint (P : Program) where
  N : Nat
  x : Code
  l : List (Nat × AV)
  hp : Heap → List (Nat × Ent)
  e : AExit
  l' : List (Nat × AV)
  hp' : Heap → List (Nat × Ent)
  proof : ∀ (rest : Heap) (X : Fix), X.P = P → X.N = N → AW X (.loop x) ⟨envOf l, ovl (hp rest) rest⟩ fun e' S' => e' = e ∧ S' = ⟨envOf l', ovl (hp' rest) rest⟩
/-- The same of a piece of code, a sequence. -/
structure QHint (P : Program) where
  N : Nat
  x : Code
  l : List (Nat × AV)
  hp : Heap → List (Nat × Ent)
  e : AExit
  l' : List (Nat × AV)
  hp' : Heap → List (Nat × Ent)
  proof : ∀ (rest : Heap) (X : Fix), X.P = P → X.N = N → AW X x ⟨envOf l, ovl (hp rest) rest⟩ fun e' S' => e' = e ∧ S' = ⟨envOf l', ovl (hp' rest) rest⟩
structure WHint where
  t : Nat
  k : Nat
  n : Nat
  es : List AV
  ds : List D
  hn : es.length = n
  hv : ∀ h : Heap, viewL (view 3 h) es = some (ds, [])
/-- A call's contract: what it asks of the heap, what it leaves. -/
structure CHint (P : Program) where
  g : Nat
  args : List AV
  pre : List (Nat × Ent)
  rs : List AV
  post : List (Nat × Ent)
  proof : ∀ h : Heap, Fits h pre → HCall P g args h rs (ovl post h)
theorem fits_of {P : Program} {g : Nat} {args rs : List AV} {pre post : List (Nat × Ent)} (h : ∀ rest : Heap, HCall P g args (ovl pre rest) rs (ovl post rest)) : ∀ h : Heap, Fits h pre → HCall P g args h rs (ovl post h) :=
  fun h' hf => hcall_forget (h h') (ovl_sub h' pre hf)
theorem fits_ovl {h : Heap} : ∀ {l : List (Nat × Ent)}, Fits h l → (l.all fun p => p.2.ob.isSome) = true → ovl l h = h
  | [], _, _ => rfl
  | (k, e) :: r, hf, ha => by
    simp only [List.all_cons, Bool.and_eq_true] at ha
    have h1 := hf (k, e) (by simp)
    have h2 := fits_ovl (l := r) (fun p hp => hf p (by simp [hp])) ha.2
    simp only [ovl, h2]
    have he : e = h k := by
      obtain ⟨ver, ob⟩ := e
      have h3 : ob = (h k).ob := h1.2.resolve_left (fun hx => by
        have hx' : ob = none := hx
        rw [hx'] at ha
        simp at ha)
      have h4 : ver = (h k).ver := h1.1
      rw [h3, h4]
    funext t
    simp only [upd]
    split
    · rename_i ht; rw [ht, he]
    · rfl
/-- A call that looks at the heap alone. -/
theorem fits_ro {P : Program} {g : Nat} {args rs : List AV} {pre : List (Nat × Ent)} (hs : (pre.all fun p => p.2.ob.isSome) = true) (h : ∀ rest : Heap, HCall P g args (ovl pre rest) rs (ovl pre rest)) : ∀ h : Heap, Fits h pre → HCall P g args h rs (ovl [] h) := fun h' hf => by
  have := h h'
  rw [fits_ovl hf hs] at this
  exact this
/-- A list that a cell leads to is read alone from here on. -/
structure ZHint where
  C : Nat
  a : Nat
  k : Nat
  n : Nat
  es : List AV
  ds : List D
  hn : es.length = n
  hv : ∀ h : Heap, viewL (view 3 h) es = some (ds, [])
/-- A call's contract, that leaves some keys otherwise than it says. -/
structure XHint (P : Program) where
  g : Nat
  args : List AV
  pre : List (Nat × Ent)
  rs : List AV
  post : List (Nat × Ent)
  rst : Heap → Heap
  bigs : List Nat
  hrst : ∀ h k, k ∉ bigs → rst h k = h k
  proof : ∀ h : Heap, Fits h pre → HCall P g args h rs (ovl post (rst h))
/-- A nil slice in an object's cell (or in a slot) becomes a growing list that holds nothing yet. -/
structure NHint where
  k : Nat
  i : Nat
  K : Nat
  sz : Nat
  slot : Bool := false
  /-- .. or a mutable object that holds nothing yet -/
  obj : Bool := false
/-- A call that gives up: with which value, and what is so behind it. -/
structure PCall (P : Program) where
  g : Nat
  args : List AV
  pre : List (Nat × Ent)
  x : AV
  post : List (Nat × Ent)
  proof : ∀ h : Heap, Fits h pre → HPan P g args h x (ovl post h)
/-- A region gives up at its operation p: a panic, or a call that does. -/
structure PHint (P : Program) where
  p : Nat
  call : Option (PCall P)
  /-- what might have come already, in a region that draws its order -/
  ex : List Nat := []
structure Par (P : Program) where
  obm : Nat → Nat → Bool := fun _ _ => false
  hp : Nat → Bool := fun _ => false
  hint : Nat → Nat → Option (Hint P) := fun _ _ => none
  /-- .. at one place of the run alone: the function, the slot, the count of keys there -/
  hintB : Nat → Nat → Nat → Option (Hint P) := fun _ _ _ => none
  loops : Nat → Nat → Option (LHint P) := fun _ _ => none
  weaks : Nat → Nat → Option WHint := fun _ _ => none
  nils : Nat → Nat → Option NHint := fun _ _ => none
  calls : Nat → Nat → Nat → Option (CHint P) := fun _ _ _ => none
  nils2 : Nat → Nat → List NHint := fun _ _ => []
  xcalls : Nat → Nat → Option (XHint P) := fun _ _ => none
  keeps : Nat → Nat → Option (List (Nat × AV)) := fun _ _ => none
  frz : Nat → Nat → Option ZHint := fun _ _ => none
  seqs : Nat → Nat → Option (QHint P) := fun _ _ => none
  /-- regions that give up: the function, the region, the count of keys there -/
  pans : Nat → Nat → Nat → Option (PHint P) := fun _ _ _ => none

def Par.at {P : Program} (pr : Par P) (fno key base : Nat) : Option (Hint P) := match pr.hintB fno key base with
  | some h => some h
  | none => pr.hint fno key
def firstReg : Code → Nat
  | .region id _ _ => id
  | .seq x _ => firstReg x
  | .block _ x => firstReg x
  | .loop x => firstReg x
  | .cond _ x _ => firstReg x
  | _ => 0

def weakOf (H : Option WHint) (S : St) : Option (St × List Nat × Pairs) :=
  match H with
  | none => some (S, [], [])
  | some H => match S.env H.t with
    | .sl k v off len _ => if k = H.k ∧ off = 0 then match (S.heap k).ob with
        | some (.arr _ es) => some (⟨upd S.env H.t (.d (.ro H.ds)), upd S.heap k ⟨(S.heap k).ver + 1, none⟩⟩, [k], [(.nat (S.heap k).ver, .nat v), (.nat len, .nat H.n), (.av (.tup es), .av (.tup H.es))])
        | _ => none
      else none
    | _ => none
theorem view_sl (n : Nat) (h : Heap) (k v off len sz : Nat) : view (n + 1) h (.sl k v off len sz) = match (h k).ob with
    | some (.arr _ es) => if (h k).ver = v ∧ off + len ≤ es.length then (viewL (view n h) ((es.drop off).take len)).map fun r => (.ro r.1, k :: r.2) else none
    | _ => none := rfl
theorem weakOf_spec {X : Fix} {H : Option WHint} {S S' : St} {tk : List Nat} {ps : Pairs} (h : weakOf H S = some (S', tk, ps)) (hs : Alike ps) : Weak X S S' ∧ ∀ k, k ∉ tk → S'.heap k = S.heap k := by
  unfold weakOf at h
  split at h
  · simp only [Option.some.injEq, Prod.mk.injEq] at h
    obtain ⟨rfl, rfl, rfl⟩ := h
    exact ⟨Weak.refl S, fun _ _ => rfl⟩
  · rename_i H
    split at h
    · rename_i k v off len sz henv
      split at h
      · rename_i hc
        obtain ⟨rfl, rfl⟩ := hc
        split at h
        · rename_i sz' es hob
          simp only [Option.some.injEq, Prod.mk.injEq] at h
          obtain ⟨rfl, rfl, rfl⟩ := h
          have h1 := hs.head
          have h2 := hs.tail.head
          have h3 := hs.tail.tail.head
          simp only [Side.nat.injEq, Side.av.injEq, AV.tup.injEq] at h1 h2 h3
          subst h3
          have hview : view 4 S.heap (S.env H.t) = some (.ro H.ds, [H.k]) := by
            rw [henv]
            rw [view_sl, hob]
            simp only
            rw [if_pos ⟨h1, by rw [h2, ← H.hn]; omega⟩]
            rw [List.drop_zero, List.take_of_length_le (by rw [h2, ← H.hn]; exact Nat.le_refl _), H.hv]
            rfl
          refine ⟨fun G a w hh => ?_, fun k' hk' => by simp at hk'; exact upd_ne _ _ hk'⟩
          obtain ⟨hh1, bs, hh2, hh3⟩ := hh
          have hkill : updAll S.heap (kill S.heap [H.k]) = upd S.heap H.k ⟨(S.heap H.k).ver + 1, none⟩ := rfl
          have hr := hh1.kill [H.k]
          rw [hkill] at hr
          have hex := Ext.froz hh1 [H.k]
          refine ⟨_, hex, hr, bs, ⟨hh2.size, hh2.nod, fun t ht => ?_, fun t ht => ?_⟩, hh3.mono hex⟩
          · by_cases hts : t = H.t
            · subst hts
              show Rep _ _ (upd S.env H.t _ H.t) _
              rw [upd_same]
              have := view_sound hh1 4 _ _ _ _ hview (hh2.rep H.t ht)
              exact .d (this.mono (fun b o hb => hb) (fun _ _ _ => rfl))
            · show Rep _ _ (upd S.env H.t _ t) _
              rw [upd_ne _ _ hts]
              exact (hh2.rep t ht).mono hex
          · by_cases hts : t = H.t
            · subst hts
              have := hh2.out H.t ht
              rw [henv] at this
              cases this
            · show upd S.env H.t _ t = _
              rw [upd_ne _ _ hts]
              exact hh2.out t ht
        · cases h
      · cases h
    · cases h

theorem HR.reob {G : Gh} {B : Nat} {w0 w : World} {I0 : Nat → Nat → Prop} {h : Heap} (hr : HR G B w0 I0 h w) {k : Nat} {ob : Ob} (hob : ObRep G w k (h k).ver ob) (hm : ob.flex = true) : HR G B w0 I0 (upd h k ⟨(h k).ver, some ob⟩) w := by
  have hv : ∀ k', (upd h k ⟨(h k).ver, some ob⟩ k').ver = (h k').ver := fun k' => by
    simp only [upd]
    split
    · rename_i hk; rw [hk]
    · rfl
  refine ⟨hr.below, hr.bsz, hr.immlt, hr.i0, hr.immlow, fun k v L hL => by rw [hv]; exact hr.fresh k v L hL, fun k L hL => by rw [hv] at hL; exact hr.own k L hL,
    fun k k' L L' hL hL' => by rw [hv] at hL hL'; exact hr.dis k k' L L' hL hL', fun k' ob' ho => ?_, fun k => by rw [hv]; exact hr.lim k, ⟨fun k v b x => by rw [hv]; exact hr.maps.low k v b x, hr.maps.inj, fun k' es c x => ?_, fun k' fno N env ps as bd st x => ?_, fun k' km vm since seen x => ?_, hr.maps.glob⟩⟩
  · by_cases hk : k' = k
    · subst hk
      rw [upd_same] at ho ⊢
      cases ho
      exact hob
    · rw [upd_ne _ _ hk] at ho ⊢
      exact hr.objs k' ob' ho
  · by_cases hk : k' = k
    · subst hk
      rw [upd_same] at x
      cases x
      cases hm
    · rw [upd_ne _ _ hk] at x ⊢
      exact hr.maps.obj k' es c x
  · by_cases hk : k' = k
    · subst hk
      rw [upd_same] at x
      cases x
      cases hm
    · rw [upd_ne _ _ hk] at x ⊢
      exact hr.maps.loops k' fno N env ps as bd st x
  · by_cases hk : k' = k
    · subst hk
      rw [upd_same] at x
      cases x
      cases hm
    · rw [upd_ne _ _ hk] at x ⊢
      exact hr.maps.iters k' km vm since seen x
section
variable {G : Gh} {B : Nat} {w0 w : World} {I0 : Nat → Nat → Prop} {h : Heap}
/-- A cell's value, looked at otherwise. -/
theorem HR.recell (hr : HR G B w0 I0 h w) {C a : Nat} {ces : List AV} {x y : AV} (hC : (h C).ob = some (.arr 1 ces)) (ha : ces[a]? = some x) (hy : y.lone = true) (hxy : ∀ u, Rep G w x u → Rep G w y u) :
    HR G B w0 I0 (upd h C ⟨(h C).ver, some (.arr 1 (ces.set a y))⟩) w := by
  refine hr.reob ?_ rfl
  have hlt := (List.getElem?_eq_some_iff.1 ha).1
  rcases hr.objs C _ hC with ⟨rfl, _⟩ | ⟨L, hL, g1, g2, g3, g4, g6, g5⟩
  · simp at hlt
  have hall : ∀ e ∈ ces.set a y, e.lone = true := fun e he => by
    rcases List.mem_or_eq_of_mem_set he with he | rfl
    · exact g6 rfl e he
    · exact hy
  refine .inr ⟨L, hL, g1, g2, by simpa using g3, fun e he => by rw [AV.cells_lone (hall e he)]; rfl, fun _ => hall, fun t c ht => ?_⟩
  rw [flat_lone hall, List.getElem?_set] at ht
  by_cases hit : a = t
  · subst hit
    simp only [if_true, hlt] at ht
    cases ht
    obtain ⟨u, hu, hu1, hur⟩ := g5 a x (by rw [flat_lone (g6 rfl)]; exact ha)
    exact ⟨u, hu, hu1, hxy u hur⟩
  · rw [if_neg hit] at ht
    exact g5 t c (by rw [flat_lone (g6 rfl)]; exact ht)
end
/-- A nil slice in a cell becomes an object that holds nothing yet. -/
theorem weak_moveNil {X : Fix} {env : Nat → AV} {h : Heap} {C K a sz : Nat} {ces : List AV} (hCK : C ≠ K) (hC : (h C).ob = some (.arr 1 ces)) (ha : ces[a]? = some .nils) :
    Weak X ⟨env, h⟩ ⟨env, upd (upd h K ⟨(h K).ver + 1, some (.arr sz [])⟩) C ⟨(h C).ver, some (.arr 1 (ces.set a (.sl K ((h K).ver + 1) 0 0 sz)))⟩⟩ := fun G ac w ⟨hr, bs, hf, hs⟩ => by
  obtain ⟨G', hr', e, _⟩ := hr.bump K (some (.arr sz [])) (fun o e => by cases e; exact ⟨sz, rfl⟩)
  have hCe : (upd h K ⟨(h K).ver + 1, some (.arr sz [])⟩ C) = h C := upd_ne _ _ hCK
  have h2 := hr'.recell (C := C) (a := a) (x := .nils) (y := .sl K ((h K).ver + 1) 0 0 sz) (by rw [hCe]; exact hC) ha rfl (fun u hu => by cases hu; exact .slNil _ _ _)
  rw [hCe] at h2
  exact ⟨G', e, h2, bs, hf.mono e, hs.mono e⟩

def nilOf (H : Option NHint) (S : St) : Option (St × List Nat) :=
  match H with
  | none => some (S, [])
  | some H => if H.obj = true then (if H.slot = true then match S.env H.i with
      | .nils => some (⟨upd S.env H.i (.sl H.K ((S.heap H.K).ver + 1) 0 0 H.sz), upd S.heap H.K ⟨(S.heap H.K).ver + 1, some (.arr H.sz [])⟩⟩, [H.K])
      | _ => none
      else match (S.heap H.k).ob with
      | some (.arr sz es) => if sz = 1 ∧ H.k ≠ H.K then match es[H.i]? with
          | some .nils => some (⟨S.env, upd (upd S.heap H.K ⟨(S.heap H.K).ver + 1, some (.arr H.sz [])⟩) H.k ⟨(S.heap H.k).ver, some (.arr 1 (es.set H.i (.sl H.K ((S.heap H.K).ver + 1) 0 0 H.sz)))⟩⟩, [H.K, H.k])
          | _ => none
        else none
      | _ => none)
    else if H.slot = true then match S.env H.i with
      | .nils => some (⟨upd S.env H.i (.vec H.K (S.heap H.K).ver H.sz []), S.heap⟩, [])
      | _ => none
    else match (S.heap H.k).ob with
    | some (.arr sz es) => if sz = 1 then match es[H.i]? with
        | some .nils => some (⟨S.env, upd S.heap H.k ⟨(S.heap H.k).ver, some (.arr sz (es.set H.i (.vec H.K (S.heap H.K).ver H.sz [])))⟩⟩, [H.k])
        | _ => none
      else none
    | _ => none
theorem nilOf_spec {X : Fix} {H : Option NHint} {S S' : St} {tk : List Nat} (h : nilOf H S = some (S', tk)) : Weak X S S' ∧ ∀ k, k ∉ tk → S'.heap k = S.heap k := by
  unfold nilOf at h
  split at h
  · simp only [Option.some.injEq, Prod.mk.injEq] at h
    obtain ⟨rfl, rfl⟩ := h
    exact ⟨Weak.refl S, fun _ _ => rfl⟩
  · rename_i H
    split at h
    · split at h
      case isFalse =>
        split at h
        case h_2 => cases h
        rename_i sz es hob
        split at h
        case isFalse => cases h
        rename_i hc
        obtain ⟨rfl, hkK⟩ := hc
        split at h
        case h_2 => cases h
        rename_i hes
        simp only [Option.some.injEq, Prod.mk.injEq] at h
        obtain ⟨rfl, rfl⟩ := h
        refine ⟨weak_moveNil (X := X) (env := S.env) hkK hob hes, fun k hk => ?_⟩
        simp only [List.mem_cons, List.not_mem_nil, or_false, not_or] at hk
        exact (upd_ne _ _ hk.2).trans (upd_ne _ _ hk.1)
      split at h
      case h_2 => cases h
      rename_i henv
      simp only [Option.some.injEq, Prod.mk.injEq] at h
      obtain ⟨rfl, rfl⟩ := h
      refine ⟨fun G a w ⟨hh1, bs, hh2, hh3⟩ => ?_, fun k hk => by simp at hk; exact upd_ne _ _ hk⟩
      obtain ⟨G', g1, g2, _⟩ := hh1.bump H.K (some (.arr H.sz [])) (fun o e => by cases e; exact ⟨_, rfl⟩)
      refine ⟨G', g2, g1, bs, ⟨hh2.size, hh2.nod, fun t ht => ?_, fun t ht => ?_⟩, hh3.mono g2⟩
      · by_cases hts : t = H.i
        · subst hts
          show Rep _ _ (upd S.env H.i _ H.i) _
          rw [upd_same]
          have := hh2.rep H.i ht
          rw [henv] at this
          have hv : ∀ u, Rep G w .nils u → Rep G' w (.sl H.K ((S.heap H.K).ver + 1) 0 0 H.sz) u := fun u hu => by cases hu; exact .slNil _ _ _
          exact hv _ this
        · show Rep _ _ (upd S.env H.i _ t) _
          rw [upd_ne _ _ hts]
          exact (hh2.rep t ht).mono g2
      · by_cases hts : t = H.i
        · subst hts
          have := hh2.out H.i ht
          rw [henv] at this
          cases this
        · show upd S.env H.i _ t = _
          rw [upd_ne _ _ hts]
          exact hh2.out t ht
    split at h
    · split at h
      case h_2 => cases h
      rename_i henv
      simp only [Option.some.injEq, Prod.mk.injEq] at h
      obtain ⟨rfl, rfl⟩ := h
      refine ⟨fun G a w ⟨hh1, bs, hh2, hh3⟩ => ⟨G, Ext.refl G w, hh1, bs, ⟨hh2.size, hh2.nod, fun t ht => ?_, fun t ht => ?_⟩, hh3⟩, fun _ _ => rfl⟩
      · by_cases hts : t = H.i
        · subst hts
          show Rep _ _ (upd S.env H.i _ H.i) _
          rw [upd_same]
          have := hh2.rep H.i ht
          rw [henv] at this
          have hv : ∀ u, Rep G w .nils u → Rep G w (.vec H.K (S.heap H.K).ver H.sz []) u := fun u hu => by cases hu; exact .vecNil _ _ _
          exact hv _ this
        · show Rep _ _ (upd S.env H.i _ t) _
          rw [upd_ne _ _ hts]
          exact hh2.rep t ht
      · by_cases hts : t = H.i
        · subst hts
          have := hh2.out H.i ht
          rw [henv] at this
          cases this
        · show upd S.env H.i _ t = _
          rw [upd_ne _ _ hts]
          exact hh2.out t ht
    split at h
    case h_2 => cases h
    rename_i sz es hob
    split at h
    case isFalse => cases h
    rename_i hsz
    subst hsz
    split at h
    case h_2 => cases h
    rename_i hes
    simp only [Option.some.injEq, Prod.mk.injEq] at h
    obtain ⟨rfl, rfl⟩ := h
    refine ⟨fun G a w hh => ⟨G, Ext.refl G w, hh.1.reob ?_ rfl, hh.2⟩, fun k' hk' => by simp at hk'; exact upd_ne _ _ hk'⟩
    have hlt := (List.getElem?_eq_some_iff.1 hes).1
    rcases hh.1.objs H.k _ hob with ⟨rfl, _⟩ | ⟨L, hL, g1, g2, g3, g4, g6, g5⟩
    · simp at hlt
    have hall : ∀ x ∈ es.set H.i (.vec H.K (S.heap H.K).ver H.sz []), x.lone = true := fun x hx => by
      rcases List.mem_or_eq_of_mem_set hx with hx | rfl
      · exact g6 rfl x hx
      · rfl
    refine .inr ⟨L, hL, g1, g2, by simpa using g3, fun x hx => by rw [AV.cells_lone (hall x hx)]; rfl, fun _ => hall, fun t c ht => ?_⟩
    rw [flat_lone hall, List.getElem?_set] at ht
    by_cases hit : H.i = t
    · subst hit
      simp only [if_true, hlt] at ht
      cases ht
      obtain ⟨u, hu, hu1, hur⟩ := g5 H.i .nils (by rw [flat_lone (g6 rfl)]; exact hes)
      refine ⟨u, hu, hu1, ?_⟩
      cases hur
      exact .vecNil _ _ _
    · rw [if_neg hit] at ht
      exact g5 t c (by rw [flat_lone (g6 rfl)]; exact ht)
def nilsOf : List NHint → St → Option (St × List Nat)
  | [], S => some (S, [])
  | H :: r, S => match nilOf (some H) S with
    | some a => match nilsOf r a.1 with
      | some b => some (b.1, a.2 ++ b.2)
      | none => none
    | none => none
theorem nilsOf_spec {X : Fix} : ∀ {l : List NHint} {S S' : St} {tk : List Nat}, nilsOf l S = some (S', tk) → Weak X S S' ∧ ∀ k, k ∉ tk → S'.heap k = S.heap k
  | [], S, S', tk, h => by
    simp only [nilsOf, Option.some.injEq, Prod.mk.injEq] at h
    obtain ⟨rfl, rfl⟩ := h
    exact ⟨Weak.refl S, fun _ _ => rfl⟩
  | H :: r, S, S', tk, h => by
    simp only [nilsOf] at h
    split at h
    case h_2 => cases h
    rename_i a ha
    split at h
    case h_2 => cases h
    rename_i b hb
    simp only [Option.some.injEq, Prod.mk.injEq] at h
    obtain ⟨rfl, rfl⟩ := h
    obtain ⟨a1, a2⟩ := a
    obtain ⟨b1, b2⟩ := b
    have h1 := nilOf_spec (X := X) ha
    have h2 := nilsOf_spec (X := X) hb
    exact ⟨h1.1.trans h2.1, fun k hk => by simp only [List.mem_append, not_or] at hk; exact (h2.2 k hk.2).trans (h1.2 k hk.1)⟩
/-- What a cell leads to is read alone from here on. -/
theorem weak_freeze {X : Fix} {env : Nat → AV} {h : Heap} {C a n : Nat} {ces : List AV} {x : AV} {d : D} {ks : List Nat} (hCk : C ∉ ks) (hC : (h C).ob = some (.arr 1 ces)) (ha : ces[a]? = some x) (hd : d.one = true) (hv : view n h x = some (d, ks)) :
    Weak X ⟨env, h⟩ ⟨env, upd (updAll h (kill h ks)) C ⟨(h C).ver, some (.arr 1 (ces.set a (.d d)))⟩⟩ := fun G ac w ⟨hr, bs, hf, hs⟩ => by
  have hr' := hr.kill ks
  have e := Ext.froz hr ks
  have hCe : updAll h (kill h ks) C = h C := by rw [updAll_kill, if_neg hCk]
  have h0 : ∀ u, Rep G w x u → Rep (G.froz h ks) w (.d d) u := fun u hu => .d ((view_sound hr n _ _ _ _ hv hu).mono (fun b o hb => hb) (fun _ _ _ => rfl))
  -- the cell, at the elder knowledge
  have h2 : HR (G.froz h ks) X.B X.w0 X.I0 (upd (updAll h (kill h ks)) C ⟨(updAll h (kill h ks) C).ver, some (.arr 1 (ces.set a (.d d)))⟩) w := by
    refine hr'.reob ?_ rfl
    rw [hCe]
    have hlt := (List.getElem?_eq_some_iff.1 ha).1
    rcases hr.objs C _ hC with ⟨rfl, _⟩ | ⟨L, hL, g1, g2, g3, g4, g6, g5⟩
    · simp at hlt
    have hall : ∀ e ∈ ces.set a (.d d), e.lone = true := fun e he => by
      rcases List.mem_or_eq_of_mem_set he with he | rfl
      · exact g6 rfl e he
      · cases d <;> first | rfl | (simp [D.one] at hd)
    refine .inr ⟨L, e.loc _ _ _ hL, g1, g2, by simpa using g3, fun e he => by rw [AV.cells_lone (hall e he)]; rfl, fun _ => hall, fun t c ht => ?_⟩
    rw [flat_lone hall, List.getElem?_set] at ht
    by_cases hit : a = t
    · subst hit
      simp only [if_true, hlt] at ht
      cases ht
      obtain ⟨u, hu, hu1, hur⟩ := g5 a x (by rw [flat_lone (g6 rfl)]; exact ha)
      exact ⟨u, hu, hu1, h0 u hur⟩
    · rw [if_neg hit] at ht
      obtain ⟨u, hu, hu1, hur⟩ := g5 t c (by rw [flat_lone (g6 rfl)]; exact ht)
      exact ⟨u, hu, hu1, hur.mono e⟩
  rw [hCe] at h2
  exact ⟨_, e, h2, bs, hf.mono e, hs.mono e⟩
def zOf (H : Option ZHint) (S : St) : Option (St × List Nat × Pairs) :=
  match H with
  | none => some (S, [], [])
  | some H => match (S.heap H.C).ob with
    | some (.arr sz ces) => if sz = 1 ∧ H.C ≠ H.k then match ces[H.a]? with
        | some (.sl k v off len _) => if k = H.k ∧ off = 0 then match (S.heap k).ob with
            | some (.arr _ es) => some (⟨S.env, upd (upd S.heap k ⟨(S.heap k).ver + 1, none⟩) H.C ⟨(S.heap H.C).ver, some (.arr 1 (ces.set H.a (.d (.ro H.ds))))⟩⟩, [k, H.C], [(.nat (S.heap k).ver, .nat v), (.nat len, .nat H.n), (.av (.tup es), .av (.tup H.es))])
            | _ => none
          else none
        | _ => none
      else none
    | _ => none
theorem zOf_spec {X : Fix} {H : Option ZHint} {S S' : St} {tk : List Nat} {ps : Pairs} (h : zOf H S = some (S', tk, ps)) (hs : Alike ps) : Weak X S S' ∧ ∀ k, k ∉ tk → S'.heap k = S.heap k := by
  unfold zOf at h
  split at h
  · simp only [Option.some.injEq, Prod.mk.injEq] at h
    obtain ⟨rfl, rfl, rfl⟩ := h
    exact ⟨Weak.refl S, fun _ _ => rfl⟩
  rename_i H
  split at h
  case h_2 => cases h
  rename_i sz ces hC
  split at h
  case isFalse => cases h
  rename_i hc
  obtain ⟨rfl, hCk⟩ := hc
  split at h
  case h_2 => cases h
  rename_i k v off len z ha
  split at h
  case isFalse => cases h
  rename_i hc2
  obtain ⟨rfl, rfl⟩ := hc2
  split at h
  case h_2 => cases h
  rename_i sz' es hob
  simp only [Option.some.injEq, Prod.mk.injEq] at h
  obtain ⟨rfl, rfl, rfl⟩ := h
  have h1 := hs.head
  have h2 := hs.tail.head
  have h3 := hs.tail.tail.head
  simp only [Side.nat.injEq, Side.av.injEq, AV.tup.injEq] at h1 h2 h3
  subst h3
  have hview : view 4 S.heap (.sl H.k v 0 len z) = some (.ro H.ds, [H.k]) := by
    rw [view_sl, hob]
    simp only
    rw [if_pos ⟨h1, by rw [h2, ← H.hn]; omega⟩]
    rw [List.drop_zero, List.take_of_length_le (by rw [h2, ← H.hn]; exact Nat.le_refl _), H.hv]
    rfl
  refine ⟨weak_freeze (ks := [H.k]) (by simpa using hCk) hC ha rfl hview, fun k' hk' => ?_⟩
  simp only [List.mem_cons, List.not_mem_nil, or_false, not_or] at hk'
  exact (upd_ne _ _ hk'.2).trans (upd_ne _ _ hk'.1)
/-- Of the slots those alone that are listed. -/
def keepOf (K : Option (List (Nat × AV))) (S : St) : St × Pairs := match K with
  | none => (S, [])
  | some l => (⟨envOf l, S.heap⟩, envPairs S.env l)
theorem keepOf_spec {X : Fix} {K : Option (List (Nat × AV))} {S : St} (hs : Alike (keepOf K S).2) : Weak X S (keepOf K S).1 ∧ (keepOf K S).1.heap = S.heap := by
  cases K with
  | none => exact ⟨Weak.refl S, rfl⟩
  | some l => exact ⟨weak_envOf (heap := S.heap) (envPairs_spec hs), rfl⟩
def weakAll0 (H : Option WHint) (N : List NHint) (K : Option (List (Nat × AV))) (S : St) : Option (St × List Nat × Pairs) :=
  match weakOf H S with
  | some a => match nilsOf N a.1 with
    | some b => some ((keepOf K b.1).1, a.2.1 ++ b.2, a.2.2 ++ (keepOf K b.1).2)
    | none => none
  | none => none
def weakAll (H : Option WHint) (N : List NHint) (K : Option (List (Nat × AV))) (Z : Option ZHint) (S : St) : Option (St × List Nat × Pairs) :=
  match weakAll0 H N K S with
  | some a => match zOf Z a.1 with
    | some b => some (b.1, a.2.1 ++ b.2.1, a.2.2 ++ b.2.2)
    | none => none
  | none => none
theorem weakAll0_spec {X : Fix} {H : Option WHint} {N : List NHint} {K : Option (List (Nat × AV))} {S S' : St} {tk : List Nat} {ps : Pairs} (h : weakAll0 H N K S = some (S', tk, ps)) (hs : Alike ps) : Weak X S S' ∧ ∀ k, k ∉ tk → S'.heap k = S.heap k := by
  unfold weakAll0 at h
  split at h
  case h_2 => cases h
  rename_i a ha
  split at h
  case h_2 => cases h
  rename_i b hb
  simp only [Option.some.injEq, Prod.mk.injEq] at h
  obtain ⟨rfl, rfl, rfl⟩ := h
  obtain ⟨a1, a2, a3⟩ := a
  obtain ⟨b1, b2⟩ := b
  have h1 := weakOf_spec (X := X) ha hs.left
  have h2 := nilsOf_spec (X := X) hb
  have h3 := keepOf_spec (X := X) hs.right
  exact ⟨(h1.1.trans h2.1).trans h3.1, fun k hk => by simp only [List.mem_append, not_or] at hk; rw [h3.2]; exact (h2.2 k hk.2).trans (h1.2 k hk.1)⟩
theorem weakAll_spec {X : Fix} {H : Option WHint} {N : List NHint} {K : Option (List (Nat × AV))} {Z : Option ZHint} {S S' : St} {tk : List Nat} {ps : Pairs} (h : weakAll H N K Z S = some (S', tk, ps)) (hs : Alike ps) : Weak X S S' ∧ ∀ k, k ∉ tk → S'.heap k = S.heap k := by
  unfold weakAll at h
  split at h
  case h_2 => cases h
  rename_i a ha
  split at h
  case h_2 => cases h
  rename_i b hb
  simp only [Option.some.injEq, Prod.mk.injEq] at h
  obtain ⟨rfl, rfl, rfl⟩ := h
  obtain ⟨a1, a2, a3⟩ := a
  obtain ⟨b1, b2, b3⟩ := b
  have h1 := weakAll0_spec (X := X) ha hs.left
  have h2 := zOf_spec (X := X) hb hs.right
  exact ⟨h1.1.trans h2.1, fun k hk => by simp only [List.mem_append, not_or] at hk; exact (h2.2 k hk.2).trans (h1.2 k hk.1)⟩
def Par.nilsAt {P : Program} (pr : Par P) (fno id : Nat) : List NHint := match pr.nils fno id with
  | some H => H :: pr.nils2 fno id
  | none => pr.nils2 fno id

/-! ### The runner -/
abbrev ExecH := Nat → Nat → Nat → Code → St → Option (AExit × St × Nat × List Nat × Pairs)

def callDH (P : Program) (ex : ExecH) (g : Nat) (ds : List D) : Option (List D × Pairs) :=
  match P.funcs[g]? with
  | none => none
  | some fn => match fn.body with
    | none => none
    | some b => if ds.length ≤ fn.ntmps then match ex g 0 fn.ntmps b (startSt ds) with
        | some (.normal, S', _, _, ps) => (resDs P S' fn.results.toList).map fun rs => (rs, ps)
        | some (.ret, S', _, _, ps) => (resDs P S' fn.results.toList).map fun rs => (rs, ps)
        | _ => none
      else none
def callHH (P : Program) (ex : ExecH) (base : Nat) (g : Nat) (args : List AV) (h : Heap) : Option (List AV × Heap × Nat × List Nat × Pairs) :=
  match P.funcs[g]? with
  | none => none
  | some fn => match fn.body with
    | none => none
    | some b => if args.length ≤ fn.ntmps then match ex g base fn.ntmps b ⟨startE args, h⟩ with
        | some (.normal, S', b', tk, ps) => (resA P S' fn.results.toList).map fun rs => (rs, S'.heap, b', tk, ps)
        | some (.ret, S', b', tk, ps) => (resA P S' fn.results.toList).map fun rs => (rs, S'.heap, b', tk, ps)
        | _ => none
      else none

def callOnceH (P : Program) (ex : ExecH) (base : Nat) (args : List AV) (h : Heap) : Option (Heap × Nat × List Nat × Pairs) :=
  match args with
  | [a, .fn f caps] => match onceAt h a with
    | some (k, v, i, es, n, m) =>
      if n = 0 then
        if m = 0 then match callHH P ex base f caps (onceLock h k v i es) with
          | some r => match onceAt r.2.1 a with
            | some (k2, v2, i2, es2, n2, m2) => if k2 = k ∧ v2 = v ∧ i2 = i ∧ n2 = 0 ∧ m2 = 1 then some (onceDone r.2.1 k v i es2, r.2.2.1, k :: r.2.2.2.1, r.2.2.2.2) else none
            | none => none
          | none => none
        else none
      else some (h, base, [], [])
    | none => none
  | _ => none
/-- A round that an iterator asks for. -/
def yieldH (ex : ExecH) (base k v : Nat) (args : List AV) (h : Heap) : Option (Bool × Heap × Nat × List Nat × Pairs) :=
  match (h k).ob with
  | some (.lp fno N env ps as bd .ready) => match putPs N (envOf env) ps.toList args with
      | some env1 => match ex fno base N as ⟨env1, h⟩ with
        | some (.normal, S1, b1, tk1, ps1) => match (S1.heap k).ob with
          | some (.lp f1 N1 e1 q1 as1 bd1 .ready) => match ex fno b1 N bd ⟨S1.env, upd S1.heap k ⟨v, some (.lp f1 N1 e1 q1 as1 bd1 .busy)⟩⟩ with
              | some r => match (r.2.1.heap k).ob, roundOut r.1 with
                | some (.lp f2 N2 e2 q2 as2 bd2 _), some q => some (q.1, upd r.2.1.heap k ⟨v, some (.lp f2 N2 e2 q2 as2 bd2 q.2)⟩, r.2.2.1, k :: (tk1 ++ r.2.2.2.1), (.nat (h k).ver, .nat v) :: (.nat (S1.heap k).ver, .nat v) :: (.nat (r.2.1.heap k).ver, .nat v) :: (ps1 ++ r.2.2.2.2))
                | _, _ => none
              | none => none
          | _ => none
        | _ => none
      | none => none
  | _ => none
def keyOf (rid i : Nat) (o : Oper) : Nat := match o.dst with
  | some d => d
  | none => 100000 + rid * 1000 + i

def callXH (P : Program) (pr : Par P) (ex : ExecH) (fno key base g : Nat) (args : List AV) (h : Heap) : Option (List AV × Heap × Nat × List Nat × Pairs) :=
  match pr.xcalls fno key with
  | some H => if g = H.g then match heapPairs h H.pre with
      | some q => some (H.rs, ovl H.post (H.rst h), base, H.post.map (·.1) ++ H.bigs, (.av (.tup args), .av (.tup H.args)) :: q)
      | none => none
    else none
  | none => callHH P ex base g args h
def stepH (P : Program) (pr : Par P) (ex : ExecH) (fno rid base N : Nat) (ops : Array Oper) (i : Nat) (o : Oper) (S : St) : Option (St × Foot × Nat × List Nat × Pairs) :=
  match wantedA ops o S.env with
  | some true => match callIn o S.env with
    | some (g, args) => match pr.calls fno (keyOf rid i o) base with
     | some H => if g = H.g then match heapPairs S.heap H.pre with
        | some q => (putA N S.env o.dst (retV H.rs)).map fun env => (⟨env, updAll S.heap H.post.reverse⟩, ⟨i, H.pre.map (·.1), H.post.reverse.map (·.1), false⟩, base, H.post.reverse.map (·.1), (.av (.tup args), .av (.tup H.args)) :: q)
        | none => none
      else none
     | none => match pr.at fno (keyOf rid i o) base with
      | some (.call g' ds rs _) =>
        if g' = g then match toDs args with
          | some ds' => (putA N S.env o.dst (retAV rs)).map fun env => (⟨env, S.heap⟩, ⟨i, [], [], false⟩, base, [], [(.ds ds', .ds ds)])
          | none => match view.go 12 S.heap args with
            | some r => if rs.all D.scal = true then (putA N S.env o.dst (retAV rs)).map fun env => (⟨env, S.heap⟩, ⟨i, r.2, [], false⟩, base, [], [(.ds r.1, .ds ds)]) else none
            | none => none
        else none
      | _ => if isOnce g = true then match callOnceH P ex base args S.heap with
          | some r => (putA N S.env o.dst (.tup [])).map fun env => (⟨env, r.1⟩, ⟨i, [], r.2.2.1, true⟩, r.2.1, r.2.2.1, r.2.2.2)
          | none => none
        else match (if pr.hp g = true then none else toDs args) with
        | some ds => match callDH P ex g ds with
          | some r => (putA N S.env o.dst (retAV r.1)).map fun env => (⟨env, S.heap⟩, ⟨i, [], [], false⟩, base, [], r.2)
          | none => none
        | none => match callXH P pr ex fno (keyOf rid i o) base g args S.heap with
          | some r => (putA N S.env o.dst (retV r.1)).map fun env => (⟨env, r.2.1⟩, ⟨i, [], r.2.2.2.1, true⟩, r.2.2.1, r.2.2.2.1, r.2.2.2.2)
          | none => none
    | none => match yldOf o S.env with
      | some y => match yieldH ex base y.1 y.2.1 y.2.2 S.heap with
        | some r => (putA N S.env o.dst (.d (.bool r.1))).map fun env => (⟨env, r.2.1⟩, ⟨i, [], r.2.2.2.1, true⟩, r.2.2.1, r.2.2.2.1, r.2.2.2.2)
        | none => none
      | none => match coreH P (pr.at fno (keyOf rid i o) base) { obm := fun _ => pr.obm fno (o.dst.getD 0), base := fun _ => base } i o (opd S.env) S.heap with
      | some q => match q.1.ob with
        | [] => (putA N S.env o.dst q.1.val).map fun env => (⟨env, updAll S.heap q.1.wr⟩, ⟨i, q.1.rd, q.1.wr.map (·.1), false⟩, base + N, q.1.wr.map (·.1), q.2)
        | _ => none
      | none => none
  | some false => (putA N S.env o.dst (.tup [])).map fun env => (⟨env, S.heap⟩, ⟨i, [], [], false⟩, base, [], [])
  | none => none

def opsH (P : Program) (pr : Par P) (ex : ExecH) (fno rid N : Nat) (ops : Array Oper) : List Oper → Nat → Nat → St → Option (St × List Foot × Nat × List Nat × Pairs)
  | [], _, base, S => some (S, [], base, [], [])
  | o :: r, i, base, S => match stepH P pr ex fno rid base N ops i o S with
    | none => none
    | some a => match opsH P pr ex fno rid N ops r (i + 1) a.2.2.1 a.1 with
      | none => none
      | some b => some (b.1, a.2.1 :: b.2.1, b.2.2.1, a.2.2.2.1 ++ b.2.2.2.1, a.2.2.2.2 ++ b.2.2.2.2)

/-- The operation at which a region gives up. -/
def panH (P : Program) (C : Option (PCall P)) (ops : Array Oper) (o : Oper) (S : St) : Option (AV × Heap × List Nat × Pairs) :=
  match wantedA ops o S.env with
  | some true => match C with
    | some C => match callOf o S.env with
      | some (g, args) => if g = C.g then (heapPairs S.heap C.pre).map fun q => (C.x, ovl C.post S.heap, C.post.map (·.1), (.av (.tup args), .av (.tup C.args)) :: q) else none
      | none => none
    | none => match o.op with
      | .panic u => match opd S.env u with
        | .iv t y => some (.iv t y, S.heap, [], [])
        | _ => none
      | _ => none
  | _ => none

/-- Operations in a given order, ahead of one that gives up. -/
def opsQ (P : Program) (pr : Par P) (ex : ExecH) (fno rid N : Nat) (ops : Array Oper) (op : Oper) : List Nat → Nat → St → Option (St × List (Nat × Foot) × Nat × List Nat × Pairs)
  | [], base, S => some (S, [], base, [], [])
  | i :: r, base, S => match ops[i]? with
    | none => none
    | some o => match stepH P pr ex fno rid base N ops i o S with
      | none => none
      | some a => match (bindsTo op i || a.2.1.wr.all fun k => Nat.ble (S.heap k).ver (a.1.heap k).ver) && !(r.any (Nat.beq i)) with
        | false => none
        | true => match opsQ P pr ex fno rid N ops op r a.2.2.1 a.1 with
          | none => none
          | some b => some (b.1, (i, a.2.1) :: b.2.1, b.2.2.1, a.2.2.2.1 ++ b.2.2.2.1, a.2.2.2.2 ++ b.2.2.2.2)
def lookF : List (Nat × Foot) → Nat → Foot
  | [], _ => ⟨0, [], [], false⟩
  | (j, f) :: r, i => bif Nat.beq i j then f else lookF r i
def fgt (W : List Nat) (h : Heap) : Heap := fun k => bif W.any (Nat.beq k) then ⟨(h k).ver, none⟩ else h k
def wQ (op : Oper) (fts : List (Nat × Foot)) : List Nat := (fts.filter fun e => !bindsTo op e.1).flatMap (·.2.wr)
def disW {P : Program} (C : Option (PCall P)) (W : List Nat) : Bool := match C with
  | some C => W.all fun k => !(C.pre.map (·.1)).any (Nat.beq k) && !(C.post.map (·.1)).any (Nat.beq k)
  | none => true
def qOk {P : Program} (ops : Array Oper) (p : Nat) (op : Oper) (O : List Nat) (fts : List (Nat × Foot)) (C : Option (PCall P)) : Bool :=
  lexQF ops (lookF fts) p O (wQ op fts) O (Array.replicate ops.size false) && Nat.blt O.length ops.size && disW C (wQ op fts)

def execH (P : Program) (pr : Par P) : Nat → ExecH
  | 0, _, _, _, _, _ => none
  | n + 1, fno, base, N, c, S =>
    match c with
    | .region id ops draw => match weakAll (pr.weaks fno id) (pr.nilsAt fno id) (pr.keeps fno id) (pr.frz fno id) S with
      | some wk => match pr.pans fno id base with
        | some H => match H.ex with
         | [] => match opsH P pr (execH P pr n) fno id N ops (ops.toList.take H.p) 0 base wk.1 with
          | some r => match ops[H.p]? with
            | some o => match panH P H.call ops o r.1 with
              | some q => if draw = false ∨ lexPok ops r.2.1 H.p = true then some (.panic q.1, ⟨envJ ops wk.1.env, q.2.1⟩, r.2.2.1, wk.2.1 ++ (r.2.2.2.1 ++ q.2.2.1), wk.2.2 ++ (r.2.2.2.2 ++ q.2.2.2)) else none
              | none => none
            | none => none
          | none => none
         | _ :: _ => match draw with
          | false => none
          | true => match ops[H.p]? with
            | none => none
            | some o => match opsQ P pr (execH P pr n) fno id N ops o (List.range' 0 H.p ++ H.ex) base wk.1 with
              | none => none
              | some r => match panH P H.call ops o r.1 with
                | none => none
                | some q => match qOk ops H.p o (List.range' 0 H.p ++ H.ex) r.2.1 H.call with
                  | true => some (.panic q.1, ⟨envJ ops wk.1.env, fgt (wQ o r.2.1) q.2.1⟩, r.2.2.1, wk.2.1 ++ (r.2.2.2.1 ++ (q.2.2.1 ++ wQ o r.2.1)), wk.2.2 ++ (r.2.2.2.2 ++ q.2.2.2))
                  | false => none
        | none => match opsH P pr (execH P pr n) fno id N ops ops.toList 0 base wk.1 with
          | some r => match draw with
            | false => some (.normal, r.1, r.2.2.1, wk.2.1 ++ r.2.2.2.1, wk.2.2 ++ r.2.2.2.2)
            | true => match lexOk ops r.2.1 with
              | true => some (.normal, r.1, r.2.2.1, wk.2.1 ++ r.2.2.2.1, wk.2.2 ++ r.2.2.2.2)
              | false => none
          | none => none
      | none => none
    | .seq x y => match pr.seqs fno (firstReg x) with
      | some H => if H.N = N then match heapPairs S.heap (H.hp S.heap) with
          | some q => some (H.e, ⟨envOf H.l', ovl (H.hp' S.heap) S.heap⟩, base, (H.hp' S.heap).map (·.1), (.code (.seq x y), .code H.x) :: (envPairs S.env H.l ++ q))
          | none => none
        else none
      | none => match execH P pr n fno base N x S with
        | some (.normal, S', b', tk, ps) => match execH P pr n fno b' N y S' with
          | some (e, S2, b2, tk2, ps2) => some (e, S2, b2, tk ++ tk2, ps ++ ps2)
          | none => none
        | r => r
    | .block id x => match execH P pr n fno base N x S with
      | some (.exit i, S', b', tk, ps) => if i = id then some (.normal, S', b', tk, ps) else some (.exit i, S', b', tk, ps)
      | r => r
    | .loop x => match pr.loops fno (firstReg x) with
      | some H => if H.N = N then match heapPairs S.heap (H.hp S.heap) with
          | some q => some (H.e, ⟨envOf H.l', ovl (H.hp' S.heap) S.heap⟩, base, (H.hp' S.heap).map (·.1), (.code x, .code H.x) :: (envPairs S.env H.l ++ q))
          | none => none
        else none
      | none => match execH P pr n fno base N x S with
        | some (.normal, S', b', tk, ps) => match execH P pr n fno b' N (.loop x) S' with
          | some (e, S2, b2, tk2, ps2) => some (e, S2, b2, tk ++ tk2, ps ++ ps2)
          | none => none
        | r => r
    | .skip => some (.normal, S, base, [], [])
    | .exit i => some (.exit i, S, base, [], [])
    | .ret => some (.ret, S, base, [], [])
    | .cond c x y => match opd S.env c with
      | .d (.bool b) => match b with
        | true => execH P pr n fno base N x S
        | false => execH P pr n fno base N y S
      | _ => none
    | .rangeFunc g ps as bd => match opd S.env g with
      | .fn gf caps => match callHH P (execH P pr n) (base + N) gf (.yld base ((S.heap base).ver + 1) :: caps) (upd S.heap base ⟨(S.heap base).ver + 1, some (.lp fno N (envL N S.env) ps as bd .ready)⟩) with
        | some r => match (r.2.1 base).ob with
          | some (.lp _ _ _ _ _ _ st) => match endE st with
            | some e => some (e, ⟨S.env, upd r.2.1 base ⟨(r.2.1 base).ver, none⟩⟩, r.2.2.1, base :: r.2.2.2.1, (.nat (r.2.1 base).ver, .nat ((S.heap base).ver + 1)) :: r.2.2.2.2)
            | none => none
          | _ => none
        | none => none
      | _ => none
    | _ => none
end Go.Avm
