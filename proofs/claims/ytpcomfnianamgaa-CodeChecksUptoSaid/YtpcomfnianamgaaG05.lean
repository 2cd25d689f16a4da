/-
  The abstract machine, part S: runs on open data ('execH'), and what such a run says of the program.
-/
import Derived.Test.YtpcomfnianamgaaG04
import Derived.Sort.Grow
import Derived.Sort.Row
set_option linter.unusedSectionVars false
namespace Go.Avm
open Go.RowKit
variable [GlobTab]
theorem ovl_ne : ∀ (l : List (Nat × Ent)) (h : Heap) {k : Nat}, k ∉ l.map (·.1) → ovl l h k = h k
 | [], _, _, _ => rfl
 | (k', e) :: r, h, k, hk => by
  simp only [List.map_cons, List.mem_cons, not_or] at hk
  simp only [ovl, upd_ne _ _ hk.1]
  exact ovl_ne r h hk.2
theorem ovl_in : ∀ (l : List (Nat × Ent)) (h h2 : Heap) {k : Nat}, k ∈ l.map (·.1) → ovl l h k = ovl l h2 k
 | [], _, _, _, hk => by simp at hk
 | (k', e) :: r, h, h2, k, hk => by
  simp only [ovl, upd]
  split
  ·rfl
  ·rename_i hne
   simp only [List.map_cons, List.mem_cons] at hk
   exact ovl_in r h h2 (hk.resolve_left hne)
def envPairs (env : Nat → AV) (l : List (Nat × AV)) : Pairs := l.map fun p => (.av (env p.1), .av p.2)
theorem envPairs_spec {env : Nat → AV} {l : List (Nat × AV)} (h : Alike (envPairs env l)) : ∀ p ∈ l, p.2 = env p.1 := fun p hp => by
 have := h (.av (env p.1), .av p.2) (List.mem_map.2 ⟨p, hp, rfl⟩)
 simp only [Side.av.injEq] at this
 exact this.symm
def heapPairs (h : Heap) : List (Nat × Ent) → Option Pairs
 | [] => some []
 | (k, ⟨v, none⟩) :: r => match heapPairs h r with
  | some q => some ((.nat (h k).ver, .nat v) :: q)
  | none => none
 | (k, ⟨v, some (.arr sz es)⟩) :: r => match (h k).ob, heapPairs h r with
  | some (.arr sz' es'), some q => some ((.nat (h k).ver, .nat v) :: (.nat sz', .nat sz) :: (.av (.tup es'), .av (.tup es)) :: q)
  | _, _ => none
 | (k, ⟨v, some (.map es c)⟩) :: r => match (h k).ob, heapPairs h r with
  | some (.map es' c'), some q => some ((.nat (h k).ver, .nat v) :: (.nat c', .nat c) :: (.mp es', .mp es) :: q)
  | _, _ => none
 | (k, ⟨v, some (.lp fno N env ps as bd st)⟩) :: r => match (h k).ob, heapPairs h r with
  | some o, some q => some ((.nat (h k).ver, .nat v) :: (.ob o, .ob (.lp fno N env ps as bd st)) :: q)
  | _, _ => none
 | (k, ⟨v, some (.itr km vm since seen)⟩) :: r => match (h k).ob, heapPairs h r with
  | some o, some q => some ((.nat (h k).ver, .nat v) :: (.ob o, .ob (.itr km vm since seen)) :: q)
  | _, _ => none
 | (k, ⟨v, some (.typ kk vv T n)⟩) :: r => match (h k).ob, heapPairs h r with
  | some o, some q => some ((.nat (h k).ver, .nat v) :: (.ob o, .ob (.typ kk vv T n)) :: q)
  | _, _ => none
theorem heapPairs_spec {h : Heap} : ∀ {l : List (Nat × Ent)} {q : Pairs}, heapPairs h l = some q → Alike q → ∀ p ∈ l, p.2.ver = (h p.1).ver ∧ (p.2.ob = none ∨ p.2.ob = (h p.1).ob)
 | [], _, _, _, p, hp => by simp at hp
 | (k, ⟨v, none⟩) :: r, q, hq, hs, p, hp => by
  simp only [heapPairs] at hq
  split at hq
  ·rename_i q' hq'
   simp only [Option.some.injEq] at hq
   subst hq
   rcases List.mem_cons.1 hp with rfl | hp
   ·have := hs.head
    simp only [Side.nat.injEq] at this
    exact ⟨this.symm, .inl rfl⟩
   ·exact heapPairs_spec hq' hs.tail p hp
  ·cases hq
 | (k, ⟨v, some (.arr sz es)⟩) :: r, q, hq, hs, p, hp => by
  simp only [heapPairs] at hq
  split at hq
  ·rename_i sz' es' q' hob hq'
   simp only [Option.some.injEq] at hq
   subst hq
   rcases List.mem_cons.1 hp with rfl | hp
   ·have h1 := hs.head
    have h2 := hs.tail.head
    have h3 := hs.tail.tail.head
    simp only [Side.nat.injEq, Side.av.injEq, AV.tup.injEq] at h1 h2 h3
    subst h2; subst h3
    exact ⟨h1.symm, .inr hob.symm⟩
   ·exact heapPairs_spec hq' hs.tail.tail.tail p hp
  ·cases hq
 | (k, ⟨v, some (.map es c)⟩) :: r, q, hq, hs, p, hp => by
  simp only [heapPairs] at hq
  split at hq
  ·rename_i es' c' q' hob hq'
   simp only [Option.some.injEq] at hq
   subst hq
   rcases List.mem_cons.1 hp with rfl | hp
   ·have h1 := hs.head
    have h2 := hs.tail.head
    have h3 := hs.tail.tail.head
    simp only [Side.nat.injEq, Side.mp.injEq] at h1 h2 h3
    subst h2; subst h3
    exact ⟨h1.symm, .inr hob.symm⟩
   ·exact heapPairs_spec hq' hs.tail.tail.tail p hp
  ·cases hq
 | (k, ⟨v, some (.lp fno N env ps as bd st)⟩) :: r, q, hq, hs, p, hp => by
  simp only [heapPairs] at hq
  split at hq
  ·rename_i o q' hob hq'
   simp only [Option.some.injEq] at hq
   subst hq
   rcases List.mem_cons.1 hp with rfl | hp
   ·have h1 := hs.head
    have h2 := hs.tail.head
    simp only [Side.nat.injEq, Side.ob.injEq] at h1 h2
    subst h2
    exact ⟨h1.symm, .inr hob.symm⟩
   ·exact heapPairs_spec hq' hs.tail.tail p hp
  ·cases hq
 | (k, ⟨v, some (.itr km vm since seen)⟩) :: r, q, hq, hs, p, hp => by
  simp only [heapPairs] at hq
  split at hq
  ·rename_i o q' hob hq'
   simp only [Option.some.injEq] at hq
   subst hq
   rcases List.mem_cons.1 hp with rfl | hp
   ·have h1 := hs.head
    have h2 := hs.tail.head
    simp only [Side.nat.injEq, Side.ob.injEq] at h1 h2
    subst h2
    exact ⟨h1.symm, .inr hob.symm⟩
   ·exact heapPairs_spec hq' hs.tail.tail p hp
  ·cases hq
 | (k, ⟨v, some (.typ kk vv T n)⟩) :: r, q, hq, hs, p, hp => by
  simp only [heapPairs] at hq
  split at hq
  ·rename_i o q' hob hq'
   simp only [Option.some.injEq] at hq
   subst hq
   rcases List.mem_cons.1 hp with rfl | hp
   ·have h1 := hs.head
    have h2 := hs.tail.head
    simp only [Side.nat.injEq, Side.ob.injEq] at h1 h2
    subst h2
    exact ⟨h1.symm, .inr hob.symm⟩
   ·exact heapPairs_spec hq' hs.tail.tail p hp
  ·cases hq
theorem weak_heap {X : Fix} {env : Nat → AV} {h h' : Heap} (hh : ∀ k, (h' k).ver = (h k).ver ∧ ((h' k).ob = none ∨ (h' k).ob = (h k).ob)) : Weak X ⟨env, h⟩ ⟨env, h'⟩ := fun G a w hq => ⟨G, Ext.refl G w, hq.1.forget hh, hq.2⟩
theorem weak_to {X : Fix} {S : St} {l : List (Nat × AV)} {hp : List (Nat × Ent)} {q : Pairs} (h1 : Alike (envPairs S.env l)) (h2 : heapPairs S.heap hp = some q) (h3 : Alike q) : Weak X S ⟨envOf l, ovl hp S.heap⟩ :=
 (weak_envOf (heap := S.heap) (envPairs_spec h1)).trans (weak_heap (ovl_sub S.heap hp (heapPairs_spec h2 h3)))
theorem aw_post {X : Fix} {c : Code} {S : St} {Q : AExit → St → Prop} (h : AW X c S fun e S' => ∃ S'', Weak X S' S'' ∧ Q e S'') : AW X c S Q := fun G a w hh =>
 wpIn_mono (h G a w hh) fun e a' w' ⟨e', S', G', x, ⟨S'', hw, hq⟩, e1, r⟩ => by
  obtain ⟨G2, e2, r2⟩ := hw G' a' w' r
  exact ⟨e', S'', G2, x.mono e2, hq, e1.trans e2, r2⟩
structure LHint (P : Program) where
 N : Nat
 x : Code
 l : List (Nat × AV)
 hp : Heap → List (Nat × Ent)
 e : AExit
 l' : List (Nat × AV)
 hp' : Heap → List (Nat × Ent)
 proof : ∀ (rest : Heap) (X : Fix), X.P = P → X.N = N → AW X (.loop x) ⟨envOf l, ovl (hp rest) rest⟩ fun e' S' => e' = e ∧ S' = ⟨envOf l', ovl (hp' rest) rest⟩
structure QHint (P : Program) where
 N : Nat
 x : Code
 l : List (Nat × AV)
 hp : Heap → List (Nat × Ent)
 e : AExit
 l' : List (Nat × AV)
 hp' : Heap → List (Nat × Ent)
 proof : ∀ (rest : Heap) (X : Fix), X.P = P → X.N = N → AW X x ⟨envOf l, ovl (hp rest) rest⟩ fun e' S' => e' = e ∧ S' = ⟨envOf l', ovl (hp' rest) rest⟩
structure WHint where
 t : Nat
 k : Nat
 n : Nat
 es : List AV
 ds : List D
 hn : es.length = n
 hv : ∀ h : Heap, viewL (view 3 h) es = some (ds, [])
structure CHint (P : Program) where
 g : Nat
 args : List AV
 pre : List (Nat × Ent)
 rs : List AV
 post : List (Nat × Ent)
 proof : ∀ h : Heap, Fits h pre → HCall P g args h rs (ovl post h)
theorem fits_of {P : Program} {g : Nat} {args rs : List AV} {pre post : List (Nat × Ent)} (h : ∀ rest : Heap, HCall P g args (ovl pre rest) rs (ovl post rest)) : ∀ h : Heap, Fits h pre → HCall P g args h rs (ovl post h) :=
 fun h' hf => hcall_forget (h h') (ovl_sub h' pre hf)
theorem fits_ovl {h : Heap} : ∀ {l : List (Nat × Ent)}, Fits h l → (l.all fun p => p.2.ob.isSome) = true → ovl l h = h
 | [], _, _ => rfl
 | (k, e) :: r, hf, ha => by
  simp only [List.all_cons, Bool.and_eq_true] at ha
  have h1 := hf (k, e) (by simp)
  have h2 := fits_ovl (l := r) (fun p hp => hf p (by simp [hp])) ha.2
  simp only [ovl, h2]
  have he : e = h k := by
   obtain ⟨ver, ob⟩ := e
   have h3 : ob = (h k).ob := h1.2.resolve_left (fun hx => by
    have hx' : ob = none := hx
    rw [hx'] at ha
    simp at ha)
   have h4 : ver = (h k).ver := h1.1
   rw [h3, h4]
  funext t
  simp only [upd]
  split
  ·rename_i ht; rw [ht, he]
  ·rfl
theorem fits_ro {P : Program} {g : Nat} {args rs : List AV} {pre : List (Nat × Ent)} (hs : (pre.all fun p => p.2.ob.isSome) = true) (h : ∀ rest : Heap, HCall P g args (ovl pre rest) rs (ovl pre rest)) : ∀ h : Heap, Fits h pre → HCall P g args h rs (ovl [] h) := fun h' hf => by
 have := h h'
 rw [fits_ovl hf hs] at this
 exact this
structure ZHint where
 C : Nat
 a : Nat
 k : Nat
 n : Nat
 es : List AV
 ds : List D
 hn : es.length = n
 hv : ∀ h : Heap, viewL (view 3 h) es = some (ds, [])
structure XHint (P : Program) where
 g : Nat
 args : List AV
 pre : List (Nat × Ent)
 rs : List AV
 post : List (Nat × Ent)
 rst : Heap → Heap
 bigs : List Nat
 hrst : ∀ h k, k ∉ bigs → rst h k = h k
 proof : ∀ h : Heap, Fits h pre → HCall P g args h rs (ovl post (rst h))
structure NHint where
 k : Nat
 i : Nat
 K : Nat
 sz : Nat
 slot : Bool := false
 /-- .. or a mutable object that holds nothing yet -/
 obj : Bool := false
structure Par (P : Program) where
 obm : Nat → Nat → Bool := fun _ _ => false
 hp : Nat → Bool := fun _ => false
 hint : Nat → Nat → Option (Hint P) := fun _ _ => none
 /-- .. at one place of the run alone: the function, the slot, the count of keys there -/
 hintB : Nat → Nat → Nat → Option (Hint P) := fun _ _ _ => none
 loops : Nat → Nat → Option (LHint P) := fun _ _ => none
 weaks : Nat → Nat → Option WHint := fun _ _ => none
 nils : Nat → Nat → Option NHint := fun _ _ => none
 calls : Nat → Nat → Nat → Option (CHint P) := fun _ _ _ => none
 nils2 : Nat → Nat → List NHint := fun _ _ => []
 xcalls : Nat → Nat → Option (XHint P) := fun _ _ => none
 keeps : Nat → Nat → Option (List (Nat × AV)) := fun _ _ => none
 frz : Nat → Nat → Option ZHint := fun _ _ => none
 seqs : Nat → Nat → Option (QHint P) := fun _ _ => none
def Par.at {P : Program} (pr : Par P) (fno key base : Nat) : Option (Hint P) := match pr.hintB fno key base with
 | some h => some h
 | none => pr.hint fno key
def firstReg : Code → Nat
 | .region id _ _ => id
 | .seq x _ => firstReg x
 | .block _ x => firstReg x
 | .loop x => firstReg x
 | .cond _ x _ => firstReg x
 | _ => 0
def weakOf (H : Option WHint) (S : St) : Option (St × List Nat × Pairs) :=
 match H with
 | none => some (S, [], [])
 | some H => match S.env H.t with
  | .sl k v off len _ => if k = H.k ∧ off = 0 then match (S.heap k).ob with
      | some (.arr _ es) => some (⟨upd S.env H.t (.d (.ro H.ds)), upd S.heap k ⟨(S.heap k).ver + 1, none⟩⟩, [k], [(.nat (S.heap k).ver, .nat v), (.nat len, .nat H.n), (.av (.tup es), .av (.tup H.es))])
      | _ => none
   else none
  | _ => none
theorem view_sl (n : Nat) (h : Heap) (k v off len sz : Nat) : view (n + 1) h (.sl k v off len sz) = match (h k).ob with
    | some (.arr _ es) => if (h k).ver = v ∧ off + len ≤ es.length then (viewL (view n h) ((es.drop off).take len)).map fun r => (.ro r.1, k :: r.2) else none
    | _ => none := rfl
theorem weakOf_spec {X : Fix} {H : Option WHint} {S S' : St} {tk : List Nat} {ps : Pairs} (h : weakOf H S = some (S', tk, ps)) (hs : Alike ps) : Weak X S S' ∧ ∀ k, k ∉ tk → S'.heap k = S.heap k := by
 unfold weakOf at h
 split at h
 ·simp only [Option.some.injEq, Prod.mk.injEq] at h
  obtain ⟨rfl, rfl, rfl⟩ := h
  exact ⟨Weak.refl S, fun _ _ => rfl⟩
 ·rename_i H
  split at h
  ·rename_i k v off len sz henv
   split at h
   ·rename_i hc
    obtain ⟨rfl, rfl⟩ := hc
    split at h
    ·rename_i sz' es hob
     simp only [Option.some.injEq, Prod.mk.injEq] at h
     obtain ⟨rfl, rfl, rfl⟩ := h
     have h1 := hs.head
     have h2 := hs.tail.head
     have h3 := hs.tail.tail.head
     simp only [Side.nat.injEq, Side.av.injEq, AV.tup.injEq] at h1 h2 h3
     subst h3
     have hview : view 4 S.heap (S.env H.t) = some (.ro H.ds, [H.k]) := by
      rw [henv]
      rw [view_sl, hob]
      simp only
      rw [if_pos ⟨h1, by rw [h2, ← H.hn]; omega⟩]
      rw [List.drop_zero, List.take_of_length_le (by rw [h2, ← H.hn]; exact Nat.le_refl _), H.hv]
      rfl
     refine ⟨fun G a w hh => ?_, fun k' hk' => by simp at hk'; exact upd_ne _ _ hk'⟩
     obtain ⟨hh1, bs, hh2, hh3⟩ := hh
     have hkill : updAll S.heap (kill S.heap [H.k]) = upd S.heap H.k ⟨(S.heap H.k).ver + 1, none⟩ := rfl
     have hr := hh1.kill [H.k]
     rw [hkill] at hr
     have hex := Ext.froz hh1 [H.k]
     refine ⟨_, hex, hr, bs, ⟨hh2.size, hh2.nod, fun t ht => ?_, fun t ht => ?_⟩, hh3.mono hex⟩
     ·by_cases hts : t = H.t
      ·subst hts
       show Rep _ _ (upd S.env H.t _ H.t) _
       rw [upd_same]
       have := view_sound hh1 4 _ _ _ _ hview (hh2.rep H.t ht)
       exact .d (this.mono (fun b o hb => hb) (fun _ _ _ => rfl))
      ·show Rep _ _ (upd S.env H.t _ t) _
       rw [upd_ne _ _ hts]
       exact (hh2.rep t ht).mono hex
     ·by_cases hts : t = H.t
      ·subst hts
       have := hh2.out H.t ht
       rw [henv] at this
       cases this
      ·show upd S.env H.t _ t = _
       rw [upd_ne _ _ hts]
       exact hh2.out t ht
    ·cases h
   ·cases h
  ·cases h
theorem HR.reob {G : Gh} {B : Nat} {w0 w : World} {I0 : Nat → Nat → Prop} {h : Heap} (hr : HR G B w0 I0 h w) {k : Nat} {ob : Ob} (hob : ObRep G w k (h k).ver ob) (hm : ob.flex = true) : HR G B w0 I0 (upd h k ⟨(h k).ver, some ob⟩) w := by
 have hv : ∀ k', (upd h k ⟨(h k).ver, some ob⟩ k').ver = (h k').ver := fun k' => by
  simp only [upd]
  split
  ·rename_i hk; rw [hk]
  ·rfl
 refine ⟨hr.below, hr.bsz, hr.immlt, hr.i0, hr.immlow, fun k v L hL => by rw [hv]; exact hr.fresh k v L hL, fun k L hL => by rw [hv] at hL; exact hr.own k L hL,
  fun k k' L L' hL hL' => by rw [hv] at hL hL'; exact hr.dis k k' L L' hL hL', fun k' ob' ho => ?_, fun k => by rw [hv]; exact hr.lim k, ⟨fun k v b x => by rw [hv]; exact hr.maps.low k v b x, hr.maps.inj, fun k' es c x => ?_, fun k' fno N env ps as bd st x => ?_, fun k' km vm since seen x => ?_, hr.maps.glob⟩⟩
 ·by_cases hk : k' = k
  ·subst hk
   rw [upd_same] at ho ⊢
   cases ho
   exact hob
  ·rw [upd_ne _ _ hk] at ho ⊢
   exact hr.objs k' ob' ho
 ·by_cases hk : k' = k
  ·subst hk
   rw [upd_same] at x
   cases x
   cases hm
  ·rw [upd_ne _ _ hk] at x ⊢
   exact hr.maps.obj k' es c x
 ·by_cases hk : k' = k
  ·subst hk
   rw [upd_same] at x
   cases x
   cases hm
  ·rw [upd_ne _ _ hk] at x ⊢
   exact hr.maps.loops k' fno N env ps as bd st x
 ·by_cases hk : k' = k
  ·subst hk
   rw [upd_same] at x
   cases x
   cases hm
  ·rw [upd_ne _ _ hk] at x ⊢
   exact hr.maps.iters k' km vm since seen x
def nilOf (H : Option NHint) (S : St) : Option (St × List Nat) :=
 match H with
 | none => some (S, [])
 | some H => if H.obj = true then (if H.slot = true then match S.env H.i with
     | .nils => some (⟨upd S.env H.i (.sl H.K ((S.heap H.K).ver + 1) 0 0 H.sz), upd S.heap H.K ⟨(S.heap H.K).ver + 1, some (.arr H.sz [])⟩⟩, [H.K])
     | _ => none else none)
  else if H.slot = true then match S.env H.i with
   | .nils => some (⟨upd S.env H.i (.vec H.K (S.heap H.K).ver H.sz []), S.heap⟩, [])
   | _ => none
  else match (S.heap H.k).ob with
  | some (.arr sz es) => if sz = 1 then match es[H.i]? with
      | some .nils => some (⟨S.env, upd S.heap H.k ⟨(S.heap H.k).ver, some (.arr sz (es.set H.i (.vec H.K (S.heap H.K).ver H.sz [])))⟩⟩, [H.k])
      | _ => none
   else none
  | _ => none
theorem nilOf_spec {X : Fix} {H : Option NHint} {S S' : St} {tk : List Nat} (h : nilOf H S = some (S', tk)) : Weak X S S' ∧ ∀ k, k ∉ tk → S'.heap k = S.heap k := by
 unfold nilOf at h
 split at h
 ·simp only [Option.some.injEq, Prod.mk.injEq] at h
  obtain ⟨rfl, rfl⟩ := h
  exact ⟨Weak.refl S, fun _ _ => rfl⟩
 ·rename_i H
  split at h
  ·split at h
   case isFalse => cases h
   split at h
   case h_2 => cases h
   rename_i henv
   simp only [Option.some.injEq, Prod.mk.injEq] at h
   obtain ⟨rfl, rfl⟩ := h
   refine ⟨fun G a w ⟨hh1, bs, hh2, hh3⟩ => ?_, fun k hk => by simp at hk; exact upd_ne _ _ hk⟩
   obtain ⟨G', g1, g2, _⟩ := hh1.bump H.K (some (.arr H.sz [])) (fun o e => by cases e; exact ⟨_, rfl⟩)
   refine ⟨G', g2, g1, bs, ⟨hh2.size, hh2.nod, fun t ht => ?_, fun t ht => ?_⟩, hh3.mono g2⟩
   ·by_cases hts : t = H.i
    ·subst hts
     show Rep _ _ (upd S.env H.i _ H.i) _
     rw [upd_same]
     have := hh2.rep H.i ht
     rw [henv] at this
     have hv : ∀ u, Rep G w .nils u → Rep G' w (.sl H.K ((S.heap H.K).ver + 1) 0 0 H.sz) u := fun u hu => by cases hu; exact .slNil _ _ _
     exact hv _ this
    ·show Rep _ _ (upd S.env H.i _ t) _
     rw [upd_ne _ _ hts]
     exact (hh2.rep t ht).mono g2
   ·by_cases hts : t = H.i
    ·subst hts
     have := hh2.out H.i ht
     rw [henv] at this
     cases this
    ·show upd S.env H.i _ t = _
     rw [upd_ne _ _ hts]
     exact hh2.out t ht
  split at h
  ·split at h
   case h_2 => cases h
   rename_i henv
   simp only [Option.some.injEq, Prod.mk.injEq] at h
   obtain ⟨rfl, rfl⟩ := h
   refine ⟨fun G a w ⟨hh1, bs, hh2, hh3⟩ => ⟨G, Ext.refl G w, hh1, bs, ⟨hh2.size, hh2.nod, fun t ht => ?_, fun t ht => ?_⟩, hh3⟩, fun _ _ => rfl⟩
   ·by_cases hts : t = H.i
    ·subst hts
     show Rep _ _ (upd S.env H.i _ H.i) _
     rw [upd_same]
     have := hh2.rep H.i ht
     rw [henv] at this
     have hv : ∀ u, Rep G w .nils u → Rep G w (.vec H.K (S.heap H.K).ver H.sz []) u := fun u hu => by cases hu; exact .vecNil _ _ _
     exact hv _ this
    ·show Rep _ _ (upd S.env H.i _ t) _
     rw [upd_ne _ _ hts]
     exact hh2.rep t ht
   ·by_cases hts : t = H.i
    ·subst hts
     have := hh2.out H.i ht
     rw [henv] at this
     cases this
    ·show upd S.env H.i _ t = _
     rw [upd_ne _ _ hts]
     exact hh2.out t ht
  split at h
  case h_2 => cases h
  rename_i sz es hob
  split at h
  case isFalse => cases h
  rename_i hsz
  subst hsz
  split at h
  case h_2 => cases h
  rename_i hes
  simp only [Option.some.injEq, Prod.mk.injEq] at h
  obtain ⟨rfl, rfl⟩ := h
  refine ⟨fun G a w hh => ⟨G, Ext.refl G w, hh.1.reob ?_ rfl, hh.2⟩, fun k' hk' => by simp at hk'; exact upd_ne _ _ hk'⟩
  have hlt := (List.getElem?_eq_some_iff.1 hes).1
  rcases hh.1.objs H.k _ hob with ⟨rfl, _⟩ | ⟨L, hL, g1, g2, g3, g4, g6, g5⟩
  ·simp at hlt
  have hall : ∀ x ∈ es.set H.i (.vec H.K (S.heap H.K).ver H.sz []), x.lone = true := fun x hx => by
   rcases List.mem_or_eq_of_mem_set hx with hx | rfl
   ·exact g6 rfl x hx
   ·rfl
  refine .inr ⟨L, hL, g1, g2, by simpa using g3, fun x hx => by rw [AV.cells_lone (hall x hx)]; rfl, fun _ => hall, fun t c ht => ?_⟩
  rw [flat_lone hall, List.getElem?_set] at ht
  by_cases hit : H.i = t
  ·subst hit
   simp only [if_true, hlt] at ht
   cases ht
   obtain ⟨u, hu, hu1, hur⟩ := g5 H.i .nils (by rw [flat_lone (g6 rfl)]; exact hes)
   refine ⟨u, hu, hu1, ?_⟩
   cases hur
   exact .vecNil _ _ _
  ·rw [if_neg hit] at ht
   exact g5 t c (by rw [flat_lone (g6 rfl)]; exact ht)
def nilsOf : List NHint → St → Option (St × List Nat)
 | [], S => some (S, [])
 | H :: r, S => match nilOf (some H) S with
  | some a => match nilsOf r a.1 with
   | some b => some (b.1, a.2 ++ b.2)
   | none => none
  | none => none
theorem nilsOf_spec {X : Fix} : ∀ {l : List NHint} {S S' : St} {tk : List Nat}, nilsOf l S = some (S', tk) → Weak X S S' ∧ ∀ k, k ∉ tk → S'.heap k = S.heap k
 | [], S, S', tk, h => by
  simp only [nilsOf, Option.some.injEq, Prod.mk.injEq] at h
  obtain ⟨rfl, rfl⟩ := h
  exact ⟨Weak.refl S, fun _ _ => rfl⟩
 | H :: r, S, S', tk, h => by
  simp only [nilsOf] at h
  split at h
  case h_2 => cases h
  rename_i a ha
  split at h
  case h_2 => cases h
  rename_i b hb
  simp only [Option.some.injEq, Prod.mk.injEq] at h
  obtain ⟨rfl, rfl⟩ := h
  obtain ⟨a1, a2⟩ := a
  obtain ⟨b1, b2⟩ := b
  have h1 := nilOf_spec (X := X) ha
  have h2 := nilsOf_spec (X := X) hb
  exact ⟨h1.1.trans h2.1, fun k hk => by simp only [List.mem_append, not_or] at hk; exact (h2.2 k hk.2).trans (h1.2 k hk.1)⟩
theorem weak_freeze {X : Fix} {env : Nat → AV} {h : Heap} {C a n : Nat} {ces : List AV} {x : AV} {d : D} {ks : List Nat} (hCk : C ∉ ks) (hC : (h C).ob = some (.arr 1 ces)) (ha : ces[a]? = some x) (hd : d.one = true) (hv : view n h x = some (d, ks)) :
    Weak X ⟨env, h⟩ ⟨env, upd (updAll h (kill h ks)) C ⟨(h C).ver, some (.arr 1 (ces.set a (.d d)))⟩⟩ := fun G ac w ⟨hr, bs, hf, hs⟩ => by
 have hr' := hr.kill ks
 have e := Ext.froz hr ks
 have hCe : updAll h (kill h ks) C = h C := by rw [updAll_kill, if_neg hCk]
 have h0 : ∀ u, Rep G w x u → Rep (G.froz h ks) w (.d d) u := fun u hu => .d ((view_sound hr n _ _ _ _ hv hu).mono (fun b o hb => hb) (fun _ _ _ => rfl))
 -- the cell, at the elder knowledge
 have h2 : HR (G.froz h ks) X.B X.w0 X.I0 (upd (updAll h (kill h ks)) C ⟨(updAll h (kill h ks) C).ver, some (.arr 1 (ces.set a (.d d)))⟩) w := by
  refine hr'.reob ?_ rfl
  rw [hCe]
  have hlt := (List.getElem?_eq_some_iff.1 ha).1
  rcases hr.objs C _ hC with ⟨rfl, _⟩ | ⟨L, hL, g1, g2, g3, g4, g6, g5⟩
  ·simp at hlt
  have hall : ∀ e ∈ ces.set a (.d d), e.lone = true := fun e he => by
   rcases List.mem_or_eq_of_mem_set he with he | rfl
   ·exact g6 rfl e he
   ·cases d <;> first | rfl | (simp [D.one] at hd)
  refine .inr ⟨L, e.loc _ _ _ hL, g1, g2, by simpa using g3, fun e he => by rw [AV.cells_lone (hall e he)]; rfl, fun _ => hall, fun t c ht => ?_⟩
  rw [flat_lone hall, List.getElem?_set] at ht
  by_cases hit : a = t
  ·subst hit
   simp only [if_true, hlt] at ht
   cases ht
   obtain ⟨u, hu, hu1, hur⟩ := g5 a x (by rw [flat_lone (g6 rfl)]; exact ha)
   exact ⟨u, hu, hu1, h0 u hur⟩
  ·rw [if_neg hit] at ht
   obtain ⟨u, hu, hu1, hur⟩ := g5 t c (by rw [flat_lone (g6 rfl)]; exact ht)
   exact ⟨u, hu, hu1, hur.mono e⟩
 rw [hCe] at h2
 exact ⟨_, e, h2, bs, hf.mono e, hs.mono e⟩
def zOf (H : Option ZHint) (S : St) : Option (St × List Nat × Pairs) :=
 match H with
 | none => some (S, [], [])
 | some H => match (S.heap H.C).ob with
  | some (.arr sz ces) => if sz = 1 ∧ H.C ≠ H.k then match ces[H.a]? with
      | some (.sl k v off len _) => if k = H.k ∧ off = 0 then match (S.heap k).ob with
          | some (.arr _ es) => some (⟨S.env, upd (upd S.heap k ⟨(S.heap k).ver + 1, none⟩) H.C ⟨(S.heap H.C).ver, some (.arr 1 (ces.set H.a (.d (.ro H.ds))))⟩⟩, [k, H.C], [(.nat (S.heap k).ver, .nat v), (.nat len, .nat H.n), (.av (.tup es), .av (.tup H.es))])
          | _ => none
       else none
      | _ => none
   else none
  | _ => none
theorem zOf_spec {X : Fix} {H : Option ZHint} {S S' : St} {tk : List Nat} {ps : Pairs} (h : zOf H S = some (S', tk, ps)) (hs : Alike ps) : Weak X S S' ∧ ∀ k, k ∉ tk → S'.heap k = S.heap k := by
 unfold zOf at h
 split at h
 ·simp only [Option.some.injEq, Prod.mk.injEq] at h
  obtain ⟨rfl, rfl, rfl⟩ := h
  exact ⟨Weak.refl S, fun _ _ => rfl⟩
 rename_i H
 split at h
 case h_2 => cases h
 rename_i sz ces hC
 split at h
 case isFalse => cases h
 rename_i hc
 obtain ⟨rfl, hCk⟩ := hc
 split at h
 case h_2 => cases h
 rename_i k v off len z ha
 split at h
 case isFalse => cases h
 rename_i hc2
 obtain ⟨rfl, rfl⟩ := hc2
 split at h
 case h_2 => cases h
 rename_i sz' es hob
 simp only [Option.some.injEq, Prod.mk.injEq] at h
 obtain ⟨rfl, rfl, rfl⟩ := h
 have h1 := hs.head
 have h2 := hs.tail.head
 have h3 := hs.tail.tail.head
 simp only [Side.nat.injEq, Side.av.injEq, AV.tup.injEq] at h1 h2 h3
 subst h3
 have hview : view 4 S.heap (.sl H.k v 0 len z) = some (.ro H.ds, [H.k]) := by
  rw [view_sl, hob]
  simp only
  rw [if_pos ⟨h1, by rw [h2, ← H.hn]; omega⟩]
  rw [List.drop_zero, List.take_of_length_le (by rw [h2, ← H.hn]; exact Nat.le_refl _), H.hv]
  rfl
 refine ⟨weak_freeze (ks := [H.k]) (by simpa using hCk) hC ha rfl hview, fun k' hk' => ?_⟩
 simp only [List.mem_cons, List.not_mem_nil, or_false, not_or] at hk'
 exact (upd_ne _ _ hk'.2).trans (upd_ne _ _ hk'.1)
def keepOf (K : Option (List (Nat × AV))) (S : St) : St × Pairs := match K with
 | none => (S, [])
 | some l => (⟨envOf l, S.heap⟩, envPairs S.env l)
theorem keepOf_spec {X : Fix} {K : Option (List (Nat × AV))} {S : St} (hs : Alike (keepOf K S).2) : Weak X S (keepOf K S).1 ∧ (keepOf K S).1.heap = S.heap := by
 cases K with
 | none => exact ⟨Weak.refl S, rfl⟩
 | some l => exact ⟨weak_envOf (heap := S.heap) (envPairs_spec hs), rfl⟩
def weakAll0 (H : Option WHint) (N : List NHint) (K : Option (List (Nat × AV))) (S : St) : Option (St × List Nat × Pairs) :=
 match weakOf H S with
 | some a => match nilsOf N a.1 with
  | some b => some ((keepOf K b.1).1, a.2.1 ++ b.2, a.2.2 ++ (keepOf K b.1).2)
  | none => none
 | none => none
def weakAll (H : Option WHint) (N : List NHint) (K : Option (List (Nat × AV))) (Z : Option ZHint) (S : St) : Option (St × List Nat × Pairs) :=
 match weakAll0 H N K S with
 | some a => match zOf Z a.1 with
  | some b => some (b.1, a.2.1 ++ b.2.1, a.2.2 ++ b.2.2)
  | none => none
 | none => none
theorem weakAll0_spec {X : Fix} {H : Option WHint} {N : List NHint} {K : Option (List (Nat × AV))} {S S' : St} {tk : List Nat} {ps : Pairs} (h : weakAll0 H N K S = some (S', tk, ps)) (hs : Alike ps) : Weak X S S' ∧ ∀ k, k ∉ tk → S'.heap k = S.heap k := by
 unfold weakAll0 at h
 split at h
 case h_2 => cases h
 rename_i a ha
 split at h
 case h_2 => cases h
 rename_i b hb
 simp only [Option.some.injEq, Prod.mk.injEq] at h
 obtain ⟨rfl, rfl, rfl⟩ := h
 obtain ⟨a1, a2, a3⟩ := a
 obtain ⟨b1, b2⟩ := b
 have h1 := weakOf_spec (X := X) ha hs.left
 have h2 := nilsOf_spec (X := X) hb
 have h3 := keepOf_spec (X := X) hs.right
 exact ⟨(h1.1.trans h2.1).trans h3.1, fun k hk => by simp only [List.mem_append, not_or] at hk; rw [h3.2]; exact (h2.2 k hk.2).trans (h1.2 k hk.1)⟩
theorem weakAll_spec {X : Fix} {H : Option WHint} {N : List NHint} {K : Option (List (Nat × AV))} {Z : Option ZHint} {S S' : St} {tk : List Nat} {ps : Pairs} (h : weakAll H N K Z S = some (S', tk, ps)) (hs : Alike ps) : Weak X S S' ∧ ∀ k, k ∉ tk → S'.heap k = S.heap k := by
 unfold weakAll at h
 split at h
 case h_2 => cases h
 rename_i a ha
 split at h
 case h_2 => cases h
 rename_i b hb
 simp only [Option.some.injEq, Prod.mk.injEq] at h
 obtain ⟨rfl, rfl, rfl⟩ := h
 obtain ⟨a1, a2, a3⟩ := a
 obtain ⟨b1, b2, b3⟩ := b
 have h1 := weakAll0_spec (X := X) ha hs.left
 have h2 := zOf_spec (X := X) hb hs.right
 exact ⟨h1.1.trans h2.1, fun k hk => by simp only [List.mem_append, not_or] at hk; exact (h2.2 k hk.2).trans (h1.2 k hk.1)⟩
def Par.nilsAt {P : Program} (pr : Par P) (fno id : Nat) : List NHint := match pr.nils fno id with
 | some H => H :: pr.nils2 fno id
 | none => pr.nils2 fno id
abbrev ExecH := Nat → Nat → Nat → Code → St → Option (AExit × St × Nat × List Nat × Pairs)
def callDH (P : Program) (ex : ExecH) (g : Nat) (ds : List D) : Option (List D × Pairs) :=
 match P.funcs[g]? with
 | none => none
 | some fn => match fn.body with
  | none => none
  | some b => if ds.length ≤ fn.ntmps then match ex g 0 fn.ntmps b (startSt ds) with
      | some (.normal, S', _, _, ps) => (resDs P S' fn.results.toList).map fun rs => (rs, ps)
      | some (.ret, S', _, _, ps) => (resDs P S' fn.results.toList).map fun rs => (rs, ps)
      | _ => none
   else none
def callHH (P : Program) (ex : ExecH) (base : Nat) (g : Nat) (args : List AV) (h : Heap) : Option (List AV × Heap × Nat × List Nat × Pairs) :=
 match P.funcs[g]? with
 | none => none
 | some fn => match fn.body with
  | none => none
  | some b => if args.length ≤ fn.ntmps then match ex g base fn.ntmps b ⟨startE args, h⟩ with
      | some (.normal, S', b', tk, ps) => (resA P S' fn.results.toList).map fun rs => (rs, S'.heap, b', tk, ps)
      | some (.ret, S', b', tk, ps) => (resA P S' fn.results.toList).map fun rs => (rs, S'.heap, b', tk, ps)
      | _ => none
   else none
def callOnceH (P : Program) (ex : ExecH) (base : Nat) (args : List AV) (h : Heap) : Option (Heap × Nat × List Nat × Pairs) :=
 match args with
 | [a, .fn f caps] => match onceAt h a with
  | some (k, v, i, es, n, m) =>
   if n = 0 then
    if m = 0 then match callHH P ex base f caps (onceLock h k v i es) with
     | some r => match onceAt r.2.1 a with
      | some (k2, v2, i2, es2, n2, m2) => if k2 = k ∧ v2 = v ∧ i2 = i ∧ n2 = 0 ∧ m2 = 1 then some (onceDone r.2.1 k v i es2, r.2.2.1, k :: r.2.2.2.1, r.2.2.2.2) else none
      | none => none
     | none => none
    else none
   else some (h, base, [], [])
  | none => none
 | _ => none
def yieldH (ex : ExecH) (base k v : Nat) (args : List AV) (h : Heap) : Option (Bool × Heap × Nat × List Nat × Pairs) :=
 match (h k).ob with
 | some (.lp fno N env ps as bd .ready) => match putPs N (envOf env) ps.toList args with
     | some env1 => match ex fno base N as ⟨env1, h⟩ with
      | some (.normal, S1, b1, tk1, ps1) => match (S1.heap k).ob with
       | some (.lp f1 N1 e1 q1 as1 bd1 .ready) => match ex fno b1 N bd ⟨S1.env, upd S1.heap k ⟨v, some (.lp f1 N1 e1 q1 as1 bd1 .busy)⟩⟩ with
           | some r => match (r.2.1.heap k).ob, roundOut r.1 with
            | some (.lp f2 N2 e2 q2 as2 bd2 _), some q => some (q.1, upd r.2.1.heap k ⟨v, some (.lp f2 N2 e2 q2 as2 bd2 q.2)⟩, r.2.2.1, k :: (tk1 ++ r.2.2.2.1), (.nat (h k).ver, .nat v) :: (.nat (S1.heap k).ver, .nat v) :: (.nat (r.2.1.heap k).ver, .nat v) :: (ps1 ++ r.2.2.2.2))
            | _, _ => none
           | none => none
       | _ => none
      | _ => none
     | none => none
 | _ => none
def keyOf (rid i : Nat) (o : Oper) : Nat := match o.dst with
 | some d => d
 | none => 100000 + rid * 1000 + i
def callXH (P : Program) (pr : Par P) (ex : ExecH) (fno key base g : Nat) (args : List AV) (h : Heap) : Option (List AV × Heap × Nat × List Nat × Pairs) :=
 match pr.xcalls fno key with
 | some H => if g = H.g then match heapPairs h H.pre with
     | some q => some (H.rs, ovl H.post (H.rst h), base, H.post.map (·.1) ++ H.bigs, (.av (.tup args), .av (.tup H.args)) :: q)
     | none => none
  else none
 | none => callHH P ex base g args h
def stepH (P : Program) (pr : Par P) (ex : ExecH) (fno rid base N : Nat) (ops : Array Oper) (i : Nat) (o : Oper) (S : St) : Option (St × Foot × Nat × List Nat × Pairs) :=
 match wantedA ops o S.env with
 | some true => match callIn o S.env with
  | some (g, args) => match pr.calls fno (keyOf rid i o) base with
   | some H => if g = H.g then match heapPairs S.heap H.pre with
      | some q => (putA N S.env o.dst (retV H.rs)).map fun env => (⟨env, updAll S.heap H.post.reverse⟩, ⟨i, H.pre.map (·.1), H.post.reverse.map (·.1), false⟩, base, H.post.reverse.map (·.1), (.av (.tup args), .av (.tup H.args)) :: q)
      | none => none
    else none
   | none => match pr.at fno (keyOf rid i o) base with
    | some (.call g' ds rs _) =>
     if g' = g then match toDs args with
      | some ds' => (putA N S.env o.dst (retAV rs)).map fun env => (⟨env, S.heap⟩, ⟨i, [], [], false⟩, base, [], [(.ds ds', .ds ds)])
      | none => match view.go 12 S.heap args with
       | some r => if rs.all D.scal = true then (putA N S.env o.dst (retAV rs)).map fun env => (⟨env, S.heap⟩, ⟨i, r.2, [], false⟩, base, [], [(.ds r.1, .ds ds)]) else none
       | none => none
     else none
    | _ => if isOnce g = true then match callOnceH P ex base args S.heap with
        | some r => (putA N S.env o.dst (.tup [])).map fun env => (⟨env, r.1⟩, ⟨i, [], r.2.2.1, true⟩, r.2.1, r.2.2.1, r.2.2.2)
        | none => none
     else match (if pr.hp g = true then none else toDs args) with
     | some ds => match callDH P ex g ds with
      | some r => (putA N S.env o.dst (retAV r.1)).map fun env => (⟨env, S.heap⟩, ⟨i, [], [], false⟩, base, [], r.2)
      | none => none
     | none => match callXH P pr ex fno (keyOf rid i o) base g args S.heap with
      | some r => (putA N S.env o.dst (retV r.1)).map fun env => (⟨env, r.2.1⟩, ⟨i, [], r.2.2.2.1, true⟩, r.2.2.1, r.2.2.2.1, r.2.2.2.2)
      | none => none
  | none => match yldOf o S.env with
   | some y => match yieldH ex base y.1 y.2.1 y.2.2 S.heap with
    | some r => (putA N S.env o.dst (.d (.bool r.1))).map fun env => (⟨env, r.2.1⟩, ⟨i, [], r.2.2.2.1, true⟩, r.2.2.1, r.2.2.2.1, r.2.2.2.2)
    | none => none
   | none => match coreH P (pr.at fno (keyOf rid i o) base) { obm := fun _ => pr.obm fno (o.dst.getD 0), base := fun _ => base } i o (opd S.env) S.heap with
   | some q => match q.1.ob with
    | [] => (putA N S.env o.dst q.1.val).map fun env => (⟨env, updAll S.heap q.1.wr⟩, ⟨i, q.1.rd, q.1.wr.map (·.1), false⟩, base + N, q.1.wr.map (·.1), q.2)
    | _ => none
   | none => none
 | some false => (putA N S.env o.dst (.tup [])).map fun env => (⟨env, S.heap⟩, ⟨i, [], [], false⟩, base, [], [])
 | none => none
def opsH (P : Program) (pr : Par P) (ex : ExecH) (fno rid N : Nat) (ops : Array Oper) : List Oper → Nat → Nat → St → Option (St × List Foot × Nat × List Nat × Pairs)
 | [], _, base, S => some (S, [], base, [], [])
 | o :: r, i, base, S => match stepH P pr ex fno rid base N ops i o S with
  | none => none
  | some a => match opsH P pr ex fno rid N ops r (i + 1) a.2.2.1 a.1 with
   | none => none
   | some b => some (b.1, a.2.1 :: b.2.1, b.2.2.1, a.2.2.2.1 ++ b.2.2.2.1, a.2.2.2.2 ++ b.2.2.2.2)
def execH (P : Program) (pr : Par P) : Nat → ExecH
 | 0, _, _, _, _, _ => none
 | n + 1, fno, base, N, c, S =>
  match c with
  | .region id ops draw => match weakAll (pr.weaks fno id) (pr.nilsAt fno id) (pr.keeps fno id) (pr.frz fno id) S with
   | some wk => match opsH P pr (execH P pr n) fno id N ops ops.toList 0 base wk.1 with
    | some r => match draw with
     | false => some (.normal, r.1, r.2.2.1, wk.2.1 ++ r.2.2.2.1, wk.2.2 ++ r.2.2.2.2)
     | true => match lexOk ops r.2.1 with
      | true => some (.normal, r.1, r.2.2.1, wk.2.1 ++ r.2.2.2.1, wk.2.2 ++ r.2.2.2.2)
      | false => none
    | none => none
   | none => none
  | .seq x y => match pr.seqs fno (firstReg x) with
   | some H => if H.N = N then match heapPairs S.heap (H.hp S.heap) with
       | some q => some (H.e, ⟨envOf H.l', ovl (H.hp' S.heap) S.heap⟩, base, (H.hp' S.heap).map (·.1), (.code (.seq x y), .code H.x) :: (envPairs S.env H.l ++ q))
       | none => none
    else none
   | none => match execH P pr n fno base N x S with
    | some (.normal, S', b', tk, ps) => match execH P pr n fno b' N y S' with
     | some (e, S2, b2, tk2, ps2) => some (e, S2, b2, tk ++ tk2, ps ++ ps2)
     | none => none
    | r => r
  | .block id x => match execH P pr n fno base N x S with
   | some (.exit i, S', b', tk, ps) => if i = id then some (.normal, S', b', tk, ps) else some (.exit i, S', b', tk, ps)
   | r => r
  | .loop x => match pr.loops fno (firstReg x) with
   | some H => if H.N = N then match heapPairs S.heap (H.hp S.heap) with
       | some q => some (H.e, ⟨envOf H.l', ovl (H.hp' S.heap) S.heap⟩, base, (H.hp' S.heap).map (·.1), (.code x, .code H.x) :: (envPairs S.env H.l ++ q))
       | none => none
    else none
   | none => match execH P pr n fno base N x S with
    | some (.normal, S', b', tk, ps) => match execH P pr n fno b' N (.loop x) S' with
     | some (e, S2, b2, tk2, ps2) => some (e, S2, b2, tk ++ tk2, ps ++ ps2)
     | none => none
    | r => r
  | .skip => some (.normal, S, base, [], [])
  | .exit i => some (.exit i, S, base, [], [])
  | .ret => some (.ret, S, base, [], [])
  | .cond c x y => match opd S.env c with
   | .d (.bool b) => match b with
    | true => execH P pr n fno base N x S
    | false => execH P pr n fno base N y S
   | _ => none
  | .rangeFunc g ps as bd => match opd S.env g with
   | .fn gf caps => match callHH P (execH P pr n) (base + N) gf (.yld base ((S.heap base).ver + 1) :: caps) (upd S.heap base ⟨(S.heap base).ver + 1, some (.lp fno N (envL N S.env) ps as bd .ready)⟩) with
    | some r => match (r.2.1 base).ob with
     | some (.lp _ _ _ _ _ _ st) => match endE st with
      | some e => some (e, ⟨S.env, upd r.2.1 base ⟨(r.2.1 base).ver, none⟩⟩, r.2.2.1, base :: r.2.2.2.1, (.nat (r.2.1 base).ver, .nat ((S.heap base).ver + 1)) :: r.2.2.2.2)
      | none => none
     | _ => none
    | none => none
   | _ => none
  | _ => none
end Go.Avm
namespace Go.Avm
open Go.RowKit
variable [GlobTab]
def RightH (P : Program) (ex : ExecH) : Prop := ∀ fno base N c S e S' b' tk ps, ex fno base N c S = some (e, S', b', tk, ps) → Alike ps →
 (∀ X : Fix, X.P = P → X.N = N → AW X c S fun e' S'' => e' = e ∧ S'' = S') ∧ ∀ k, k ∉ tk → S'.heap k = S.heap k
section
variable {P : Program} {pr : Par P}
theorem callDH_sound (hm : OkP P) (hn : Named P) {ex : ExecH} (hex : RightH P ex) {g : Nat} {ds rs : List D} {ps : Pairs} (h : callDH P ex g ds = some (rs, ps)) (hs : Alike ps) : Pure P g ds rs := by
 unfold callDH at h
 split at h
 ·cases h
 ·rename_i fn hf
  split at h
  ·cases h
  ·rename_i b hb
   split at h
   ·rename_i hl
    refine pure_of_aw hm hf hb (hn.1 g fn hf) hl (fun X hP hN => ?_)
    split at h
    ·rename_i S' b' tk ps' he
     simp only [Option.map_eq_some_iff, Prod.mk.injEq] at h
     obtain ⟨rs', hr, rfl, rfl⟩ := h
     refine ((hex _ _ _ _ _ _ _ _ _ _ he hs).1 X hP hN).mono ?_
     rintro e S'' ⟨rfl, rfl⟩
     exact ⟨.inl rfl, hr⟩
    ·rename_i S' b' tk ps' he
     simp only [Option.map_eq_some_iff, Prod.mk.injEq] at h
     obtain ⟨rs', hr, rfl, rfl⟩ := h
     refine ((hex _ _ _ _ _ _ _ _ _ _ he hs).1 X hP hN).mono ?_
     rintro e S'' ⟨rfl, rfl⟩
     exact ⟨.inr rfl, hr⟩
    ·cases h
   ·cases h
theorem callHH_sound (hm : OkP P) (hn : Named P) {ex : ExecH} (hex : RightH P ex) {base g : Nat} {args rs : List AV} {h h' : Heap} {b2 : Nat} {tk : List Nat} {ps : Pairs} (hc : callHH P ex base g args h = some (rs, h', b2, tk, ps)) (hs : Alike ps) :
    HCall P g args h rs h' ∧ ∀ k, k ∉ tk → h' k = h k := by
 unfold callHH at hc
 split at hc
 ·cases hc
 ·rename_i fn hf
  split at hc
  ·cases hc
  ·rename_i b hb
   split at hc
   ·rename_i hl
    split at hc
    ·rename_i S' b' tk' ps' he
     simp only [Option.map_eq_some_iff, Prod.mk.injEq] at hc
     obtain ⟨rs', h1, rfl, rfl, rfl, rfl, rfl⟩ := hc
     have hr := hex _ _ _ _ _ _ _ _ _ _ he hs
     refine ⟨hcall_of_aw hm hf hb (hn.1 g fn hf) hl (fun X hP hN => ?_), hr.2⟩
     refine (hr.1 X hP hN).mono ?_
     rintro e S'' ⟨rfl, rfl⟩
     exact ⟨.inl rfl, h1, rfl⟩
    ·rename_i S' b' tk' ps' he
     simp only [Option.map_eq_some_iff, Prod.mk.injEq] at hc
     obtain ⟨rs', h1, rfl, rfl, rfl, rfl, rfl⟩ := hc
     have hr := hex _ _ _ _ _ _ _ _ _ _ he hs
     refine ⟨hcall_of_aw hm hf hb (hn.1 g fn hf) hl (fun X hP hN => ?_), hr.2⟩
     refine (hr.1 X hP hN).mono ?_
     rintro e S'' ⟨rfl, rfl⟩
     exact ⟨.inr rfl, h1, rfl⟩
    ·cases hc
   ·cases hc
theorem callXH_sound (hm : OkP P) (hn : Named P) {ex : ExecH} (hex : RightH P ex) {fno key base g : Nat} {args rs : List AV} {h h' : Heap} {b2 : Nat} {tk : List Nat} {ps : Pairs} (hc : callXH P pr ex fno key base g args h = some (rs, h', b2, tk, ps)) (hs : Alike ps) :
    HCall P g args h rs h' ∧ ∀ k, k ∉ tk → h' k = h k := by
 unfold callXH at hc
 split at hc
 ·rename_i H _
  split at hc
  case isFalse => cases hc
  rename_i hg
  split at hc
  case h_2 => cases hc
  rename_i q hq
  simp only [Option.some.injEq, Prod.mk.injEq] at hc
  obtain ⟨rfl, rfl, _, rfl, rfl⟩ := hc
  have h1 := hs.head
  simp only [Side.av.injEq, AV.tup.injEq] at h1
  subst h1
  subst hg
  refine ⟨H.proof h (heapPairs_spec hq hs.tail), fun k hk => ?_⟩
  simp only [List.mem_append, not_or] at hk
  rw [ovl_ne _ _ hk.1, H.hrst h k hk.2]
 ·exact callHH_sound hm hn hex hc hs
theorem callOnceH_sound (hm : OkP P) (hn : Named P) {ex : ExecH} (hex : RightH P ex) {base g : Nat} {args : List AV} {h h' : Heap} {b2 : Nat} {tk : List Nat} {ps : Pairs} (hg : isOnce g = true) (hc : callOnceH P ex base args h = some (h', b2, tk, ps)) (hs : Alike ps) :
    HCall P g args h [] h' ∧ ∀ k, k ∉ tk → h' k = h k := by
 have hok := hn.2 g (isOnce_spec hg)
 unfold callOnceH at hc
 split at hc
 case h_2 => cases hc
 rename_i a f caps
 split at hc
 case h_2 => cases hc
 rename_i k v i es n m ha
 obtain ⟨o1, o2⟩ := hok h a f caps k v i es n m ha
 split at hc
 ·rename_i hn0
  split at hc
  ·rename_i hm0
   split at hc
   ·rename_i r hr
    split at hc
    ·rename_i k2 v2 i2 es2 n2 m2 ha2
     split at hc
     ·rename_i hcc
      obtain ⟨rfl, rfl, rfl, rfl, rfl⟩ := hcc
      simp only [Option.some.injEq, Prod.mk.injEq] at hc
      obtain ⟨rfl, rfl, rfl, rfl⟩ := hc
      obtain ⟨r1, r2, r3, r4, r5⟩ := r
      obtain ⟨g1, g2⟩ := callHH_sound hm hn hex hr hs
      refine ⟨o2 hn0 hm0 r1 r2 es2 g1 ha2, fun k' hk' => ?_⟩
      simp only [List.mem_cons, not_or] at hk'
      exact (upd_ne _ _ hk'.1).trans ((g2 k' hk'.2).trans (upd_ne _ _ hk'.1))
     ·cases hc
    ·cases hc
   ·cases hc
  ·cases hc
 ·rename_i hn0
  simp only [Option.some.injEq, Prod.mk.injEq] at hc
  obtain ⟨rfl, rfl, rfl, rfl⟩ := hc
  exact ⟨o1 hn0, fun _ _ => rfl⟩
theorem yieldH_sound (hm : OkP P) {ex : ExecH} (hex : RightH P ex) {base k v : Nat} {args : List AV} {h : Heap} {r : Bool × Heap × Nat × List Nat × Pairs} (hy : yieldH ex base k v args h = some r) (hs : Alike r.2.2.2.2) :
    YCall P k v args h [.d (.bool r.1)] r.2.1 ∧ ∀ k', k' ∉ r.2.2.2.1 → r.2.1 k' = h k' := by
 unfold yieldH at hy
 split at hy
 case h_2 => cases hy
 rename_i fno N env ps as bd hob
 split at hy
 case h_2 => cases hy
 rename_i env1 henv
 split at hy
 case h_2 => cases hy
 rename_i S1 b1 tk1 ps1 h1
 split at hy
 case h_2 => cases hy
 rename_i f1 N1 e1 q1 as1 bd1 hob1
 split at hy
 case h_2 => cases hy
 rename_i q hq
 obtain ⟨e, S2, b2, tk2, ps2⟩ := q
 split at hy
 case h_2 => cases hy
 rename_i f2 N2 e2 q2 as2 bd2 st2 z hob2 hz
 simp only [Option.some.injEq] at hy
 subst hy
 have g1 := hs.head
 have g2 := hs.tail.head
 have g3 := hs.tail.tail.head
 simp only [Side.nat.injEq] at g1 g2 g3
 have a1 := hex _ _ _ _ _ _ _ _ _ _ h1 hs.tail.tail.tail.left
 have a2 := hex _ _ _ _ _ _ _ _ _ _ hq hs.tail.tail.tail.right
 refine ⟨ycall_of_aw hm g1 hob henv (fun X hP hN => a1.1 X hP hN) g2 hob1 (fun X hP hN => a2.1 X hP hN) g3 hob2 hz, fun k' hk' => ?_⟩
 simp only [List.mem_cons, List.mem_append, not_or] at hk'
 exact (upd_ne _ _ hk'.1).trans ((a2.2 k' hk'.2.2).trans ((upd_ne _ _ hk'.1).trans (a1.2 k' hk'.2.1)))
theorem stepA_call {cfg : Cfg} {N i : Nat} {ops : Array Oper} {o : Oper} {S : St} {env : Nat → AV} {g : Nat} {args : List AV} {out : Out} (hw : wantedA ops o S.env = some true) (hco : callOf o S.env = some (g, args)) (hext : GlobTab.ext g = none) (hhc : cfg.hc i = none)
    (ho : opCall cfg i g args S.heap = some out) (hwr : out.wr = []) (hpt : putA N S.env o.dst out.val = some env) : stepA P cfg N ops i o S = some (⟨env, S.heap⟩, out.ob.map .data, ⟨i, out.rd, [], false⟩) := by
 unfold stepA
 rw [hw]
 simp only [hhc]
 have hcore : core P cfg i o (opd S.env) S.heap = some out := by
  unfold callOf at hco
  split at hco
  ·rename_i c hop
   split at hco
   ·rename_i f hcal
    split at hco
    ·rename_i g' caps hf
     simp only [Option.some.injEq, Prod.mk.injEq] at hco
     obtain ⟨rfl, rfl⟩ := hco
     simp only [core, hop, coreCall, hcal, hf, hext, ho]
    ·cases hco
   ·cases hco
  ·cases hco
 simp only [hcore, hpt, Option.map_some, hwr, updAll, List.map_nil]
theorem stepH_step (hm : OkP P) (hn : Named P) {ex : ExecH} (hex : RightH P ex) {fno rid base N i : Nat} {ops : Array Oper} {o : Oper} {S S' : St} {ft : Foot} {b2 : Nat} {tk : List Nat} {ps : Pairs}
    (h : stepH P pr ex fno rid base N ops i o S = some (S', ft, b2, tk, ps)) (hs : Alike ps) :
    (∃ r : CallRes, ∀ cfg : Cfg, cfg.ret i = r.ret → cfg.hc i = r.hc → cfg.obm i = pr.obm fno (o.dst.getD 0) → cfg.base i = r.base → ∃ ob, stepA P cfg N ops i o S = some (S', ob, ft) ∧ Obls P ob) ∧ ∀ k, k ∉ tk → S'.heap k = S.heap k := by
 unfold stepH at h
 split at h
 ·rename_i hw
  split at h
  ·rename_i g args hci
   obtain ⟨hco, hext⟩ := callIn_some hci
   split at h
   ·rename_i H hH
    split at h
    case isFalse => cases h
    rename_i hg
    split at h
    case h_2 => cases h
    rename_i q hq
    simp only [Option.map_eq_some_iff, Prod.mk.injEq] at h
    obtain ⟨env, hpt, rfl, rfl, rfl, rfl, rfl⟩ := h
    have h1 := hs.head
    simp only [Side.av.injEq, AV.tup.injEq] at h1
    subst h1
    have hfits : Fits S.heap H.pre := heapPairs_spec hq hs.tail
    refine ⟨⟨⟨[], some (.frame H.pre H.rs H.post), base⟩, fun cfg h1 h2 h3 h4 => ⟨[.frame g H.args H.pre H.rs H.post], ?_, ?_⟩⟩, fun k hk => updAll_ne _ _ hk⟩
    ·unfold stepA
     rw [hw]
     simp only [h2, hco, hpt, Option.map_some]
     rw [if_pos hfits]
    ·intro c hc
     simp only [List.mem_singleton] at hc
     subst hc
     show ∀ h, Fits h H.pre → HCall P g H.args h H.rs (ovl H.post h)
     rw [hg]
     exact H.proof
   split at h
   ·rename_i g' ds rs hp hhint
    split at h
    ·rename_i hg
     subst hg
     split at h
     ·rename_i ds' hds
      simp only [Option.map_eq_some_iff, Prod.mk.injEq] at h
      obtain ⟨env, hpt, rfl, rfl, rfl, rfl, rfl⟩ := h
      have h1 := hs.head
      simp only [Side.ds.injEq] at h1
      subst h1
      refine ⟨⟨⟨rs, none, base⟩, fun cfg h1 h2 h3 h4 => ⟨[.data (g', ds', rs)], ?_, ?_⟩⟩, fun _ _ => rfl⟩
      ·have ho : opCall cfg i g' args S.heap = some { val := retAV rs, ob := [(g', ds', rs)] } := by simp only [opCall, hds, h1]
       exact stepA_call hw hco hext h2 ho rfl hpt
      ·intro c hc
       simp only [List.mem_singleton] at hc
       subst hc
       exact hp
     ·rename_i hds
      split at h
      ·rename_i r hv
       split at h
       ·rename_i hsc
        simp only [Option.map_eq_some_iff, Prod.mk.injEq] at h
        obtain ⟨env, hpt, rfl, rfl, rfl, rfl, rfl⟩ := h
        have h1 := hs.head
        simp only [Side.ds.injEq] at h1
        subst h1
        refine ⟨⟨⟨rs, none, base⟩, fun cfg h1 h2 h3 h4 => ⟨[.data (g', r.1, rs)], ?_, ?_⟩⟩, fun _ _ => rfl⟩
        ·have ho : opCall cfg i g' args S.heap = some { val := retAV rs, rd := r.2, ob := [(g', r.1, rs)] } := by
           simp only [opCall, hds, hv, h1]
           rw [if_pos hsc]
         exact stepA_call hw hco hext h2 ho rfl hpt
        ·intro c hc
         simp only [List.mem_singleton] at hc
         subst hc
         exact hp
       ·cases h
      ·cases h
    ·cases h
   ·split at h
    ·rename_i hone
     split at h
     ·rename_i r hr
      simp only [Option.map_eq_some_iff, Prod.mk.injEq] at h
      obtain ⟨env, hpt, rfl, rfl, rfl, rfl, rfl⟩ := h
      obtain ⟨r1, r2, r3, r4⟩ := r
      have hcs := callOnceH_sound hm hn hex hone hr hs
      refine ⟨⟨⟨[], some (.heap [] r1 r3), base⟩, fun cfg h1 h2 h3 h4 => ⟨[.heap g args S.heap [] r1], ?_, ?_⟩⟩, hcs.2⟩
      ·unfold stepA
       rw [hw]
       simp only [h2, hco, retV, hpt, Option.map_some]
       rw [if_pos hcs.2]
      ·intro c hc
       simp only [List.mem_singleton] at hc
       subst hc
       exact hcs.1
     ·cases h
    split at h
    ·rename_i ds hds
     split at h
     ·rename_i r hr
      simp only [Option.map_eq_some_iff, Prod.mk.injEq] at h
      obtain ⟨env, hpt, rfl, rfl, rfl, rfl, rfl⟩ := h
      have htd : toDs args = some ds := by
       split at hds
       ·cases hds
       ·exact hds
      refine ⟨⟨⟨r.1, none, base⟩, fun cfg h1 h2 h3 h4 => ⟨[.data (g, ds, r.1)], ?_, ?_⟩⟩, fun _ _ => rfl⟩
      ·have ho : opCall cfg i g args S.heap = some { val := retAV r.1, ob := [(g, ds, r.1)] } := by simp only [opCall, htd, h1]
       exact stepA_call hw hco hext h2 ho rfl hpt
      ·intro c hc
       simp only [List.mem_singleton] at hc
       subst hc
       exact callDH_sound hm hn hex hr hs
     ·cases h
    ·split at h
     ·rename_i r hr
      simp only [Option.map_eq_some_iff, Prod.mk.injEq] at h
      obtain ⟨env, hpt, rfl, rfl, rfl, rfl, rfl⟩ := h
      obtain ⟨r1, r2, r3, r4, r5⟩ := r
      have hcs := callXH_sound hm hn hex hr hs
      refine ⟨⟨⟨[], some (.heap r1 r2 r4), base⟩, fun cfg h1 h2 h3 h4 => ⟨[.heap g args S.heap r1 r2], ?_, ?_⟩⟩, hcs.2⟩
      ·unfold stepA
       rw [hw]
       simp only [h2, hco, hpt, Option.map_some]
       rw [if_pos hcs.2]
      ·intro c hc
       simp only [List.mem_singleton] at hc
       subst hc
       exact hcs.1
     ·cases h
  ·split at h
   ·rename_i y hyl
    split at h
    ·rename_i r hr
     simp only [Option.map_eq_some_iff, Prod.mk.injEq] at h
     obtain ⟨env, hpt, rfl, rfl, rfl, rfl, rfl⟩ := h
     obtain ⟨k, v, args⟩ := y
     have hcs := yieldH_sound hm hex hr hs
     refine ⟨⟨⟨[], some (.heap [.d (.bool r.1)] r.2.1 r.2.2.2.1), base⟩, fun cfg h1 h2 h3 h4 => ⟨[.yield k v args S.heap [.d (.bool r.1)] r.2.1], ?_, ?_⟩⟩, hcs.2⟩
     ·unfold stepA
      rw [hw]
      simp only [h2, yldOf_callOf hyl, hyl, retV, hpt, Option.map_some]
      rw [if_pos hcs.2]
     ·intro c hc
      simp only [List.mem_singleton] at hc
      subst hc
      exact hcs.1
    ·cases h
   split at h
   ·rename_i q hq
    split at h
    case h_2 => cases h
    rename_i hnob
    simp only [Option.map_eq_some_iff, Prod.mk.injEq] at h
    obtain ⟨env, hpt, rfl, rfl, rfl, rfl, rfl⟩ := h
    have hcore := coreH_spec hq hs
    refine ⟨⟨⟨[], none, base⟩, fun cfg h1 h2 h3 h4 => ⟨q.1.ob.map .data, ?_, ?_⟩⟩, fun k hk => updAll_ne _ _ hk⟩
    ·unfold stepA
     rw [hw]
     simp only [h2]
     rw [core_cfg (cfg' := cfg) (cfg := { obm := fun _ => pr.obm fno (o.dst.getD 0), base := fun _ => base }) h1 h3 h4, hcore]
     simp only [hpt, Option.map_some]
    ·rw [hnob]
     intro c hc
     cases hc
   ·cases h
 ·rename_i hw
  simp only [Option.map_eq_some_iff, Prod.mk.injEq] at h
  obtain ⟨env, hpt, rfl, rfl, rfl, rfl, rfl⟩ := h
  refine ⟨⟨⟨[], none, base⟩, fun cfg h1 h2 h3 h4 => ⟨[], ?_, fun c hc => by cases hc⟩⟩, fun _ _ => rfl⟩
  unfold stepA
  rw [hw]
  simp only [hpt, Option.map_some]
 ·cases h
theorem opsH_run (hm : OkP P) (hn : Named P) {ex : ExecH} (hex : RightH P ex) {fno rid N : Nat} {ops : Array Oper} : ∀ (l : List Oper) (k base : Nat) (S S' : St) (fts : List Foot) (b2 : Nat) (tk : List Nat) (ps : Pairs), (∀ j, l[j]? = ops[k + j]?) →
    opsH P pr ex fno rid N ops l k base S = some (S', fts, b2, tk, ps) → Alike ps →
    (∃ T : Nat → CallRes, ∀ cfg : Cfg, (∀ j, k ≤ j → cfg.ret j = (T j).ret ∧ cfg.hc j = (T j).hc ∧ cfg.base j = (T j).base) → (∀ j, cfg.obm j = pr.obm fno (((ops[j]?).bind (·.dst)).getD 0)) →
     ∃ ob, runA P cfg N ops (List.range' k l.length) S = some (S', ob, fts) ∧ Obls P ob) ∧ ∀ k, k ∉ tk → S'.heap k = S.heap k
 | [], k, base, S, S', fts, b2, tk, ps, _, h, _ => by
  simp only [opsH, Option.some.injEq, Prod.mk.injEq] at h
  obtain ⟨rfl, rfl, _⟩ := h
  exact ⟨⟨fun _ => ⟨[], none, 0⟩, fun cfg _ _ => ⟨[], rfl, fun c hc => by cases hc⟩⟩, fun _ _ => rfl⟩
 | o :: r, k, base, S, S', fts, b2, tk, ps, hl, h, hs => by
  have ho : ops[k]? = some o := by simpa using (hl 0).symm
  simp only [opsH] at h
  split at h
  ·cases h
  ·rename_i a ha
   split at h
   ·cases h
   ·rename_i b hb
    simp only [Option.some.injEq, Prod.mk.injEq] at h
    obtain ⟨rfl, rfl, rfl, rfl, rfl⟩ := h
    obtain ⟨a1, a2, a3, a4, a5⟩ := a
    obtain ⟨b1, bf, b3, b4, b5⟩ := b
    obtain ⟨⟨rk, hk⟩, hk2⟩ := stepH_step hm hn hex ha hs.left
    obtain ⟨⟨T, hT⟩, hT2⟩ := opsH_run hm hn hex r (k + 1) a3 a1 b1 bf b3 b4 b5 (fun j => by have := hl (j + 1); simpa [Nat.add_assoc, Nat.add_comm 1 j] using this) hb hs.right
    refine ⟨⟨fun j => if j = k then rk else T j, fun cfg h1 h2 => ?_⟩, fun s hk' => ?_⟩
    ·have hkk := h1 k (Nat.le_refl k)
     simp only [if_true] at hkk
     obtain ⟨ob1, e1, o1⟩ := hk cfg hkk.1 hkk.2.1 (by rw [h2 k, ho]; rfl) hkk.2.2
     obtain ⟨ob2, e2, o2⟩ := hT cfg (fun j hj => by have := h1 j (by omega); simp only [if_neg (show ¬ j = k by omega)] at this; exact this) h2
     refine ⟨ob1 ++ ob2, ?_, fun c hc => (List.mem_append.1 hc).elim (o1 c) (o2 c)⟩
     simp only [List.length_cons, List.range'_succ, runA, ho, e1, e2]
    ·simp only [List.mem_append, not_or] at hk'
     exact (hT2 s hk'.2).trans (hk2 s hk'.1)
def RightL2 (P : Program) (pr : Par P) (ex : ExecH) : Prop := ∀ fno base N c S e S' b' tk ps, pr.loops fno (firstReg c) = none → ex fno base N (.loop c) S = some (e, S', b', tk, ps) → Alike ps →
 (∀ X : Fix, X.P = P → X.N = N → LW X c S fun e' S'' => e' = e ∧ S'' = S') ∧ ∀ k, k ∉ tk → S'.heap k = S.heap k
theorem loopH_right {n : Nat} (ih : RightH P (execH P pr n)) (ihl : RightL2 P pr (execH P pr n)) : RightL2 P pr (execH P pr (n + 1)) := fun fno base N x S e S' b' tk ps hno h hs => by
 simp only [execH] at h
 split at h
 ·rename_i H hH; rw [hno] at hH; cases hH
 ·split at h
  ·rename_i S1 b1 tk1 ps1 h1
   split at h
   ·rename_i e2 S2 b2 tk2 ps2 h2
    simp only [Option.some.injEq, Prod.mk.injEq] at h
    obtain ⟨rfl, rfl, rfl, rfl, rfl⟩ := h
    have a1 := ih _ _ _ _ _ _ _ _ _ _ h1 hs.left
    have a2 := ihl _ _ _ _ _ _ _ _ _ _ hno h2 hs.right
    refine ⟨fun X hP hN => lw_round ((a1.1 X hP hN).mono ?_), fun k hk => ?_⟩
    ·rintro e1 S3 ⟨rfl, rfl⟩
     exact a2.1 X hP hN
    ·simp only [List.mem_append, not_or] at hk
     exact (a2.2 k hk.2).trans (a1.2 k hk.1)
   ·cases h
  ·rename_i hnn
   have a1 := ih _ _ _ _ _ _ _ _ _ _ h hs
   refine ⟨fun X hP hN => lw_round ((a1.1 X hP hN).mono ?_), a1.2⟩
   rintro e1 S2 ⟨rfl, rfl⟩
   cases e1 with
   | normal => exact absurd h (hnn S2 _ _ _)
   | _ => exact ⟨rfl, rfl⟩
theorem execH_right2 (hm : OkP P) (hn : Named P) : ∀ n, RightH P (execH P pr n) ∧ RightL2 P pr (execH P pr n)
 | 0 => ⟨fun fno base N c S e S' b' tk ps h _ => by simp [execH] at h, fun fno base N c S e S' b' tk ps _ h _ => by simp [execH] at h⟩
 | n + 1 => by
  obtain ⟨ih, ihl⟩ := execH_right2 hm hn n
  have hl := loopH_right ih ihl
  refine ⟨fun fno base N c S e S' b' tk ps h hs => ?_, hl⟩
  cases c with
  | region id ops draw =>
   simp only [execH] at h
   split at h
   ·rename_i wk hwk
    obtain ⟨W1, wtk, wps⟩ := wk
    split at h
    ·rename_i r hr
     obtain ⟨S1, fts, b1, tk1, ps1⟩ := r
     have hsplit : Alike wps ∧ Alike ps1 ∧ S' = S1 ∧ e = .normal ∧ tk = wtk ++ tk1 ∧ (draw = false ∨ lexOk ops fts = true) := by
      split at h
      ·simp only [Option.some.injEq, Prod.mk.injEq] at h
       obtain ⟨rfl, rfl, _, rfl, rfl⟩ := h
       exact ⟨hs.left, hs.right, rfl, rfl, rfl, .inl rfl⟩
      ·split at h
       ·rename_i hlex
        simp only [Option.some.injEq, Prod.mk.injEq] at h
        obtain ⟨rfl, rfl, _, rfl, rfl⟩ := h
        exact ⟨hs.left, hs.right, rfl, rfl, rfl, .inr hlex⟩
       ·cases h
     obtain ⟨hs1, hs2, rfl, rfl, rfl, hd⟩ := hsplit
     obtain ⟨⟨T, hT⟩, hT2⟩ := opsH_run hm hn ih ops.toList 0 base W1 S' fts b1 tk1 ps1 (fun j => by simp) hr hs2
     refine ⟨fun X hP hN => ?_, fun k hk => ?_⟩
     ·obtain ⟨ob, hrun, hob⟩ := hT { ret := fun j => (T j).ret, hc := fun j => (T j).hc, obm := fun j => pr.obm fno (((ops[j]?).bind (·.dst)).getD 0), base := fun j => (T j).base } (fun j _ => ⟨rfl, rfl, rfl⟩) (fun j => rfl)
      rw [Array.length_toList, ← List.range_eq_range'] at hrun
      subst hP; subst hN
      refine AW.weak (weakAll_spec hwk hs1).1 ?_
      cases draw with
      | false => exact aw_region hrun hob ⟨rfl, rfl⟩
      | true => exact aw_region_any hrun (hd.resolve_left (by simp)) hob ⟨rfl, rfl⟩
     ·simp only [List.mem_append, not_or] at hk
      exact (hT2 k hk.2).trans ((weakAll_spec (X := ⟨P, 0, default, fun _ _ => False, 0, hm, none, 0, []⟩) hwk hs1).2 k hk.1)
    ·cases h
   ·cases h
  | seq x y =>
   simp only [execH] at h
   split at h
   ·rename_i H hH
    split at h
    ·rename_i hN0
     split at h
     ·rename_i q hq
      simp only [Option.some.injEq, Prod.mk.injEq] at h
      obtain ⟨rfl, rfl, _, rfl, rfl⟩ := h
      have hc := hs.head
      simp only [Side.code.injEq] at hc
      have h1 := hs.tail.left
      have h2 := hs.tail.right
      refine ⟨fun X hP hN => ?_, fun k hk => ovl_ne _ _ hk⟩
      rw [hc]
      exact AW.weak (weak_to h1 hq h2) (H.proof S.heap X hP (by rw [hN, hN0]))
     ·cases h
    ·cases h
   split at h
   ·rename_i S1 b1 tk1 ps1 h1
    split at h
    ·rename_i e2 S2 b2 tk2 ps2 h2
     simp only [Option.some.injEq, Prod.mk.injEq] at h
     obtain ⟨rfl, rfl, rfl, rfl, rfl⟩ := h
     have a1 := ih _ _ _ _ _ _ _ _ _ _ h1 hs.left
     have a2 := ih _ _ _ _ _ _ _ _ _ _ h2 hs.right
     refine ⟨fun X hP hN => aw_seq ((a1.1 X hP hN).mono ?_), fun k hk => ?_⟩
     ·rintro e1 S3 ⟨rfl, rfl⟩
      exact a2.1 X hP hN
     ·simp only [List.mem_append, not_or] at hk
      exact (a2.2 k hk.2).trans (a1.2 k hk.1)
    ·cases h
   ·rename_i hnn
    have a1 := ih _ _ _ _ _ _ _ _ _ _ h hs
    refine ⟨fun X hP hN => aw_seq ((a1.1 X hP hN).mono ?_), a1.2⟩
    rintro e1 S2 ⟨rfl, rfl⟩
    cases e1 with
    | normal => exact absurd h (hnn S2 _ _ _)
    | _ => exact ⟨rfl, rfl⟩
  | block id x =>
   simp only [execH] at h
   split at h
   ·rename_i i S1 b1 tk1 ps1 h1
    have hh : S' = S1 ∧ tk = tk1 ∧ ps = ps1 ∧ e = (if i = id then .normal else .exit i) := by
     split at h
     ·rename_i hi; rw [if_pos hi]; simp only [Option.some.injEq, Prod.mk.injEq] at h; obtain ⟨rfl, rfl, _, rfl, rfl⟩ := h; exact ⟨rfl, rfl, rfl, rfl⟩
     ·rename_i hi; rw [if_neg hi]; simp only [Option.some.injEq, Prod.mk.injEq] at h; obtain ⟨rfl, rfl, _, rfl, rfl⟩ := h; exact ⟨rfl, rfl, rfl, rfl⟩
    obtain ⟨rfl, rfl, rfl, rfl⟩ := hh
    have a1 := ih _ _ _ _ _ _ _ _ _ _ h1 hs
    refine ⟨fun X hP hN => aw_block ((a1.1 X hP hN).mono ?_), a1.2⟩
    rintro e1 S2 ⟨rfl, rfl⟩
    simp only [blockA]
    by_cases hi : i = id <;> simp [hi]
   ·rename_i hno
    have a1 := ih _ _ _ _ _ _ _ _ _ _ h hs
    refine ⟨fun X hP hN => aw_block ((a1.1 X hP hN).mono ?_), a1.2⟩
    rintro e1 S2 ⟨rfl, rfl⟩
    cases e1 with
    | exit i => exact absurd h (hno i S2 _ _ _)
    | _ => exact ⟨rfl, rfl⟩
  | loop x =>
   by_cases hno : pr.loops fno (firstReg x) = none
   ·have a1 := hl _ _ _ _ _ _ _ _ _ _ hno h hs
    exact ⟨fun X hP hN => (a1.1 X hP hN).aw, a1.2⟩
   ·simp only [execH] at h
    split at h
    ·rename_i H hH
     split at h
     ·rename_i hN0
      split at h
      ·rename_i q hq
       simp only [Option.some.injEq, Prod.mk.injEq] at h
       obtain ⟨rfl, rfl, _, rfl, rfl⟩ := h
       have hc := hs.head
       simp only [Side.code.injEq] at hc
       have h1 := hs.tail.left
       have h2 := hs.tail.right
       refine ⟨fun X hP hN => ?_, fun k hk => ovl_ne _ _ hk⟩
       rw [hc]
       exact AW.weak (weak_to h1 hq h2) (H.proof S.heap X hP (by rw [hN, hN0]))
      ·cases h
     ·cases h
    ·rename_i hH; exact absurd hH hno
  | skip => simp only [execH, Option.some.injEq, Prod.mk.injEq] at h; obtain ⟨rfl, rfl, _⟩ := h; exact ⟨fun X _ _ => aw_skip ⟨rfl, rfl⟩, fun _ _ => rfl⟩
  | exit i => simp only [execH, Option.some.injEq, Prod.mk.injEq] at h; obtain ⟨rfl, rfl, _⟩ := h; exact ⟨fun X _ _ => aw_exit ⟨rfl, rfl⟩, fun _ _ => rfl⟩
  | ret => simp only [execH, Option.some.injEq, Prod.mk.injEq] at h; obtain ⟨rfl, rfl, _⟩ := h; exact ⟨fun X _ _ => aw_ret ⟨rfl, rfl⟩, fun _ _ => rfl⟩
  | cond c x y =>
   simp only [execH] at h
   split at h
   ·rename_i b hb
    cases b with
    | true =>
     have a1 := ih _ _ _ _ _ _ _ _ _ _ h hs
     exact ⟨fun X hP hN => aw_cond hb (fun _ => a1.1 X hP hN) (fun hx => by cases hx), a1.2⟩
    | false =>
     have a1 := ih _ _ _ _ _ _ _ _ _ _ h hs
     exact ⟨fun X hP hN => aw_cond hb (fun hx => by cases hx) (fun _ => a1.1 X hP hN), a1.2⟩
   ·cases h
  | rangeFunc g qs as bd =>
   simp only [execH] at h
   split at h
   case h_2 => cases h
   rename_i gf caps hg
   split at h
   case h_2 => cases h
   rename_i r hr
   split at h
   case h_2 => cases h
   rename_i f2 N2 env2 ps2 as2 bd2 st hlp
   split at h
   case h_2 => cases h
   rename_i e' he'
   simp only [Option.some.injEq, Prod.mk.injEq] at h
   obtain ⟨rfl, rfl, _, rfl, rfl⟩ := h
   have hk := hs.head
   simp only [Side.nat.injEq] at hk
   have hcs := callHH_sound hm hn ih hr hs.tail
   refine ⟨fun X hP hN => ?_, fun k hk => ?_⟩
   ·subst hP; subst hN
    exact aw_rangeFunc hg (envL_spec _ _) hcs.1 hk hlp (endE_spec he')
   ·simp only [List.mem_cons, not_or] at hk
    exact (upd_ne _ _ hk.1).trans ((hcs.2 k hk.2).trans (upd_ne _ _ hk.1))
  | _ => simp [execH] at h
theorem execH_right (hm : OkP P) (hn : Named P) (n : Nat) : RightH P (execH P pr n) := (execH_right2 hm hn n).1
end
def outL (r : Option (AExit × Pairs)) : AExit × List Side := match r with
 | some r => (r.1, r.2.map (·.1))
 | none => (.exit 1000001, [])
def outR (e : AExit) (r : Option (AExit × Pairs)) : AExit × List Side := match r with
 | some r => (e, r.2.map (·.2))
 | none => (.exit 1000002, [])
theorem alike_of_map : ∀ {ps : Pairs}, ps.map (·.1) = ps.map (·.2) → Alike ps
 | [], _ => fun p hp => by cases hp
 | p :: r, h => fun q hq => by
  simp only [List.map_cons, List.cons.injEq] at h
  rcases List.mem_cons.1 hq with rfl | hq
  ·exact h.1
  ·exact alike_of_map h.2 q hq
theorem out_spec {e : AExit} {r : Option (AExit × Pairs)} (h : outL r = outR e r) : ∃ ps, r = some (e, ps) ∧ Alike ps := by
 cases r with
 | none => simp [outL, outR] at h
 | some r =>
  simp only [outL, outR, Prod.mk.injEq] at h
  exact ⟨r.2, by rw [← h.1], alike_of_map h.2⟩
def pureRun (P : Program) (ex : ExecH) (g : Nat) (ds rs : List D) : Option (AExit × Pairs) := match callDH P ex g ds with
 | some r => some (.ret, (.ds r.1, .ds rs) :: r.2)
 | none => none
theorem pure_of_run {P : Program} (hm : OkP P) (hn : Named P) (pr : Par P) (n : Nat) {g : Nat} {ds rs : List D} (h : outL (pureRun P (execH P pr n) g ds rs) = outR .ret (pureRun P (execH P pr n) g ds rs)) : Pure P g ds rs := by
 obtain ⟨ps, h1, hs⟩ := out_spec h
 unfold pureRun at h1
 split at h1
 ·rename_i r hr
  simp only [Option.some.injEq, Prod.mk.injEq, true_and] at h1
  subst h1
  have := hs.head
  simp only [Side.ds.injEq] at this
  subst this
  exact callDH_sound hm hn (execH_right hm hn n) hr hs.tail
 ·cases h1
def callRun (r : Option (List AV × Heap × Nat × List Nat × Pairs)) (keys0 : List Nat) (rs : List AV) (hp' : List (Nat × Ent)) : Option (AExit × Pairs) :=
 match r with
 | some (rs', h', _, tk, ps) => match heapPairs h' hp' with
  | some q => match (tk ++ keys0).all fun k => (hp'.map (·.1)).any (Nat.beq k) with
   | true => some (.ret, (.av (.tup rs'), .av (.tup rs)) :: (ps ++ q))
   | false => none
  | none => none
 | none => none
theorem ovl_final {h' rest : Heap} {hp hp' : List (Nat × Ent)} {tk : List Nat} (hk : ((tk ++ hp.map (·.1)).all fun k => (hp'.map (·.1)).any (Nat.beq k)) = true) (h2 : ∀ k, k ∉ tk → h' k = ovl hp rest k) : ovl hp' h' = ovl hp' rest := by
 funext k
 by_cases hkk : k ∈ hp'.map (·.1)
 ·exact ovl_in _ _ _ hkk
 ·rw [ovl_ne _ _ hkk, ovl_ne _ _ hkk]
  have hno : ∀ k', k' ∈ tk ++ hp.map (·.1) → k' ≠ k := by
   rintro k' hk' rfl
   have := List.all_eq_true.1 hk k' hk'
   obtain ⟨a, ha, hb⟩ := List.any_eq_true.1 this
   have := Nat.eq_of_beq_eq_true hb
   subst this
   exact hkk ha
  rw [h2 k (fun hx => hno k (by simp [hx]) rfl)]
  exact ovl_ne _ _ (fun hx => hno k (by simp only [List.mem_append]; exact .inr hx) rfl)
theorem hcall_of_run {P : Program} (hm : OkP P) (hn : Named P) (pr : Par P) (n base g : Nat) {args rs : List AV} {hp hp' : List (Nat × Ent)} {rest : Heap}
    (h : outL (callRun (callHH P (execH P pr n) base g args (ovl hp rest)) (hp.map (·.1)) rs hp') = outR .ret (callRun (callHH P (execH P pr n) base g args (ovl hp rest)) (hp.map (·.1)) rs hp')) : HCall P g args (ovl hp rest) rs (ovl hp' rest) := by
 obtain ⟨ps, h1, hs⟩ := out_spec h
 unfold callRun at h1
 split at h1
 case h_2 => cases h1
 rename_i rs' h' b' tk ps' hr
 split at h1
 case h_2 => cases h1
 rename_i q hq
 split at h1
 case h_2 => cases h1
 rename_i hk
 simp only [Option.some.injEq, Prod.mk.injEq, true_and] at h1
 subst h1
 have g1 := hs.head
 simp only [Side.av.injEq, AV.tup.injEq] at g1
 subst g1
 obtain ⟨c1, c2⟩ := callHH_sound hm hn (execH_right hm hn n) hr hs.tail.left
 refine ⟨c1.1, fun G B w0 I0 w cargs hr hsz hargs => (c1.2 G B w0 I0 w cargs hr hsz hargs).mono ?_⟩
 rintro e w' ⟨v, G', rfl, e1, e2, e3⟩
 refine ⟨v, G', rfl, e1, ?_, e3⟩
 rw [← ovl_final hk c2]
 exact e2.forget (ovl_sub h' hp' (heapPairs_spec hq hs.tail.right))
def finS (r : Option (AExit × St × Nat × List Nat × Pairs)) (keys0 : List Nat) (l' : List (Nat × AV)) (hp' : List (Nat × Ent)) : Option (AExit × Pairs) :=
 match r with
 | some (e, S, _, tk, ps) => match heapPairs S.heap hp' with
  | some q => match (tk ++ keys0).all fun k => (hp'.map (·.1)).any (Nat.beq k) with
   | true => some (e, ps ++ (envPairs S.env l' ++ q))
   | false => none
  | none => none
 | none => none
theorem seg {P : Program} (hm : OkP P) (hn : Named P) (pr : Par P) (n fno base N : Nat) {c : Code} {l l' : List (Nat × AV)} {hp hp' : List (Nat × Ent)} {rest : Heap} {e : AExit}
    (h : outL (finS (execH P pr n fno base N c ⟨envOf l, ovl hp rest⟩) (hp.map (·.1)) l' hp') = outR e (finS (execH P pr n fno base N c ⟨envOf l, ovl hp rest⟩) (hp.map (·.1)) l' hp'))
    (X : Fix) (hP : X.P = P) (hN : X.N = N) : AW X c ⟨envOf l, ovl hp rest⟩ fun e' S' => e' = e ∧ Weak X S' ⟨envOf l', ovl hp' rest⟩ := by
 obtain ⟨ps, h1, hs⟩ := out_spec h
 unfold finS at h1
 split at h1
 ·rename_i e1 S1 b1 tk ps1 hr
  split at h1
  ·rename_i q hq
   split at h1
   ·rename_i hk
    simp only [Option.some.injEq, Prod.mk.injEq] at h1
    obtain ⟨rfl, rfl⟩ := h1
    have a1 := execH_right hm hn n _ _ _ _ _ _ _ _ _ _ hr hs.left
    refine (a1.1 X hP hN).mono ?_
    rintro e S' ⟨rfl, rfl⟩
    refine ⟨rfl, ?_⟩
    have hw := weak_to (X := X) hs.right.left hq hs.right.right
    have : ovl hp' S'.heap = ovl hp' rest := by
     funext k
     by_cases hkk : k ∈ hp'.map (·.1)
     ·exact ovl_in _ _ _ hkk
     ·rw [ovl_ne _ _ hkk, ovl_ne _ _ hkk]
      have hno : ∀ k', k' ∈ tk ++ hp.map (·.1) → k' ≠ k := by
       rintro k' hk' rfl
       have := List.all_eq_true.1 hk k' hk'
       obtain ⟨a, ha, hb⟩ := List.any_eq_true.1 this
       have := Nat.eq_of_beq_eq_true hb
       subst this
       exact hkk ha
      rw [a1.2 k (fun hx => hno k (by simp [hx]) rfl)]
      exact ovl_ne _ _ (fun hx => hno k (by simp only [List.mem_append]; exact .inr hx) rfl)
    rw [this] at hw
    exact hw
   ·cases h1
  ·cases h1
 ·cases h1
theorem loop_of_segs {P : Program} {N : Nat} {c : Code} {ι : Type} (L : ι → List (Nat × AV)) (Hp : ι → Heap → List (Nat × Ent)) (J : ι → Prop) (μ : ι → Nat) (e : AExit) (l' : List (Nat × AV)) (hp' : Heap → List (Nat × Ent)) (x0 : ι) (j0 : J x0) (he : e ≠ .normal)
    (hI : ∀ rest x, J x → (∃ y, J y ∧ μ y < μ x ∧ ∀ X : Fix, X.P = P → X.N = N → AW X c ⟨envOf (L x), ovl (Hp x rest) rest⟩ fun e' S' => e' = .normal ∧ Weak X S' ⟨envOf (L y), ovl (Hp y rest) rest⟩) ∨
     (∀ X : Fix, X.P = P → X.N = N → AW X c ⟨envOf (L x), ovl (Hp x rest) rest⟩ fun e' S' => e' = e ∧ Weak X S' ⟨envOf l', ovl (hp' rest) rest⟩))
    (rest : Heap) (X : Fix) (hP : X.P = P) (hN : X.N = N) : AW X (.loop c) ⟨envOf (L x0), ovl (Hp x0 rest) rest⟩ fun e' S' => e' = e ∧ S' = ⟨envOf l', ovl (hp' rest) rest⟩ := by
 refine aw_post ?_
 refine aw_loopF (fun x => ⟨envOf (L x), ovl (Hp x rest) rest⟩) J μ x0 (Weak.refl _) j0 (fun x hx => ?_)
 rcases hI rest x hx with ⟨y, hy, hlt, haw⟩ | haw
 ·refine (haw X hP hN).mono ?_
  rintro e' S' ⟨rfl, hw⟩
  exact ⟨y, hw, hy, hlt⟩
 ·refine (haw X hP hN).mono ?_
  rintro e' S' ⟨rfl, hw⟩
  have : ∃ S'', Weak X S' S'' ∧ e' = e' ∧ S'' = ⟨envOf l', ovl (hp' rest) rest⟩ := ⟨_, hw, rfl, rfl⟩
  cases e' with
  | normal => exact absurd rfl he
  | _ => exact this
end Go.Avm
namespace Go.Avm
open Go.RowKit
variable [GlobTab]
section
variable {G : Gh} {B : Nat} {w0 w : World} {I0 : Nat → Nat → Prop} {h : Heap}
theorem HR.rename (hr : HR G B w0 I0 h w) {A K sz : Nat} {es : List AV} (hne : A ≠ K) (hA : (h A).ob = some (.arr sz es)) :
    ∃ G', HR G' B w0 I0 (upd (upd h A ⟨(h A).ver + 1, none⟩) K ⟨(h K).ver + 1, some (.arr sz es)⟩) w ∧ Ext G w G' w ∧ ∀ L, G.loc A (h A).ver = some L → G'.loc K ((h K).ver + 1) = some L := by
 cases hL : G.loc A (h A).ver with
 | none =>
  have hes : es = [] := by
   rcases hr.objs A _ hA with ⟨rfl, _⟩ | ⟨L, hL', _⟩
   ·rfl
   ·rw [hL] at hL'; cases hL'
  subst hes
  obtain ⟨G1, h1, e1, _⟩ := hr.bump A none (fun o e => by cases e)
  obtain ⟨G2, h2, e2, _⟩ := h1.bump K (some (.arr sz [])) (fun o e => by cases e; exact ⟨sz, rfl⟩)
  rw [upd_ne _ _ (Ne.symm hne)] at h2
  exact ⟨G2, h2, e1.trans e2, fun L x => by cases x⟩
 | some L =>
  have hnA := hr.none_next A
  have hnK := hr.none_next K
  let G' : Gh := { G with loc := fun k' v' => if k' = K ∧ v' = (h K).ver + 1 then some L else G.loc k' v', lim := upd (upd G.lim A ((h A).ver + 1)) K ((h K).ver + 1) }
  have loc_ne : ∀ k v, ¬ (k = K ∧ v = (h K).ver + 1) → G'.loc k v = G.loc k v := fun k v hn => if_neg hn
  have loc_K : G'.loc K ((h K).ver + 1) = some L := if_pos ⟨rfl, rfl⟩
  have hlim : ∀ k, G.lim k ≤ G'.lim k := fun k => by
   show _ ≤ upd (upd G.lim A _) K _ k
   by_cases hk : k = K
   ·subst hk; rw [upd_same, hr.lim]; omega
   ·rw [upd_ne _ _ hk]
    by_cases hk2 : k = A
    ·subst hk2; rw [upd_same, hr.lim]; omega
    ·rw [upd_ne _ _ hk2]; exact Nat.le_refl _
  have hex : Ext G w G' w := ⟨fun _ _ x => x, fun k v L' x => by
   rw [loc_ne k v (by rintro ⟨rfl, rfl⟩; rw [hnK] at x; cases x)]; exact x, fun _ _ _ => rfl, Nat.le_refl _, hlim, fun k v hv x => by
   rw [loc_ne k v (by rintro ⟨rfl, rfl⟩; rw [hr.lim] at hv; omega)]; exact x, fun _ _ _ x => x, kept_same rfl⟩
  have hver : ∀ k, (h k).ver ≤ (upd (upd h A ⟨(h A).ver + 1, none⟩) K ⟨(h K).ver + 1, some (.arr sz es)⟩ k).ver := fun k => by
   by_cases hk : k = K
   ·subst hk; rw [upd_same]; exact Nat.le_succ _
   ·rw [upd_ne _ _ hk]
    by_cases hk2 : k = A
    ·subst hk2; rw [upd_same]; exact Nat.le_succ _
    ·rw [upd_ne _ _ hk2]; exact Nat.le_refl _
  have key : ∀ k L', G'.loc k (upd (upd h A ⟨(h A).ver + 1, none⟩) K ⟨(h K).ver + 1, some (.arr sz es)⟩ k).ver = some L' → (k = K ∧ L' = L) ∨ (k ≠ K ∧ k ≠ A ∧ G.loc k (h k).ver = some L') := by
   intro k L' x
   by_cases hk : k = K
   ·subst hk
    rw [upd_same] at x
    rw [loc_K] at x
    exact .inl ⟨rfl, (Option.some.inj x).symm⟩
   ·rw [upd_ne _ _ hk] at x
    by_cases hk2 : k = A
    ·subst hk2
     rw [upd_same, loc_ne _ _ (by rintro ⟨rfl, _⟩; exact hk rfl), hnA] at x
     cases x
    ·rw [upd_ne _ _ hk2, loc_ne _ _ (by rintro ⟨rfl, _⟩; exact hk rfl)] at x
     exact .inr ⟨hk, hk2, x⟩
  refine ⟨G', ⟨hr.below, hr.bsz, hr.immlt, hr.i0, hr.immlow, ?_, ?_, ?_, ?_, ?_, hr.maps.step hex rfl (fun _ _ _ x => x) hver (fun k o hf ho => ?_)⟩, hex, fun L' x => by cases x; exact loc_K⟩
  ·intro k v L' x
   by_cases hk : k = K ∧ v = (h K).ver + 1
   ·obtain ⟨rfl, rfl⟩ := hk; rw [upd_same]; exact Nat.le_refl _
   ·rw [loc_ne _ _ hk] at x
    exact Nat.le_trans (hr.fresh k v L' x) (hver k)
  ·intro k L' x
   rcases key k L' x with ⟨rfl, rfl⟩ | ⟨_, _, x⟩
   ·exact hr.own A _ hL
   ·exact hr.own k L' x
  ·intro k1 k2 L1 L2 x1 x2 hb
   rcases key k1 L1 x1 with ⟨rfl, rfl⟩ | ⟨n1, m1, y1⟩ <;> rcases key k2 L2 x2 with ⟨e2, f2⟩ | ⟨n2, m2, y2⟩
   ·exact e2.symm
   ·exact absurd (hr.dis A k2 _ L2 hL y2 hb).symm m2
   ·subst f2; exact absurd (hr.dis k1 A L1 _ y1 hL hb) m1
   ·exact hr.dis k1 k2 L1 L2 y1 y2 hb
  ·intro k ob ho
   by_cases hk : k = K
   ·subst hk
    rw [upd_same] at ho ⊢
    simp only [Option.some.injEq] at ho
    subst ho
    rcases hr.objs A _ hA with ⟨_, hn⟩ | ⟨L', hL', g1, g2, g3, g4, g6, g5⟩
    ·rw [hL] at hn; cases hn
    ·rw [hL] at hL'
     cases hL'
     exact .inr ⟨L, loc_K, g1, g2, g3, g4, g6, fun t c ht => by
      obtain ⟨u, hu, hu1, hur⟩ := g5 t c ht
      exact ⟨u, hu, hu1, hur.mono hex⟩⟩
   ·rw [upd_ne _ _ hk] at ho ⊢
    by_cases hk2 : k = A
    ·subst hk2; rw [upd_same] at ho; cases ho
    ·rw [upd_ne _ _ hk2] at ho ⊢
     exact (hr.objs k ob ho).mono (hr.le k) hex (fun _ _ _ => rfl)
  ·intro k
   show upd (upd G.lim A _) K _ k = _
   by_cases hk : k = K
   ·subst hk; rw [upd_same, upd_same]
   ·rw [upd_ne _ _ hk, upd_ne _ _ hk]
    by_cases hk2 : k = A
    ·subst hk2; rw [upd_same, upd_same]
    ·rw [upd_ne _ _ hk2, upd_ne _ _ hk2]; exact hr.lim k
  ·by_cases hk : k = K
   ·subst hk; rw [upd_same] at ho; cases ho; cases hf
   ·rw [upd_ne _ _ hk] at ho ⊢
    by_cases hk2 : k = A
    ·subst hk2; rw [upd_same] at ho; cases ho
    ·rw [upd_ne _ _ hk2]
theorem Rep.moved {G' : Gh} {A v K v' off len z : Nat} {u : Value} (hr : Rep G w (.sl A v off len z) u) (hl : ∀ L, G.loc A v = some L → G'.loc K v' = some L) : Rep G' w (.sl K v' off len z) u := by
 cases hr with
 | slNil => exact .slNil _ _ _
 | sl _ _ _ _ c L hL hc hlen => exact .sl K v' off len c L (hl L hL) hc hlen
theorem HR.recell (hr : HR G B w0 I0 h w) {C a : Nat} {ces : List AV} {x y : AV} (hC : (h C).ob = some (.arr 1 ces)) (ha : ces[a]? = some x) (hy : y.lone = true) (hxy : ∀ u, Rep G w x u → Rep G w y u) :
    HR G B w0 I0 (upd h C ⟨(h C).ver, some (.arr 1 (ces.set a y))⟩) w := by
 refine hr.reob ?_ rfl
 have hlt := (List.getElem?_eq_some_iff.1 ha).1
 rcases hr.objs C _ hC with ⟨rfl, _⟩ | ⟨L, hL, g1, g2, g3, g4, g6, g5⟩
 ·simp at hlt
 have hall : ∀ e ∈ ces.set a y, e.lone = true := fun e he => by
  rcases List.mem_or_eq_of_mem_set he with he | rfl
  ·exact g6 rfl e he
  ·exact hy
 refine .inr ⟨L, hL, g1, g2, by simpa using g3, fun e he => by rw [AV.cells_lone (hall e he)]; rfl, fun _ => hall, fun t c ht => ?_⟩
 rw [flat_lone hall, List.getElem?_set] at ht
 by_cases hit : a = t
 ·subst hit
  simp only [if_true, hlt] at ht
  cases ht
  obtain ⟨u, hu, hu1, hur⟩ := g5 a x (by rw [flat_lone (g6 rfl)]; exact ha)
  exact ⟨u, hu, hu1, hxy u hur⟩
 ·rw [if_neg hit] at ht
  exact g5 t c (by rw [flat_lone (g6 rfl)]; exact ht)
end
theorem weak_move {X : Fix} {env : Nat → AV} {h : Heap} {C A K a sz off len z : Nat} {es ces : List AV} (hAK : A ≠ K) (hCA : C ≠ A) (hCK : C ≠ K) (hC : (h C).ob = some (.arr 1 ces)) (ha : ces[a]? = some (.sl A (h A).ver off len z)) (hA : (h A).ob = some (.arr sz es)) :
    Weak X ⟨env, h⟩ ⟨env, upd (upd (upd h A ⟨(h A).ver + 1, none⟩) K ⟨(h K).ver + 1, some (.arr sz es)⟩) C ⟨(h C).ver, some (.arr 1 (ces.set a (.sl K ((h K).ver + 1) off len z)))⟩⟩ := fun G ac w ⟨hr, bs, hf, hs⟩ => by
 obtain ⟨G', hr', e, hl⟩ := hr.rename hAK hA
 have hCe : (upd (upd h A ⟨(h A).ver + 1, none⟩) K ⟨(h K).ver + 1, some (.arr sz es)⟩ C) = h C := by rw [upd_ne _ _ hCK, upd_ne _ _ hCA]
 have h2 := hr'.recell (C := C) (a := a) (x := .sl A (h A).ver off len z) (y := .sl K ((h K).ver + 1) off len z) (by rw [hCe]; exact hC) ha rfl (fun u hu => hu.moved (fun L hL => ?_))
 ·rw [hCe] at h2
  exact ⟨G', e, h2, bs, hf.mono e, hs.mono e⟩
 ·cases hL0 : G.loc A (h A).ver with
  | none =>
   have := e.nloc A (h A).ver (by rw [hr.lim]; exact Nat.le_refl _) hL0
   rw [this] at hL; cases hL
  | some L0 =>
   rw [e.loc _ _ _ hL0] at hL
   cases hL
   exact hl _ hL0
theorem weak_moveNil {X : Fix} {env : Nat → AV} {h : Heap} {C K a sz : Nat} {ces : List AV} (hCK : C ≠ K) (hC : (h C).ob = some (.arr 1 ces)) (ha : ces[a]? = some .nils) :
    Weak X ⟨env, h⟩ ⟨env, upd (upd h K ⟨(h K).ver + 1, some (.arr sz [])⟩) C ⟨(h C).ver, some (.arr 1 (ces.set a (.sl K ((h K).ver + 1) 0 0 sz)))⟩⟩ := fun G ac w ⟨hr, bs, hf, hs⟩ => by
 obtain ⟨G', hr', e, _⟩ := hr.bump K (some (.arr sz [])) (fun o e => by cases e; exact ⟨sz, rfl⟩)
 have hCe : (upd h K ⟨(h K).ver + 1, some (.arr sz [])⟩ C) = h C := upd_ne _ _ hCK
 have h2 := hr'.recell (C := C) (a := a) (x := .nils) (y := .sl K ((h K).ver + 1) 0 0 sz) (by rw [hCe]; exact hC) ha rfl (fun u hu => by cases hu; exact .slNil _ _ _)
 rw [hCe] at h2
 exact ⟨G', e, h2, bs, hf.mono e, hs.mono e⟩
section
variable {X : Fix} {c : Code} {S S' : St} {Q : AExit → St → Prop}
theorem LW.weak (hw : Weak X S S') (h : LW X c S' Q) : LW X c S Q := fun G a w hh => by
 obtain ⟨G1, e1, h1⟩ := hw G a w hh
 exact loopGoes_mono (h G1 a w h1) fun e a' w' ⟨e', S', G', x, q, e2, r⟩ => ⟨e', S', G', x, q, e1.trans e2, r⟩
theorem lw_seg {S1 : St} (h : AW X c S fun e' S' => e' = .normal ∧ Weak X S' S1) (hl : LW X c S1 Q) : LW X c S Q :=
 lw_round (h.mono fun e' S' ⟨he, hw⟩ => by subst he; exact hl.weak hw)
theorem lw_end {S2 : St} {e : AExit} (h : AW X c S fun e' S' => e' = e ∧ Weak X S' S2) (he : e ≠ .normal) : LW X c S fun e' S' => e' = e ∧ S' = S2 :=
 lw_round (aw_post (h.mono fun e' S' ⟨h1, hw⟩ => ⟨S2, hw, by
  subst h1
  cases e' with
  | normal => exact absurd rfl he
  | _ => exact ⟨rfl, rfl⟩⟩))
end
end Go.Avm
namespace Go.Avm
open Go.RowKit
open Go.Sort (putRow putCells mapBlock onCells)
variable [GlobTab]
section
variable {G : Gh} {B : Nat} {w0 w : World} {I0 : Nat → Nat → Prop} {h : Heap}
end
def dI (x : Int) : AV := .d (.int .i64 x)
end Go.Avm
namespace Go.Avm
open Go.RowKit
variable [GlobTab]
abbrev WeakH (h h' : Heap) : Prop := ∀ (X : Fix) (env : Nat → AV), Weak X ⟨env, h⟩ ⟨env, h'⟩
theorem WeakH.trans {h h' h'' : Heap} (a : WeakH h h') (b : WeakH h' h'') : WeakH h h'' := fun X env => (a X env).trans (b X env)
theorem WeakH.refl (h : Heap) : WeakH h h := fun X env => Weak.refl _
def At (h : Heap) (l : List (Nat × Ent)) : Prop := ∀ p ∈ l, h p.1 = p.2
theorem At.ovl {h : Heap} : ∀ {l : List (Nat × Ent)}, At h l → ovl l h = h
 | [], _ => rfl
 | (k, e) :: r, ha => by
  have h1 : h k = e := ha (k, e) (by simp)
  have h2 := At.ovl (l := r) (fun p hp => ha p (by simp [hp]))
  simp only [Go.Avm.ovl, h2]
  funext t
  simp only [upd]
  split
  ·rename_i ht; rw [ht, h1]
  ·rfl
def RowAt (h : Heap) (k : Nat) (c : AV) (r : List Int) : Prop :=
 (c = .nils ∧ r = []) ∨ ∃ v, c = .sl k v 0 r.length 1 ∧ h k = ⟨v, some (.arr 1 (r.map dI))⟩
theorem RowAt.congr {h h' : Heap} {k : Nat} {c : AV} {r : List Int} (hr : RowAt h k c r) (he : h' k = h k) : RowAt h' k c r := by
 unfold RowAt
 rw [he]
 exact hr
theorem RowAt.lone {h : Heap} {k : Nat} {c : AV} {r : List Int} (hr : RowAt h k c r) : c.lone = true := by
 rcases hr with ⟨rfl, _⟩ | ⟨v, rfl, _⟩ <;> rfl
theorem focus {h : Heap} {C K A a : Nat} {vC : Nat} {ces : List AV} {x : AV} {r : List Int} (hKA : K ≠ A) (hCK : C ≠ K) (hCA : C ≠ A) (hC : h C = ⟨vC, some (.arr 1 ces)⟩) (ha : ces[a]? = some x) (hr : RowAt h K x r) :
    ∃ vA h', WeakH h h' ∧ h' A = ⟨vA, some (.arr 1 (r.map dI))⟩ ∧ h' C = ⟨vC, some (.arr 1 (ces.set a (.sl A vA 0 r.length 1)))⟩ ∧ ∀ k, k ≠ A → k ≠ C → k ≠ K → h' k = h k := by
 have hob : (h C).ob = some (.arr 1 ces) := by rw [hC]
 rcases hr with ⟨rfl, rfl⟩ | ⟨v, rfl, hk⟩
 ·refine ⟨(h A).ver + 1, _, fun X env => weak_moveNil (X := X) (env := env) (sz := 1) hCA hob ha, ?_, ?_, fun k h1 h2 h3 => ?_⟩
  ·rw [upd_ne _ _ (Ne.symm hCA), upd_same]; rfl
  ·rw [upd_same, hC]; rfl
  ·rw [upd_ne _ _ h2, upd_ne _ _ h1]
 ·have hkv : (h K).ver = v := by rw [hk]
  have hko : (h K).ob = some (.arr 1 (r.map dI)) := by rw [hk]
  refine ⟨(h A).ver + 1, _, fun X env => weak_move (X := X) (env := env) (A := K) (K := A) (off := 0) (len := r.length) (z := 1) hKA hCK hCA hob (by rw [hkv]; exact ha) hko, ?_, ?_, fun k h1 h2 h3 => ?_⟩
  ·rw [upd_ne _ _ (Ne.symm hCA), upd_same]
  ·rw [upd_same, hC]
  ·rw [upd_ne _ _ h2, upd_ne _ _ h1, upd_ne _ _ h3]
theorem unfocus {h : Heap} {C K A a : Nat} {vC vA : Nat} {ces : List AV} {r : List Int} (hAK : A ≠ K) (hCK : C ≠ K) (hCA : C ≠ A) (hC : h C = ⟨vC, some (.arr 1 ces)⟩) (ha : ces[a]? = some (.sl A vA 0 r.length 1)) (hA : h A = ⟨vA, some (.arr 1 (r.map dI))⟩) :
    ∃ y h', WeakH h h' ∧ RowAt h' K y r ∧ h' C = ⟨vC, some (.arr 1 (ces.set a y))⟩ ∧ (∃ v, h' A = ⟨v, none⟩) ∧ ∀ k, k ≠ A → k ≠ C → k ≠ K → h' k = h k := by
 have hob : (h C).ob = some (.arr 1 ces) := by rw [hC]
 have hkv : (h A).ver = vA := by rw [hA]
 have hko : (h A).ob = some (.arr 1 (r.map dI)) := by rw [hA]
 refine ⟨_, _, fun X env => weak_move (X := X) (env := env) (A := A) (K := K) (off := 0) (len := r.length) (z := 1) hAK hCA hCK hob (by rw [hkv]; exact ha) hko, .inr ⟨(h K).ver + 1, rfl, ?_⟩, ?_, ⟨(h A).ver + 1, ?_⟩, fun k h1 h2 h3 => ?_⟩
 ·rw [upd_ne _ _ (Ne.symm hCK), upd_same]
 ·rw [upd_same, hC]
 ·rw [upd_ne _ _ (Ne.symm hCA), upd_ne _ _ hAK, upd_same]
 ·rw [upd_ne _ _ h2, upd_ne _ _ h3, upd_ne _ _ h1]
theorem freezeCell {h : Heap} {C A a n : Nat} {vC vA len : Nat} {ces es : List AV} {ds : List D} (hCA : C ≠ A) (hC : h C = ⟨vC, some (.arr 1 ces)⟩) (ha : ces[a]? = some (.sl A vA 0 len 1)) (hA : h A = ⟨vA, some (.arr 1 es)⟩) (hl : len ≤ es.length) (hv : viewL (view n h) (es.take len) = some (ds, [])) :
    ∃ h', WeakH h h' ∧ h' C = ⟨vC, some (.arr 1 (ces.set a (.d (.ro ds))))⟩ ∧ (∃ v, h' A = ⟨v, none⟩) ∧ ∀ k, k ≠ A → k ≠ C → h' k = h k := by
 have hob : (h C).ob = some (.arr 1 ces) := by rw [hC]
 have hkv : (h A).ver = vA := by rw [hA]
 have hko : (h A).ob = some (.arr 1 es) := by rw [hA]
 have hview : view (n + 1) h (.sl A vA 0 len 1) = some (.ro ds, [A]) := by
  rw [view_sl, hko]
  simp only
  rw [if_pos ⟨hkv, by omega⟩, List.drop_zero, hv]
  rfl
 have hk : updAll h (kill h [A]) = upd h A ⟨(h A).ver + 1, none⟩ := rfl
 refine ⟨_, fun X env => weak_freeze (X := X) (env := env) (ks := [A]) (by simpa using hCA) hob ha rfl hview, ?_, ⟨(h A).ver + 1, ?_⟩, fun k h1 h2 => ?_⟩
 ·rw [upd_same, hC]
 ·rw [upd_ne _ _ (Ne.symm hCA), hk, upd_same]
 ·rw [upd_ne _ _ h2, hk, upd_ne _ _ h1]
theorem viewI (n : Nat) (h : Heap) : ∀ r : List Int, viewL (view (n + 1) h) (r.map dI) = some (r.map fun x => .int .i64 x, [])
 | [] => rfl
 | x :: r => by
  rw [List.map_cons, viewL, viewI n h r]
  rfl
theorem viewD (n : Nat) (h : Heap) : ∀ r : List D, (r.all fun x => x.one) = true → viewL (view (n + 1) h) (r.map .d) = some (r, [])
 | [], _ => rfl
 | x :: r, ha => by
  simp only [List.all_cons, Bool.and_eq_true] at ha
  rw [List.map_cons, viewL, viewD n h r ha.2]
  cases x <;> first | rfl | (simp [D.one] at ha)
theorem freezeRow {h : Heap} {C K a : Nat} {vC : Nat} {ces : List AV} {x : AV} {r : List Int} (hCK : C ≠ K) (hC : h C = ⟨vC, some (.arr 1 ces)⟩) (ha : ces[a]? = some x) (hr : RowAt h K x r) :
    ∃ h', WeakH h h' ∧ h' C = ⟨vC, some (.arr 1 (ces.set a (.d (.ro (r.map fun x => .int .i64 x)))))⟩ ∧ ∀ k, k ≠ C → k ≠ K → h' k = h k := by
 have hob : (h C).ob = some (.arr 1 ces) := by rw [hC]
 rcases hr with ⟨rfl, rfl⟩ | ⟨v, rfl, hk⟩
 ·refine ⟨_, fun X env => weak_freeze (X := X) (env := env) (n := 1) (ks := []) (d := .ro []) (by simp) hob ha rfl rfl, ?_, fun k h1 _ => ?_⟩
  ·rw [upd_same, hC]; rfl
  ·rw [upd_ne _ _ h1]; rfl
 ·obtain ⟨h', g1, g2, _, g4⟩ := freezeCell (n := 1) (ds := r.map fun x => .int .i64 x) hCK hC ha hk (by simp) (by
    rw [show r.length = (r.map dI).length by simp, List.take_length]
    exact viewI 0 h r)
  exact ⟨h', g1, g2, fun k h1 h2 => g4 k h2 h1⟩
end Go.Avm
namespace Go.Avm
open Go.RowKit
variable [GlobTab]
structure ZL (P : Program) where
 N : Nat
 x : Code
 l : List (Nat × AV)
 h1 : Heap
 e : AExit
 l' : List (Nat × AV)
 h2 : Heap
 proof : ∀ (X : Fix), X.P = P → X.N = N → AW X (.loop x) ⟨envOf l, h1⟩ fun e' S' => e' = e ∧ Weak X S' ⟨envOf l', h2⟩
structure ZQ (P : Program) where
 N : Nat
 x : Code
 l : List (Nat × AV)
 h1 : Heap
 e : AExit
 l' : List (Nat × AV)
 h2 : Heap
 proof : ∀ (X : Fix), X.P = P → X.N = N → AW X x ⟨envOf l, h1⟩ fun e' S' => e' = e ∧ Weak X S' ⟨envOf l', h2⟩
structure ZPar (P : Program) where
 loops : Nat → Option (ZL P) := fun _ => none
 seqs : Nat → Option (ZQ P) := fun _ => none
abbrev ExecZ := Nat → Nat → Nat → Code → St → Option (AExit × St × Nat × Pairs)
def execZ (P : Program) (pr : Par P) (zl : ZPar P) (m : Nat) : Nat → ExecZ
 | 0, _, _, _, _, _ => none
 | n + 1, fno, base, N, c, S =>
  match c with
  | .seq x y => match zl.seqs (firstReg x) with
   | some H => if H.N = N then some (H.e, ⟨envOf H.l', H.h2⟩, base, (.code (.seq x y), .code H.x) :: (.hp S.heap, .hp H.h1) :: envPairs S.env H.l) else none
   | none => match execZ P pr zl m n fno base N x S with
    | some (.normal, S', b', ps) => match execZ P pr zl m n fno b' N y S' with
     | some (e, S2, b2, ps2) => some (e, S2, b2, ps ++ ps2)
     | none => none
    | r => r
  | .block id x => match execZ P pr zl m n fno base N x S with
   | some (.exit i, S', b', ps) => if i = id then some (.normal, S', b', ps) else some (.exit i, S', b', ps)
   | r => r
  | .cond c x y => match opd S.env c with
   | .d (.bool b) => match b with
    | true => execZ P pr zl m n fno base N x S
    | false => execZ P pr zl m n fno base N y S
   | _ => none
  | .loop x => match zl.loops (firstReg x) with
   | some H => if H.N = N then some (H.e, ⟨envOf H.l', H.h2⟩, base, (.code x, .code H.x) :: (.hp S.heap, .hp H.h1) :: envPairs S.env H.l) else none
   | none => match execH P pr m fno base N (.loop x) S with
    | some (e, S', b', _, ps) => some (e, S', b', ps)
    | none => none
  | c => match execH P pr m fno base N c S with
   | some (e, S', b', _, ps) => some (e, S', b', ps)
   | none => none
def RightZ (P : Program) (ex : ExecZ) : Prop := ∀ fno base N c S e S' b' ps, ex fno base N c S = some (e, S', b', ps) → Alike ps →
 ∀ X : Fix, X.P = P → X.N = N → AW X c S fun e' S'' => e' = e ∧ Weak X S'' S'
theorem execH_z {P : Program} {pr : Par P} (hm : OkP P) (hn : Named P) {m fno base N : Nat} {c : Code} {S S' : St} {e : AExit} {b' : Nat} {ps : Pairs}
    (h : (match execH P pr m fno base N c S with
     | some (e, S', b', _, ps) => some (e, S', b', ps)
     | none => none) = some (e, S', b', ps)) (hs : Alike ps) (X : Fix) (hP : X.P = P) (hN : X.N = N) : AW X c S fun e' S'' => e' = e ∧ Weak X S'' S' := by
 split at h
 ·rename_i e1 S1 b1 tk ps1 h1
  simp only [Option.some.injEq, Prod.mk.injEq] at h
  obtain ⟨rfl, rfl, rfl, rfl⟩ := h
  refine ((execH_right hm hn m _ _ _ _ _ _ _ _ _ _ h1 hs).1 X hP hN).mono ?_
  rintro e' S'' ⟨rfl, rfl⟩
  exact ⟨rfl, Weak.refl _⟩
 ·cases h
theorem execZ_right {P : Program} {pr : Par P} {zl : ZPar P} {m : Nat} (hm : OkP P) (hn : Named P) : ∀ n, RightZ P (execZ P pr zl m n)
 | 0 => fun fno base N c S e S' b' ps h _ => by simp [execZ] at h
 | n + 1 => fun fno base N c S e S' b' ps h hs X hP hN => by
  have ih := execZ_right (pr := pr) (zl := zl) (m := m) hm hn n
  cases c with
  | seq x y =>
   simp only [execZ] at h
   split at h
   ·rename_i H hH
    split at h
    ·rename_i hHN
     simp only [Option.some.injEq, Prod.mk.injEq] at h
     obtain ⟨rfl, rfl, rfl, rfl⟩ := h
     have g1 := hs.head
     have g2 := hs.tail.head
     simp only [Side.code.injEq, Side.hp.injEq] at g1 g2
     rw [g1]
     obtain ⟨env, heap⟩ := S
     simp only at g2
     subst g2
     exact AW.weak (weak_envOf (envPairs_spec hs.tail.tail)) (H.proof X hP (by rw [hN, hHN]))
    ·cases h
   split at h
   ·rename_i S1 b1 ps1 h1
    split at h
    ·rename_i e2 S2 b2 ps2 h2
     simp only [Option.some.injEq, Prod.mk.injEq] at h
     obtain ⟨rfl, rfl, rfl, rfl⟩ := h
     have a1 := ih _ _ _ _ _ _ _ _ _ h1 hs.left X hP hN
     have a2 := ih _ _ _ _ _ _ _ _ _ h2 hs.right X hP hN
     refine aw_seq (a1.mono ?_)
     rintro e1 S3 ⟨rfl, hw⟩
     exact AW.weak hw a2
    ·cases h
   ·rename_i hnn
    have a1 := ih _ _ _ _ _ _ _ _ _ h hs X hP hN
    refine aw_seq (a1.mono ?_)
    rintro e1 S2 ⟨rfl, hw⟩
    cases e1 with
    | normal => exact absurd h (hnn S' _ _)
    | _ => exact ⟨rfl, hw⟩
  | block id x =>
   simp only [execZ] at h
   split at h
   ·rename_i i S1 b1 ps1 h1
    have hh : S' = S1 ∧ ps = ps1 ∧ e = (if i = id then .normal else .exit i) := by
     split at h
     ·rename_i hi; rw [if_pos hi]; simp only [Option.some.injEq, Prod.mk.injEq] at h; obtain ⟨rfl, rfl, _, rfl⟩ := h; exact ⟨rfl, rfl, rfl⟩
     ·rename_i hi; rw [if_neg hi]; simp only [Option.some.injEq, Prod.mk.injEq] at h; obtain ⟨rfl, rfl, _, rfl⟩ := h; exact ⟨rfl, rfl, rfl⟩
    obtain ⟨rfl, rfl, rfl⟩ := hh
    have a1 := ih _ _ _ _ _ _ _ _ _ h1 hs X hP hN
    refine aw_block (a1.mono ?_)
    rintro e1 S2 ⟨rfl, hw⟩
    simp only [blockA]
    split
    ·exact ⟨rfl, hw⟩
    ·exact ⟨rfl, hw⟩
   ·rename_i hnn
    have a1 := ih _ _ _ _ _ _ _ _ _ h hs X hP hN
    refine aw_block (a1.mono ?_)
    rintro e1 S2 ⟨rfl, hw⟩
    cases e1 with
    | exit i => exact absurd h (hnn i S' _ _)
    | _ => exact ⟨rfl, hw⟩
  | cond c x y =>
   simp only [execZ] at h
   split at h
   ·rename_i b hc
    refine aw_cond hc (fun hb => ?_) (fun hb => ?_)
    ·subst hb
     exact ih _ _ _ _ _ _ _ _ _ h hs X hP hN
    ·subst hb
     exact ih _ _ _ _ _ _ _ _ _ h hs X hP hN
   ·cases h
  | loop x =>
   simp only [execZ] at h
   split at h
   ·rename_i H hH
    split at h
    ·rename_i hHN
     simp only [Option.some.injEq, Prod.mk.injEq] at h
     obtain ⟨rfl, rfl, rfl, rfl⟩ := h
     have g1 := hs.head
     have g2 := hs.tail.head
     simp only [Side.code.injEq, Side.hp.injEq] at g1 g2
     subst g1
     obtain ⟨env, heap⟩ := S
     simp only at g2
     subst g2
     refine AW.weak (weak_envOf (envPairs_spec hs.tail.tail)) (H.proof X hP (by rw [hN, hHN]))
    ·cases h
   ·exact execH_z hm hn h hs X hP hN
  | _ => exact execH_z hm hn h hs X hP hN
def finZ (r : Option (AExit × St × Nat × Pairs)) (l' : List (Nat × AV)) (h' : Heap) : Option (AExit × Pairs) :=
 match r with
 | some (e, S, _, ps) => some (e, (.hp S.heap, .hp h') :: (ps ++ envPairs S.env l'))
 | none => none
theorem segZ {P : Program} (hm : OkP P) (hn : Named P) (pr : Par P) (zl : ZPar P) (n fno base N : Nat) {c : Code} {l l' : List (Nat × AV)} {h h' : Heap} {e : AExit}
    (hk : outL (finZ (execZ P pr zl n n fno base N c ⟨envOf l, h⟩) l' h') = outR e (finZ (execZ P pr zl n n fno base N c ⟨envOf l, h⟩) l' h'))
    (X : Fix) (hP : X.P = P) (hN : X.N = N) : AW X c ⟨envOf l, h⟩ fun e' S' => e' = e ∧ Weak X S' ⟨envOf l', h'⟩ := by
 obtain ⟨ps, h1, hs⟩ := out_spec hk
 unfold finZ at h1
 split at h1
 ·rename_i e1 S1 b1 ps1 hr
  simp only [Option.some.injEq, Prod.mk.injEq] at h1
  obtain ⟨rfl, rfl⟩ := h1
  have g := hs.head
  simp only [Side.hp.injEq] at g
  refine (execZ_right hm hn n _ _ _ _ _ _ _ _ _ hr hs.tail.left X hP hN).mono ?_
  rintro e' S' ⟨rfl, hw⟩
  refine ⟨rfl, hw.trans ?_⟩
  obtain ⟨env, heap⟩ := S1
  simp only at g
  subst g
  exact weak_envOf (envPairs_spec hs.tail.right)
 ·cases h1
def pureRunZ (P : Program) (ex : ExecZ) (g : Nat) (ds rs : List D) : Option (AExit × Pairs) :=
 match P.funcs[g]? with
 | none => none
 | some fn => match fn.body with
  | none => none
  | some b => if ds.length ≤ fn.ntmps then match ex g 0 fn.ntmps b (startSt ds) with
      | some (.normal, S', _, ps) => (resDs P S' fn.results.toList).map fun r => (.ret, (.ds r, .ds rs) :: ps)
      | some (.ret, S', _, ps) => (resDs P S' fn.results.toList).map fun r => (.ret, (.ds r, .ds rs) :: ps)
      | _ => none
   else none
theorem pure_of_weak {P : Program} (hm : OkP P) {f : Nat} {fn : Func} {c : Code} {args rs : List D} (hf : P.funcs[f]? = some fn) (hb : fn.body = some c) (hn : (fn.name == "runtime.NumGoroutine") = false) (hl : args.length ≤ fn.ntmps)
    (h : ∀ X : Fix, X.P = P → X.N = fn.ntmps → AW X c (startSt args) fun e S' => ∃ S'', Weak X S' S'' ∧ (e = .normal ∨ e = .ret) ∧ resDs P S'' fn.results.toList = some rs) : Pure P f args rs :=
 pure_of_aw hm hf hb hn hl fun X hP hN => aw_post (h X hP hN)
theorem pureZ {P : Program} (hm : OkP P) (hn : Named P) (pr : Par P) (zl : ZPar P) (n : Nat) {g : Nat} {ds rs : List D} (h : outL (pureRunZ P (execZ P pr zl n n) g ds rs) = outR .ret (pureRunZ P (execZ P pr zl n n) g ds rs)) : Pure P g ds rs := by
 obtain ⟨ps, h1, hs⟩ := out_spec h
 unfold pureRunZ at h1
 split at h1
 ·cases h1
 ·rename_i fn hf
  split at h1
  ·cases h1
  ·rename_i b hb
   split at h1
   ·rename_i hl
    refine pure_of_weak hm hf hb (hn.1 g fn hf) hl (fun X hP hN => ?_)
    split at h1
    ·rename_i S' b' ps' he
     simp only [Option.map_eq_some_iff, Prod.mk.injEq, true_and] at h1
     obtain ⟨r, hr, rfl⟩ := h1
     have g1 := hs.head
     simp only [Side.ds.injEq] at g1
     subst g1
     refine (execZ_right hm hn n _ _ _ _ _ _ _ _ _ he hs.tail X hP hN).mono ?_
     rintro e S'' ⟨rfl, hw⟩
     exact ⟨S', hw, .inl rfl, hr⟩
    ·rename_i S' b' ps' he
     simp only [Option.map_eq_some_iff, Prod.mk.injEq, true_and] at h1
     obtain ⟨r, hr, rfl⟩ := h1
     have g1 := hs.head
     simp only [Side.ds.injEq] at g1
     subst g1
     refine (execZ_right hm hn n _ _ _ _ _ _ _ _ _ he hs.tail X hP hN).mono ?_
     rintro e S'' ⟨rfl, hw⟩
     exact ⟨S', hw, .inr rfl, hr⟩
    ·cases h1
   ·cases h1
end Go.Avm
set_option linter.unusedVariables false
namespace Go.Avm.Dom
inductive Anc (U : Nat → Nat) : Nat → Nat → Prop where
 | refl (n : Nat) : Anc U n n
 | up {y n : Nat} : 0 < n → Anc U y (U n) → Anc U y n
def Good (m : Nat) (U : Nat → Nat) : Prop := ∀ i, 0 < i → i < m → U i < i
theorem anc_zero_iff {U : Nat → Nat} {y : Nat} (h : Anc U y 0) : y = 0 := by
 cases h with
 | refl => rfl
 | up h0 _ => omega
theorem anc_up_of_ne {U : Nat → Nat} {y n : Nat} (h : Anc U y n) (hn : y ≠ n) : 0 < n ∧ Anc U y (U n) := by
 cases h with
 | refl => exact absurd rfl hn
 | up h0 h1 => exact ⟨h0, h1⟩
section
variable {m : Nat} {U V W : Nat → Nat}
theorem anc_le (hU : Good m U) : ∀ n, n < m → ∀ y, Anc U y n → y ≤ n := fun n => by
 induction n using Nat.strongRecOn with
 | ind n ih =>
  intro hn y h
  by_cases hy : y = n
  ·omega
  ·obtain ⟨h0, h1⟩ := anc_up_of_ne h hy
   have h2 := hU n h0 hn
   have := ih (U n) h2 (by omega) y h1
   omega
theorem anc_congr (hU : Good m U) : ∀ n, n < m → (∀ i, i ≤ n → U i = V i) → ∀ y, Anc U y n ↔ Anc V y n := fun n => by
 induction n using Nat.strongRecOn with
 | ind n ih =>
  intro hn he y
  by_cases h0 : n = 0
  ·subst h0
   exact ⟨fun h => by rw [anc_zero_iff h]; exact .refl 0, fun h => by rw [anc_zero_iff h]; exact .refl 0⟩
  ·have h2 := hU n (by omega) hn
   have := ih (U n) h2 (by omega) (fun i hi => he i (by omega)) y
   by_cases hy : y = n
   ·subst hy; exact ⟨fun _ => .refl _, fun _ => .refl _⟩
   ·constructor
    ·intro h
     refine .up (by omega) ?_
     rw [← he n (Nat.le_refl n)]
     exact this.1 (anc_up_of_ne h hy).2
    ·intro h
     refine .up (by omega) (this.2 ?_)
     rw [he n (Nat.le_refl n)]
     exact (anc_up_of_ne h hy).2
def mix (n : Nat) (W U : Nat → Nat) : Nat → Nat := fun i => if i < n then W i else U i
theorem mix_good (hU : Good m U) (hW : Good m W) (n : Nat) : Good m (mix n W U) := fun i h0 hi => by
 unfold mix
 split
 ·exact hW i h0 hi
 ·exact hU i h0 hi
theorem mix_lt (hW : Good m W) {n c : Nat} (hc : c < n) (hn : c < m) (y : Nat) : Anc (mix n W U) y c ↔ Anc W y c :=
 (anc_congr hW c hn (fun i hi => by simp [mix, show i < n by omega]) y).symm
theorem mix_split (hU : Good m U) (hW : Good m W) {n : Nat} (hn0 : 0 < n) : ∀ p, p < m → ∃ c, c < n ∧ Anc U c p ∧ ∀ y, y < n → ((Anc (mix n W U) y p ↔ Anc W y c) ∧ (Anc U y p ↔ Anc U y c)) := fun p => by
 induction p using Nat.strongRecOn with
 | ind p ih =>
  intro hp
  by_cases hlt : p < n
  ·exact ⟨p, hlt, .refl p, fun y _ => ⟨mix_lt hW hlt hp y, Iff.rfl⟩⟩
  ·have h2 := hU p (by omega) hp
   obtain ⟨c, hc, hcp, hy⟩ := ih (U p) h2 (by omega)
   refine ⟨c, hc, .up (by omega) hcp, fun y hyn => ?_⟩
   have hm : mix n W U p = U p := by simp [mix, hlt]
   constructor
   ·rw [← (hy y hyn).1]
    constructor
    ·intro h
     have := (anc_up_of_ne h (by omega)).2
     rwa [hm] at this
    ·intro h
     refine .up (by omega) ?_
     rwa [hm]
   ·rw [← (hy y hyn).2]
    constructor
    ·intro h; exact (anc_up_of_ne h (by omega)).2
    ·intro h; exact .up (by omega) h
variable {pr : Nat → List Nat} {par : Nat → Nat}
def First (m : Nat) (pr : Nat → List Nat) (U : Nat → Nat) : Prop := ∀ n, 0 < n → n < m → ∀ y, Anc U y (U n) ↔ ∀ p ∈ pr n, p < n → Anc U y p
def Next (m : Nat) (pr : Nat → List Nat) (U W : Nat → Nat) : Prop := ∀ n, 0 < n → n < m → ∀ y, Anc (mix n W U) y (W n) ↔ ∀ p ∈ pr n, Anc (mix n W U) y p
def Tree (m : Nat) (pr : Nat → List Nat) (U : Nat → Nat) : Prop := ∀ n, 0 < n → n < m → ∀ y, Anc U y (U n) → ∀ p ∈ pr n, p < n → Anc U y p
def Par (m : Nat) (pr : Nat → List Nat) (par : Nat → Nat) : Prop := ∀ n, 0 < n → n < m → par n ∈ pr n ∧ par n < n
def Low (m : Nat) (pr : Nat → List Nat) : Prop := ∀ n, n < m → ∀ p ∈ pr n, p < m
theorem tree_first (h : First m pr U) : Tree m pr U := fun n h0 hn y hy p hp hlt => (h n h0 hn y).1 hy p hp hlt
theorem tree_next (hW : Good m W) (h : Next m pr U W) : Tree m pr W := fun n h0 hn y hy p hp hlt => by
 have h1 : Anc (mix n W U) y (W n) := (mix_lt hW (hW n h0 hn) (by have := hW n h0 hn; omega) y).2 hy
 exact (mix_lt hW hlt (by omega) y).1 ((h n h0 hn y).1 h1 p hp)
theorem tree_par (hp : Par m pr par) (ht : Tree m pr U) {y n : Nat} (hn : n < m) (h : Anc U y n) (hne : y ≠ n) : 0 < n ∧ Anc U y (par n) := by
 obtain ⟨h0, h1⟩ := anc_up_of_ne h hne
 exact ⟨h0, ht n h0 hn y h1 _ (hp n h0 hn).1 (hp n h0 hn).2⟩
theorem par_good (hp : Par m pr par) : Good m par := fun i h0 hi => (hp i h0 hi).2
theorem tree_sub (hU : Good m U) (hp : Par m pr par) (ht : Tree m pr U) : ∀ n, n < m → ∀ y, Anc U y n → Anc par y n := fun n => by
 induction n using Nat.strongRecOn with
 | ind n ih =>
  intro hn y h
  by_cases hy : y = n
  ·subst hy; exact .refl y
  ·obtain ⟨h0, h1⟩ := tree_par hp ht hn h hy
   have := (hp n h0 hn).2
   exact .up h0 (ih _ this (by omega) y h1)
theorem tree_mid (hU : Good m U) (hp : Par m pr par) (ht : Tree m pr U) : ∀ p, p < m → ∀ y c, Anc U y p → Anc par c p → y ≤ c → Anc U y c := fun p => by
 induction p using Nat.strongRecOn with
 | ind p ih =>
  intro hpm y c hy hc hyc
  by_cases h : c = p
  ·subst h; exact hy
  ·obtain ⟨h0, h1⟩ := anc_up_of_ne hc h
   have h2 := (hp p h0 hpm).2
   have h3 := anc_le (par_good hp) (par p) (by omega) c h1
   obtain ⟨_, h4⟩ := tree_par hp ht hpm hy (by omega)
   exact ih (par p) h2 (by omega) y c h4 h1 hyc
inductive Inv (m : Nat) (pr : Nat → List Nat) : (Nat → Nat) → Prop where
 | first {U : Nat → Nat} (hU : Good m U) (h : First m pr U) : Inv m pr U
 | next {V U : Nat → Nat} (hV : Good m V) (hU : Good m U) (tV : Tree m pr V) (h : Next m pr V U) (hm : ∀ n, n < m → ∀ y, Anc U y n → Anc V y n) : Inv m pr U
theorem Inv.good (h : Inv m pr U) : Good m U := by cases h <;> assumption
theorem Inv.tree (h : Inv m pr U) : Tree m pr U := by
 cases h with
 | first hU h => exact tree_first h
 | next _ hU _ h _ => exact tree_next hU h
theorem mono (hp : Par m pr par) (hl : Low m pr) (hi : Inv m pr U) (hW : Good m W) (h : Next m pr U W) : ∀ n, n < m → ∀ y, Anc W y n → Anc U y n := fun n => by
 induction n using Nat.strongRecOn with
 | ind n ih =>
  intro hn y hy
  by_cases hyn : y = n
  ·subst hyn; exact .refl y
  obtain ⟨h0, h1⟩ := anc_up_of_ne hy hyn
  have hylt : y < n := by
   have := anc_le hW n hn y hy
   omega
  have hU := hi.good
  have hmx : ∀ p ∈ pr n, Anc (mix n W U) y p := (h n h0 hn y).1 ((mix_lt hW (hW n h0 hn) (by have := hW n h0 hn; omega) y).2 h1)
  -- y is above all that go on to n, by the elder state
  have hUp : ∀ p ∈ pr n, Anc U y p := fun p hpn => by
   obtain ⟨c, hc, hcp, hs⟩ := mix_split (W := W) hU hW h0 p (hl n hn p hpn)
   have h3 := ih c hc (by omega) y ((hs y hylt).1.1 (hmx p hpn))
   exact (hs y hylt).2.2 h3
  refine .up h0 ?_
  cases hi with
  | first _ hF => exact (hF n h0 hn y).2 fun p hpn _ => hUp p hpn
  | @next V _ hV _ tV hN hm =>
   have hlt := hU n h0 hn
   refine (mix_lt hU hlt (by omega) y).1 ((hN n h0 hn y).2 fun p hpn => ?_)
   have hpm := hl n hn p hpn
   obtain ⟨c, hc, hcp, hs⟩ := mix_split (W := U) hV hU h0 p hpm
   refine (hs y hylt).1.2 ?_
   have h5 := hUp p hpn
   have h6 := (hs y hylt).2.1 (hm p hpm y h5)
   have h7 := anc_le hV c (by omega) y h6
   exact tree_mid hU hp (by exact tree_next hU hN) p hpm y c h5 (tree_sub hV hp tV p hpm c hcp) h7
theorem inv_next (hp : Par m pr par) (hl : Low m pr) (hi : Inv m pr U) (hW : Good m W) (h : Next m pr U W) : Inv m pr W :=
 .next hi.good hW hi.tree h (mono hp hl hi hW h)
theorem down (hp : Par m pr par) (hl : Low m pr) (hi : Inv m pr U) (hW : Good m W) (h : Next m pr U W) {n : Nat} (h0 : 0 < n) (hn : n < m) : W n ≤ U n := by
 have h1 := mono hp hl hi hW h n hn (W n) (.up h0 (.refl _))
 have h2 := hW n h0 hn
 obtain ⟨_, h3⟩ := anc_up_of_ne h1 (by omega)
 have := hi.good n h0 hn
 exact anc_le hi.good (U n) (by omega) _ h3
inductive Av (m : Nat) (pr : Nat → List Nat) (y : Nat) : Nat → Prop where
 | base : 0 ≠ y → 0 < m → Av m pr y 0
 | step {p n : Nat} : Av m pr y p → n < m → p ∈ pr n → n ≠ y → Av m pr y n
theorem av_par (hp : Par m pr par) {y : Nat} : ∀ p, p < m → ∀ c, Anc par c p → y < c → Av m pr y c → Av m pr y p := fun p => by
 induction p using Nat.strongRecOn with
 | ind p ih =>
  intro hpm c hc hyc hav
  by_cases h : c = p
  ·subst h; exact hav
  ·obtain ⟨h0, h1⟩ := anc_up_of_ne hc h
   have h2 := hp p h0 hpm
   have h3 := anc_le (par_good hp) (par p) (by omega) c h1
   exact .step (ih (par p) h2.2 (by omega) c h1 hyc hav) hpm h2.1 (by omega)
theorem sound_first (hF : First m pr U) : ∀ n, n < m → ∀ y, ¬ Av m pr y n → Anc U y n := fun n => by
 induction n using Nat.strongRecOn with
 | ind n ih =>
  intro hn y hy
  by_cases hyn : y = n
  ·subst hyn; exact .refl y
  by_cases h0 : n = 0
  ·subst h0; exact absurd (.base (by omega) hn) hy
  ·refine .up (by omega) ((hF n (by omega) hn y).2 fun p hpn hlt => ih p hlt (by omega) y fun ha => hy (.step ha hn hpn (by omega)))
theorem sound_next (hp : Par m pr par) (hl : Low m pr) (hU : Good m U) (tU : Tree m pr U) (hs : ∀ n, n < m → ∀ y, ¬ Av m pr y n → Anc U y n) (hW : Good m W) (h : Next m pr U W) : ∀ n, n < m → ∀ y, ¬ Av m pr y n → Anc W y n := fun n => by
 induction n using Nat.strongRecOn with
 | ind n ih =>
  intro hn y hy
  by_cases hyn : y = n
  ·subst hyn; exact .refl y
  by_cases h0 : n = 0
  ·subst h0; exact absurd (.base (by omega) hn) hy
  have h0' : 0 < n := by omega
  have hp1 : ∀ p ∈ pr n, ¬ Av m pr y p := fun p hpn ha => hy (.step ha hn hpn (by omega))
  have hylt : y < n := by
   have := hp n h0' hn
   have h1 := hs _ (by omega) y (hp1 _ this.1)
   have := anc_le hU _ (by omega) y h1
   omega
  refine .up h0' ((mix_lt hW (hW n h0' hn) (by have := hW n h0' hn; omega) y).1 ((h n h0' hn y).2 fun p hpn => ?_))
  have hpm := hl n hn p hpn
  obtain ⟨c, hc, hcp, hsp⟩ := mix_split (W := W) hU hW h0' p hpm
  refine (hsp y hylt).1.2 (ih c hc (by omega) y fun ha => ?_)
  have h1 := hs p hpm y (hp1 p hpn)
  have h2 := (hsp y hylt).2.1 h1
  have h3 := anc_le hU c (by omega) y h2
  rcases Nat.lt_or_ge y c with h4 | h4
  ·exact hp1 p hpn (av_par hp p hpm c (tree_sub hU hp tU p hpm c hcp) h4 ha)
  ·have h5 : y = c := by omega
   subst h5
   cases ha with
   | base h6 => exact h6 rfl
   | step _ _ _ h6 => exact h6 rfl
theorem complete (h : Next m pr U U) {y n : Nat} (ha : Av m pr y n) : ¬ Anc U y n := by
 induction ha with
 | base h0 _ => intro h1; exact h0 (anc_zero_iff h1).symm
 | @step p n _ hn hpn hne ih =>
  intro h1
  obtain ⟨h0, h2⟩ := anc_up_of_ne h1 (fun h => hne h.symm)
  have hmm : mix n U U = U := by funext i; simp [mix]
  have := (h n h0 hn y).1 (by rw [hmm]; exact h2) p hpn
  rw [hmm] at this
  exact ih this
end
end Go.Avm.Dom
namespace Go.Avm.Dom
abbrev Graph := List (List Nat)
def succ (g : Graph) (a : Nat) : List Nat := g.getD a []
def Valid (g : Graph) : Prop := ∀ l ∈ g, ∀ b ∈ l, b < g.length
theorem succ_lt {g : Graph} (hg : Valid g) {a b : Nat} (h : b ∈ succ g a) : b < g.length ∧ a < g.length := by
 unfold succ at h
 rw [List.getD_eq_getElem?_getD] at h
 cases hl : g[a]? with
 | none => rw [hl] at h; simp at h
 | some l =>
  rw [hl] at h
  obtain ⟨h1, h2⟩ := List.getElem?_eq_some_iff.1 hl
  exact ⟨hg l (h2 ▸ List.getElem_mem h1) b (by simpa using h), h1⟩
inductive Re (g : Graph) (but : Option Nat) (a : Nat) : Nat → Prop where
 | refl : some a ≠ but → Re g but a a
 | step {p b : Nat} : Re g but a p → b ∈ succ g p → some b ≠ but → Re g but a b
theorem Re.trans {g : Graph} {but : Option Nat} {a b c : Nat} (h : Re g but a b) (k : Re g but b c) : Re g but a c := by
 induction k with
 | refl => exact h
 | step _ h1 h2 ih => exact .step ih h1 h2
theorem Re.lt {g : Graph} (hg : Valid g) {but : Option Nat} {a b : Nat} (h : Re g but a b) (ha : a < g.length) : b < g.length := by
 cases h with
 | refl => exact ha
 | step _ h1 _ => exact (succ_lt hg h1).1
theorem Re.weaken {g : Graph} {but : Option Nat} {a b : Nat} (h : Re g but a b) : Re g none a b := by
 induction h with
 | refl => exact .refl (by simp)
 | step _ h1 _ ih => exact .step ih h1 (by simp)
theorem Re.head {g : Graph} {a b c : Nat} (h : b ∈ succ g a) (k : Re g none b c) : Re g none a c :=
 Re.trans (.step (.refl (by simp)) h (by simp)) k
abbrev Acc := List Bool × List Nat
def dfs (g : Graph) : Nat → List Bool → Nat → Acc
 | 0, been, _ => (been, [])
 | f + 1, been, n =>
  let r := (succ g n).foldl (fun s b => if s.1.getD b true = true then s else ((dfs g f s.1 b).1, s.2 ++ (dfs g f s.1 b).2)) (been.set n true, [])
  (r.1, r.2 ++ [n])
def kids (g : Graph) (f : Nat) (s : Acc) (l : List Nat) : Acc := l.foldl (fun s b => if s.1.getD b true = true then s else ((dfs g f s.1 b).1, s.2 ++ (dfs g f s.1 b).2)) s
theorem dfs_succ (g : Graph) (f : Nat) (been : List Bool) (n : Nat) : dfs g (f + 1) been n = ((kids g f (been.set n true, []) (succ g n)).1, (kids g f (been.set n true, []) (succ g n)).2 ++ [n]) := rfl
theorem kids_nil (g : Graph) (f : Nat) (s : Acc) : kids g f s [] = s := rfl
theorem kids_met (g : Graph) (f : Nat) (s : Acc) (b : Nat) (r : List Nat) (h : s.1.getD b true = true) : kids g f s (b :: r) = kids g f s r := by
 simp only [kids, List.foldl_cons, h, if_true]
theorem kids_new (g : Graph) (f : Nat) (s : Acc) (b : Nat) (r : List Nat) (h : s.1.getD b true = false) : kids g f s (b :: r) = kids g f ((dfs g f s.1 b).1, s.2 ++ (dfs g f s.1 b).2) r := by
 simp only [kids, List.foldl_cons, h]
 rfl
def met (s : List Bool) (b : Nat) : Bool := s.getD b true
def left (s : List Bool) : Nat := s.count false
theorem met_set {s : List Bool} {n b : Nat} (hn : n < s.length) : met (s.set n true) b = (met s b || b == n) := by
 unfold met
 rw [List.getD_eq_getElem?_getD, List.getD_eq_getElem?_getD, List.getElem?_set]
 by_cases h : n = b
 ·subst h; simp [hn]
 ·rw [if_neg h]
  have : (b == n) = false := by simp; omega
  rw [this, Bool.or_false]
theorem met_lt {s : List Bool} {b : Nat} (h : met s b = false) : b < s.length := by
 unfold met at h
 rw [List.getD_eq_getElem?_getD] at h
 rcases Nat.lt_or_ge b s.length with h1 | h1
 ·exact h1
 ·rw [List.getElem?_eq_none h1] at h
  simp at h
theorem left_set : ∀ {s : List Bool} {n : Nat}, met s n = false → left (s.set n true) + 1 = left s
 | [], n, h => by simp [met] at h
 | x :: r, 0, h => by
  have hx : x = false := by simpa [met] using h
  subst hx
  simp [left]
 | x :: r, n + 1, h => by
  have h1 : met r n = false := by simpa [met] using h
  have := left_set h1
  simp only [left, List.set_cons_succ, List.count_cons] at this ⊢
  omega
structure Went (g : Graph) (been : List Bool) (been' : List Bool) (post : List Nat) : Prop where
 len : been'.length = been.length
 new : ∀ b, met been' b = (met been b || decide (b ∈ post))
 fresh : ∀ b ∈ post, met been b = false
 nodup : post.Nodup
 less : left been' ≤ left been
 closed : ∀ v ∈ post, ∀ b ∈ succ g v, met been' b = true
theorem went_refl (g : Graph) (been : List Bool) : Went g been been [] := ⟨rfl, fun b => by simp, fun b h => by simp at h, by simp, Nat.le_refl _, fun v h => by simp at h⟩
theorem went_trans {g : Graph} {b0 b1 b2 : List Bool} {p q : List Nat} (h : Went g b0 b1 p) (k : Went g b1 b2 q) : Went g b0 b2 (p ++ q) where
 len := k.len.trans h.len
 new b := by rw [k.new, h.new]; simp [Bool.or_assoc]
 fresh b hb := by
  rcases List.mem_append.1 hb with hb | hb
  ·exact h.fresh b hb
  ·have := k.fresh b hb
   rw [h.new] at this
   simp only [Bool.or_eq_false_iff] at this
   exact this.1
 nodup := by
  refine List.nodup_append.2 ⟨h.nodup, k.nodup, fun a ha b hb hab => ?_⟩
  subst hab
  have := k.fresh a hb
  rw [h.new] at this
  simp [ha] at this
 less := Nat.le_trans k.less h.less
 closed v hv b hb := by
  rcases List.mem_append.1 hv with hv | hv
  ·rw [k.new, h.closed v hv b hb]; rfl
  ·exact k.closed v hv b hb
theorem went {g : Graph} (hg : Valid g) : ∀ (f : Nat) (been : List Bool) (n : Nat), been.length = g.length → met been n = false → left been ≤ f → Went g been (dfs g f been n).1 (dfs g f been n).2 ∧ n ∈ (dfs g f been n).2
 | 0, been, n, hl, hn, hf => by have := left_set hn; omega
 | f + 1, been, n, hl, hn, hf => by
  have hlt := met_lt hn
  have hk : ∀ (l : List Nat) (s : Acc) , s.1.length = g.length → left s.1 ≤ f → ∃ q, (kids g f s l).2 = s.2 ++ q ∧ Went g s.1 (kids g f s l).1 q ∧ ∀ b ∈ l, met (kids g f s l).1 b = true := fun l => by
   induction l with
   | nil => intro s hs hs2; exact ⟨[], by simp [kids_nil], went_refl g _, fun b h => by simp at h⟩
   | cons b r ih =>
    intro s hs hs2
    cases hb : met s.1 b with
    | true =>
     rw [kids_met g f s b r hb]
     obtain ⟨q, h1, h2, h3⟩ := ih s hs hs2
     refine ⟨q, h1, h2, fun c hc => ?_⟩
     rcases List.mem_cons.1 hc with rfl | hc
     ·rw [h2.new, hb]; rfl
     ·exact h3 c hc
    | false =>
     rw [kids_new g f s b r hb]
     obtain ⟨w1, w2⟩ := went hg f s.1 b hs hb hs2
     obtain ⟨q, h1, h2, h3⟩ := ih ((dfs g f s.1 b).1, s.2 ++ (dfs g f s.1 b).2) (w1.len.trans hs) (Nat.le_trans w1.less hs2)
     refine ⟨(dfs g f s.1 b).2 ++ q, by rw [h1]; simp, went_trans w1 h2, fun c hc => ?_⟩
     rcases List.mem_cons.1 hc with rfl | hc
     ·rw [h2.new, w1.new]; simp [w2]
     ·exact h3 c hc
  rw [dfs_succ]
  have hl2 := left_set hn
  obtain ⟨q, h1, h2, h3⟩ := hk (succ g n) (been.set n true, []) (by simpa using hl) (by simpa using by omega)
  simp only [List.nil_append] at h1
  rw [h1]
  have hnq : n ∉ q := fun h => by
   have := h2.fresh n h
   rw [met_set hlt] at this
   simp at this
  refine ⟨⟨by simpa using h2.len, fun b => ?_, fun b hb => ?_, ?_, ?_, fun v hv b hb => ?_⟩, by simp⟩
  ·rw [h2.new, met_set hlt]
   simp only [List.mem_append, List.mem_singleton, Bool.decide_or, Bool.or_assoc]
   congr 1
   rw [Bool.or_comm]
   congr 1
  ·rcases List.mem_append.1 hb with hb | hb
   ·have := h2.fresh b hb
    rw [met_set hlt] at this
    simp only [Bool.or_eq_false_iff] at this
    exact this.1
   ·simp only [List.mem_singleton] at hb
    subst hb; exact hn
  ·exact List.nodup_append.2 ⟨h2.nodup, by simp, fun a ha b hb hab => by simp at hb; subst hab; subst hb; exact hnq ha⟩
  ·have h5 := h2.less
   show left (kids g f (been.set n true, []) (succ g n)).1 ≤ left been
   have h6 : left (been.set n true, ([] : List Nat)).1 = left (been.set n true) := rfl
   omega
  ·rcases List.mem_append.1 hv with hv | hv
   ·exact h2.closed v hv b hb
   ·simp only [List.mem_singleton] at hv
    subst hv
    exact h3 b hb
def Before (l : List Nat) (a b : Nat) : Prop := ∃ p q, l = p ++ q ∧ a ∈ p ∧ b ∈ q
theorem Before.append_left {l : List Nat} {a b : Nat} (m : List Nat) (h : Before l a b) : Before (m ++ l) a b := by
 obtain ⟨p, q, rfl, ha, hb⟩ := h
 exact ⟨m ++ p, q, by simp, by simp [ha], hb⟩
theorem Before.append_right {l : List Nat} {a b : Nat} (m : List Nat) (h : Before l a b) : Before (l ++ m) a b := by
 obtain ⟨p, q, rfl, ha, hb⟩ := h
 exact ⟨p, q ++ m, by simp, ha, by simp [hb]⟩
theorem Before.cross {l m : List Nat} {a b : Nat} (ha : a ∈ l) (hb : b ∈ m) : Before (l ++ m) a b := ⟨l, m, rfl, ha, hb⟩
structure Way (g : Graph) (been : List Bool) (n : Nat) (post : List Nat) : Prop where
 from_ : ∀ v ∈ post, Re g none n v
 up : ∀ v ∈ post, v ≠ n → ∃ w ∈ post, v ∈ succ g w ∧ Before post v w
 on : ∀ v ∈ post, ∀ b ∈ succ g v, Before post b v ∨ met been b = true ∨ Re g none b v
theorem way {g : Graph} (hg : Valid g) : ∀ (f : Nat) (been : List Bool) (n : Nat), been.length = g.length → met been n = false → left been ≤ f → Way g been n (dfs g f been n).2
 | 0, been, n, hl, hn, hf => by have := left_set hn; omega
 | f + 1, been, n, hl, hn, hf => by
  have hlt := met_lt hn
  have hk : ∀ (l : List Nat) (s : Acc) , (∀ b ∈ l, b ∈ succ g n) → s.1.length = g.length → left s.1 ≤ f →
      ∃ q, (kids g f s l).2 = s.2 ++ q ∧ (∀ v ∈ q, Re g none n v) ∧ (∀ v ∈ q, v ∈ succ g n ∨ ∃ w ∈ q, v ∈ succ g w ∧ Before q v w) ∧
       (∀ v ∈ q, ∀ b ∈ succ g v, Before q b v ∨ met s.1 b = true ∨ Re g none b v) := fun l => by
   induction l with
   | nil => intro s _ hs hs2; exact ⟨[], by simp [kids_nil], fun b h => by simp at h, fun b h => by simp at h, fun b h => by simp at h⟩
   | cons b r ih =>
    intro s hb0 hs hs2
    cases hb : met s.1 b with
    | true =>
     rw [kids_met g f s b r hb]
     exact ih s (fun c hc => hb0 c (by simp [hc])) hs hs2
    | false =>
     rw [kids_new g f s b r hb]
     obtain ⟨w1, w2⟩ := went hg f s.1 b hs hb hs2
     have wy := way hg f s.1 b hs hb hs2
     obtain ⟨q, h1, h2, h3, h4⟩ := ih ((dfs g f s.1 b).1, s.2 ++ (dfs g f s.1 b).2) (fun c hc => hb0 c (by simp [hc])) (w1.len.trans hs) (Nat.le_trans w1.less hs2)
     refine ⟨(dfs g f s.1 b).2 ++ q, by rw [h1]; simp, fun v hv => ?_, fun v hv => ?_, fun v hv c hc => ?_⟩
     ·rcases List.mem_append.1 hv with hv | hv
      ·exact Re.head (hb0 b (by simp)) (wy.from_ v hv)
      ·exact h2 v hv
     ·rcases List.mem_append.1 hv with hv | hv
      ·by_cases hvb : v = b
       ·subst hvb; exact .inl (hb0 v (by simp))
       ·obtain ⟨w, hw, hw1, hw2⟩ := wy.up v hv hvb
        exact .inr ⟨w, by simp [hw], hw1, hw2.append_right _⟩
      ·rcases h3 v hv with h | ⟨w, hw, hw1, hw2⟩
       ·exact .inl h
       ·exact .inr ⟨w, by simp [hw], hw1, hw2.append_left _⟩
     ·rcases List.mem_append.1 hv with hv | hv
      ·rcases wy.on v hv c hc with h | h | h
       ·exact .inl (h.append_right _)
       ·exact .inr (.inl h)
       ·exact .inr (.inr h)
      ·rcases h4 v hv c hc with h | h | h
       ·exact .inl (h.append_left _)
       ·rw [w1.new] at h
        simp only [Bool.or_eq_true, decide_eq_true_eq] at h
        rcases h with h | h
        ·exact .inr (.inl h)
        ·exact .inl (Before.cross h hv)
       ·exact .inr (.inr h)
  rw [dfs_succ]
  have hl2 := left_set hn
  obtain ⟨q, h1, h2, h3, h4⟩ := hk (succ g n) (been.set n true, []) (fun b hb => hb) (by simpa using hl) (by simpa using by omega)
  simp only [List.nil_append] at h1
  rw [h1]
  refine ⟨fun v hv => ?_, fun v hv hvn => ?_, fun v hv b hb => ?_⟩
  ·rcases List.mem_append.1 hv with hv | hv
   ·exact h2 v hv
   ·simp only [List.mem_singleton] at hv
    subst hv; exact .refl (by simp)
  ·rcases List.mem_append.1 hv with hv | hv
   ·rcases h3 v hv with h | ⟨w, hw, hw1, hw2⟩
    ·exact ⟨n, by simp, h, Before.cross hv (by simp)⟩
    ·exact ⟨w, by simp [hw], hw1, hw2.append_right _⟩
   ·simp only [List.mem_singleton] at hv
    exact absurd hv hvn
  ·rcases List.mem_append.1 hv with hq | hv
   ·rcases h4 v hq b hb with h | h | h
    ·exact .inl (h.append_right _)
    ·rw [met_set hlt] at h
     simp only [Bool.or_eq_true, beq_iff_eq] at h
     rcases h with h | h
     ·exact .inr (.inl h)
     ·rw [h]; exact .inr (.inr (h2 v hq))
    ·exact .inr (.inr h)
   ·simp only [List.mem_singleton] at hv
    subst hv
    have hlt2 := met_set (b := b) hlt
    obtain ⟨q', k1, k2, k3⟩ := (by
     have hkk := went hg (f + 1) been v hl hn hf
     rw [dfs_succ, h1] at hkk
     exact ⟨q, rfl, hkk.1, hkk.2⟩ : ∃ q', q' = q ∧ Went g been (kids g f (been.set v true, []) (succ g v)).1 (q' ++ [v]) ∧ v ∈ q' ++ [v])
    subst k1
    have := k2.closed v (by simp) b hb
    rw [k2.new] at this
    simp only [Bool.or_eq_true, decide_eq_true_eq, List.mem_append, List.mem_singleton] at this
    rcases this with h | h | h
    ·exact .inr (.inl h)
    ·exact .inl (Before.cross h (by simp))
    ·subst h; exact .inr (.inr (.refl (by simp)))
def orderOf (g : Graph) : List Nat := if g.length = 0 then [] else (dfs g g.length (List.replicate g.length false) 0).2.reverse
theorem met_none (n b : Nat) : met (List.replicate n false) b = decide (n ≤ b) := by
 unfold met
 rw [List.getD_eq_getElem?_getD, List.getElem?_replicate]
 split
 ·simp; omega
 ·simp; omega
theorem left_none (n : Nat) : left (List.replicate n false) = n := by simp [left]
theorem dfs_last (g : Graph) (f : Nat) (been : List Bool) (n : Nat) : ∃ q, (dfs g (f + 1) been n).2 = q ++ [n] := ⟨_, by rw [dfs_succ]⟩
section
variable {g : Graph} (hg : Valid g)
include hg
theorem order_mem (b : Nat) : b ∈ orderOf g ↔ 0 < g.length ∧ Re g none 0 b := by
 unfold orderOf
 split
 ·rename_i h; simp [h]
 ·rename_i h
  have h0 : met (List.replicate g.length false) 0 = false := by rw [met_none]; exact decide_eq_false (by omega)
  have hl : (List.replicate g.length false).length = g.length := by simp
  have hf : left (List.replicate g.length false) ≤ g.length := by rw [left_none]; exact Nat.le_refl _
  obtain ⟨w1, w2⟩ := went hg g.length _ 0 hl h0 hf
  have wy := way hg g.length _ 0 hl h0 hf
  rw [List.mem_reverse]
  constructor
  ·intro hb; exact ⟨by omega, wy.from_ b hb⟩
  ·rintro ⟨_, hb⟩
   induction hb with
   | refl => exact w2
   | @step p b _ h1 _ ih =>
    have := w1.closed p ih b h1
    rw [w1.new, met_none] at this
    have hlt := (succ_lt hg h1).1
    simp only [Bool.or_eq_true, decide_eq_true_eq] at this
    exact this.resolve_left (by omega)
theorem order_nodup : (orderOf g).Nodup := by
 unfold orderOf
 split
 ·simp
 ·rename_i h
  have h0 : met (List.replicate g.length false) 0 = false := by rw [met_none]; exact decide_eq_false (by omega)
  unfold List.Nodup
  rw [List.pairwise_reverse]
  refine List.Pairwise.imp (R := (· ≠ ·)) (fun h => Ne.symm h) ?_
  exact (went hg g.length _ 0 (by simp) h0 (by rw [left_none]; exact Nat.le_refl _)).1.nodup
omit hg in
theorem order_head (h : 0 < g.length) : ∃ q, orderOf g = 0 :: q := by
 unfold orderOf
 rw [if_neg (by omega)]
 obtain ⟨m, hm⟩ : ∃ m, g.length = m + 1 := ⟨g.length - 1, by omega⟩
 rw [hm]
 obtain ⟨q, hq⟩ := dfs_last g m (List.replicate (m + 1) false) 0
 exact ⟨q.reverse, by rw [hq]; simp⟩
omit hg in
theorem before_rev {l : List Nat} {a b : Nat} (h : Before l a b) : Before l.reverse b a := by
 obtain ⟨p, q, rfl, ha, hb⟩ := h
 exact ⟨q.reverse, p.reverse, by simp, by simpa using hb, by simpa using ha⟩
theorem order_up {v : Nat} (hv : v ∈ orderOf g) (hv0 : v ≠ 0) : ∃ w, v ∈ succ g w ∧ Before (orderOf g) w v := by
 unfold orderOf at hv ⊢
 split
 ·rename_i h; simp [h] at hv
 ·rename_i h
  rw [if_neg h] at hv
  have h0 : met (List.replicate g.length false) 0 = false := by rw [met_none]; exact decide_eq_false (by omega)
  have wy := way hg g.length _ 0 (by simp) h0 (by rw [left_none]; exact Nat.le_refl _)
  obtain ⟨w, _, h1, h2⟩ := wy.up v (by simpa using hv) hv0
  exact ⟨w, h1, before_rev h2⟩
end
end Go.Avm.Dom
namespace Go.Avm.Dom
def nodeAt (g : Graph) (i : Nat) : Nat := (orderOf g).getD i 0
def reachN (g : Graph) : Nat := (orderOf g).length
def preds (g : Graph) (i : Nat) : List Nat := (List.range (reachN g)).filter fun p => decide (nodeAt g i ∈ succ g (nodeAt g p))
def Reached (g : Graph) (b : Nat) : Prop := Re g none 0 b
def Doms (g : Graph) (a b : Nat) : Prop := Reached g a ∧ Reached g b ∧ (a = b ∨ ¬ Re g (some a) 0 b)
section
variable {g : Graph} (hg : Valid g)
include hg
theorem nodeAt_mem {i : Nat} (hi : i < reachN g) : nodeAt g i ∈ orderOf g := by
 unfold nodeAt
 rw [List.getD_eq_getElem?_getD, List.getElem?_eq_getElem hi]
 exact List.getElem_mem hi
theorem nodeAt_reached {i : Nat} (hi : i < reachN g) : Reached g (nodeAt g i) := ((order_mem hg _).1 (nodeAt_mem hg hi)).2
omit hg in
theorem nodeAt_get {i : Nat} (hi : i < reachN g) : (orderOf g)[i]? = some (nodeAt g i) := by
 unfold nodeAt
 rw [List.getD_eq_getElem?_getD, List.getElem?_eq_getElem hi]
 rfl
theorem nodeAt_inj {i j : Nat} (hi : i < reachN g) (hj : j < reachN g) (h : nodeAt g i = nodeAt g j) : i = j := by
 have h1 := nodeAt_get hi
 have h2 := nodeAt_get hj
 rw [h, ← h2] at h1
 exact (List.getElem?_inj hi (order_nodup hg)).1 h1
theorem nodeAt_ex (h : 0 < g.length) {b : Nat} (hb : Reached g b) : ∃ i, i < reachN g ∧ nodeAt g i = b := by
 obtain ⟨i, hi, he⟩ := List.getElem_of_mem ((order_mem hg b).2 ⟨h, hb⟩)
 refine ⟨i, hi, ?_⟩
 unfold nodeAt
 rw [List.getD_eq_getElem?_getD, List.getElem?_eq_getElem hi, he]
 rfl
omit hg in
theorem reachN_pos (h : 0 < g.length) : 0 < reachN g := by
 obtain ⟨q, hq⟩ := order_head h
 unfold reachN
 rw [hq]; simp
omit hg in
theorem nodeAt_zero (h : 0 < g.length) : nodeAt g 0 = 0 := by
 obtain ⟨q, hq⟩ := order_head h
 unfold nodeAt
 rw [hq]; rfl
omit hg in
theorem preds_mem {i p : Nat} : p ∈ preds g i ↔ p < reachN g ∧ nodeAt g i ∈ succ g (nodeAt g p) := by simp [preds]
omit hg in
theorem preds_low : Low (reachN g) (preds g) := fun _ _ _ hp => (preds_mem.1 hp).1
theorem before_places {v w : Nat} (h : Before (orderOf g) w v) : ∃ i j, i < j ∧ j < reachN g ∧ nodeAt g i = w ∧ nodeAt g j = v := by
 obtain ⟨p, q, hpq, hw, hv⟩ := h
 obtain ⟨i, hi, he⟩ := List.getElem_of_mem hw
 obtain ⟨j, hj, hf⟩ := List.getElem_of_mem hv
 refine ⟨i, p.length + j, by omega, by unfold reachN; rw [hpq]; simp; omega, ?_, ?_⟩
 ·unfold nodeAt
  rw [hpq, List.getD_eq_getElem?_getD, List.getElem?_append_left hi, List.getElem?_eq_getElem hi, he]; rfl
 ·unfold nodeAt
  rw [hpq, List.getD_eq_getElem?_getD, List.getElem?_append_right (by omega), Nat.add_sub_cancel_left, List.getElem?_eq_getElem hj, hf]; rfl
theorem par_ex : ∃ par, Par (reachN g) (preds g) par := by
 refine ⟨fun n => ((preds g n).find? (fun p => decide (p < n))).getD 0, fun n h0 hn => ?_⟩
 have hg0 : 0 < g.length := by
  rcases Nat.eq_zero_or_pos g.length with h | h
  ·unfold reachN orderOf at hn; rw [if_pos h] at hn; simp at hn
  ·exact h
 have hv := nodeAt_mem hg hn
 have hne : nodeAt g n ≠ 0 := fun h => by
  have := nodeAt_inj hg hn (by omega : 0 < reachN g) (h.trans (nodeAt_zero hg0).symm)
  omega
 obtain ⟨w, h1, h2⟩ := order_up hg hv hne
 obtain ⟨i, j, hij, hj, h3, h4⟩ := before_places hg h2
 have h5 := nodeAt_inj hg hj hn h4
 subst h5
 have hp : i ∈ preds g j := preds_mem.2 ⟨by omega, by rw [h3]; exact h1⟩
 cases hf : (preds g j).find? (fun p => decide (p < j)) with
 | none =>
  rw [List.find?_eq_none] at hf
  exact absurd hij (by simpa using hf i hp)
 | some p =>
  have h6 := List.find?_some hf
  have h7 := List.mem_of_find?_eq_some hf
  simp only [decide_eq_true_eq] at h6
  show ((preds g j).find? (fun p => decide (p < j))).getD 0 ∈ preds g j ∧ ((preds g j).find? (fun p => decide (p < j))).getD 0 < j
  rw [hf]
  exact ⟨h7, h6⟩
theorem av_re {y i : Nat} (hy : y < reachN g) (h : Av (reachN g) (preds g) y i) : i < reachN g ∧ Re g (some (nodeAt g y)) 0 (nodeAt g i) := by
 have hg0 : 0 < g.length := by
  rcases Nat.eq_zero_or_pos g.length with h | h
  ·unfold reachN orderOf at hy; rw [if_pos h] at hy; simp at hy
  ·exact h
 induction h with
 | base h0 hm =>
  refine ⟨hm, ?_⟩
  rw [nodeAt_zero hg0]
  refine .refl fun h => h0 (nodeAt_inj hg hm hy ?_)
  rw [nodeAt_zero hg0]
  exact Option.some.inj h
 | @step p n _ hn hp hne ih =>
  exact ⟨hn, .step ih.2 (preds_mem.1 hp).2 fun h => hne (nodeAt_inj hg hn hy (Option.some.inj h))⟩
theorem re_av {y : Nat} (hg0 : 0 < g.length) (hy : y < reachN g) {b : Nat} (h : Re g (some (nodeAt g y)) 0 b) : ∃ i, i < reachN g ∧ nodeAt g i = b ∧ Av (reachN g) (preds g) y i := by
 induction h with
 | refl h0 =>
  refine ⟨0, reachN_pos hg0, nodeAt_zero hg0, .base (fun h => h0 ?_) (reachN_pos hg0)⟩
  subst h
  rw [nodeAt_zero hg0]
 | @step p b hp h1 h2 ih =>
  obtain ⟨i, hi, he, ha⟩ := ih
  have hr : Reached g b := .step (Re.weaken hp) h1 (by simp)
  obtain ⟨j, hj, hje⟩ := nodeAt_ex hg hg0 hr
  refine ⟨j, hj, hje, .step ha hj (preds_mem.2 ⟨hi, by rw [he, hje]; exact h1⟩) fun h => h2 ?_⟩
  rw [← hje, h]
structure Fixed (g : Graph) (U : Nat → Nat) : Prop where
 good : Good (reachN g) U
 inv : Inv (reachN g) (preds g) U
 sound : ∀ n, n < reachN g → ∀ y, ¬ Av (reachN g) (preds g) y n → Anc U y n
 fix : Next (reachN g) (preds g) U U
variable {U : Nat → Nat}
theorem anc_doms (hU : Fixed g U) {i j : Nat} (hi : i < reachN g) (hj : j < reachN g) : Anc U i j ↔ Doms g (nodeAt g i) (nodeAt g j) := by
 have hg0 : 0 < g.length := by
  rcases Nat.eq_zero_or_pos g.length with h | h
  ·unfold reachN orderOf at hi; rw [if_pos h] at hi; simp at hi
  ·exact h
 constructor
 ·intro h
  refine ⟨nodeAt_reached hg hi, nodeAt_reached hg hj, ?_⟩
  by_cases hij : nodeAt g i = nodeAt g j
  ·exact .inl hij
  ·refine .inr fun hr => ?_
   obtain ⟨k, hk, he, ha⟩ := re_av hg hg0 hi hr
   have := nodeAt_inj hg hk hj he
   subst this
   exact complete hU.fix ha h
 ·rintro ⟨_, _, h | h⟩
  ·rw [nodeAt_inj hg hi hj h]; exact .refl _
  ·exact hU.sound j hj i fun ha => h (av_re hg hi ha).2
end
end Go.Avm.Dom
