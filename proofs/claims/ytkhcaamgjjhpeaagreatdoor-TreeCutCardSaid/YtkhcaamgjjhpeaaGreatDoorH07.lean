/-
  The abstract machine, part T: runs on open data are right.
-/
import Derived.Test.YtkhcaamgjjhpeaaGreatDoorH06
import Derived.Test.YtkhcaamgjjhpeaaGreatDoorH05
import Derived.Sort.Grow
set_option linter.unusedSectionVars false
namespace Go.Avm
open Go.RowKit
variable [GlobTab]
def RightH (P : Program) (ex : ExecH) : Prop := ∀ fno base N c S e S' b' tk ps, ex fno base N c S = some (e, S', b', tk, ps) → Alike ps →
 (∀ X : Fix, X.P = P → X.N = N → AW X c S fun e' S'' => e' = e ∧ S'' = S') ∧ ∀ k, k ∉ tk → S'.heap k = S.heap k
section
variable {P : Program} {pr : Par P}
theorem callDH_sound (hm : OkP P) (hn : Named P) {ex : ExecH} (hex : RightH P ex) {g : Nat} {ds rs : List D} {ps : Pairs} (h : callDH P ex g ds = some (rs, ps)) (hs : Alike ps) : Pure P g ds rs := by
 unfold callDH at h
 split at h
 ·cases h
 ·rename_i fn hf
  split at h
  ·cases h
  ·rename_i b hb
   split at h
   ·rename_i hl
    refine pure_of_aw hm hf hb (hn.1 g fn hf) hl (fun X hP hN => ?_)
    split at h
    ·rename_i S' b' tk ps' he
     simp only [Option.map_eq_some_iff, Prod.mk.injEq] at h
     obtain ⟨rs', hr, rfl, rfl⟩ := h
     refine ((hex _ _ _ _ _ _ _ _ _ _ he hs).1 X hP hN).mono ?_
     rintro e S'' ⟨rfl, rfl⟩
     exact ⟨.inl rfl, hr⟩
    ·rename_i S' b' tk ps' he
     simp only [Option.map_eq_some_iff, Prod.mk.injEq] at h
     obtain ⟨rs', hr, rfl, rfl⟩ := h
     refine ((hex _ _ _ _ _ _ _ _ _ _ he hs).1 X hP hN).mono ?_
     rintro e S'' ⟨rfl, rfl⟩
     exact ⟨.inr rfl, hr⟩
    ·cases h
   ·cases h
theorem callHH_sound (hm : OkP P) (hn : Named P) {ex : ExecH} (hex : RightH P ex) {base g : Nat} {args rs : List AV} {h h' : Heap} {b2 : Nat} {tk : List Nat} {ps : Pairs} (hc : callHH P ex base g args h = some (rs, h', b2, tk, ps)) (hs : Alike ps) :
    HCall P g args h rs h' ∧ ∀ k, k ∉ tk → h' k = h k := by
 unfold callHH at hc
 split at hc
 ·cases hc
 ·rename_i fn hf
  split at hc
  ·cases hc
  ·rename_i b hb
   split at hc
   ·rename_i hl
    split at hc
    ·rename_i S' b' tk' ps' he
     simp only [Option.map_eq_some_iff, Prod.mk.injEq] at hc
     obtain ⟨rs', h1, rfl, rfl, rfl, rfl, rfl⟩ := hc
     have hr := hex _ _ _ _ _ _ _ _ _ _ he hs
     refine ⟨hcall_of_aw hm hf hb (hn.1 g fn hf) hl (fun X hP hN => ?_), hr.2⟩
     refine (hr.1 X hP hN).mono ?_
     rintro e S'' ⟨rfl, rfl⟩
     exact ⟨.inl rfl, h1, rfl⟩
    ·rename_i S' b' tk' ps' he
     simp only [Option.map_eq_some_iff, Prod.mk.injEq] at hc
     obtain ⟨rs', h1, rfl, rfl, rfl, rfl, rfl⟩ := hc
     have hr := hex _ _ _ _ _ _ _ _ _ _ he hs
     refine ⟨hcall_of_aw hm hf hb (hn.1 g fn hf) hl (fun X hP hN => ?_), hr.2⟩
     refine (hr.1 X hP hN).mono ?_
     rintro e S'' ⟨rfl, rfl⟩
     exact ⟨.inr rfl, h1, rfl⟩
    ·cases hc
   ·cases hc
theorem callXH_sound (hm : OkP P) (hn : Named P) {ex : ExecH} (hex : RightH P ex) {fno key base g : Nat} {args rs : List AV} {h h' : Heap} {b2 : Nat} {tk : List Nat} {ps : Pairs} (hc : callXH P pr ex fno key base g args h = some (rs, h', b2, tk, ps)) (hs : Alike ps) :
    HCall P g args h rs h' ∧ ∀ k, k ∉ tk → h' k = h k := by
 unfold callXH at hc
 split at hc
 ·rename_i H _
  split at hc
  case isFalse => cases hc
  rename_i hg
  split at hc
  case h_2 => cases hc
  rename_i q hq
  simp only [Option.some.injEq, Prod.mk.injEq] at hc
  obtain ⟨rfl, rfl, _, rfl, rfl⟩ := hc
  have h1 := hs.head
  simp only [Side.av.injEq, AV.tup.injEq] at h1
  subst h1
  subst hg
  refine ⟨H.proof h (heapPairs_spec hq hs.tail), fun k hk => ?_⟩
  simp only [List.mem_append, not_or] at hk
  rw [ovl_ne _ _ hk.1, H.hrst h k hk.2]
 ·exact callHH_sound hm hn hex hc hs
theorem callOnceH_sound (hm : OkP P) (hn : Named P) {ex : ExecH} (hex : RightH P ex) {base g : Nat} {args : List AV} {h h' : Heap} {b2 : Nat} {tk : List Nat} {ps : Pairs} (hg : isOnce g = true) (hc : callOnceH P ex base args h = some (h', b2, tk, ps)) (hs : Alike ps) :
    HCall P g args h [] h' ∧ ∀ k, k ∉ tk → h' k = h k := by
 have hok := hn.2 g (isOnce_spec hg)
 unfold callOnceH at hc
 split at hc
 case h_2 => cases hc
 rename_i a f caps
 split at hc
 case h_2 => cases hc
 rename_i k v i es n m ha
 obtain ⟨o1, o2⟩ := hok h a f caps k v i es n m ha
 split at hc
 ·rename_i hn0
  split at hc
  ·rename_i hm0
   split at hc
   ·rename_i r hr
    split at hc
    ·rename_i k2 v2 i2 es2 n2 m2 ha2
     split at hc
     ·rename_i hcc
      obtain ⟨rfl, rfl, rfl, rfl, rfl⟩ := hcc
      simp only [Option.some.injEq, Prod.mk.injEq] at hc
      obtain ⟨rfl, rfl, rfl, rfl⟩ := hc
      obtain ⟨r1, r2, r3, r4, r5⟩ := r
      obtain ⟨g1, g2⟩ := callHH_sound hm hn hex hr hs
      refine ⟨o2 hn0 hm0 r1 r2 es2 g1 ha2, fun k' hk' => ?_⟩
      simp only [List.mem_cons, not_or] at hk'
      exact (upd_ne _ _ hk'.1).trans ((g2 k' hk'.2).trans (upd_ne _ _ hk'.1))
     ·cases hc
    ·cases hc
   ·cases hc
  ·cases hc
 ·rename_i hn0
  simp only [Option.some.injEq, Prod.mk.injEq] at hc
  obtain ⟨rfl, rfl, rfl, rfl⟩ := hc
  exact ⟨o1 hn0, fun _ _ => rfl⟩
theorem yieldH_sound (hm : OkP P) {ex : ExecH} (hex : RightH P ex) {base k v : Nat} {args : List AV} {h : Heap} {r : Bool × Heap × Nat × List Nat × Pairs} (hy : yieldH ex base k v args h = some r) (hs : Alike r.2.2.2.2) :
    YCall P k v args h [.d (.bool r.1)] r.2.1 ∧ ∀ k', k' ∉ r.2.2.2.1 → r.2.1 k' = h k' := by
 unfold yieldH at hy
 split at hy
 case h_2 => cases hy
 rename_i fno N env ps as bd hob
 split at hy
 case h_2 => cases hy
 rename_i env1 henv
 split at hy
 case h_2 => cases hy
 rename_i S1 b1 tk1 ps1 h1
 split at hy
 case h_2 => cases hy
 rename_i f1 N1 e1 q1 as1 bd1 hob1
 split at hy
 case h_2 => cases hy
 rename_i q hq
 obtain ⟨e, S2, b2, tk2, ps2⟩ := q
 split at hy
 case h_2 => cases hy
 rename_i f2 N2 e2 q2 as2 bd2 st2 z hob2 hz
 simp only [Option.some.injEq] at hy
 subst hy
 have g1 := hs.head
 have g2 := hs.tail.head
 have g3 := hs.tail.tail.head
 simp only [Side.nat.injEq] at g1 g2 g3
 have a1 := hex _ _ _ _ _ _ _ _ _ _ h1 hs.tail.tail.tail.left
 have a2 := hex _ _ _ _ _ _ _ _ _ _ hq hs.tail.tail.tail.right
 refine ⟨ycall_of_aw hm g1 hob henv (fun X hP hN => a1.1 X hP hN) g2 hob1 (fun X hP hN => a2.1 X hP hN) g3 hob2 hz, fun k' hk' => ?_⟩
 simp only [List.mem_cons, List.mem_append, not_or] at hk'
 exact (upd_ne _ _ hk'.1).trans ((a2.2 k' hk'.2.2).trans ((upd_ne _ _ hk'.1).trans (a1.2 k' hk'.2.1)))
theorem stepA_call {cfg : Cfg} {N i : Nat} {ops : Array Oper} {o : Oper} {S : St} {env : Nat → AV} {g : Nat} {args : List AV} {out : Out} (hw : wantedA ops o S.env = some true) (hco : callOf o S.env = some (g, args)) (hext : GlobTab.ext g = none) (hhc : cfg.hc i = none)
    (ho : opCall cfg i g args S.heap = some out) (hwr : out.wr = []) (hpt : putA N S.env o.dst out.val = some env) : stepA P cfg N ops i o S = some (⟨env, S.heap⟩, out.ob.map .data, ⟨i, out.rd, [], false⟩) := by
 unfold stepA
 rw [hw]
 simp only [hhc]
 have hcore : core P cfg i o (opd S.env) S.heap = some out := by
  unfold callOf at hco
  split at hco
  ·rename_i c hop
   split at hco
   ·rename_i f hcal
    split at hco
    ·rename_i g' caps hf
     simp only [Option.some.injEq, Prod.mk.injEq] at hco
     obtain ⟨rfl, rfl⟩ := hco
     simp only [core, hop, coreCall, hcal, hf, hext, ho]
    ·cases hco
   ·cases hco
  ·cases hco
 simp only [hcore, hpt, Option.map_some, hwr, updAll, List.map_nil]
theorem stepH_step (hm : OkP P) (hn : Named P) {ex : ExecH} (hex : RightH P ex) {fno rid base N i : Nat} {ops : Array Oper} {o : Oper} {S S' : St} {ft : Foot} {b2 : Nat} {tk : List Nat} {ps : Pairs}
    (h : stepH P pr ex fno rid base N ops i o S = some (S', ft, b2, tk, ps)) (hs : Alike ps) :
    (∃ r : CallRes, ∀ cfg : Cfg, cfg.ret i = r.ret → cfg.hc i = r.hc → cfg.obm i = pr.obm fno (o.dst.getD 0) → cfg.base i = r.base → ∃ ob, stepA P cfg N ops i o S = some (S', ob, ft) ∧ Obls P ob) ∧ ∀ k, k ∉ tk → S'.heap k = S.heap k := by
 unfold stepH at h
 split at h
 ·rename_i hw
  split at h
  ·rename_i g args hci
   obtain ⟨hco, hext⟩ := callIn_some hci
   split at h
   ·rename_i H hH
    split at h
    case isFalse => cases h
    rename_i hg
    split at h
    case h_2 => cases h
    rename_i q hq
    simp only [Option.map_eq_some_iff, Prod.mk.injEq] at h
    obtain ⟨env, hpt, rfl, rfl, rfl, rfl, rfl⟩ := h
    have h1 := hs.head
    simp only [Side.av.injEq, AV.tup.injEq] at h1
    subst h1
    have hfits : Fits S.heap H.pre := heapPairs_spec hq hs.tail
    refine ⟨⟨⟨[], some (.frame H.pre H.rs H.post), base⟩, fun cfg h1 h2 h3 h4 => ⟨[.frame g H.args H.pre H.rs H.post], ?_, ?_⟩⟩, fun k hk => updAll_ne _ _ hk⟩
    ·unfold stepA
     rw [hw]
     simp only [h2, hco, hpt, Option.map_some]
     rw [if_pos hfits]
    ·intro c hc
     simp only [List.mem_singleton] at hc
     subst hc
     show ∀ h, Fits h H.pre → HCall P g H.args h H.rs (ovl H.post h)
     rw [hg]
     exact H.proof
   split at h
   ·rename_i g' ds rs hp hhint
    split at h
    ·rename_i hg
     subst hg
     split at h
     ·rename_i ds' hds
      simp only [Option.map_eq_some_iff, Prod.mk.injEq] at h
      obtain ⟨env, hpt, rfl, rfl, rfl, rfl, rfl⟩ := h
      have h1 := hs.head
      simp only [Side.ds.injEq] at h1
      subst h1
      refine ⟨⟨⟨rs, none, base⟩, fun cfg h1 h2 h3 h4 => ⟨[.data (g', ds', rs)], ?_, ?_⟩⟩, fun _ _ => rfl⟩
      ·have ho : opCall cfg i g' args S.heap = some { val := retAV rs, ob := [(g', ds', rs)] } := by simp only [opCall, hds, h1]
       exact stepA_call hw hco hext h2 ho rfl hpt
      ·intro c hc
       simp only [List.mem_singleton] at hc
       subst hc
       exact hp
     ·rename_i hds
      split at h
      ·rename_i r hv
       split at h
       ·rename_i hsc
        simp only [Option.map_eq_some_iff, Prod.mk.injEq] at h
        obtain ⟨env, hpt, rfl, rfl, rfl, rfl, rfl⟩ := h
        have h1 := hs.head
        simp only [Side.ds.injEq] at h1
        subst h1
        refine ⟨⟨⟨rs, none, base⟩, fun cfg h1 h2 h3 h4 => ⟨[.data (g', r.1, rs)], ?_, ?_⟩⟩, fun _ _ => rfl⟩
        ·have ho : opCall cfg i g' args S.heap = some { val := retAV rs, rd := r.2, ob := [(g', r.1, rs)] } := by
           simp only [opCall, hds, hv, h1]
           rw [if_pos hsc]
         exact stepA_call hw hco hext h2 ho rfl hpt
        ·intro c hc
         simp only [List.mem_singleton] at hc
         subst hc
         exact hp
       ·cases h
      ·cases h
    ·cases h
   ·split at h
    ·rename_i hone
     split at h
     ·rename_i r hr
      simp only [Option.map_eq_some_iff, Prod.mk.injEq] at h
      obtain ⟨env, hpt, rfl, rfl, rfl, rfl, rfl⟩ := h
      obtain ⟨r1, r2, r3, r4⟩ := r
      have hcs := callOnceH_sound hm hn hex hone hr hs
      refine ⟨⟨⟨[], some (.heap [] r1 r3), base⟩, fun cfg h1 h2 h3 h4 => ⟨[.heap g args S.heap [] r1], ?_, ?_⟩⟩, hcs.2⟩
      ·unfold stepA
       rw [hw]
       simp only [h2, hco, retV, hpt, Option.map_some]
       rw [if_pos hcs.2]
      ·intro c hc
       simp only [List.mem_singleton] at hc
       subst hc
       exact hcs.1
     ·cases h
    split at h
    ·rename_i ds hds
     split at h
     ·rename_i r hr
      simp only [Option.map_eq_some_iff, Prod.mk.injEq] at h
      obtain ⟨env, hpt, rfl, rfl, rfl, rfl, rfl⟩ := h
      have htd : toDs args = some ds := by
       split at hds
       ·cases hds
       ·exact hds
      refine ⟨⟨⟨r.1, none, base⟩, fun cfg h1 h2 h3 h4 => ⟨[.data (g, ds, r.1)], ?_, ?_⟩⟩, fun _ _ => rfl⟩
      ·have ho : opCall cfg i g args S.heap = some { val := retAV r.1, ob := [(g, ds, r.1)] } := by simp only [opCall, htd, h1]
       exact stepA_call hw hco hext h2 ho rfl hpt
      ·intro c hc
       simp only [List.mem_singleton] at hc
       subst hc
       exact callDH_sound hm hn hex hr hs
     ·cases h
    ·split at h
     ·rename_i r hr
      simp only [Option.map_eq_some_iff, Prod.mk.injEq] at h
      obtain ⟨env, hpt, rfl, rfl, rfl, rfl, rfl⟩ := h
      obtain ⟨r1, r2, r3, r4, r5⟩ := r
      have hcs := callXH_sound hm hn hex hr hs
      refine ⟨⟨⟨[], some (.heap r1 r2 r4), base⟩, fun cfg h1 h2 h3 h4 => ⟨[.heap g args S.heap r1 r2], ?_, ?_⟩⟩, hcs.2⟩
      ·unfold stepA
       rw [hw]
       simp only [h2, hco, hpt, Option.map_some]
       rw [if_pos hcs.2]
      ·intro c hc
       simp only [List.mem_singleton] at hc
       subst hc
       exact hcs.1
     ·cases h
  ·split at h
   ·rename_i y hyl
    split at h
    ·rename_i r hr
     simp only [Option.map_eq_some_iff, Prod.mk.injEq] at h
     obtain ⟨env, hpt, rfl, rfl, rfl, rfl, rfl⟩ := h
     obtain ⟨k, v, args⟩ := y
     have hcs := yieldH_sound hm hex hr hs
     refine ⟨⟨⟨[], some (.heap [.d (.bool r.1)] r.2.1 r.2.2.2.1), base⟩, fun cfg h1 h2 h3 h4 => ⟨[.yield k v args S.heap [.d (.bool r.1)] r.2.1], ?_, ?_⟩⟩, hcs.2⟩
     ·unfold stepA
      rw [hw]
      simp only [h2, yldOf_callOf hyl, hyl, retV, hpt, Option.map_some]
      rw [if_pos hcs.2]
     ·intro c hc
      simp only [List.mem_singleton] at hc
      subst hc
      exact hcs.1
    ·cases h
   split at h
   ·rename_i q hq
    split at h
    case h_2 => cases h
    rename_i hnob
    simp only [Option.map_eq_some_iff, Prod.mk.injEq] at h
    obtain ⟨env, hpt, rfl, rfl, rfl, rfl, rfl⟩ := h
    have hcore := coreH_spec hq hs
    refine ⟨⟨⟨[], none, base⟩, fun cfg h1 h2 h3 h4 => ⟨q.1.ob.map .data, ?_, ?_⟩⟩, fun k hk => updAll_ne _ _ hk⟩
    ·unfold stepA
     rw [hw]
     simp only [h2]
     rw [core_cfg (cfg' := cfg) (cfg := { obm := fun _ => pr.obm fno (o.dst.getD 0), base := fun _ => base }) h1 h3 h4, hcore]
     simp only [hpt, Option.map_some]
    ·rw [hnob]
     intro c hc
     cases hc
   ·cases h
 ·rename_i hw
  simp only [Option.map_eq_some_iff, Prod.mk.injEq] at h
  obtain ⟨env, hpt, rfl, rfl, rfl, rfl, rfl⟩ := h
  refine ⟨⟨⟨[], none, base⟩, fun cfg h1 h2 h3 h4 => ⟨[], ?_, fun c hc => by cases hc⟩⟩, fun _ _ => rfl⟩
  unfold stepA
  rw [hw]
  simp only [hpt, Option.map_some]
 ·cases h
theorem opsH_run (hm : OkP P) (hn : Named P) {ex : ExecH} (hex : RightH P ex) {fno rid N : Nat} {ops : Array Oper} : ∀ (l : List Oper) (k base : Nat) (S S' : St) (fts : List Foot) (b2 : Nat) (tk : List Nat) (ps : Pairs), (∀ j, j < l.length → l[j]? = ops[k + j]?) →
    opsH P pr ex fno rid N ops l k base S = some (S', fts, b2, tk, ps) → Alike ps →
    (∃ T : Nat → CallRes, ∀ cfg : Cfg, (∀ j, k ≤ j → cfg.ret j = (T j).ret ∧ cfg.hc j = (T j).hc ∧ cfg.base j = (T j).base) → (∀ j, cfg.obm j = pr.obm fno (((ops[j]?).bind (·.dst)).getD 0)) →
     ∃ ob, runA P cfg N ops (List.range' k l.length) S = some (S', ob, fts) ∧ Obls P ob) ∧ ∀ k, k ∉ tk → S'.heap k = S.heap k
 | [], k, base, S, S', fts, b2, tk, ps, _, h, _ => by
  simp only [opsH, Option.some.injEq, Prod.mk.injEq] at h
  obtain ⟨rfl, rfl, _⟩ := h
  exact ⟨⟨fun _ => ⟨[], none, 0⟩, fun cfg _ _ => ⟨[], rfl, fun c hc => by cases hc⟩⟩, fun _ _ => rfl⟩
 | o :: r, k, base, S, S', fts, b2, tk, ps, hl, h, hs => by
  have ho : ops[k]? = some o := by simpa using (hl 0 (by simp)).symm
  simp only [opsH] at h
  split at h
  ·cases h
  ·rename_i a ha
   split at h
   ·cases h
   ·rename_i b hb
    simp only [Option.some.injEq, Prod.mk.injEq] at h
    obtain ⟨rfl, rfl, rfl, rfl, rfl⟩ := h
    obtain ⟨a1, a2, a3, a4, a5⟩ := a
    obtain ⟨b1, bf, b3, b4, b5⟩ := b
    obtain ⟨⟨rk, hk⟩, hk2⟩ := stepH_step hm hn hex ha hs.left
    obtain ⟨⟨T, hT⟩, hT2⟩ := opsH_run hm hn hex r (k + 1) a3 a1 b1 bf b3 b4 b5 (fun j hj => by have := hl (j + 1) (by simpa using hj); simpa [Nat.add_assoc, Nat.add_comm 1 j] using this) hb hs.right
    refine ⟨⟨fun j => if j = k then rk else T j, fun cfg h1 h2 => ?_⟩, fun s hk' => ?_⟩
    ·have hkk := h1 k (Nat.le_refl k)
     simp only [if_true] at hkk
     obtain ⟨ob1, e1, o1⟩ := hk cfg hkk.1 hkk.2.1 (by rw [h2 k, ho]; rfl) hkk.2.2
     obtain ⟨ob2, e2, o2⟩ := hT cfg (fun j hj => by have := h1 j (by omega); simp only [if_neg (show ¬ j = k by omega)] at this; exact this) h2
     refine ⟨ob1 ++ ob2, ?_, fun c hc => (List.mem_append.1 hc).elim (o1 c) (o2 c)⟩
     simp only [List.length_cons, List.range'_succ, runA, ho, e1, e2]
    ·simp only [List.mem_append, not_or] at hk'
     exact (hT2 s hk'.2).trans (hk2 s hk'.1)
theorem fgt_none (W : List Nat) (h : Heap) : ∀ k ∈ W, (fgt W h k).ob = none := fun k hk => by
 have : W.any (Nat.beq k) = true := List.any_eq_true.2 ⟨k, hk, Nat.beq_refl k⟩
 simp [fgt, this]
theorem fgt_off {W : List Nat} {h : Heap} {k : Nat} (hk : k ∉ W) : fgt W h k = h k := by
 have : W.any (Nat.beq k) = false := by
  cases hb : W.any (Nat.beq k) with
  | false => rfl
  | true =>
   obtain ⟨b, h1, h2⟩ := List.any_eq_true.1 hb
   rw [Nat.eq_of_beq_eq_true h2] at hk
   exact absurd h1 hk
 simp [fgt, this]
theorem fgt_up (W : List Nat) (h : Heap) : UpH h (fgt W h) := fun k => by
 by_cases hk : k ∈ W
 ·refine .inr ⟨fgt_none W h k hk, ?_⟩
  have : W.any (Nat.beq k) = true := List.any_eq_true.2 ⟨k, hk, Nat.beq_refl k⟩
  simp [fgt, this]
 ·exact .inl (fgt_off hk)
theorem lookF_spec : ∀ {l : List (Nat × Foot)}, (l.map (·.1)).Nodup → ∀ e ∈ l, lookF l e.1 = e.2
 | [], _, e, he => by cases he
 | (j, f) :: r, hn, e, he => by
  simp only [List.map_cons, List.nodup_cons] at hn
  rcases List.mem_cons.1 he with rfl | he
  ·simp [lookF]
  ·have hne : Nat.beq e.1 j = false := by
     cases hb : Nat.beq e.1 j with
     | false => rfl
     | true =>
      have := Nat.eq_of_beq_eq_true hb
      exact absurd (by rw [← this]; exact List.mem_map_of_mem he) hn.1
   simp only [lookF, hne, cond_false]
   exact lookF_spec hn.2 e he
theorem steps_env {cfg : Cfg} {N : Nat} {ops : Array Oper} {F : Nat → Foot} {op : Oper} : ∀ (l : List Nat) (S S' : St), StepsOk P cfg N ops F op l S S' → ∀ t, (dstsOf ops).contains t = false → S'.env t = S.env t
 | [], S, S', h, t, _ => by
  simp only [StepsOk] at h
  rw [h]
 | k :: r, S, S', h, t, ht => by
  obtain ⟨o, S1, ob, ho, hst, _, _, hs⟩ := h
  obtain ⟨v, act, hpt, _⟩ := stepA_local hst
  rw [steps_env r S1 S' hs t ht, putA_ne hpt (envJ_dst ho ht)]
theorem opsQ_run (hm : OkP P) (hn : Named P) {ex : ExecH} (hex : RightH P ex) {fno rid N : Nat} {ops : Array Oper} {op : Oper} : ∀ (l : List Nat) (base : Nat) (S S' : St) (fts : List (Nat × Foot)) (b2 : Nat) (tk : List Nat) (ps : Pairs),
    opsQ P pr ex fno rid N ops op l base S = some (S', fts, b2, tk, ps) → Alike ps →
    (∃ T : Nat → CallRes, ∀ (cfg : Cfg) (F : Nat → Foot), (∀ j ∈ l, cfg.ret j = (T j).ret ∧ cfg.hc j = (T j).hc ∧ cfg.base j = (T j).base) → (∀ j, cfg.obm j = pr.obm fno (((ops[j]?).bind (·.dst)).getD 0)) → (∀ e ∈ fts, F e.1 = e.2) → StepsOk P cfg N ops F op l S S') ∧
     (∀ k, k ∉ tk → S'.heap k = S.heap k) ∧ fts.map (·.1) = l ∧ l.Nodup
 | [], base, S, S', fts, b2, tk, ps, h, _ => by
  simp only [opsQ, Option.some.injEq, Prod.mk.injEq] at h
  obtain ⟨rfl, rfl, _⟩ := h
  exact ⟨⟨fun _ => ⟨[], none, 0⟩, fun cfg F _ _ _ => rfl⟩, fun _ _ => rfl, rfl, List.nodup_nil⟩
 | i :: r, base, S, S', fts, b2, tk, ps, h, hs => by
  simp only [opsQ] at h
  split at h
  ·cases h
  rename_i o ho
  split at h
  ·cases h
  rename_i a ha
  split at h
  ·cases h
  rename_i hc
  split at h
  ·cases h
  rename_i b hb
  simp only [Option.some.injEq, Prod.mk.injEq] at h
  obtain ⟨rfl, rfl, rfl, rfl, rfl⟩ := h
  obtain ⟨a1, a2, a3, a4, a5⟩ := a
  obtain ⟨b1, bf, b3, b4, b5⟩ := b
  obtain ⟨⟨rk, hk⟩, hk2⟩ := stepH_step hm hn hex ha hs.left
  obtain ⟨⟨T, hT⟩, hT2, hT3, hT4⟩ := opsQ_run hm hn hex r a3 a1 b1 bf b3 b4 b5 hb hs.right
  simp only [Bool.and_eq_true, Bool.or_eq_true, Bool.not_eq_true'] at hc
  have hir : i ∉ r := fun hx => by
   have : r.any (Nat.beq i) = true := List.any_eq_true.2 ⟨i, hx, Nat.beq_refl i⟩
   rw [this] at hc
   cases hc.2
  refine ⟨⟨fun j => if j = i then rk else T j, fun cfg F h1 h2 h3 => ?_⟩, fun s hk' => ?_, by simp [hT3], List.nodup_cons.2 ⟨hir, hT4⟩⟩
  ·have hkk := h1 i (by simp)
   simp only [if_true] at hkk
   obtain ⟨ob1, e1, o1⟩ := hk cfg hkk.1 hkk.2.1 (by rw [h2 i, ho]; rfl) hkk.2.2
   have hF : F i = a2 := h3 (i, a2) (by simp)
   refine ⟨o, a1, ob1, ho, by rw [hF]; exact e1, o1, ?_, hT cfg F (fun j hj => ?_) h2 (fun e he => h3 e (by simp [he]))⟩
   ·rcases hc.1 with hc | hc
    ·exact .inl hc
    ·refine .inr fun k hkw => ?_
     rw [hF] at hkw
     have := List.all_eq_true.1 hc k hkw
     simpa using this
   ·have := h1 j (by simp [hj])
    simp only [if_neg (show ¬ j = i from fun e => hir (e ▸ hj))] at this
    exact this
  ·simp only [List.mem_append, not_or] at hk'
   exact (hT2 s hk'.2).trans (hk2 s hk'.1)
theorem panH_Q {CC : Option (PCall P)} {ops : Array Oper} {o : Oper} {S : St} {x : AV} {h1 : Heap} {tk : List Nat} {ps : Pairs} {W : List Nat} (hq : panH P CC ops o S = some (x, h1, tk, ps)) (hs : Alike ps)
    (hd : disW CC W = true) : wantedA ops o S.env = some true ∧ PanQ P o S x (fgt W h1) W ∧ ∀ k, k ∉ tk → h1 k = S.heap k := by
 unfold panH at hq
 split at hq
 case h_2 => cases hq
 rename_i hw
 refine ⟨hw, ?_⟩
 split at hq
 ·rename_i C
  split at hq
  case h_2 => cases hq
  rename_i g args hco
  split at hq
  case isFalse => cases hq
  rename_i hg
  simp only [Option.map_eq_some_iff, Prod.mk.injEq] at hq
  obtain ⟨q, hq, rfl, rfl, rfl, rfl⟩ := hq
  have h2 := hs.head
  simp only [Side.av.injEq, AV.tup.injEq] at h2
  subst h2
  have no : ∀ {l : List Nat} {k : Nat}, l.any (Nat.beq k) = false → k ∉ l := fun {l k} hf hx => by
   have : l.any (Nat.beq k) = true := List.any_eq_true.2 ⟨k, hx, Nat.beq_refl k⟩
   rw [this] at hf
   cases hf
  refine ⟨.inr ⟨g, C.args, C.pre, C.post, hco, fun h hf => by rw [hg]; exact C.proof h hf, heapPairs_spec hq hs.tail, fun k hk => ?_, fgt_up W _⟩, fun k hk => ovl_ne _ _ hk⟩
  have := List.all_eq_true.1 hd k hk
  simp only [Bool.and_eq_true, Bool.not_eq_true'] at this
  exact ⟨no this.1, no this.2⟩
 ·split at hq
  case h_2 => cases hq
  rename_i u hop
  split at hq
  case h_2 => cases hq
  rename_i t y hu
  simp only [Option.some.injEq, Prod.mk.injEq] at hq
  obtain ⟨rfl, rfl, rfl, rfl⟩ := hq
  exact ⟨.inl ⟨u, t, y, hop, hu, rfl, fgt_up W _⟩, fun _ _ => rfl⟩
def RightL2 (P : Program) (pr : Par P) (ex : ExecH) : Prop := ∀ fno base N c S e S' b' tk ps, pr.loops fno (firstReg c) = none → ex fno base N (.loop c) S = some (e, S', b', tk, ps) → Alike ps →
 (∀ X : Fix, X.P = P → X.N = N → LW X c S fun e' S'' => e' = e ∧ S'' = S') ∧ ∀ k, k ∉ tk → S'.heap k = S.heap k
theorem loopH_right {n : Nat} (ih : RightH P (execH P pr n)) (ihl : RightL2 P pr (execH P pr n)) : RightL2 P pr (execH P pr (n + 1)) := fun fno base N x S e S' b' tk ps hno h hs => by
 simp only [execH] at h
 split at h
 ·rename_i H hH; rw [hno] at hH; cases hH
 ·split at h
  ·rename_i S1 b1 tk1 ps1 h1
   split at h
   ·rename_i e2 S2 b2 tk2 ps2 h2
    simp only [Option.some.injEq, Prod.mk.injEq] at h
    obtain ⟨rfl, rfl, rfl, rfl, rfl⟩ := h
    have a1 := ih _ _ _ _ _ _ _ _ _ _ h1 hs.left
    have a2 := ihl _ _ _ _ _ _ _ _ _ _ hno h2 hs.right
    refine ⟨fun X hP hN => lw_round ((a1.1 X hP hN).mono ?_), fun k hk => ?_⟩
    ·rintro e1 S3 ⟨rfl, rfl⟩
     exact a2.1 X hP hN
    ·simp only [List.mem_append, not_or] at hk
     exact (a2.2 k hk.2).trans (a1.2 k hk.1)
   ·cases h
  ·rename_i hnn
   have a1 := ih _ _ _ _ _ _ _ _ _ _ h hs
   refine ⟨fun X hP hN => lw_round ((a1.1 X hP hN).mono ?_), a1.2⟩
   rintro e1 S2 ⟨rfl, rfl⟩
   cases e1 with
   | normal => exact absurd h (hnn S2 _ _ _)
   | _ => exact ⟨rfl, rfl⟩
theorem execH_right2 (hm : OkP P) (hn : Named P) : ∀ n, RightH P (execH P pr n) ∧ RightL2 P pr (execH P pr n)
 | 0 => ⟨fun fno base N c S e S' b' tk ps h _ => by simp [execH] at h, fun fno base N c S e S' b' tk ps _ h _ => by simp [execH] at h⟩
 | n + 1 => by
  obtain ⟨ih, ihl⟩ := execH_right2 hm hn n
  have hl := loopH_right ih ihl
  refine ⟨fun fno base N c S e S' b' tk ps h hs => ?_, hl⟩
  cases c with
  | region id ops draw =>
   simp only [execH] at h
   split at h
   ·rename_i wk hwk
    obtain ⟨W1, wtk, wps⟩ := wk
    split at h
    ·rename_i H hH
     split at h
     ·rename_i hex0
      split at h
      case h_2 => cases h
      rename_i r hr
      obtain ⟨S1, fts, b1, tk1, ps1⟩ := r
      split at h
      case h_2 => cases h
      rename_i o ho
      split at h
      case h_2 => cases h
      rename_i q hq
      obtain ⟨x, h1, tk2, ps2⟩ := q
      split at h
      case isFalse => cases h
      rename_i hd
      simp only [Option.some.injEq, Prod.mk.injEq] at h
      obtain ⟨rfl, rfl, _, rfl, rfl⟩ := h
      have hs1 := hs.left
      have hs2 := hs.right.left
      have hs3 := hs.right.right
      have hpl : H.p < ops.size := by
       rcases Nat.lt_or_ge H.p ops.size with hh | hh
       ·exact hh
       ·rw [Array.getElem?_eq_none hh] at ho; cases ho
      have hpan : wantedA ops o S1.env = some true ∧ PanA P o S1 x h1 ∧ ∀ k, k ∉ tk2 → h1 k = S1.heap k := by
       unfold panH at hq
       split at hq
       case h_2 => cases hq
       rename_i hw
       refine ⟨hw, ?_⟩
       split at hq
       ·rename_i C _
        split at hq
        case h_2 => cases hq
        rename_i g args hco
        split at hq
        case isFalse => cases hq
        rename_i hg
        simp only [Option.map_eq_some_iff, Prod.mk.injEq] at hq
        obtain ⟨q, hq, rfl, rfl, rfl, rfl⟩ := hq
        have h2 := hs3.head
        simp only [Side.av.injEq, AV.tup.injEq] at h2
        subst h2
        refine ⟨.inr ⟨g, C.args, hco, by rw [hg]; exact C.proof _ (heapPairs_spec hq hs3.tail)⟩, fun k hk => ovl_ne _ _ hk⟩
       ·split at hq
        case h_2 => cases hq
        rename_i u hop
        split at hq
        case h_2 => cases hq
        rename_i t y hu
        simp only [Option.some.injEq, Prod.mk.injEq] at hq
        obtain ⟨rfl, rfl, rfl, rfl⟩ := hq
        exact ⟨.inl ⟨u, t, y, hop, hu, rfl, rfl⟩, fun _ _ => rfl⟩
      obtain ⟨⟨T, hT⟩, hT2⟩ := opsH_run hm hn ih (ops.toList.take H.p) 0 base W1 S1 fts b1 tk1 ps1 (fun j hj => by
       rw [List.length_take] at hj
       rw [List.getElem?_take, if_pos (by omega), Nat.zero_add, Array.getElem?_toList]) hr hs2
      refine ⟨fun X hP hN => ?_, fun k hk => ?_⟩
      ·obtain ⟨ob, hrun, hob⟩ := hT { ret := fun j => (T j).ret, hc := fun j => (T j).hc, obm := fun j => pr.obm fno (((ops[j]?).bind (·.dst)).getD 0), base := fun j => (T j).base } (fun j _ => ⟨rfl, rfl, rfl⟩) (fun j => rfl)
       rw [List.length_take, Array.length_toList, Nat.min_eq_left (by omega)] at hrun
       subst hP; subst hN
       refine AW.weak (weakAll_spec hwk hs1).1 ?_
       have hL : Leaf X.P ops H.p W1.env x h1 S1 := ⟨⟨o, ho, hpan.1, hpan.2.1⟩, fun t ht => runA_env _ _ _ _ _ hrun t ht⟩
       exact aw_region_pan ho hrun hob hL hd ⟨rfl, rfl⟩
      ·simp only [List.mem_append, not_or] at hk
       exact (hpan.2.2 k hk.2.2).trans ((hT2 k hk.2.1).trans ((weakAll_spec (X := ⟨P, 0, default, fun _ _ => False, 0, hm, none, 0, []⟩) hwk hs1).2 k hk.1))
     ·split at h
      ·cases h
      split at h
      ·cases h
      rename_i o ho
      split at h
      ·cases h
      rename_i r hr
      obtain ⟨S1, fts, b1, tk1, ps1⟩ := r
      split at h
      ·cases h
      rename_i q hq
      obtain ⟨x, h1, tk2, ps2⟩ := q
      split at h
      case h_2 => cases h
      rename_i hok
      simp only [Option.some.injEq, Prod.mk.injEq] at h
      obtain ⟨rfl, rfl, _, rfl, rfl⟩ := h
      have hs1 := hs.left
      have hs2 := hs.right.left
      have hs3 := hs.right.right
      unfold qOk at hok
      simp only [Bool.and_eq_true] at hok
      obtain ⟨⟨hlex, hlen⟩, hdis⟩ := hok
      have hpan := panH_Q hq hs3 hdis
      obtain ⟨⟨T, hT⟩, hT2, hT3, hT4⟩ := opsQ_run hm hn ih (List.range' 0 H.p ++ H.ex) base W1 S1 fts b1 tk1 ps1 hr hs2
      refine ⟨fun X hP hN => ?_, fun k hk => ?_⟩
      ·have hrun := hT { ret := fun j => (T j).ret, hc := fun j => (T j).hc, obm := fun j => pr.obm fno (((ops[j]?).bind (·.dst)).getD 0), base := fun j => (T j).base } (lookF fts) (fun j _ => ⟨rfl, rfl, rfl⟩) (fun j => rfl) (lookF_spec (by rw [hT3]; exact hT4))
       subst hP; subst hN
       refine AW.weak (weakAll_spec hwk hs1).1 ?_
       exact aw_region_panQ ho (fgt_none (wQ o fts) h1) hrun hlex (by simpa using hlen) ⟨⟨o, ho, hpan.1, hpan.2.1⟩, fun t ht => steps_env _ _ _ hrun t ht⟩ ⟨rfl, rfl⟩
      ·simp only [List.mem_append, not_or] at hk
       show fgt (wQ o fts) h1 k = S.heap k
       rw [fgt_off hk.2.2.2]
       exact (hpan.2.2 k hk.2.2.1).trans ((hT2 k hk.2.1).trans ((weakAll_spec (X := ⟨P, 0, default, fun _ _ => False, 0, hm, none, 0, []⟩) hwk hs1).2 k hk.1))
    ·split at h
     ·rename_i r hr
      obtain ⟨S1, fts, b1, tk1, ps1⟩ := r
      have hsplit : Alike wps ∧ Alike ps1 ∧ S' = S1 ∧ e = .normal ∧ tk = wtk ++ tk1 ∧ (draw = false ∨ lexOk ops fts = true) := by
       split at h
       ·simp only [Option.some.injEq, Prod.mk.injEq] at h
        obtain ⟨rfl, rfl, _, rfl, rfl⟩ := h
        exact ⟨hs.left, hs.right, rfl, rfl, rfl, .inl rfl⟩
       ·split at h
        ·rename_i hlex
         simp only [Option.some.injEq, Prod.mk.injEq] at h
         obtain ⟨rfl, rfl, _, rfl, rfl⟩ := h
         exact ⟨hs.left, hs.right, rfl, rfl, rfl, .inr hlex⟩
        ·cases h
      obtain ⟨hs1, hs2, rfl, rfl, rfl, hd⟩ := hsplit
      obtain ⟨⟨T, hT⟩, hT2⟩ := opsH_run hm hn ih ops.toList 0 base W1 S' fts b1 tk1 ps1 (fun j _ => by simp) hr hs2
      refine ⟨fun X hP hN => ?_, fun k hk => ?_⟩
      ·obtain ⟨ob, hrun, hob⟩ := hT { ret := fun j => (T j).ret, hc := fun j => (T j).hc, obm := fun j => pr.obm fno (((ops[j]?).bind (·.dst)).getD 0), base := fun j => (T j).base } (fun j _ => ⟨rfl, rfl, rfl⟩) (fun j => rfl)
       rw [Array.length_toList, ← List.range_eq_range'] at hrun
       subst hP; subst hN
       refine AW.weak (weakAll_spec hwk hs1).1 ?_
       cases draw with
       | false => exact aw_region hrun hob ⟨rfl, rfl⟩
       | true => exact aw_region_any hrun (hd.resolve_left (by simp)) hob ⟨rfl, rfl⟩
      ·simp only [List.mem_append, not_or] at hk
       exact (hT2 k hk.2).trans ((weakAll_spec (X := ⟨P, 0, default, fun _ _ => False, 0, hm, none, 0, []⟩) hwk hs1).2 k hk.1)
     ·cases h
   ·cases h
  | seq x y =>
   simp only [execH] at h
   split at h
   ·rename_i H hH
    split at h
    ·rename_i hN0
     split at h
     ·rename_i q hq
      simp only [Option.some.injEq, Prod.mk.injEq] at h
      obtain ⟨rfl, rfl, _, rfl, rfl⟩ := h
      have hc := hs.head
      simp only [Side.code.injEq] at hc
      have h1 := hs.tail.left
      have h2 := hs.tail.right
      refine ⟨fun X hP hN => ?_, fun k hk => ovl_ne _ _ hk⟩
      rw [hc]
      exact AW.weak (weak_to h1 hq h2) (H.proof S.heap X hP (by rw [hN, hN0]))
     ·cases h
    ·cases h
   split at h
   ·rename_i S1 b1 tk1 ps1 h1
    split at h
    ·rename_i e2 S2 b2 tk2 ps2 h2
     simp only [Option.some.injEq, Prod.mk.injEq] at h
     obtain ⟨rfl, rfl, rfl, rfl, rfl⟩ := h
     have a1 := ih _ _ _ _ _ _ _ _ _ _ h1 hs.left
     have a2 := ih _ _ _ _ _ _ _ _ _ _ h2 hs.right
     refine ⟨fun X hP hN => aw_seq ((a1.1 X hP hN).mono ?_), fun k hk => ?_⟩
     ·rintro e1 S3 ⟨rfl, rfl⟩
      exact a2.1 X hP hN
     ·simp only [List.mem_append, not_or] at hk
      exact (a2.2 k hk.2).trans (a1.2 k hk.1)
    ·cases h
   ·rename_i hnn
    have a1 := ih _ _ _ _ _ _ _ _ _ _ h hs
    refine ⟨fun X hP hN => aw_seq ((a1.1 X hP hN).mono ?_), a1.2⟩
    rintro e1 S2 ⟨rfl, rfl⟩
    cases e1 with
    | normal => exact absurd h (hnn S2 _ _ _)
    | _ => exact ⟨rfl, rfl⟩
  | block id x =>
   simp only [execH] at h
   split at h
   ·rename_i i S1 b1 tk1 ps1 h1
    have hh : S' = S1 ∧ tk = tk1 ∧ ps = ps1 ∧ e = (if i = id then .normal else .exit i) := by
     split at h
     ·rename_i hi; rw [if_pos hi]; simp only [Option.some.injEq, Prod.mk.injEq] at h; obtain ⟨rfl, rfl, _, rfl, rfl⟩ := h; exact ⟨rfl, rfl, rfl, rfl⟩
     ·rename_i hi; rw [if_neg hi]; simp only [Option.some.injEq, Prod.mk.injEq] at h; obtain ⟨rfl, rfl, _, rfl, rfl⟩ := h; exact ⟨rfl, rfl, rfl, rfl⟩
    obtain ⟨rfl, rfl, rfl, rfl⟩ := hh
    have a1 := ih _ _ _ _ _ _ _ _ _ _ h1 hs
    refine ⟨fun X hP hN => aw_block ((a1.1 X hP hN).mono ?_), a1.2⟩
    rintro e1 S2 ⟨rfl, rfl⟩
    simp only [blockA]
    by_cases hi : i = id <;> simp [hi]
   ·rename_i hno
    have a1 := ih _ _ _ _ _ _ _ _ _ _ h hs
    refine ⟨fun X hP hN => aw_block ((a1.1 X hP hN).mono ?_), a1.2⟩
    rintro e1 S2 ⟨rfl, rfl⟩
    cases e1 with
    | exit i => exact absurd h (hno i S2 _ _ _)
    | _ => exact ⟨rfl, rfl⟩
  | loop x =>
   by_cases hno : pr.loops fno (firstReg x) = none
   ·have a1 := hl _ _ _ _ _ _ _ _ _ _ hno h hs
    exact ⟨fun X hP hN => (a1.1 X hP hN).aw, a1.2⟩
   ·simp only [execH] at h
    split at h
    ·rename_i H hH
     split at h
     ·rename_i hN0
      split at h
      ·rename_i q hq
       simp only [Option.some.injEq, Prod.mk.injEq] at h
       obtain ⟨rfl, rfl, _, rfl, rfl⟩ := h
       have hc := hs.head
       simp only [Side.code.injEq] at hc
       have h1 := hs.tail.left
       have h2 := hs.tail.right
       refine ⟨fun X hP hN => ?_, fun k hk => ovl_ne _ _ hk⟩
       rw [hc]
       exact AW.weak (weak_to h1 hq h2) (H.proof S.heap X hP (by rw [hN, hN0]))
      ·cases h
     ·cases h
    ·rename_i hH; exact absurd hH hno
  | skip => simp only [execH, Option.some.injEq, Prod.mk.injEq] at h; obtain ⟨rfl, rfl, _⟩ := h; exact ⟨fun X _ _ => aw_skip ⟨rfl, rfl⟩, fun _ _ => rfl⟩
  | exit i => simp only [execH, Option.some.injEq, Prod.mk.injEq] at h; obtain ⟨rfl, rfl, _⟩ := h; exact ⟨fun X _ _ => aw_exit ⟨rfl, rfl⟩, fun _ _ => rfl⟩
  | ret => simp only [execH, Option.some.injEq, Prod.mk.injEq] at h; obtain ⟨rfl, rfl, _⟩ := h; exact ⟨fun X _ _ => aw_ret ⟨rfl, rfl⟩, fun _ _ => rfl⟩
  | cond c x y =>
   simp only [execH] at h
   split at h
   ·rename_i b hb
    cases b with
    | true =>
     have a1 := ih _ _ _ _ _ _ _ _ _ _ h hs
     exact ⟨fun X hP hN => aw_cond hb (fun _ => a1.1 X hP hN) (fun hx => by cases hx), a1.2⟩
    | false =>
     have a1 := ih _ _ _ _ _ _ _ _ _ _ h hs
     exact ⟨fun X hP hN => aw_cond hb (fun hx => by cases hx) (fun _ => a1.1 X hP hN), a1.2⟩
   ·cases h
  | rangeFunc g qs as bd =>
   simp only [execH] at h
   split at h
   case h_2 => cases h
   rename_i gf caps hg
   split at h
   case h_2 => cases h
   rename_i r hr
   split at h
   case h_2 => cases h
   rename_i f2 N2 env2 ps2 as2 bd2 st hlp
   split at h
   case h_2 => cases h
   rename_i e' he'
   simp only [Option.some.injEq, Prod.mk.injEq] at h
   obtain ⟨rfl, rfl, _, rfl, rfl⟩ := h
   have hk := hs.head
   simp only [Side.nat.injEq] at hk
   have hcs := callHH_sound hm hn ih hr hs.tail
   refine ⟨fun X hP hN => ?_, fun k hk => ?_⟩
   ·subst hP; subst hN
    exact aw_rangeFunc hg (envL_spec _ _) hcs.1 hk hlp (endE_spec he')
   ·simp only [List.mem_cons, not_or] at hk
    exact (upd_ne _ _ hk.1).trans ((hcs.2 k hk.2).trans (upd_ne _ _ hk.1))
  | _ => simp [execH] at h
theorem execH_right (hm : OkP P) (hn : Named P) (n : Nat) : RightH P (execH P pr n) := (execH_right2 hm hn n).1
end
def outL (r : Option (AExit × Pairs)) : AExit × List Side := match r with
 | some r => (r.1, r.2.map (·.1))
 | none => (.exit 1000001, [])
def outR (e : AExit) (r : Option (AExit × Pairs)) : AExit × List Side := match r with
 | some r => (e, r.2.map (·.2))
 | none => (.exit 1000002, [])
theorem alike_of_map : ∀ {ps : Pairs}, ps.map (·.1) = ps.map (·.2) → Alike ps
 | [], _ => fun p hp => by cases hp
 | p :: r, h => fun q hq => by
  simp only [List.map_cons, List.cons.injEq] at h
  rcases List.mem_cons.1 hq with rfl | hq
  ·exact h.1
  ·exact alike_of_map h.2 q hq
theorem out_spec {e : AExit} {r : Option (AExit × Pairs)} (h : outL r = outR e r) : ∃ ps, r = some (e, ps) ∧ Alike ps := by
 cases r with
 | none => simp [outL, outR] at h
 | some r =>
  simp only [outL, outR, Prod.mk.injEq] at h
  exact ⟨r.2, by rw [← h.1], alike_of_map h.2⟩
def pureRun (P : Program) (ex : ExecH) (g : Nat) (ds rs : List D) : Option (AExit × Pairs) := match callDH P ex g ds with
 | some r => some (.ret, (.ds r.1, .ds rs) :: r.2)
 | none => none
theorem pure_of_run {P : Program} (hm : OkP P) (hn : Named P) (pr : Par P) (n : Nat) {g : Nat} {ds rs : List D} (h : outL (pureRun P (execH P pr n) g ds rs) = outR .ret (pureRun P (execH P pr n) g ds rs)) : Pure P g ds rs := by
 obtain ⟨ps, h1, hs⟩ := out_spec h
 unfold pureRun at h1
 split at h1
 ·rename_i r hr
  simp only [Option.some.injEq, Prod.mk.injEq, true_and] at h1
  subst h1
  have := hs.head
  simp only [Side.ds.injEq] at this
  subst this
  exact callDH_sound hm hn (execH_right hm hn n) hr hs.tail
 ·cases h1
def callRun (r : Option (List AV × Heap × Nat × List Nat × Pairs)) (keys0 : List Nat) (rs : List AV) (hp' : List (Nat × Ent)) : Option (AExit × Pairs) :=
 match r with
 | some (rs', h', _, tk, ps) => match heapPairs h' hp' with
  | some q => match (tk ++ keys0).all fun k => (hp'.map (·.1)).any (Nat.beq k) with
   | true => some (.ret, (.av (.tup rs'), .av (.tup rs)) :: (ps ++ q))
   | false => none
  | none => none
 | none => none
theorem ovl_final {h' rest : Heap} {hp hp' : List (Nat × Ent)} {tk : List Nat} (hk : ((tk ++ hp.map (·.1)).all fun k => (hp'.map (·.1)).any (Nat.beq k)) = true) (h2 : ∀ k, k ∉ tk → h' k = ovl hp rest k) : ovl hp' h' = ovl hp' rest := by
 funext k
 by_cases hkk : k ∈ hp'.map (·.1)
 ·exact ovl_in _ _ _ hkk
 ·rw [ovl_ne _ _ hkk, ovl_ne _ _ hkk]
  have hno : ∀ k', k' ∈ tk ++ hp.map (·.1) → k' ≠ k := by
   rintro k' hk' rfl
   have := List.all_eq_true.1 hk k' hk'
   obtain ⟨a, ha, hb⟩ := List.any_eq_true.1 this
   have := Nat.eq_of_beq_eq_true hb
   subst this
   exact hkk ha
  rw [h2 k (fun hx => hno k (by simp [hx]) rfl)]
  exact ovl_ne _ _ (fun hx => hno k (by simp only [List.mem_append]; exact .inr hx) rfl)
theorem hcall_of_run {P : Program} (hm : OkP P) (hn : Named P) (pr : Par P) (n base g : Nat) {args rs : List AV} {hp hp' : List (Nat × Ent)} {rest : Heap}
    (h : outL (callRun (callHH P (execH P pr n) base g args (ovl hp rest)) (hp.map (·.1)) rs hp') = outR .ret (callRun (callHH P (execH P pr n) base g args (ovl hp rest)) (hp.map (·.1)) rs hp')) : HCall P g args (ovl hp rest) rs (ovl hp' rest) := by
 obtain ⟨ps, h1, hs⟩ := out_spec h
 unfold callRun at h1
 split at h1
 case h_2 => cases h1
 rename_i rs' h' b' tk ps' hr
 split at h1
 case h_2 => cases h1
 rename_i q hq
 split at h1
 case h_2 => cases h1
 rename_i hk
 simp only [Option.some.injEq, Prod.mk.injEq, true_and] at h1
 subst h1
 have g1 := hs.head
 simp only [Side.av.injEq, AV.tup.injEq] at g1
 subst g1
 obtain ⟨c1, c2⟩ := callHH_sound hm hn (execH_right hm hn n) hr hs.tail.left
 refine ⟨c1.1, fun G B w0 I0 w cargs hr hsz hargs => (c1.2 G B w0 I0 w cargs hr hsz hargs).mono ?_⟩
 rintro e w' ⟨v, G', rfl, e1, e2, e3⟩
 refine ⟨v, G', rfl, e1, ?_, e3⟩
 rw [← ovl_final hk c2]
 exact e2.forget (ovl_sub h' hp' (heapPairs_spec hq hs.tail.right))
def callPH (P : Program) (ex : ExecH) (base : Nat) (g : Nat) (args : List AV) (h : Heap) : Option (AV × Heap × Nat × List Nat × Pairs) :=
 match P.funcs[g]? with
 | none => none
 | some fn => match fn.body with
  | none => none
  | some b => if args.length ≤ fn.ntmps then match ex g base fn.ntmps b ⟨startE args, h⟩ with
      | some (.panic x, S', b', tk, ps) => some (x, S'.heap, b', tk, ps)
      | _ => none
   else none
theorem callPH_sound {P : Program} (hm : OkP P) (hn : Named P) {ex : ExecH} (hex : RightH P ex) {base g : Nat} {args : List AV} {x : AV} {h h' : Heap} {b2 : Nat} {tk : List Nat} {ps : Pairs} (hc : callPH P ex base g args h = some (x, h', b2, tk, ps)) (hs : Alike ps) : HPan P g args h x h' ∧ ∀ k, k ∉ tk → h' k = h k := by
 unfold callPH at hc
 split at hc
 ·cases hc
 rename_i fn hf
 split at hc
 ·cases hc
 rename_i b hb
 split at hc
 case isFalse => cases hc
 rename_i hl
 split at hc
 case h_2 => cases hc
 rename_i x' S' b' tk' ps' he
 simp only [Option.some.injEq, Prod.mk.injEq] at hc
 obtain ⟨rfl, rfl, rfl, rfl, rfl⟩ := hc
 have hr := hex _ _ _ _ _ _ _ _ _ _ he hs
 refine ⟨hpan_of_aw hm hf hb (hn.1 g fn hf) hl (fun X hP hN => (hr.1 X hP hN).mono ?_), hr.2⟩
 rintro e S'' ⟨rfl, rfl⟩
 exact ⟨rfl, rfl⟩
def finS (r : Option (AExit × St × Nat × List Nat × Pairs)) (keys0 : List Nat) (l' : List (Nat × AV)) (hp' : List (Nat × Ent)) : Option (AExit × Pairs) :=
 match r with
 | some (e, S, _, tk, ps) => match heapPairs S.heap hp' with
  | some q => match (tk ++ keys0).all fun k => (hp'.map (·.1)).any (Nat.beq k) with
   | true => some (e, ps ++ (envPairs S.env l' ++ q))
   | false => none
  | none => none
 | none => none
theorem seg {P : Program} (hm : OkP P) (hn : Named P) (pr : Par P) (n fno base N : Nat) {c : Code} {l l' : List (Nat × AV)} {hp hp' : List (Nat × Ent)} {rest : Heap} {e : AExit}
    (h : outL (finS (execH P pr n fno base N c ⟨envOf l, ovl hp rest⟩) (hp.map (·.1)) l' hp') = outR e (finS (execH P pr n fno base N c ⟨envOf l, ovl hp rest⟩) (hp.map (·.1)) l' hp'))
    (X : Fix) (hP : X.P = P) (hN : X.N = N) : AW X c ⟨envOf l, ovl hp rest⟩ fun e' S' => e' = e ∧ Weak X S' ⟨envOf l', ovl hp' rest⟩ := by
 obtain ⟨ps, h1, hs⟩ := out_spec h
 unfold finS at h1
 split at h1
 ·rename_i e1 S1 b1 tk ps1 hr
  split at h1
  ·rename_i q hq
   split at h1
   ·rename_i hk
    simp only [Option.some.injEq, Prod.mk.injEq] at h1
    obtain ⟨rfl, rfl⟩ := h1
    have a1 := execH_right hm hn n _ _ _ _ _ _ _ _ _ _ hr hs.left
    refine (a1.1 X hP hN).mono ?_
    rintro e S' ⟨rfl, rfl⟩
    refine ⟨rfl, ?_⟩
    have hw := weak_to (X := X) hs.right.left hq hs.right.right
    have : ovl hp' S'.heap = ovl hp' rest := by
     funext k
     by_cases hkk : k ∈ hp'.map (·.1)
     ·exact ovl_in _ _ _ hkk
     ·rw [ovl_ne _ _ hkk, ovl_ne _ _ hkk]
      have hno : ∀ k', k' ∈ tk ++ hp.map (·.1) → k' ≠ k := by
       rintro k' hk' rfl
       have := List.all_eq_true.1 hk k' hk'
       obtain ⟨a, ha, hb⟩ := List.any_eq_true.1 this
       have := Nat.eq_of_beq_eq_true hb
       subst this
       exact hkk ha
      rw [a1.2 k (fun hx => hno k (by simp [hx]) rfl)]
      exact ovl_ne _ _ (fun hx => hno k (by simp only [List.mem_append]; exact .inr hx) rfl)
    rw [this] at hw
    exact hw
   ·cases h1
  ·cases h1
 ·cases h1
theorem loop_of_segs {P : Program} {N : Nat} {c : Code} {ι : Type} (L : ι → List (Nat × AV)) (Hp : ι → Heap → List (Nat × Ent)) (J : ι → Prop) (μ : ι → Nat) (e : AExit) (l' : List (Nat × AV)) (hp' : Heap → List (Nat × Ent)) (x0 : ι) (j0 : J x0) (he : e ≠ .normal)
    (hI : ∀ rest x, J x → (∃ y, J y ∧ μ y < μ x ∧ ∀ X : Fix, X.P = P → X.N = N → AW X c ⟨envOf (L x), ovl (Hp x rest) rest⟩ fun e' S' => e' = .normal ∧ Weak X S' ⟨envOf (L y), ovl (Hp y rest) rest⟩) ∨
     (∀ X : Fix, X.P = P → X.N = N → AW X c ⟨envOf (L x), ovl (Hp x rest) rest⟩ fun e' S' => e' = e ∧ Weak X S' ⟨envOf l', ovl (hp' rest) rest⟩))
    (rest : Heap) (X : Fix) (hP : X.P = P) (hN : X.N = N) : AW X (.loop c) ⟨envOf (L x0), ovl (Hp x0 rest) rest⟩ fun e' S' => e' = e ∧ S' = ⟨envOf l', ovl (hp' rest) rest⟩ := by
 refine aw_post ?_
 refine aw_loopF (fun x => ⟨envOf (L x), ovl (Hp x rest) rest⟩) J μ x0 (Weak.refl _) j0 (fun x hx => ?_)
 rcases hI rest x hx with ⟨y, hy, hlt, haw⟩ | haw
 ·refine (haw X hP hN).mono ?_
  rintro e' S' ⟨rfl, hw⟩
  exact ⟨y, hw, hy, hlt⟩
 ·refine (haw X hP hN).mono ?_
  rintro e' S' ⟨rfl, hw⟩
  have : ∃ S'', Weak X S' S'' ∧ e' = e' ∧ S'' = ⟨envOf l', ovl (hp' rest) rest⟩ := ⟨_, hw, rfl, rfl⟩
  cases e' with
  | normal => exact absurd rfl he
  | _ => exact this
end Go.Avm
namespace Go.Avm
open Go.RowKit
variable [GlobTab]
def hp0 : Heap := fun _ => ⟨0, none⟩
def viewD (h : Heap) : List AV → Option (List D)
 | [] => some []
 | x :: l => match view 12 h x, viewD h l with
  | some r, some rs => some (r.1 :: rs)
  | _, _ => none
theorem viewD_len {h : Heap} : ∀ {l : List AV} {ds : List D}, viewD h l = some ds → l.length = ds.length
 | [], ds, e => by simp [viewD] at e; subst e; rfl
 | x :: l, ds, e => by
  simp only [viewD] at e
  split at e
  ·rename_i r rs hr hrs
   simp only [Option.some.injEq] at e
   subst e
   simp [viewD_len hrs]
  ·cases e
theorem viewD_get {h : Heap} : ∀ {l : List AV} {ds : List D}, viewD h l = some ds → ∀ (i : Nat) (d : D), ds[i]? = some d → ∃ x ks, l[i]? = some x ∧ view 12 h x = some (d, ks)
 | [], ds, e, i, d, hd => by simp [viewD] at e; subst e; simp at hd
 | x :: l, ds, e, i, d, hd => by
  simp only [viewD] at e
  split at e
  ·rename_i r rs hr hrs
   simp only [Option.some.injEq] at e
   subst e
   cases i with
   | zero => simp at hd; subst hd; exact ⟨x, r.2, rfl, hr⟩
   | succ i => exact viewD_get hrs i d (by simpa using hd)
  ·cases e
theorem pure_of_hcall {P : Program} {g : Nat} {ds rs' : List D} {rs : List AV} {h' : Heap} (hc : HCall P g (ds.map .d) hp0 rs h') (hv : viewD h' rs = some rs') : Pure P g ds rs' := by
 refine ⟨hc.1, fun w I cargs hI hs hargs hglob => ?_⟩
 have hr : HR ⟨I, fun _ _ => none, fun _ => 0, fun _ _ => none⟩ w.heap.size w I hp0 w :=
  ⟨Below.refl _ _, Nat.le_refl _, hI, fun _ _ x => x, fun _ _ x _ => x, fun k v L x => by simp at x, fun k L x => by simp at x, fun k k' L L' x => by simp at x, fun k ob x => by simp [hp0] at x, fun _ => rfl, ⟨fun k v b x => by simp at x, fun k v k' v' b x => by simp at x, fun k es c x => by simp [hp0] at x, fun k fno N env ps as bd st x => by simp [hp0] at x, fun k km vm since seen x => by simp [hp0] at x, hglob⟩⟩
 refine (hc.2 _ w.heap.size w I w cargs hr (by simpa using hs) (fun i x u hx hu => ?_)).mono ?_
 ·rw [List.getElem?_map] at hx
  cases hd : ds[i]? with
  | none => rw [hd] at hx; simp at hx
  | some d => rw [hd] at hx; simp at hx; subst hx; exact .d (hargs i d u hd hu)
 rintro e w' ⟨v, G', rfl, e1, hr2, e3⟩
 have one : ∀ (x : AV) (y : D) (ks : List Nat) (u : Value), view 12 h' x = some (y, ks) → Rep G' w' x u → DRep (immAll G' h') w' y u := fun x y ks u hx hu =>
  (view_sound hr2 12 _ _ _ _ hx hu).mono (by
   rintro b o (x | ⟨k, _, L, hL, hb⟩)
   ·exact .inl x
   ·exact .inr ⟨k, L, hL, hb⟩) (fun _ _ _ => rfl)
 refine ⟨v, immAll G' h', rfl, hr2.below, fun b o x => .inl (hr2.i0 b o x), ?_, ?_, ?_⟩
 ·rintro b o (x | ⟨k, L, hL, rfl⟩)
  ·rcases Nat.lt_or_ge b w.heap.size with hlt | hge
   ·exact .inl (hr2.immlow b o x hlt)
   ·exact .inr hge
  ·exact .inr (hr2.own k L hL).1
 ·rintro b o (x | ⟨k, L, hL, rfl⟩)
  ·exact hr2.immlt b o x
  ·exact hr2.blt hL
 ·have hl := viewD_len hv
  by_cases h1 : rs.length = 1
  ·obtain ⟨x, rfl⟩ := List.length_eq_one_iff.1 h1
   obtain ⟨y, rfl⟩ := List.length_eq_one_iff.1 (hl ▸ h1)
   obtain ⟨x', ks, hx', hy⟩ := viewD_get hv 0 y rfl
   simp at hx'; subst hx'
   exact .inl ⟨y, rfl, one _ _ _ _ hy e3⟩
  ·have : retV rs = .tup rs := by
     match rs, h1 with
     | [], _ => rfl
     | [_], h => simp at h
     | _ :: _ :: _, _ => rfl
   rw [this] at e3
   cases e3 with
   | tup _ vs hvl hrep =>
    refine .inr ⟨by omega, vs, rfl, by omega, fun i x u hx hu => ?_⟩
    obtain ⟨a, ks, ha, hb⟩ := viewD_get hv i x hx
    exact one _ _ _ _ hb (hrep i a u ha hu)
end Go.Avm
namespace Go.Avm
open Go.RowKit
variable [GlobTab]
mutual
def renA (ρ : Nat → Nat) : AV → AV
 | .junk => .junk
 | .d x => .d x
 | .nils => .nils
 | .es => .es
 | .vec k v sz l => .vec (ρ k) v sz l
 | .sl k v o l sz => .sl (ρ k) v o l sz
 | .ptr k v i o sz => .ptr (ρ k) v i o sz
 | .agg cs => .agg (renL ρ cs)
 | .tup cs => .tup (renL ρ cs)
 | .fn f cs => .fn f (renL ρ cs)
 | .mp k v => .mp (ρ k) v
 | .yld k v => .yld (ρ k) v
 | .itr k v => .itr (ρ k) v
 | .iv t x => .iv t (renA ρ x)
 | .vp k v l => .vp (ρ k) v l
def renL (ρ : Nat → Nat) : List AV → List AV
 | [] => []
 | x :: l => renA ρ x :: renL ρ l
end
theorem renL_map (ρ : Nat → Nat) : ∀ l, renL ρ l = l.map (renA ρ)
 | [] => rfl
 | x :: l => by simp [renL, renL_map ρ l]
theorem renA_cells (ρ : Nat → Nat) (x : AV) : (renA ρ x).cells = x.cells.map (renA ρ) := by
 cases x with
 | d y => cases y <;> simp [renA, AV.cells]
 | agg cs => simp [renA, AV.cells, renL_map]
 | _ => simp [renA, AV.cells]
theorem renA_lone (ρ : Nat → Nat) (x : AV) : (renA ρ x).lone = x.lone := by
 cases x with
 | d y => cases y <;> simp [renA, AV.lone]
 | _ => simp [renA, AV.lone]
theorem renL_flat (ρ : Nat → Nat) (l : List AV) : AV.flat (renL ρ l) = (AV.flat l).map (renA ρ) := by
 induction l with
 | nil => rfl
 | cons x l ih =>
  simp only [AV.flat] at ih
  simp only [AV.flat, renL, List.flatMap_cons, List.map_append, renA_cells, ih]
def renO (ρ : Nat → Nat) : Ob → Ob
 | .arr sz es => .arr sz (renL ρ es)
 | .map es c => .map es c
 | .lp f N env ps as bd st => .lp f N (env.map fun p => (p.1, renA ρ p.2)) ps as bd st
 | .itr km vm s l => .itr (ρ km) vm s l
 | .typ k v T n => .typ (ρ k) v T n
def renE (ρ : Nat → Nat) (e : Ent) : Ent := ⟨e.ver, e.ob.map (renO ρ)⟩
theorem envOf_ren (ρ : Nat → Nat) (t : Nat) : ∀ l : List (Nat × AV), envOf (l.map fun p => (p.1, renA ρ p.2)) t = renA ρ (envOf l t)
 | [] => rfl
 | (k, x) :: r => by
  simp only [List.map_cons, envOf, upd]
  split
  ·rfl
  ·exact envOf_ren ρ t r
structure Ren (ρ : Nat → Nat) (G G2 : Gh) : Prop where
 imm : G2.imm = G.imm
 loc : ∀ k v, G2.loc (ρ k) v = G.loc k v
 lim : ∀ k, G2.lim (ρ k) = G.lim k
 mloc : ∀ k v, G2.mloc (ρ k) v = G.mloc k v
section
variable {ρ : Nat → Nat} {G G2 : Gh} {w : World} (hg : Ren ρ G G2)
include hg
theorem rep_ren {x : AV} {v : Value} (h : Rep G w x v) : Rep G2 w (renA ρ x) v := by
 induction h with
 | junk v => exact .junk v
 | d h => exact .d (by rw [hg.imm]; exact h)
 | nils => exact .nils
 | es ao => exact .es ao
 | vecNil k ver sz => exact .vecNil _ ver sz
 | vec k ver l L hL hfr hlen hsz h => exact .vec _ ver l L ((hg.loc k ver).trans hL) hfr hlen hsz (by rw [hg.imm]; exact h)
 | slNil k ver sz => exact .slNil _ ver sz
 | sl k ver off len c L hL hc hlen => exact .sl _ ver off len c L ((hg.loc k ver).trans hL) hc hlen
 | ptr k ver i off L hL => exact .ptr _ ver i off L ((hg.loc k ver).trans hL)
 | agg cs vs hl h1 _ ih =>
  simp only [renA, renL_map]
  refine .agg _ vs (by simpa using hl) h1 fun i c u hc hu => ?_
  rw [List.getElem?_map] at hc
  cases hci : cs[i]? with
  | none => rw [hci] at hc; cases hc
  | some c0 => rw [hci] at hc; cases hc; exact ih i c0 u hci hu
 | tup cs vs hl _ ih =>
  simp only [renA, renL_map]
  refine .tup _ vs (by simpa using hl) fun i c u hc hu => ?_
  rw [List.getElem?_map] at hc
  cases hci : cs[i]? with
  | none => rw [hci] at hc; cases hc
  | some c0 => rw [hci] at hc; cases hc; exact ih i c0 u hci hu
 | fn f cs vs hl _ ih =>
  simp only [renA, renL_map]
  refine .fn f _ vs (by simpa using hl) fun i c u hc hu => ?_
  rw [List.getElem?_map] at hc
  cases hci : cs[i]? with
  | none => rw [hci] at hc; cases hc
  | some c0 => rw [hci] at hc; cases hc; exact ih i c0 u hci hu
 | mp k ver b hL => exact .mp _ ver b ((hg.mloc k ver).trans hL)
 | yld k ver b hL => exact .yld _ ver b ((hg.mloc k ver).trans hL)
 | itr k ver b hL => exact .itr _ ver b ((hg.mloc k ver).trans hL)
 | iv t v _ ih => exact .iv t v ih
 | vp k ver l L hL h1 hlen h => exact .vp _ ver l L ((hg.loc k ver).trans hL) h1 hlen (by rw [hg.imm]; exact h)
theorem rep_unren {y : AV} {v : Value} (h : Rep G2 w y v) : ∀ x, renA ρ x = y → Rep G w x v := by
 induction h with
 | junk v => intro x hx; cases x <;> simp only [renA, reduceCtorEq] at hx; exact .junk v
 | d h => intro x hx; cases x <;> simp only [renA, reduceCtorEq] at hx; cases hx; exact .d (by rw [← hg.imm]; exact h)
 | nils => intro x hx; cases x <;> simp only [renA, reduceCtorEq] at hx; exact .nils
 | es ao => intro x hx; cases x <;> simp only [renA, reduceCtorEq] at hx; exact .es ao
 | vecNil k ver sz => intro x hx; cases x <;> simp only [renA, reduceCtorEq] at hx; cases hx; exact .vecNil _ ver sz
 | vec k ver l L hL hfr hlen hsz h => intro x hx; cases x <;> simp only [renA, reduceCtorEq] at hx; cases hx; exact .vec _ ver l L ((hg.loc _ ver).symm.trans hL) hfr hlen hsz (by rw [← hg.imm]; exact h)
 | slNil k ver sz => intro x hx; cases x <;> simp only [renA, reduceCtorEq] at hx; cases hx; exact .slNil _ ver sz
 | sl k ver off len c L hL hc hlen => intro x hx; cases x <;> simp only [renA, reduceCtorEq] at hx; cases hx; exact .sl _ ver off len c L ((hg.loc _ ver).symm.trans hL) hc hlen
 | ptr k ver i off L hL => intro x hx; cases x <;> simp only [renA, reduceCtorEq] at hx; cases hx; exact .ptr _ ver i off L ((hg.loc _ ver).symm.trans hL)
 | agg cs vs hl h1 _ ih =>
  intro x hx
  cases x <;> simp only [renA, reduceCtorEq] at hx
  rename_i cs0
  simp only [AV.agg.injEq] at hx
  subst hx
  rw [renL_map] at hl
  refine .agg _ vs (by simpa using hl) h1 fun i c u hc hu => ?_
  exact ih i (renA ρ c) u (by rw [renL_map, List.getElem?_map, hc]; rfl) hu c rfl
 | tup cs vs hl _ ih =>
  intro x hx
  cases x <;> simp only [renA, reduceCtorEq] at hx
  rename_i cs0
  simp only [AV.tup.injEq] at hx
  subst hx
  rw [renL_map] at hl
  refine .tup _ vs (by simpa using hl) fun i c u hc hu => ?_
  exact ih i (renA ρ c) u (by rw [renL_map, List.getElem?_map, hc]; rfl) hu c rfl
 | fn f cs vs hl _ ih =>
  intro x hx
  cases x <;> simp only [renA, reduceCtorEq] at hx
  rename_i f0 cs0
  simp only [AV.fn.injEq] at hx
  obtain ⟨rfl, rfl⟩ := hx
  rw [renL_map] at hl
  refine .fn _ _ vs (by simpa using hl) fun i c u hc hu => ?_
  exact ih i (renA ρ c) u (by rw [renL_map, List.getElem?_map, hc]; rfl) hu c rfl
 | mp k ver b hL => intro x hx; cases x <;> simp only [renA, reduceCtorEq] at hx; cases hx; exact .mp _ ver b ((hg.mloc _ ver).symm.trans hL)
 | yld k ver b hL => intro x hx; cases x <;> simp only [renA, reduceCtorEq] at hx; cases hx; exact .yld _ ver b ((hg.mloc _ ver).symm.trans hL)
 | itr k ver b hL => intro x hx; cases x <;> simp only [renA, reduceCtorEq] at hx; cases hx; exact .itr _ ver b ((hg.mloc _ ver).symm.trans hL)
 | iv t v _ ih =>
  intro x hx
  cases x <;> simp only [renA, reduceCtorEq] at hx
  simp only [AV.iv.injEq] at hx
  obtain ⟨rfl, hx⟩ := hx
  exact .iv _ v (ih _ hx)
 | vp k ver l L hL h1 hlen h => intro x hx; cases x <;> simp only [renA, reduceCtorEq] at hx; cases hx; exact .vp _ ver l L ((hg.loc _ ver).symm.trans hL) h1 hlen (by rw [← hg.imm]; exact h)
theorem ob_ren {k ver : Nat} {ob : Ob} (h : ObRep G w k ver ob) : ObRep G2 w (ρ k) ver (renO ρ ob) := by
 cases ob with
 | arr sz es =>
  rcases h with ⟨rfl, h⟩ | ⟨L, h1, h2, h3, h4, h5, h6, h7⟩
  ·exact .inl ⟨rfl, (hg.loc k ver).trans h⟩
  ·refine .inr ⟨L, (hg.loc k ver).trans h1, h2, h3, by simpa [renL_map] using h4, fun e he => ?_, fun hz e he => ?_, fun t c hc => ?_⟩
   ·rw [renL_map] at he
    obtain ⟨x, hx, rfl⟩ := List.mem_map.1 he
    rw [renA_cells, List.length_map]
    exact h5 x hx
   ·rw [renL_map] at he
    obtain ⟨x, hx, rfl⟩ := List.mem_map.1 he
    rw [renA_lone]
    exact h6 hz x hx
   ·rw [renL_flat, List.getElem?_map] at hc
    cases hci : (AV.flat es)[t]? with
    | none => rw [hci] at hc; cases hc
    | some c0 =>
     rw [hci] at hc
     cases hc
     obtain ⟨u, g1, g2, g3⟩ := h7 t c0 hci
     exact ⟨u, g1, g2, rep_ren hg g3⟩
 | typ k' v' T n => exact ⟨by rw [hg.lim]; exact h.1, fun L hL => h.2 L ((hg.loc k' v').symm.trans hL)⟩
 | _ => exact trivial
theorem ob_unren {k ver : Nat} {ob : Ob} (h : ObRep G2 w (ρ k) ver (renO ρ ob)) : ObRep G w k ver ob := by
 cases ob with
 | arr sz es =>
  rcases h with ⟨h0, h⟩ | ⟨L, h1, h2, h3, h4, h5, h6, h7⟩
  ·refine .inl ⟨?_, (hg.loc k ver).symm.trans h⟩
   rw [renL_map] at h0
   exact List.map_eq_nil_iff.1 h0
  ·refine .inr ⟨L, (hg.loc k ver).symm.trans h1, h2, h3, by simpa [renL_map] using h4, fun e he => ?_, fun hz e he => ?_, fun t c hc => ?_⟩
   ·have := h5 (renA ρ e) (by rw [renL_map]; exact List.mem_map_of_mem he)
    rwa [renA_cells, List.length_map] at this
   ·have := h6 hz (renA ρ e) (by rw [renL_map]; exact List.mem_map_of_mem he)
    rwa [renA_lone] at this
   ·obtain ⟨u, g1, g2, g3⟩ := h7 t (renA ρ c) (by rw [renL_flat, List.getElem?_map, hc]; rfl)
    exact ⟨u, g1, g2, rep_unren hg g3 c rfl⟩
 | typ k' v' T n => exact ⟨by rw [← hg.lim]; exact h.1, fun L hL => h.2 L ((hg.loc k' v').trans hL)⟩
 | _ => exact trivial
theorem lrep_ren {N : Nat} {env : List (Nat × AV)} {ps : Array Nat} {as bd : Code} {st : LSt} {r : Loop} (h : LRep G w N env ps as bd st r) : LRep G2 w N (env.map fun p => (p.1, renA ρ p.2)) ps as bd st r :=
 ⟨h.size, fun t ht => by rw [envOf_ren]; exact rep_ren hg (h.rep t ht), fun t ht => by rw [envOf_ren, h.out t ht]; rfl, h.ps, h.as, h.bd, h.state, h.pending⟩
theorem lrep_unren {N : Nat} {env : List (Nat × AV)} {ps : Array Nat} {as bd : Code} {st : LSt} {r : Loop} (h : LRep G2 w N (env.map fun p => (p.1, renA ρ p.2)) ps as bd st r) : LRep G w N env ps as bd st r :=
 ⟨h.size, fun t ht => rep_unren hg (h.rep t ht) _ (envOf_ren ρ t env).symm, fun t ht => by
  have := h.out t ht
  rw [envOf_ren] at this
  cases hx : envOf env t <;> rw [hx] at this <;> first | rfl | (simp only [renA, reduceCtorEq] at this), h.ps, h.as, h.bd, h.state, h.pending⟩
end
def renG (σ : Nat → Option Nat) (G : Gh) : Gh where
 imm := G.imm
 loc := fun j v => match σ j with | some k => G.loc k v | none => none
 lim := fun j => match σ j with | some k => G.lim k | none => 0
 mloc := fun j v => match σ j with | some k => G.mloc k v | none => none
def renH (ρ : Nat → Nat) (σ : Nat → Option Nat) (h : Heap) : Heap := fun j => match σ j with | some k => renE ρ (h k) | none => ⟨0, none⟩
def unG (ρ : Nat → Nat) (G : Gh) : Gh where
 imm := G.imm
 loc := fun k v => G.loc (ρ k) v
 lim := fun k => G.lim (ρ k)
 mloc := fun k v => G.mloc (ρ k) v
theorem unG_ren (ρ : Nat → Nat) (G : Gh) : Ren ρ (unG ρ G) G := ⟨rfl, fun _ _ => rfl, fun _ => rfl, fun _ _ => rfl⟩
structure Names (ρ : Nat → Nat) (σ : Nat → Option Nat) : Prop where
 to : ∀ k, σ (ρ k) = some k
 fro : ∀ j k, σ j = some k → ρ k = j
theorem Names.inj {ρ : Nat → Nat} {σ : Nat → Option Nat} (hn : Names ρ σ) {a b : Nat} (h : ρ a = ρ b) : a = b := by
 have h1 := hn.to a
 rw [h, hn.to b] at h1
 exact (Option.some.inj h1).symm
theorem renG_ren {ρ : Nat → Nat} {σ : Nat → Option Nat} (hn : Names ρ σ) (G : Gh) : Ren ρ G (renG σ G) := ⟨rfl, fun k v => by simp only [renG, hn.to], fun k => by simp only [renG, hn.to], fun k v => by simp only [renG, hn.to]⟩
section
variable {ρ : Nat → Nat} {σ : Nat → Option Nat} (hn : Names ρ σ) {G : Gh} {B : Nat} {w0 w : World} {I0 : Nat → Nat → Prop} {h : Heap}
include hn
theorem hr_ren (hr : HR G B w0 I0 h w) : HR (renG σ G) B w0 I0 (renH ρ σ h) w := by
 have hg := renG_ren hn G
 have loc : ∀ j v L, (renG σ G).loc j v = some L → ∃ k, σ j = some k ∧ G.loc k v = some L := fun j v L hL => by
  simp only [renG] at hL
  split at hL
  ·rename_i k hk; exact ⟨k, hk, hL⟩
  ·cases hL
 have mloc : ∀ j v L, (renG σ G).mloc j v = some L → ∃ k, σ j = some k ∧ G.mloc k v = some L := fun j v L hL => by
  simp only [renG] at hL
  split at hL
  ·rename_i k hk; exact ⟨k, hk, hL⟩
  ·cases hL
 have ver : ∀ j k, σ j = some k → (renH ρ σ h j).ver = (h k).ver := fun j k hj => by simp only [renH, hj, renE]
 have obs : ∀ j ob, (renH ρ σ h j).ob = some ob → ∃ k o, σ j = some k ∧ (h k).ob = some o ∧ ob = renO ρ o := fun j ob ho => by
  simp only [renH] at ho
  split at ho
  ·rename_i k hk
   simp only [renE, Option.map_eq_some_iff] at ho
   obtain ⟨o, h1, h2⟩ := ho
   exact ⟨k, o, hk, h1, h2.symm⟩
  ·cases ho
 refine ⟨hr.below, hr.bsz, hr.immlt, hr.i0, hr.immlow, ?_, ?_, ?_, ?_, ?_, ⟨?_, ?_, ?_, ?_, ?_, hr.maps.glob⟩⟩
 ·intro j v L hL
  obtain ⟨k, hk, hL⟩ := loc j v L hL
  rw [ver j k hk]
  exact hr.fresh k v L hL
 ·intro j L hL
  obtain ⟨k, hk, hL⟩ := loc j _ L hL
  rw [ver j k hk] at hL
  exact hr.own k L hL
 ·intro j j' L L' hL hL' hb
  obtain ⟨k, hk, hL⟩ := loc j _ L hL
  obtain ⟨k', hk', hL'⟩ := loc j' _ L' hL'
  rw [ver j k hk] at hL
  rw [ver j' k' hk'] at hL'
  have := hr.dis k k' L L' hL hL' hb
  subst this
  exact (hn.fro j k hk).symm.trans (hn.fro j' k hk')
 ·intro j ob ho
  obtain ⟨k, o, hk, h1, rfl⟩ := obs j ob ho
  rw [ver j k hk, ← hn.fro j k hk]
  exact ob_ren hg (hr.objs k o h1)
 ·intro j
  simp only [renG, renH]
  split
  ·rename_i k hk; exact hr.lim k
  ·rfl
 ·intro j v b hb
  obtain ⟨k, hk, hb⟩ := mloc j v b hb
  obtain ⟨h1, h2, h3⟩ := hr.maps.low k v b hb
  exact ⟨h1, h2, by rw [ver j k hk]; exact h3⟩
 ·intro j v j' v' b hb hb'
  obtain ⟨k, hk, hb⟩ := mloc j v b hb
  obtain ⟨k', hk', hb'⟩ := mloc j' v' b hb'
  obtain ⟨h1, h2⟩ := hr.maps.inj k v k' v' b hb hb'
  subst h1
  exact ⟨(hn.fro j k hk).symm.trans (hn.fro j' k hk'), h2⟩
 ·intro j es c ho
  obtain ⟨k, o, hk, h1, h2⟩ := obs j _ ho
  cases o <;> simp only [renO, reduceCtorEq] at h2
  cases h2
  obtain ⟨b, g1, g2⟩ := hr.maps.obj k _ _ h1
  rw [ver j k hk, ← hn.fro j k hk]
  exact ⟨b, (hg.mloc k _).trans g1, g2⟩
 ·intro j fno N env ps as bd st ho
  obtain ⟨k, o, hk, h1, h2⟩ := obs j _ ho
  cases o <;> simp only [renO, reduceCtorEq] at h2
  cases h2
  obtain ⟨b, r, g1, g2, g3⟩ := hr.maps.loops k _ _ _ _ _ _ _ h1
  rw [ver j k hk, ← hn.fro j k hk]
  exact ⟨b, r, (hg.mloc k _).trans g1, g2, lrep_ren hg g3⟩
 ·intro j km vm since seen ho
  obtain ⟨k, o, hk, h1, h2⟩ := obs j _ ho
  cases o <;> simp only [renO, reduceCtorEq] at h2
  cases h2
  obtain ⟨b, bm, sa, c0, g1, g2, g3, g4, g5⟩ := hr.maps.iters k _ _ _ _ h1
  rw [ver j k hk, ← hn.fro j k hk]
  exact ⟨b, bm, sa, c0, (hg.mloc k _).trans g1, (hg.mloc _ _).trans g2, g3, g4, g5⟩
theorem hr_unren {h2 : Heap} (hr : HR G B w0 I0 h2 w) (hh : ∀ k, h2 (ρ k) = renE ρ (h k)) : HR (unG ρ G) B w0 I0 h w := by
 have hg := unG_ren ρ G
 have ver : ∀ k, (h2 (ρ k)).ver = (h k).ver := fun k => by rw [hh]; rfl
 have obs : ∀ k o, (h k).ob = some o → (h2 (ρ k)).ob = some (renO ρ o) := fun k o ho => by rw [hh]; simp [renE, ho]
 refine ⟨hr.below, hr.bsz, hr.immlt, hr.i0, hr.immlow, ?_, ?_, ?_, ?_, ?_, ⟨?_, ?_, ?_, ?_, ?_, hr.maps.glob⟩⟩
 ·intro k v L hL
  have := hr.fresh (ρ k) v L hL
  rwa [ver] at this
 ·intro k L hL
  exact hr.own (ρ k) L (by rw [ver]; exact hL)
 ·intro k k' L L' hL hL' hb
  exact hn.inj (hr.dis (ρ k) (ρ k') L L' (by rw [ver]; exact hL) (by rw [ver]; exact hL') hb)
 ·intro k ob ho
  have := hr.objs (ρ k) _ (obs k ob ho)
  rw [ver] at this
  exact ob_unren hg this
 ·intro k
  have := hr.lim (ρ k)
  rw [ver] at this
  exact this
 ·intro k v b hb
  obtain ⟨h1, h3, h4⟩ := hr.maps.low (ρ k) v b hb
  exact ⟨h1, h3, by rw [← ver]; exact h4⟩
 ·intro k v k' v' b hb hb'
  obtain ⟨h1, h3⟩ := hr.maps.inj (ρ k) v (ρ k') v' b hb hb'
  exact ⟨hn.inj h1, h3⟩
 ·intro k es c ho
  obtain ⟨b, g1, g2⟩ := hr.maps.obj (ρ k) es c (obs k _ ho)
  rw [ver] at g1
  exact ⟨b, g1, g2⟩
 ·intro k fno N env ps as bd st ho
  obtain ⟨b, r, g1, g2, g3⟩ := hr.maps.loops (ρ k) _ _ _ _ _ _ _ (obs k _ ho)
  rw [ver] at g1
  exact ⟨b, r, g1, g2, lrep_unren hg g3⟩
 ·intro k km vm since seen ho
  obtain ⟨b, bm, sa, c0, g1, g2, g3⟩ := hr.maps.iters (ρ k) _ _ _ _ (obs k _ ho)
  rw [ver] at g1
  exact ⟨b, bm, sa, c0, g1, g2, g3⟩
theorem ext_unren {G2 : Gh} {w' : World} (e : Ext (renG σ G) w G2 w') : Ext G w (unG ρ G2) w' := by
 have hg := renG_ren hn G
 exact ⟨e.imm, fun k v L hL => e.loc (ρ k) v L ((hg.loc k v).trans hL), e.cell, e.size, fun k => by have := e.lim (ρ k); rwa [hg.lim] at this, fun k v hv hL => e.nloc (ρ k) v (by rw [hg.lim]; exact hv) ((hg.loc k v).trans hL), fun k v b hb => e.mloc (ρ k) v b ((hg.mloc k v).trans hb), e.kept⟩
theorem hcall_ren {P : Program} {f : Nat} {args rs : List AV} {h' h2 : Heap} (hc : HCall P f (renL ρ args) (renH ρ σ h) (renL ρ rs) h2) (hh : ∀ k, h2 (ρ k) = renE ρ (h' k)) : HCall P f args h rs h' := by
 refine ⟨hc.1, fun G B w0 I0 w cargs hr hs hargs => (hc.2 (renG σ G) B w0 I0 w cargs (hr_ren hn hr) (by rw [renL_map]; simpa using hs) fun i x u hx hu => ?_).mono ?_⟩
 ·rw [renL_map, List.getElem?_map] at hx
  cases hi : args[i]? with
  | none => rw [hi] at hx; cases hx
  | some y => rw [hi] at hx; cases hx; exact rep_ren (renG_ren hn G) (hargs i y u hi hu)
 ·rintro e w' ⟨v, G2, rfl, e1, e2, e3⟩
  refine ⟨v, unG ρ G2, rfl, ext_unren hn e1, hr_unren hn e2 hh, rep_unren (unG_ren ρ G2) e3 _ ?_⟩
  match rs with
  | [] => rfl
  | [x] => rfl
  | x :: y :: l => rfl
theorem hpan_ren {P : Program} {f : Nat} {args : List AV} {x : AV} {h' h2 : Heap} (hc : HPan P f (renL ρ args) (renH ρ σ h) (renA ρ x) h2) (hh : ∀ k, h2 (ρ k) = renE ρ (h' k)) : HPan P f args h x h' := by
 refine ⟨hc.1, fun G B w0 I0 w cargs hr hs hargs => (hc.2 (renG σ G) B w0 I0 w cargs (hr_ren hn hr) (by rw [renL_map]; simpa using hs) fun i x u hx hu => ?_).mono ?_⟩
 ·rw [renL_map, List.getElem?_map] at hx
  cases hi : args[i]? with
  | none => rw [hi] at hx; cases hx
  | some y => rw [hi] at hx; cases hx; exact rep_ren (renG_ren hn G) (hargs i y u hi hu)
 ·rintro e w' ⟨v, G2, rfl, e1, e2, e3⟩
  exact ⟨v, unG ρ G2, rfl, ext_unren hn e1, hr_unren hn e2 hh, rep_unren (unG_ren ρ G2) e3 _ rfl⟩
end
def viewK (h : Heap) : List AV → Option (List D × List Nat)
 | [] => some ([], [])
 | x :: l => match view 12 h x, viewK h l with
  | some r, some rs => some (r.1 :: rs.1, r.2 ++ rs.2)
  | _, _ => none
theorem viewK_len {h : Heap} : ∀ {l : List AV} {r : List D × List Nat}, viewK h l = some r → l.length = r.1.length
 | [], r, e => by simp [viewK] at e; subst e; rfl
 | x :: l, r, e => by
  simp only [viewK] at e
  split at e
  ·rename_i r1 rs hr hrs
   simp only [Option.some.injEq] at e
   subst e
   simp [viewK_len hrs]
  ·cases e
theorem viewK_get {h : Heap} : ∀ {l : List AV} {r : List D × List Nat}, viewK h l = some r → ∀ (i : Nat) (d : D), r.1[i]? = some d → ∃ x ks, l[i]? = some x ∧ view 12 h x = some (d, ks) ∧ ∀ k ∈ ks, k ∈ r.2
 | [], r, e, i, d, hd => by simp [viewK] at e; subst e; simp at hd
 | x :: l, r, e, i, d, hd => by
  simp only [viewK] at e
  split at e
  ·rename_i r1 rs hr hrs
   simp only [Option.some.injEq] at e
   subst e
   cases i with
   | zero => simp at hd; subst hd; exact ⟨x, r1.2, rfl, hr, fun k hk => by simp [hk]⟩
   | succ i =>
    obtain ⟨x', ks, h1, h2, h3⟩ := viewK_get hrs i d (by simpa using hd)
    exact ⟨x', ks, h1, h2, fun k hk => by simp [h3 k hk]⟩
  ·cases e
theorem retV_ne {l : List AV} (h : l.length ≠ 1) : retV l = .tup l := by
 match l, h with
 | [], _ => rfl
 | [_], h => simp at h
 | _ :: _ :: _, _ => rfl
theorem hcall_view {P : Program} {f : Nat} {args rs : List AV} {h h' : Heap} {r : List D × List Nat} (hc : HCall P f args h rs h') (hv : viewK h' rs = some r) : HCall P f args h (r.1.map .d) (updAll h' (kill h' r.2)) := by
 refine ⟨hc.1, fun G B w0 I0 w cargs hr hs hargs => (hc.2 G B w0 I0 w cargs hr hs hargs).mono ?_⟩
 rintro e w' ⟨v, G', rfl, e1, e2, e3⟩
 refine ⟨v, G'.froz h' r.2, rfl, e1.trans (Ext.froz e2 r.2), e2.kill r.2, ?_⟩
 have one : ∀ (x : AV) (y : D) (ks : List Nat) (u : Value), view 12 h' x = some (y, ks) → (∀ k ∈ ks, k ∈ r.2) → Rep G' w' x u → Rep (G'.froz h' r.2) w' (.d y) u := fun x y ks u hx hks hu =>
  .d ((view_sound e2 12 _ _ _ _ hx hu).mono (by
   rintro b o (x | ⟨k, hk, L, hL, hb⟩)
   ·exact .inl x
   ·exact .inr ⟨k, hks k hk, L, hL, hb⟩) (fun _ _ _ => rfl))
 have hl := viewK_len hv
 by_cases h1 : rs.length = 1
 ·obtain ⟨x, rfl⟩ := List.length_eq_one_iff.1 h1
  obtain ⟨l, ks0⟩ := r
  obtain ⟨y, rfl⟩ := List.length_eq_one_iff.1 (hl ▸ h1)
  obtain ⟨x', ks, hx', hy, hks⟩ := viewK_get hv 0 y rfl
  simp at hx'; subst hx'
  exact one _ _ _ _ hy hks e3
 ·rw [retV_ne h1] at e3
  rw [retV_ne (l := r.1.map AV.d) (by rw [List.length_map, ← hl]; exact h1)]
  cases e3 with
  | tup _ vs hvl hrep =>
   refine .tup _ vs (by simp; omega) fun i c u hc hu => ?_
   rw [List.getElem?_map] at hc
   cases hi : r.1[i]? with
   | none => rw [hi] at hc; cases hc
   | some d =>
    rw [hi] at hc
    cases hc
    obtain ⟨x, ks, h4, h5, h6⟩ := viewK_get hv i d hi
    exact one _ _ _ _ h5 h6 (hrep i x u h4 hu)
def rnK (F : List Nat) (M : Nat) (k : Nat) : Nat := bif F.any (Nat.beq k) then k else k + M
def rnS (F : List Nat) (M : Nat) (j : Nat) : Option Nat := bif F.any (Nat.beq j) then some j else bif Nat.ble M j then (bif F.any (Nat.beq (j - M)) then none else some (j - M)) else none
theorem rn_mem {F : List Nat} {k : Nat} : F.any (Nat.beq k) = true ↔ k ∈ F := by
 rw [List.any_eq_true]
 constructor
 ·rintro ⟨x, hx, h⟩
  rw [Nat.eq_of_beq_eq_true h]
  exact hx
 ·intro h
  exact ⟨k, h, Nat.beq_refl k⟩
theorem rn_not {F : List Nat} {k : Nat} : F.any (Nat.beq k) = false ↔ k ∉ F := by
 rw [← rn_mem]
 cases F.any (Nat.beq k) <;> simp
theorem rn_in {F : List Nat} {M k : Nat} (h : k ∈ F) : rnK F M k = k ∧ rnS F M k = some k := by
 have := rn_mem.2 h
 simp [rnK, rnS, this]
theorem rn_out {F : List Nat} {M k : Nat} (hF : ∀ k ∈ F, k < M) (h : k ∉ F) : rnK F M k = k + M ∧ rnS F M (k + M) = some k := by
 have h1 := rn_not.2 h
 have h2 : F.any (Nat.beq (k + M)) = false := rn_not.2 fun h => by have := hF _ h; omega
 have h3 : Nat.ble M (k + M) = true := (by simp)
 simp [rnK, rnS, h1, h2, h3]
theorem rn_names {F : List Nat} {M : Nat} (hF : ∀ k ∈ F, k < M) : Names (rnK F M) (rnS F M) := by
 constructor
 ·intro k
  by_cases h : k ∈ F
  ·rw [(rn_in (M := M) h).1, (rn_in h).2]
  ·rw [(rn_out hF h).1, (rn_out hF h).2]
 ·intro j k hj
  by_cases h : j ∈ F
  ·rw [(rn_in h).2] at hj
   cases hj
   exact (rn_in h).1
  ·unfold rnS at hj
   rw [rn_not.2 h] at hj
   simp only [cond_false] at hj
   cases h2 : Nat.ble M j with
   | false => rw [h2] at hj; cases hj
   | true =>
    rw [h2] at hj
    simp only [cond_true] at hj
    cases h3 : F.any (Nat.beq (j - M)) with
    | true => rw [h3] at hj; cases hj
    | false =>
     rw [h3] at hj
     simp only [cond_false, Option.some.injEq] at hj
     subst hj
     have : M ≤ j := by simpa using h2
     rw [(rn_out hF (rn_not.1 h3)).1]
     omega
theorem ovl_mem (h : Heap) (k : Nat) : ∀ (l : List (Nat × Ent)), k ∈ l.map (·.1) → ∃ e, (k, e) ∈ l ∧ ovl l h k = e
 | [], hk => by simp at hk
 | (a, e) :: r, hk => by
  simp only [ovl]
  by_cases ha : k = a
  ·subst ha
   exact ⟨e, by simp, upd_same _ _ _⟩
  ·obtain ⟨e', h1, h2⟩ := ovl_mem h k r (by simpa [ha] using hk)
   exact ⟨e', by simp [h1], (upd_ne _ _ ha).trans h2⟩
theorem renL_d (ρ : Nat → Nat) (ds : List D) : renL ρ (ds.map .d) = ds.map .d := by
 rw [renL_map, List.map_map]
 exact List.map_congr_left fun _ _ => rfl
def lowZ (M : Nat) (h : Heap) : Heap := fun k => bif Nat.blt k M then ⟨0, none⟩ else h k
theorem lowZ_ge {M k : Nat} (h : Heap) (hk : M ≤ k) : lowZ M h k = h k := by
 have : Nat.blt k M = false := by
  cases hb : Nat.blt k M with
  | false => rfl
  | true => have := (show k < M by simpa using hb); omega
 simp [lowZ, this]
theorem lowZ_lt {M k : Nat} (h : Heap) (hk : k < M) : lowZ M h k = ⟨0, none⟩ := by
 have : Nat.blt k M = true := by simpa using hk
 simp [lowZ, this]
theorem rn_low {F : List Nat} {M k : Nat} (h : k ∉ F) (hk : k < M) : rnS F M k = none := by
 have h1 := rn_not.2 h
 have h2 : Nat.ble M k = false := by
  cases hb : Nat.ble M k with
  | false => rfl
  | true => have := (show M ≤ k by simpa using hb); omega
 simp [rnS, h1, h2]
structure Cln (F : List Nat) (M : Nat) (args : List AV) (pre post : List (Nat × Ent)) : Prop where
 lt : (F.all fun k => Nat.blt k M) = true
 preK : pre.map (·.1) = F
 postK : post.map (·.1) = F
 argsK : renL (rnK F M) args = args
 preE : (pre.map fun p => renE (rnK F M) p.2) = pre.map (·.2)
 postE : (post.map fun p => renE (rnK F M) p.2) = post.map (·.2)
theorem cln_ent {ρ : Nat → Nat} : ∀ {l : List (Nat × Ent)}, (l.map fun p => renE ρ p.2) = l.map (·.2) → ∀ k e, (k, e) ∈ l → renE ρ e = e
 | [], _, k, e, h => by cases h
 | p :: r, hl, k, e, h => by
  simp only [List.map_cons, List.cons.injEq] at hl
  rcases List.mem_cons.1 h with rfl | h
  ·exact hl.1
  ·exact cln_ent hl.2 k e h
section
variable {F : List Nat} {M : Nat} {args : List AV} {pre post : List (Nat × Ent)} (c : Cln F M args pre post)
include c
theorem Cln.ltF : ∀ k ∈ F, k < M := fun k hk => by
 have := List.all_eq_true.1 c.lt k hk
 simpa using this
theorem Cln.heap (h : Heap) : renH (rnK F M) (rnS F M) (ovl pre h) = ovl pre (lowZ M (renH (rnK F M) (rnS F M) (ovl pre h))) := by
 funext k
 by_cases hk : k ∈ F
 ·obtain ⟨e, h1, h2⟩ := ovl_mem h k pre (by rw [c.preK]; exact hk)
  have h3 := ovl_in pre h (lowZ M (renH (rnK F M) (rnS F M) (ovl pre h))) (k := k) (by rw [c.preK]; exact hk)
  rw [← h3]
  simp only [renH, (rn_in (M := M) hk).2, h2]
  exact cln_ent c.preE k e h1
 ·rw [ovl_ne _ _ (by rw [c.preK]; exact hk)]
  rcases Nat.lt_or_ge k M with hlt | hge
  ·rw [lowZ_lt _ hlt]
   simp only [renH, rn_low hk hlt]
  ·rw [lowZ_ge _ hge]
theorem Cln.behind (h : Heap) {h2 : Heap} (hF : ∀ k, k ∈ F → h2 k = ovl post h2 k) (hM : ∀ k, M ≤ k → h2 k = ovl pre (lowZ M (renH (rnK F M) (rnS F M) (ovl pre h))) k) (k : Nat) : h2 (rnK F M k) = renE (rnK F M) (ovl post h k) := by
 by_cases hk : k ∈ F
 ·obtain ⟨e, h1, h3⟩ := ovl_mem h k post (by rw [c.postK]; exact hk)
  rw [(rn_in hk).1, hF k hk, ovl_in post h2 h (by rw [c.postK]; exact hk), h3]
  exact (cln_ent c.postE k e h1).symm
 ·have hlt := c.ltF
  rw [(rn_out hlt hk).1, hM _ (by omega), ← c.heap h]
  simp only [renH, (rn_out hlt hk).2]
  rw [ovl_ne _ _ (by rw [c.preK]; exact hk), ovl_ne _ _ (by rw [c.postK]; exact hk)]
theorem hcall_clean {P : Program} {f : Nat} {ds : List D} (hc : ∀ rest : Heap, ∃ h2, HCall P f args (ovl pre (lowZ M rest)) (ds.map .d) h2 ∧ (∀ k, k ∈ F → h2 k = ovl post h2 k) ∧ ∀ k, M ≤ k → h2 k = ovl pre (lowZ M rest) k) (rest : Heap) : HCall P f args (ovl pre rest) (ds.map .d) (ovl post rest) := by
 obtain ⟨h2, h3, h4, h5⟩ := hc (renH (rnK F M) (rnS F M) (ovl pre rest))
 rw [← c.heap rest] at h3
 refine hcall_ren (rn_names c.ltF) (h2 := h2) ?_ (c.behind rest h4 h5)
 rw [c.argsK, renL_d]
 exact h3
theorem hpan_clean {P : Program} {f : Nat} {x : AV} (hx : renA (rnK F M) x = x) (hc : ∀ rest : Heap, ∃ h2, HPan P f args (ovl pre (lowZ M rest)) x h2 ∧ (∀ k, k ∈ F → h2 k = ovl post h2 k) ∧ ∀ k, M ≤ k → h2 k = ovl pre (lowZ M rest) k) (rest : Heap) : HPan P f args (ovl pre rest) x (ovl post rest) := by
 obtain ⟨h2, h3, h4, h5⟩ := hc (renH (rnK F M) (rnS F M) (ovl pre rest))
 rw [← c.heap rest] at h3
 refine hpan_ren (rn_names c.ltF) (h2 := h2) ?_ (c.behind rest h4 h5)
 rw [c.argsK, hx]
 exact h3
end
def cleanRun (r : Option (List AV × Heap × Nat × List Nat × Pairs)) (F : List Nat) (M : Nat) (ds : List D) (post : List (Nat × Ent)) : Option (AExit × Pairs) :=
 match r with
 | some (rs', h', _, tk, ps) => match viewK h' rs', heapPairs h' post with
  | some v, some q => match (v.2.all fun k => Nat.blt k M && !(F.any (Nat.beq k))) && tk.all fun k => Nat.blt k M with
   | true => some (.ret, (.ds v.1, .ds ds) :: (ps ++ q))
   | false => none
  | _, _ => none
 | none => none
theorem hclean_of_run {P : Program} (hm : OkP P) (hn : Named P) (pr : Par P) (n base g M : Nat) {args : List AV} {ds : List D} {pre post : List (Nat × Ent)} (c : Cln (pre.map (·.1)) M args pre post)
    (h : ∀ rest : Heap, outL (cleanRun (callHH P (execH P pr n) base g args (ovl pre (lowZ M rest))) (pre.map (·.1)) M ds post) = outR .ret (cleanRun (callHH P (execH P pr n) base g args (ovl pre (lowZ M rest))) (pre.map (·.1)) M ds post)) (rest : Heap) : HCall P g args (ovl pre rest) (ds.map .d) (ovl post rest) := by
 refine hcall_clean c (fun rest => ?_) rest
 obtain ⟨ps, h1, hs⟩ := out_spec (h rest)
 unfold cleanRun at h1
 split at h1
 case h_2 => cases h1
 rename_i rs' h' b' tk ps' hr
 split at h1
 case h_2 => cases h1
 rename_i v q hv hq
 split at h1
 case h_2 => cases h1
 rename_i hk
 simp only [Option.some.injEq, Prod.mk.injEq, true_and] at h1
 subst h1
 have g1 := hs.head
 simp only [Side.ds.injEq] at g1
 subst g1
 rw [Bool.and_eq_true] at hk
 have hv2 : ∀ k ∈ v.2, k < M ∧ k ∉ pre.map (·.1) := fun k hkv => by
  have := List.all_eq_true.1 hk.1 k hkv
  simp only [Bool.and_eq_true, Bool.not_eq_true'] at this
  exact ⟨by simpa using this.1, rn_not.1 this.2⟩
 have htk : ∀ k ∈ tk, k < M := fun k hkt => by
  have := List.all_eq_true.1 hk.2 k hkt
  simpa using this
 obtain ⟨c1, c2⟩ := callHH_sound hm hn (execH_right hm hn n) hr hs.tail.left
 have c3 := hcall_view c1 hv
 have hsub := ovl_sub h' post (heapPairs_spec hq hs.tail.right)
 refine ⟨ovl post (updAll h' (kill h' v.2)), ⟨c3.1, fun G B w0 I0 w cargs hr hsz hargs => (c3.2 G B w0 I0 w cargs hr hsz hargs).mono ?_⟩, fun k hkF => ?_, fun k hkM => ?_⟩
 ·rintro e w' ⟨u, G', rfl, e1, e2, e3⟩
  refine ⟨u, G', rfl, e1, e2.forget fun k => ?_, e3⟩
  by_cases hkF : k ∈ post.map (·.1)
  ·have hnv : k ∉ v.2 := fun hx => (hv2 k hx).2 (by rw [← c.postK]; exact hkF)
   rw [updAll_kill, if_neg hnv, ovl_in post _ h' hkF]
   exact hsub k
  ·rw [ovl_ne _ _ hkF]
   exact ⟨rfl, .inr rfl⟩
 ·exact ovl_in _ _ _ (by rw [c.postK]; exact hkF)
 ·have hkF : k ∉ pre.map (·.1) := fun hx => by have := c.ltF k hx; omega
  rw [ovl_ne _ _ (by rw [c.postK]; exact hkF), updAll_kill, if_neg fun hx => by have := (hv2 k hx).1; omega]
  exact c2 k fun hx => by have := htk k hx; omega
def cleanPan (r : Option (AV × Heap × Nat × List Nat × Pairs)) (M : Nat) (x : AV) (post : List (Nat × Ent)) : Option (AExit × Pairs) :=
 match r with
 | some (x', h', _, tk, ps) => match heapPairs h' post with
  | some q => match tk.all fun k => Nat.blt k M with
   | true => some (.ret, (.av x', .av x) :: (ps ++ q))
   | false => none
  | _ => none
 | none => none
theorem hcleanP_of_run {P : Program} (hm : OkP P) (hn : Named P) (pr : Par P) (n base g M : Nat) {args : List AV} {x : AV} {pre post : List (Nat × Ent)} (c : Cln (pre.map (·.1)) M args pre post) (hx : renA (rnK (pre.map (·.1)) M) x = x)
    (h : ∀ rest : Heap, outL (cleanPan (callPH P (execH P pr n) base g args (ovl pre (lowZ M rest))) M x post) = outR .ret (cleanPan (callPH P (execH P pr n) base g args (ovl pre (lowZ M rest))) M x post)) (rest : Heap) : HPan P g args (ovl pre rest) x (ovl post rest) := by
 refine hpan_clean c hx (fun rest => ?_) rest
 obtain ⟨ps, h1, hs⟩ := out_spec (h rest)
 unfold cleanPan at h1
 split at h1
 case h_2 => cases h1
 rename_i rs' h' b' tk ps' hr
 split at h1
 case h_2 => cases h1
 rename_i q hq
 split at h1
 case h_2 => cases h1
 rename_i hk
 simp only [Option.some.injEq, Prod.mk.injEq, true_and] at h1
 subst h1
 have g1 := hs.head
 simp only [Side.av.injEq] at g1
 subst g1
 have htk : ∀ k ∈ tk, k < M := fun k hkt => by
  have := List.all_eq_true.1 hk k hkt
  simpa using this
 obtain ⟨c1, c2⟩ := callPH_sound hm hn (execH_right hm hn n) hr hs.tail.left
 have hsub := ovl_sub h' post (heapPairs_spec hq hs.tail.right)
 refine ⟨ovl post h', ⟨c1.1, fun G B w0 I0 w cargs hr hsz hargs => (c1.2 G B w0 I0 w cargs hr hsz hargs).mono ?_⟩, fun k hkF => ?_, fun k hkM => ?_⟩
 ·rintro e w' ⟨u, G', rfl, e1, e2, e3⟩
  exact ⟨u, G', rfl, e1, e2.forget hsub, e3⟩
 ·exact ovl_in _ _ _ (by rw [c.postK]; exact hkF)
 ·have hkF : k ∉ pre.map (·.1) := fun hx => by have := c.ltF k hx; omega
  rw [ovl_ne _ _ (by rw [c.postK]; exact hkF)]
  exact c2 k fun hx => by have := htk k hx; omega
end Go.Avm
namespace Go.Avm
open Go.RowKit
variable [GlobTab]
section
variable {G : Gh} {B : Nat} {w0 w : World} {I0 : Nat → Nat → Prop} {h : Heap}
end
section
variable {X : Fix} {c : Code} {S S' : St} {Q : AExit → St → Prop}
theorem LW.weak (hw : Weak X S S') (h : LW X c S' Q) : LW X c S Q := fun G a w hh => by
 obtain ⟨G1, e1, h1⟩ := hw G a w hh
 exact loopGoes_mono (h G1 a w h1) fun e a' w' ⟨e', S', G', x, q, e2, r⟩ => ⟨e', S', G', x, q, e1.trans e2, r⟩
theorem lw_seg {S1 : St} (h : AW X c S fun e' S' => e' = .normal ∧ Weak X S' S1) (hl : LW X c S1 Q) : LW X c S Q :=
 lw_round (h.mono fun e' S' ⟨he, hw⟩ => by subst he; exact hl.weak hw)
theorem lw_end {S2 : St} {e : AExit} (h : AW X c S fun e' S' => e' = e ∧ Weak X S' S2) (he : e ≠ .normal) : LW X c S fun e' S' => e' = e ∧ S' = S2 :=
 lw_round (aw_post (h.mono fun e' S' ⟨h1, hw⟩ => ⟨S2, hw, by
  subst h1
  cases e' with
  | normal => exact absurd rfl he
  | _ => exact ⟨rfl, rfl⟩⟩))
end
end Go.Avm
namespace Go.Avm
open Go.RowKit
variable [GlobTab]
def renX (ρ : Nat → Nat) : AExit → AExit
 | .panic x => .panic (renA ρ x)
 | e => e
theorem renA_junk {ρ : Nat → Nat} {x : AV} (h : renA ρ x = .junk) : x = .junk := by
 cases x <;> first | rfl | (simp only [renA, reduceCtorEq] at h)
section
variable {ρ : Nat → Nat} {σ : Nat → Option Nat} (hn : Names ρ σ)
include hn
theorem aw_ren {X : Fix} {c : Code} {env env' : Nat → AV} {h h' : Heap} {e : AExit} (hx : renX ρ e = e)
    (ha : AW X c ⟨fun t => renA ρ (env t), renH ρ σ h⟩ fun e2 S2 => e2 = e ∧ (∀ t, S2.env t = renA ρ (env' t)) ∧ ∀ k, S2.heap (ρ k) = renE ρ (h' k)) :
    AW X c ⟨env, h⟩ fun e2 S2 => e2 = e ∧ S2 = ⟨env', h'⟩ := fun G a w hh => by
 obtain ⟨hr, bs, hf, hs⟩ := hh
 have hg := renG_ren hn G
 have hh2 : Holds X (renG σ G) ⟨fun t => renA ρ (env t), renH ρ σ h⟩ a w :=
  ⟨hr_ren hn hr, bs, ⟨hf.size, hf.nod, fun t ht => rep_ren hg (hf.rep t ht), fun t ht => by
   have := hf.out t ht
   simp only at this
   simp only [this, renA]⟩, hs⟩
 refine wpIn_mono (ha _ a w hh2) ?_
 rintro e1 a' w' ⟨e', S2, G2, x, ⟨rfl, h1, h2⟩, e2, hr2, bs', hf2, hs2⟩
 have hg2 := unG_ren ρ G2
 refine ⟨e', ⟨env', h'⟩, unG ρ G2, ?_, ⟨rfl, rfl⟩, ext_unren hn e2, hr_unren hn hr2 h2, bs', ⟨hf2.size, hf2.nod, fun t ht => ?_, fun t ht => ?_⟩, hs2⟩
 ·cases e' with
  | panic y =>
   obtain ⟨v, rfl, hv⟩ := x.panic
   simp only [renX, AExit.panic.injEq] at hx
   exact ⟨v, rfl, rep_unren hg2 hv y hx⟩
  | _ => cases e1 <;> first | exact x | exact x.elim
 ·have := hf2.rep t ht
  rw [h1 t] at this
  exact rep_unren hg2 this _ rfl
 ·have := hf2.out t ht
  rw [h1 t] at this
  exact renA_junk this
end
def freezeC : List (Nat × Nat) → Heap → Option (Heap × List Nat)
 | [], h => some (h, [])
 | (C, a) :: r, h => match (h C).ob with
  | some (.arr 1 ces) => match ces[a]? with
   | some x => match view 12 h x with
    | some (d, ks) => match d.one && !(ks.any (Nat.beq C)) with
     | true => (freezeC r (upd (updAll h (kill h ks)) C ⟨(h C).ver, some (.arr 1 (ces.set a (.d d)))⟩)).map fun q => (q.1, ks ++ q.2)
     | false => none
    | none => none
   | none => none
  | _ => none
theorem freezeC_spec {X : Fix} {env : Nat → AV} : ∀ {l : List (Nat × Nat)} {h h2 : Heap} {ks : List Nat}, freezeC l h = some (h2, ks) → Weak X ⟨env, h⟩ ⟨env, h2⟩ ∧ ∀ k, k ∉ ks → k ∉ l.map (·.1) → h2 k = h k
 | [], h, h2, ks, e => by
  simp only [freezeC, Option.some.injEq, Prod.mk.injEq] at e
  obtain ⟨rfl, rfl⟩ := e
  exact ⟨Weak.refl _, fun _ _ _ => rfl⟩
 | (C, a) :: r, h, h2, ks, e => by
  simp only [freezeC] at e
  split at e
  case h_2 => cases e
  rename_i ces hob
  split at e
  case h_2 => cases e
  rename_i x hx
  split at e
  case h_2 => cases e
  rename_i d ks0 hv
  split at e
  case h_2 => cases e
  rename_i hd
  simp only [Option.map_eq_some_iff, Prod.mk.injEq] at e
  obtain ⟨⟨h3, ks3⟩, e3, rfl, rfl⟩ := e
  rw [Bool.and_eq_true, Bool.not_eq_true'] at hd
  have hC : C ∉ ks0 := rn_not.1 hd.2
  have hw := weak_freeze (X := X) (env := env) hC hob hx hd.1 hv
  have ih := freezeC_spec (X := X) (env := env) e3
  refine ⟨hw.trans ih.1, fun k hk hl => ?_⟩
  simp only [List.mem_append, not_or] at hk
  simp only [List.map_cons, List.mem_cons, not_or] at hl
  show h3 k = h k
  rw [ih.2 k hk.2 hl.2, upd_ne _ _ hl.1, updAll_kill, if_neg hk.1]
def finC (r : Option (AExit × St × Nat × List Nat × Pairs)) (F : List Nat) (M : Nat) (fz : List (Nat × Nat)) (l' : List (Nat × AV)) (post : List (Nat × Ent)) : Option (AExit × Pairs) :=
 match r with
 | some (e, S, _, tk, ps) => match freezeC fz S.heap with
  | some z => match heapPairs z.1 post with
   | some q => match ((z.2 ++ (tk ++ fz.map (·.1))).all fun k => Nat.blt k M) with
    | true => some (e, ps ++ (envPairs S.env l' ++ q))
    | false => none
   | none => none
  | none => none
 | none => none
theorem renL_eq {ρ : Nat → Nat} : ∀ {l : List (Nat × AV)}, renL ρ (l.map (·.2)) = l.map (·.2) → (l.map fun p => (p.1, renA ρ p.2)) = l
 | [], _ => rfl
 | (k, x) :: r, h => by
  simp only [List.map_cons, renL, List.cons.injEq] at h
  simp only [List.map_cons, renL_eq h.2, h.1]
theorem segC {P : Program} (hm : OkP P) (hn : Named P) (pr : Par P) (n fno base N M : Nat) (fz : List (Nat × Nat)) {c : Code} {l l' : List (Nat × AV)} {pre post : List (Nat × Ent)} {e : AExit}
    (cl : Cln (pre.map (·.1)) M (l.map (·.2)) pre post) (cl' : renL (rnK (pre.map (·.1)) M) (l'.map (·.2)) = l'.map (·.2)) (hx : renX (rnK (pre.map (·.1)) M) e = e)
    (h : ∀ rest : Heap, outL (finC (execH P pr n fno base N c ⟨envOf l, ovl pre (lowZ M rest)⟩) (pre.map (·.1)) M fz l' post) = outR e (finC (execH P pr n fno base N c ⟨envOf l, ovl pre (lowZ M rest)⟩) (pre.map (·.1)) M fz l' post))
    (rest : Heap) (X : Fix) (hP : X.P = P) (hN : X.N = N) : AW X c ⟨envOf l, ovl pre rest⟩ fun e' S' => e' = e ∧ S' = ⟨envOf l', ovl post rest⟩ := by
 refine aw_ren (rn_names cl.ltF) hx ?_
 have henv : (fun t => renA (rnK (pre.map (·.1)) M) (envOf l t)) = envOf l := by
  funext t
  rw [← envOf_ren, renL_eq cl.argsK]
 have henv' : ∀ t, renA (rnK (pre.map (·.1)) M) (envOf l' t) = envOf l' t := fun t => by
  rw [← envOf_ren, renL_eq cl']
 rw [henv, cl.heap rest]
 have hr := h (renH (rnK (pre.map (·.1)) M) (rnS (pre.map (·.1)) M) (ovl pre rest))
 obtain ⟨ps, h1, hs⟩ := out_spec hr
 unfold finC at h1
 split at h1
 case h_2 => cases h1
 rename_i e1 S1 b1 tk ps1 hrun
 split at h1
 case h_2 => cases h1
 rename_i z hz
 split at h1
 case h_2 => cases h1
 rename_i q hq
 split at h1
 case h_2 => cases h1
 rename_i hk
 simp only [Option.some.injEq, Prod.mk.injEq] at h1
 obtain ⟨rfl, rfl⟩ := h1
 have a1 := execH_right hm hn n _ _ _ _ _ _ _ _ _ _ hrun hs.left
 have hlt : ∀ k, k ∈ z.2 ++ (tk ++ fz.map (·.1)) → k < M := fun k hkm => by
  have := List.all_eq_true.1 hk k hkm
  simpa using this
 obtain ⟨z1, z2⟩ := z
 have hf := freezeC_spec (X := X) (env := S1.env) hz
 refine aw_post ((a1.1 X hP hN).mono ?_)
 rintro e' S' ⟨rfl, rfl⟩
 refine ⟨⟨envOf l', ovl post z1⟩, hf.1.trans (weak_to (S := ⟨S'.env, z1⟩) hs.right.left hq hs.right.right), rfl, fun t => (henv' t).symm, ?_⟩
 refine cl.behind rest (fun k hkF => ?_) (fun k hkM => ?_)
 ·exact ovl_in post z1 (ovl post z1) (by rw [cl.postK]; exact hkF)
 ·have hkF : k ∉ pre.map (·.1) := fun hx => by have := cl.ltF k hx; omega
  have hno : k ∉ z2 ++ (tk ++ fz.map (·.1)) := fun hx => by have := hlt k hx; omega
  simp only [List.mem_append, not_or] at hno
  show ovl post z1 k = _
  rw [ovl_ne post z1 (by rw [cl.postK]; exact hkF)]
  rw [hf.2 k hno.1 hno.2.2, a1.2 k hno.2.1]
theorem lw_step {X : Fix} {c : Code} {S S1 : St} {Q : AExit → St → Prop} (h : AW X c S fun e' S' => e' = .normal ∧ S' = S1) (hl : LW X c S1 Q) : LW X c S Q :=
 lw_seg (h.mono fun _ _ ⟨h1, h2⟩ => ⟨h1, h2 ▸ Weak.refl _⟩) hl
theorem lw_stop {X : Fix} {c : Code} {S S2 : St} {e : AExit} (h : AW X c S fun e' S' => e' = e ∧ S' = S2) (he : e ≠ .normal) : LW X c S fun e' S' => e' = e ∧ S' = S2 :=
 lw_end (h.mono fun _ _ ⟨h1, h2⟩ => ⟨h1, h2 ▸ Weak.refl _⟩) he
theorem freezeC_hr {P : Program} (hm : OkP P) {G : Gh} {B : Nat} {w0 w : World} {I0 : Nat → Nat → Prop} {h h2 : Heap} {fz : List (Nat × Nat)} {ks : List Nat} (hf : freezeC fz h = some (h2, ks)) (hr : HR G B w0 I0 h w) : ∃ G', Ext G w G' w ∧ HR G' B w0 I0 h2 w := by
 let X : Fix := { P := P, B := B, w0 := w0, I0 := I0, N := 0, mixed := hm }
 have hw := (freezeC_spec (X := X) (env := fun _ => .junk) hf).1
 obtain ⟨G', e, h3, _⟩ := hw G { tmps := #[], defers := [] } w ⟨hr, [], ⟨rfl, rfl, fun t ht => absurd ht (by simp [X]), fun _ _ => rfl⟩, ⟨List.nodup_nil, fun b hb => by simp at hb, fun b hb => by simp at hb, fun l hl => by simp [X] at hl, Nat.zero_le _⟩⟩
 exact ⟨G', e, h3⟩
theorem hcall_freeze {P : Program} (hm : OkP P) {f : Nat} {args rs : List AV} {h h1 h2 : Heap} {fz : List (Nat × Nat)} {ks : List Nat} (hc : HCall P f args h rs h1) (hf : freezeC fz h1 = some (h2, ks)) : HCall P f args h rs h2 := by
 refine ⟨hc.1, fun G B w0 I0 w cargs hr hs hargs => (hc.2 G B w0 I0 w cargs hr hs hargs).mono ?_⟩
 rintro e w' ⟨v, G', rfl, e1, e2, e3⟩
 obtain ⟨G2, e4, e5⟩ := freezeC_hr hm hf e2
 exact ⟨v, G2, rfl, e1.trans e4, e5, e3.mono e4⟩
def cleanRunF (r : Option (List AV × Heap × Nat × List Nat × Pairs)) (F : List Nat) (M : Nat) (fz : List (Nat × Nat)) (ds : List D) (post : List (Nat × Ent)) : Option (AExit × Pairs) :=
 match r with
 | some (rs', h', _, tk, ps) => match freezeC fz h' with
  | some z => match viewK z.1 rs', heapPairs z.1 post with
   | some v, some q => match (v.2.all fun k => Nat.blt k M && !(F.any (Nat.beq k))) && (z.2 ++ (tk ++ fz.map (·.1))).all fun k => Nat.blt k M with
    | true => some (.ret, (.ds v.1, .ds ds) :: (ps ++ q))
    | false => none
   | _, _ => none
  | none => none
 | none => none
theorem hcleanF_of_run {P : Program} (hm : OkP P) (hn : Named P) (pr : Par P) (n base g M : Nat) (fz : List (Nat × Nat)) {args : List AV} {ds : List D} {pre post : List (Nat × Ent)} (c : Cln (pre.map (·.1)) M args pre post)
    (h : ∀ rest : Heap, outL (cleanRunF (callHH P (execH P pr n) base g args (ovl pre (lowZ M rest))) (pre.map (·.1)) M fz ds post) = outR .ret (cleanRunF (callHH P (execH P pr n) base g args (ovl pre (lowZ M rest))) (pre.map (·.1)) M fz ds post)) (rest : Heap) : HCall P g args (ovl pre rest) (ds.map .d) (ovl post rest) := by
 refine hcall_clean c (fun rest => ?_) rest
 obtain ⟨ps, h1, hs⟩ := out_spec (h rest)
 unfold cleanRunF at h1
 split at h1
 case h_2 => cases h1
 rename_i rs' h' b' tk ps' hr
 split at h1
 case h_2 => cases h1
 rename_i z hz
 obtain ⟨z1, z2⟩ := z
 split at h1
 case h_2 => cases h1
 rename_i v q hv hq
 split at h1
 case h_2 => cases h1
 rename_i hk
 simp only [Option.some.injEq, Prod.mk.injEq, true_and] at h1
 subst h1
 have g1 := hs.head
 simp only [Side.ds.injEq] at g1
 subst g1
 rw [Bool.and_eq_true] at hk
 have hv2 : ∀ k ∈ v.2, k < M ∧ k ∉ pre.map (·.1) := fun k hkv => by
  have := List.all_eq_true.1 hk.1 k hkv
  simp only [Bool.and_eq_true, Bool.not_eq_true'] at this
  exact ⟨by simpa using this.1, rn_not.1 this.2⟩
 have htk : ∀ k, k ∈ z2 ++ (tk ++ fz.map (·.1)) → k < M := fun k hkt => by
  have := List.all_eq_true.1 hk.2 k hkt
  simpa using this
 obtain ⟨c1, c2⟩ := callHH_sound hm hn (execH_right hm hn n) hr hs.tail.left
 have c3 := hcall_view (hcall_freeze hm c1 hz) hv
 have hsub := ovl_sub z1 post (heapPairs_spec hq hs.tail.right)
 refine ⟨ovl post (updAll z1 (kill z1 v.2)), ⟨c3.1, fun G B w0 I0 w cargs hr hsz hargs => (c3.2 G B w0 I0 w cargs hr hsz hargs).mono ?_⟩, fun k hkF => ?_, fun k hkM => ?_⟩
 ·rintro e w' ⟨u, G', rfl, e1, e2, e3⟩
  refine ⟨u, G', rfl, e1, e2.forget fun k => ?_, e3⟩
  by_cases hkF : k ∈ post.map (·.1)
  ·have hnv : k ∉ v.2 := fun hx => (hv2 k hx).2 (by rw [← c.postK]; exact hkF)
   rw [updAll_kill, if_neg hnv, ovl_in post _ z1 hkF]
   exact hsub k
  ·rw [ovl_ne _ _ hkF]
   exact ⟨rfl, .inr rfl⟩
 ·exact ovl_in _ _ _ (by rw [c.postK]; exact hkF)
 ·have hkF : k ∉ pre.map (·.1) := fun hx => by have := c.ltF k hx; omega
  rw [ovl_ne _ _ (by rw [c.postK]; exact hkF), updAll_kill, if_neg fun hx => by have := (hv2 k hx).1; omega]
  have hno : k ∉ z2 ++ (tk ++ fz.map (·.1)) := fun hx => by have := htk k hx; omega
  simp only [List.mem_append, not_or] at hno
  have hf := freezeC_spec (X := ⟨P, 0, default, fun _ _ => False, 0, hm, none, 0, []⟩) (env := fun _ => .junk) hz
  rw [hf.2 k hno.1 hno.2.2]
  exact c2 k hno.2.1
end Go.Avm
namespace Go.Avm
structure T where
 k : Int
 p : Int
 t : List UInt8
 n : Int
 deriving Inhabited
def tD (x : T) : D := .agg [.int .u8 x.k, .int .i64 x.p, .str x.t, .int .i64 x.n]
inductive Ex where
 | mk (k o : Int) (nm : List UInt8) (n p : Int) (xs : List Ex)
inductive St' where
 | mk (k id : Int) (nm : List UInt8) (ty n p : Int) (es : List Ex) (bd el : List St')
mutual
def exD : Ex → D
 | .mk k o nm n p xs => .agg [.int .u8 k, .int .u8 o, .str nm, .int .i64 n, .int .i64 p, .ro (exL xs)]
def exL : List Ex → List D
 | [] => []
 | x :: l => exD x :: exL l
end
mutual
def stD : St' → D
 | .mk k id nm ty n p es bd el => .agg [.int .u8 k, .int .i64 id, .str nm, .int .u8 ty, .int .i64 n, .int .i64 p, .ro (exL es), .ro (stL bd), .ro (stL el)]
def stL : List St' → List D
 | [] => []
 | x :: l => stD x :: stL l
end
structure Pm where
 nm : List UInt8
 ty : Int
 p : Int
def pmD (x : Pm) : D := .agg [.str x.nm, .int .u8 x.ty, .int .i64 x.p]
structure Fn where
 nm : List UInt8
 ps : List Pm
 res : Int
 bd : List St'
 p : Int
def fnD (x : Fn) : D := .agg [.str x.nm, .ro (x.ps.map pmD), .int .u8 x.res, .ro (stL x.bd), .int .i64 x.p]
theorem exL_map : ∀ l, exL l = l.map exD
 | [] => rfl
 | x :: l => by simp [exL, exL_map l]
theorem stL_map : ∀ l, stL l = l.map stD
 | [] => rfl
 | x :: l => by simp [stL, stL_map l]
theorem stL_app (l m : List St') : stL (l ++ m) = stL l ++ stL m := by simp [stL_map]
theorem exL_len (l : List Ex) : (exL l).length = l.length := by simp [exL_map]
theorem stL_len (l : List St') : (stL l).length = l.length := by simp [stL_map]
structure RS where
 i : Nat
 op : Int
 n : Int
inductive Res (α : Type) where
 | ok (a : α) (s : RS)
 | bad (p e : Int) (s : RS)
 | out
def Res.bind {α β : Type} (r : Res α) (f : α → RS → Res β) : Res β := match r with
 | .ok a s => f a s
 | .bad p e s => .bad p e s
 | .out => .out
def w64 (x : Int) : Int := IntKind.wrap .i64 x
section
variable (L : List T)
def cur (s : RS) : T := L.getD s.i default
def isT (s : RS) (x : List UInt8) : Bool := ((cur L s).k == 2 || (cur L s).k == 4) && (cur L s).t == x
def RS.nx (s : RS) : RS := { s with i := s.i + 1 }
def fail {α : Type} (s : RS) : Res α := .bad (cur L s).p 4 s
def sWant (x : List UInt8) (s : RS) : Res T :=
 bif isT L s x then
  bif x == [40] || x == [91] || x == [123] then
   bif decide (200 < w64 (s.op + 1)) then .bad (cur L s).p 5 { s with op := w64 (s.op + 1) } else .ok (cur L s) ⟨s.i + 1, w64 (s.op + 1), s.n⟩
  else bif x == [41] || x == [93] || x == [125] then .ok (cur L s) ⟨s.i + 1, w64 (s.op - 1), s.n⟩
  else .ok (cur L s) s.nx
 else fail L s
def sTake (k : Int) (s : RS) : Res T := bif (cur L s).k == k then .ok (cur L s) s.nx else fail L s
def sMay (x : List UInt8) (s : RS) : Res Bool := bif isT L s x then (sWant L x s).bind fun _ s => .ok true s else .ok false s
def tName : Int → List UInt8
 | 1 => [105, 110, 116]
 | 2 => [98, 111, 111, 108]
 | 3 => [97, 114, 114]
 | _ => []
def sKind : List Int → RS → Res Int
 | [], s => fail L s
 | k :: r, s => (sMay L (tName k) s).bind fun b s => bif b then .ok k s else sKind r s
def signs : List (Int × List UInt8 × Int) := [(1, [43], 9), (2, [45], 9), (3, [42], 10), (4, [47], 10), (5, [37], 10), (6, [38], 7), (7, [124], 5), (8, [94], 6), (9, [60, 60], 8), (10, [62, 62], 8), (11, [60], 4), (12, [60, 61], 4), (13, [62], 4), (14, [62, 61], 4), (15, [61, 61], 3), (16, [33, 61], 3), (17, [38, 38], 2), (18, [124, 124], 1)]
def signOf (s : RS) (least : Int) : List (Int × List UInt8 × Int) → Int × Int
 | [] => (0, 0)
 | (o, x, k) :: r => bif decide (least ≤ k) && isT L s x then (o, k) else signOf s least r
def sSign (least : Int) (s : RS) : Int × Int := signOf L s least signs
mutual
def sOne : Nat → RS → Res Ex
 | 0, _ => .out
 | n + 1, s => (sMay L [45] s).bind fun b s1 => bif b then (sOne n s1).bind fun e s2 => .ok (.mk 8 19 [] 0 (cur L s).p [e]) s2 else
  (sMay L [126] s1).bind fun b s1 => bif b then (sOne n s1).bind fun e s2 => .ok (.mk 8 20 [] 0 (cur L s).p [e]) s2 else
  (sMay L [33] s1).bind fun b s1 => bif b then (sOne n s1).bind fun e s2 => .ok (.mk 8 21 [] 0 (cur L s).p [e]) s2 else
  bif (cur L s).k == 3 then .ok (.mk 1 0 [] (cur L s).n (cur L s).p []) s1.nx else
  (sMay L [116, 114, 117, 101] s1).bind fun b s1 => bif b then .ok (.mk 2 0 [] 1 (cur L s).p []) s1 else
  (sMay L [102, 97, 108, 115, 101] s1).bind fun b s1 => bif b then .ok (.mk 2 0 [] 0 (cur L s).p []) s1 else
  (sMay L [114, 101, 97, 100] s1).bind fun b s1 => bif b then (sWant L [40] s1).bind fun _ s2 => (sWant L [41] s2).bind fun _ s3 => .ok (.mk 6 0 [] 0 (cur L s).p []) s3 else
  (sMay L [108, 101, 110] s1).bind fun b s1 => bif b then (sWant L [40] s1).bind fun _ s2 => (sTake L 1 s2).bind fun t s3 => (sWant L [41] s3).bind fun _ s4 => .ok (.mk 7 0 t.t 0 (cur L s).p []) s4 else
  bif isT L s1 [40] then (sWant L [40] s1).bind fun _ s2 => (sExpr n 1 s2).bind fun e s3 => (sWant L [41] s3).bind fun _ s4 => .ok e s4 else
  (sTake L 1 s1).bind fun t s2 => bif isT L s2 [91] then (sPlace n s2).bind fun e s3 => .ok (.mk 4 0 t.t 0 (cur L s).p [e]) s3 else
  bif isT L s2 [40] then (sCall n t.t (cur L s).p s2).bind fun e s3 => .ok e s3 else .ok (.mk 3 0 t.t 0 (cur L s).p []) s2
def sPlace : Nat → RS → Res Ex
 | 0, _ => .out
 | n + 1, s => (sWant L [91] s).bind fun _ s1 => (sExpr n 1 s1).bind fun e s2 => (sWant L [93] s2).bind fun _ s3 => .ok e s3
def sCall : Nat → List UInt8 → Int → RS → Res Ex
 | 0, _, _, _ => .out
 | n + 1, nm, p, s => (sArgs n s).bind fun l s1 => .ok (.mk 5 0 nm 0 p l) s1
def sArgs : Nat → RS → Res (List Ex)
 | 0, _ => .out
 | n + 1, s => (sWant L [40] s).bind fun _ s1 => bif isT L s1 [41] then (sWant L [41] s1).bind fun _ s2 => .ok [] s2 else
  (sExpr n 1 s1).bind fun e s2 => (sMore n [e] s2).bind fun l s3 => (sWant L [41] s3).bind fun _ s4 => .ok l s4
def sMore : Nat → List Ex → RS → Res (List Ex)
 | 0, _, _ => .out
 | n + 1, l, s => (sMay L [44] s).bind fun b s1 => bif b then (sExpr n 1 s1).bind fun e s2 => sMore n (l ++ [e]) s2 else .ok l s1
def sExpr : Nat → Int → RS → Res Ex
 | 0, _, _ => .out
 | n + 1, least, s => (sOne n s).bind fun e s1 => sTail n least e s1
def sTail : Nat → Int → Ex → RS → Res Ex
 | 0, _, _, _ => .out
 | n + 1, least, e, s => bif (sSign L least s).1 == 0 then .ok e s else
  (sExpr n (w64 ((sSign L least s).2 + 1)) s.nx).bind fun r s2 => sTail n least (.mk 9 (sSign L least s).1 [] 0 (cur L s).p [e, r]) s2
end
def sLet (n : Nat) (id p : Int) (s1 : RS) : Res St' :=
 (sTake L 1 s1).bind fun t s2 => (sWant L [58] s2).bind fun _ s3 => (sKind L [1, 2, 3] s3).bind fun ty s4 =>
  bif ty == 3 then (sWant L [91] s4).bind fun _ s5 => (sTake L 3 s5).bind fun m s6 => (sWant L [93] s6).bind fun _ s7 => (sWant L [59] s7).bind fun _ s8 => .ok (.mk 1 id t.t ty m.n p [] [] []) s8
  else (sMay L [61] s4).bind fun b s5 => bif b then (sExpr L n 1 s5).bind fun e s6 => (sWant L [59] s6).bind fun _ s7 => .ok (.mk 1 id t.t ty 0 p [e] [] []) s7
  else (sWant L [59] s5).bind fun _ s6 => .ok (.mk 1 id t.t ty 0 p [] [] []) s6
def sNamed (n : Nat) (id p : Int) (s1 : RS) : Res St' :=
 (sTake L 1 s1).bind fun t s2 => bif isT L s2 [40] then
  (sCall L n t.t p s2).bind fun e s3 => (sWant L [59] s3).bind fun _ s4 => .ok (.mk 8 id [] 0 0 p [e] [] []) s4
 else bif isT L s2 [91] then
  (sPlace L n s2).bind fun e s3 => (sWant L [61] s3).bind fun _ s4 => (sExpr L n 1 s4).bind fun f s5 => (sWant L [59] s5).bind fun _ s6 => .ok (.mk 3 id t.t 0 0 p [e, f] [] []) s6
 else (sWant L [61] s2).bind fun _ s3 => (sExpr L n 1 s3).bind fun e s4 => (sWant L [59] s4).bind fun _ s5 => .ok (.mk 2 id t.t 0 0 p [e] [] []) s5
def RS.st (s : RS) : RS := { s with n := w64 (s.n + 1) }
mutual
def sBlock : Nat → RS → Res (List St')
 | 0, _ => .out
 | n + 1, s => (sWant L [123] s).bind fun _ s1 => (sStmts n [] s1).bind fun l s2 => (sWant L [125] s2).bind fun _ s3 => .ok l s3
def sStmts : Nat → List St' → RS → Res (List St')
 | 0, _, _ => .out
 | n + 1, l, s => bif isT L s [125] then .ok l s else (sStmt n s).bind fun x s1 => sStmts n (l ++ [x]) s1
def sStmt : Nat → RS → Res St'
 | 0, _ => .out
 | n + 1, s0 =>
  (sMay L [108, 101, 116] s0.st).bind fun b s1 => bif b then (sLet L n s0.st.n (cur L s0.st).p s1).bind fun x s2 => .ok x s2
  else (sMay L [105, 102] s1).bind fun b s1 => bif b then
   (sExpr L n 1 s1).bind fun e s2 => (sBlock n s2).bind fun l s3 => (sMay L [101, 108, 115, 101] s3).bind fun b s4 =>
    bif b then (sBlock n s4).bind fun m s5 => .ok (.mk 4 s0.st.n [] 0 0 (cur L s0.st).p [e] l m) s5 else .ok (.mk 4 s0.st.n [] 0 0 (cur L s0.st).p [e] l []) s4
  else (sMay L [119, 104, 105, 108, 101] s1).bind fun b s1 => bif b then
   (sExpr L n 1 s1).bind fun e s2 => (sBlock n s2).bind fun l s3 => .ok (.mk 5 s0.st.n [] 0 0 (cur L s0.st).p [e] l []) s3
  else (sMay L [114, 101, 116, 117, 114, 110] s1).bind fun b s1 => bif b then
   bif isT L s1 [59] then (sWant L [59] s1).bind fun _ s2 => .ok (.mk 6 s0.st.n [] 0 0 (cur L s0.st).p [] [] []) s2
   else (sExpr L n 1 s1).bind fun e s2 => (sWant L [59] s2).bind fun _ s3 => .ok (.mk 6 s0.st.n [] 0 0 (cur L s0.st).p [e] [] []) s3
  else (sMay L [112, 114, 105, 110, 116] s1).bind fun b s1 => bif b then
   (sExpr L n 1 s1).bind fun e s2 => (sWant L [59] s2).bind fun _ s3 => .ok (.mk 7 s0.st.n [] 0 0 (cur L s0.st).p [e] [] []) s3
  else (sNamed L n s0.st.n (cur L s0.st).p s1).bind fun x s2 => .ok x s2
end
def sParam (s : RS) : Res Pm := (sTake L 1 s).bind fun t s1 => (sWant L [58] s1).bind fun _ s2 => (sKind L [1, 2, 3] s2).bind fun k s3 => .ok ⟨t.t, k, t.p⟩ s3
def sPMore : Nat → List Pm → RS → Res (List Pm)
 | 0, _, _ => .out
 | n + 1, l, s => (sMay L [44] s).bind fun b s1 => bif b then (sParam L s1).bind fun e s2 => sPMore n (l ++ [e]) s2 else .ok l s1
def sParams (n : Nat) (s : RS) : Res (List Pm) := (sWant L [40] s).bind fun _ s1 => bif isT L s1 [41] then (sWant L [41] s1).bind fun _ s2 => .ok [] s2 else
    (sParam L s1).bind fun e s2 => (sPMore L n [e] s2).bind fun l s3 => (sWant L [41] s3).bind fun _ s4 => .ok l s4
def sFn (n : Nat) (s : RS) : Res Fn := (sWant L [102, 110] s).bind fun t s1 => (sTake L 1 s1).bind fun u s2 => (sParams L n s2).bind fun ps s3 => (sMay L [58] s3).bind fun b s4 =>
 bif b then (sKind L [1, 2] s4).bind fun k s5 => (sBlock L n s5).bind fun l s6 => .ok ⟨u.t, ps, k, l, t.p⟩ s6
 else (sBlock L n s4).bind fun l s5 => .ok ⟨u.t, ps, 0, l, t.p⟩ s5
def sFns (N : Nat) : Nat → List Fn → RS → Res (List Fn)
 | 0, _, _ => .out
 | n + 1, l, s => bif (cur L s).k == 0 then .ok l s else (sFn L N s).bind fun f s1 => sFns N n (l ++ [f]) s1
def sProg (n : Nat) : Res (List Fn) := (sFn L n ⟨0, 0, 0⟩).bind fun f s1 => sFns L n n [f] s1
end
def Gr {α : Type} (s : RS) (r : Res α) : Prop := ∀ a s', r = .ok a s' → s.i < s'.i
def Gq {α : Type} (s : RS) (r : Res α) : Prop := ∀ a s', r = .ok a s' → s.i ≤ s'.i
theorem Gr.le {α : Type} {s : RS} {r : Res α} (h : Gr s r) : Gq s r := fun a s' e => Nat.le_of_lt (h a s' e)
theorem Gr.bind {α β : Type} {s : RS} {r : Res α} {f : α → RS → Res β} (h : Gr s r) (hf : ∀ a s', r = .ok a s' → Gq s' (f a s')) : Gr s (r.bind f) := fun b s2 e => by
 cases r with
 | ok a s1 => exact Nat.lt_of_lt_of_le (h a s1 rfl) (hf a s1 rfl b s2 e)
 | bad p q s1 => cases e
 | out => cases e
theorem Gq.bind {α β : Type} {s : RS} {r : Res α} {f : α → RS → Res β} (h : Gq s r) (hf : ∀ a s', r = .ok a s' → Gr s' (f a s')) : Gr s (r.bind f) := fun b s2 e => by
 cases r with
 | ok a s1 => exact Nat.lt_of_le_of_lt (h a s1 rfl) (hf a s1 rfl b s2 e)
 | bad p q s1 => cases e
 | out => cases e
theorem Gq.bindq {α β : Type} {s : RS} {r : Res α} {f : α → RS → Res β} (h : Gq s r) (hf : ∀ a s', r = .ok a s' → Gq s' (f a s')) : Gq s (r.bind f) := fun b s2 e => by
 cases r with
 | ok a s1 => exact Nat.le_trans (h a s1 rfl) (hf a s1 rfl b s2 e)
 | bad p q s1 => cases e
 | out => cases e
theorem Gq.ok {α : Type} (a : α) (s : RS) : Gq s (.ok a s) := fun _ _ e => by cases e; exact Nat.le_refl _
theorem Gq.out {α : Type} (s : RS) : Gq s (Res.out : Res α) := fun _ _ e => by cases e
theorem Gr.out {α : Type} (s : RS) : Gr s (Res.out : Res α) := fun _ _ e => by cases e
theorem want_gr (L : List T) (x : List UInt8) (s : RS) : Gr s (sWant L x s) := fun a s' e => by
 unfold sWant at e
 cases h : isT L s x <;> rw [h] at e
 ·cases e
 ·simp only [cond_true] at e
  cases h1 : (x == [40] || x == [91] || x == [123]) <;> rw [h1] at e
  ·simp only [cond_false] at e
   cases h2 : (x == [41] || x == [93] || x == [125]) <;> rw [h2] at e <;> cases e <;> exact Nat.lt_succ_self _
  ·simp only [cond_true] at e
   cases h2 : decide (200 < w64 (s.op + 1)) <;> rw [h2] at e <;> cases e
   exact Nat.lt_succ_self _
theorem take_gr (L : List T) (k : Int) (s : RS) : Gr s (sTake L k s) := fun a s' e => by
 unfold sTake at e
 cases h : ((cur L s).k == k) <;> rw [h] at e <;> cases e
 exact Nat.lt_succ_self _
theorem may_gq (L : List T) (x : List UInt8) (s : RS) : Gq s (sMay L x s) := fun a s' e => by
 unfold sMay at e
 cases h : isT L s x <;> rw [h] at e
 ·cases e; exact Nat.le_refl _
 ·exact ((want_gr L x s).bind fun _ _ _ => Gq.ok _ _) a s' e |> Nat.le_of_lt
theorem Gr.mayT {α : Type} {L : List T} {x : List UInt8} {s : RS} {X Y : RS → Res α} (hX : ∀ s', s.i < s'.i → Gq s' (X s')) (hY : Gr s (Y s)) : Gr s ((sMay L x s).bind fun b s1 => bif b then X s1 else Y s1) := fun a s' e => by
 unfold sMay at e
 cases h : isT L s x <;> rw [h] at e
 ·exact hY a s' e
 ·simp only [cond_true] at e
  cases hw : sWant L x s <;> rw [hw] at e
  ·rename_i t s1
   have := want_gr L x s t s1 hw
   exact Nat.lt_of_lt_of_le this (hX s1 this a s' e)
  ·cases e
  ·cases e
theorem Gr.ite {α : Type} {c : Bool} {s : RS} {X Y : Res α} (hX : Gr s X) (hY : Gr s Y) : Gr s (bif c then X else Y) := by cases c <;> assumption
theorem Gq.ite {α : Type} {c : Bool} {s : RS} {X Y : Res α} (hX : Gq s X) (hY : Gq s Y) : Gq s (bif c then X else Y) := by cases c <;> assumption
theorem tree_gr (L : List T) : ∀ n, (∀ s, Gr s (sOne L n s)) ∧ (∀ s, Gr s (sPlace L n s)) ∧ (∀ nm p s, Gr s (sCall L n nm p s)) ∧ (∀ s, Gr s (sArgs L n s)) ∧ (∀ l s, Gq s (sMore L n l s)) ∧ (∀ k s, Gr s (sExpr L n k s)) ∧ (∀ k e s, Gq s (sTail L n k e s))
 | 0 => ⟨fun s => Gr.out s, fun s => Gr.out s, fun _ _ s => Gr.out s, fun s => Gr.out s, fun _ s => Gq.out s, fun _ s => Gr.out s, fun _ _ s => Gq.out s⟩
 | n + 1 => by
  obtain ⟨h1, h2, h3, h4, h5, h6, h7⟩ := tree_gr L n
  refine ⟨fun s => ?_, fun s => ?_, fun nm p s => ?_, fun s => ?_, fun l s => ?_, fun k s => ?_, fun k e s => ?_⟩
  ·simp only [sOne]
   have un : ∀ (f : Ex → Ex) s', Gq s' ((sOne L n s').bind fun e s2 => .ok (f e) s2) := fun f s' => ((h1 s').bind fun _ _ _ => Gq.ok _ _).le
   refine Gr.mayT (fun s' _ => un _ s') (Gr.mayT (fun s' _ => un _ s') (Gr.mayT (fun s' _ => un _ s') (Gr.ite (fun _ _ e => by cases e; exact Nat.lt_succ_self _) ?_)))
   refine Gr.mayT (fun s' _ => Gq.ok _ _) (Gr.mayT (fun s' _ => Gq.ok _ _) ?_)
   refine Gr.mayT (fun s' _ => ((want_gr L _ s').bind fun _ _ _ => ((want_gr L _ _).bind fun _ _ _ => Gq.ok _ _).le).le) ?_
   refine Gr.mayT (fun s' _ => ((want_gr L _ s').bind fun _ _ _ => ((take_gr L _ _).bind fun _ _ _ => ((want_gr L _ _).bind fun _ _ _ => Gq.ok _ _).le).le).le) ?_
   refine Gr.ite ((want_gr L _ s).bind fun _ _ _ => ((h6 _ _).bind fun _ _ _ => ((want_gr L _ _).bind fun _ _ _ => Gq.ok _ _).le).le) ?_
   refine (take_gr L _ s).bind fun _ s' _ => Gq.ite ((h2 s').bind fun _ _ _ => Gq.ok _ _).le (Gq.ite ((h3 _ _ s').bind fun _ _ _ => Gq.ok _ _).le (Gq.ok _ _))
  ·simp only [sPlace]
   exact (want_gr L _ s).bind fun _ _ _ => ((h6 _ _).bind fun _ _ _ => ((want_gr L _ _).bind fun _ _ _ => Gq.ok _ _).le).le
  ·simp only [sCall]
   exact (h4 s).bind fun _ _ _ => Gq.ok _ _
  ·simp only [sArgs]
   exact (want_gr L _ s).bind fun _ s1 _ => Gq.ite ((want_gr L _ s1).bind fun _ _ _ => Gq.ok _ _).le ((h6 _ s1).bind fun _ s2 _ => (h5 _ s2).bindq fun _ s3 _ => ((want_gr L _ s3).bind fun _ _ _ => Gq.ok _ _).le).le
  ·simp only [sMore]
   intro a s' e
   unfold sMay at e
   cases h : isT L s [44] <;> rw [h] at e
   ·cases e; exact Nat.le_refl _
   ·simp only [cond_true] at e
    cases hw : sWant L [44] s <;> rw [hw] at e
    ·rename_i t s1
     have g1 := want_gr L _ s t s1 hw
     exact Nat.le_trans (Nat.le_of_lt g1) (((h6 1 s1).bind fun _ s2 _ => h5 _ s2).le a s' e)
    ·cases e
    ·cases e
  ·simp only [sExpr]
   exact (h1 s).bind fun _ s1 _ => h7 _ _ s1
  ·simp only [sTail]
   refine Gq.ite (Gq.ok _ _) (fun a s' e2 => ?_)
   have := ((h6 (w64 ((sSign L k s).2 + 1)) s.nx).bind fun _ s2 _ => h7 _ _ s2) a s' e2
   simp only [RS.nx] at this
   omega
theorem exprGrows (L : List T) (n : Nat) (k : Int) (s : RS) (a : Ex) (s2 : RS) (h : sExpr L n k s = .ok a s2) : s.i < s2.i := (tree_gr L n).2.2.2.2.2.1 k s a s2 h
theorem expr_gr (L : List T) (n : Nat) (k : Int) (s : RS) : Gr s (sExpr L n k s) := (tree_gr L n).2.2.2.2.2.1 k s
theorem kind_gr (L : List T) : ∀ (l : List Int) (s : RS), Gr s (sKind L l s)
 | [], s => fun _ _ e => by cases e
 | k :: r, s => by
  simp only [sKind]
  exact Gr.mayT (fun s' _ => Gq.ok _ _) (kind_gr L r s)
theorem let_gr (L : List T) (n : Nat) (id p : Int) (s : RS) : Gr s (sLet L n id p s) := by
 unfold sLet
 refine (take_gr L _ s).bind fun _ s2 _ => ((want_gr L _ s2).bind fun _ s3 _ => ((kind_gr L _ s3).bind fun _ s4 _ => Gq.ite ?_ ?_).le).le
 ·exact ((want_gr L _ s4).bind fun _ s5 _ => ((take_gr L _ s5).bind fun _ s6 _ => ((want_gr L _ s6).bind fun _ s7 _ => ((want_gr L _ s7).bind fun _ _ _ => Gq.ok _ _).le).le).le).le
 ·exact (Gr.mayT (fun s' _ => ((expr_gr L n 1 s').bind fun _ s6 _ => ((want_gr L _ s6).bind fun _ _ _ => Gq.ok _ _).le).le) ((want_gr L _ s4).bind fun _ _ _ => Gq.ok _ _)).le
theorem named_gr (L : List T) (n : Nat) (id p : Int) (s : RS) : Gr s (sNamed L n id p s) := by
 unfold sNamed
 obtain ⟨_, h2, h3, _⟩ := tree_gr L n
 refine (take_gr L _ s).bind fun _ s2 _ => Gq.ite ((h3 _ _ s2).bind fun _ s3 _ => ((want_gr L _ s3).bind fun _ _ _ => Gq.ok _ _).le).le (Gq.ite ?_ ?_)
 ·exact ((h2 s2).bind fun _ s3 _ => ((want_gr L _ s3).bind fun _ s4 _ => ((expr_gr L n 1 s4).bind fun _ s5 _ => ((want_gr L _ s5).bind fun _ _ _ => Gq.ok _ _).le).le).le).le
 ·exact ((want_gr L _ s2).bind fun _ s3 _ => ((expr_gr L n 1 s3).bind fun _ s4 _ => ((want_gr L _ s4).bind fun _ _ _ => Gq.ok _ _).le).le).le
theorem Gr.st {α : Type} {s : RS} {r : Res α} (h : Gr s.st r) : Gr s r := fun a s' e => h a s' e
theorem stmt_gr (L : List T) : ∀ n, (∀ s, Gr s (sBlock L n s)) ∧ (∀ l s, Gq s (sStmts L n l s)) ∧ (∀ s, Gr s (sStmt L n s))
 | 0 => ⟨fun s => Gr.out s, fun _ s => Gq.out s, fun s => Gr.out s⟩
 | n + 1 => by
  obtain ⟨h1, h2, h3⟩ := stmt_gr L n
  refine ⟨fun s => ?_, fun l s => ?_, fun s => ?_⟩
  ·simp only [sBlock]
   exact (want_gr L _ s).bind fun _ s1 _ => (h2 _ s1).bindq fun _ s2 _ => ((want_gr L _ s2).bind fun _ _ _ => Gq.ok _ _).le
  ·simp only [sStmts]
   exact Gq.ite (Gq.ok _ _) ((h3 s).bind fun _ s1 _ => h2 _ s1).le
  ·simp only [sStmt]
   refine Gr.st (Gr.mayT (fun s' _ => ((let_gr L n _ _ s').bind fun _ _ _ => Gq.ok _ _).le) (Gr.mayT (fun s' _ => ?_) (Gr.mayT (fun s' _ => ?_) (Gr.mayT (fun s' _ => ?_) (Gr.mayT (fun s' _ => ?_) ?_)))))
   ·exact ((expr_gr L n 1 s').bind fun _ s2 _ => ((h1 s2).bind fun _ s3 _ => (may_gq L _ s3).bindq fun b s4 _ => Gq.ite ((h1 s4).bind fun _ _ _ => Gq.ok _ _).le (Gq.ok _ _)).le).le
   ·exact ((expr_gr L n 1 s').bind fun _ s2 _ => ((h1 s2).bind fun _ _ _ => Gq.ok _ _).le).le
   ·exact Gq.ite ((want_gr L _ s').bind fun _ _ _ => Gq.ok _ _).le ((expr_gr L n 1 s').bind fun _ s2 _ => ((want_gr L _ s2).bind fun _ _ _ => Gq.ok _ _).le).le
   ·exact ((expr_gr L n 1 s').bind fun _ s2 _ => ((want_gr L _ s2).bind fun _ _ _ => Gq.ok _ _).le).le
   ·exact (named_gr L n _ _ _).bind fun _ _ _ => Gq.ok _ _
end Go.Avm
namespace Go.Avm
open Go.RowKit
variable [GlobTab]
open Classical in
noncomputable def exA (ex : ExecH) : Exec := fun fno base N c S => match ex fno base N c S with
 | some (e, S', b', tk, ps) => if Alike ps then some (e, S', b', tk) else none
 | none => none
theorem exA_of {ex : ExecH} {fno base N : Nat} {c : Code} {S S' : St} {e : AExit} {b' : Nat} {tk : List Nat} {ps : Pairs} (h : ex fno base N c S = some (e, S', b', tk, ps)) (hs : Alike ps) : exA ex fno base N c S = some (e, S', b', tk) := by
 unfold exA
 rw [h]
 exact if_pos hs
theorem exA_right {P : Program} {ex : ExecH} (h : RightH P ex) : Right P (exA ex) := fun fno base N c S e S' b' tk he => by
 unfold exA at he
 split at he
 ·rename_i e1 S1 b1 tk1 ps1 h1
  split at he
  ·rename_i hs
   simp only [Option.some.injEq, Prod.mk.injEq] at he
   obtain ⟨rfl, rfl, rfl, rfl⟩ := he
   exact h _ _ _ _ _ _ _ _ _ _ h1 hs
  ·cases he
 ·cases he
def outHd (P : Program) (rs : List ResultVar) : Option (AExit × St × Nat × List Nat × Pairs) → Option (Way × Heap × Nat × List Nat × Pairs)
 | some (e, S', b', tk, ps) => (outE P rs (some (e, S', b', tk))).map fun r => (r.1, r.2.1, r.2.2.1, r.2.2.2, ps)
 | none => none
def runDH (P : Program) (ex : ExecH) (base : Nat) (g : Nat) (args : List AV) (x : Option AV) (h : Heap) : Option (Heap × Nat × List Nat × Pairs) :=
 match P.funcs[g]? with
 | none => none
 | some fn => match fn.body with
  | some (.seq r c) => match recoverOf r with
   | some d => if args.length ≤ fn.ntmps ∧ d < fn.ntmps ∧ fn.results.isEmpty = true then match ex g base fn.ntmps c ⟨upd (startE args) d (x.getD (.d .nili)), h⟩ with
       | some (.normal, S', b', tk, ps) => some (S'.heap, b', tk, ps)
       | some (.ret, S', b', tk, ps) => some (S'.heap, b', tk, ps)
       | _ => none
    else none
   | none => none
  | _ => none
def bodyH (P : Program) (ex : ExecH) (fno N : Nat) (rs : List ResultVar) : Code → Nat → St → Option (Way × Heap × Nat × List Nat × Pairs)
 | .seq x y, base, S => match deferOf x with
  | some (f, as) => match opd S.env f with
   | .fn g caps => match ex fno base N y S with
    | some (e, S2, b2, tk, ps) => match panOf e with
     | some pv => match runDH P ex b2 g (as.map (opd S.env) ++ caps) pv S2.heap with
      | some r => (resA P ⟨S2.env, r.1⟩ rs).map fun l => (.ret l, r.1, r.2.1, tk ++ (r.2.2.1 ++ resK S2.env rs), ps ++ r.2.2.2)
      | none => none
     | none => none
    | none => none
   | _ => none
  | none => match ex fno base N x S with
   | some (.normal, S', b', tk, ps) => match bodyH P ex fno N rs y b' S' with
    | some r => some (r.1, r.2.1, r.2.2.1, tk ++ r.2.2.2.1, ps ++ r.2.2.2.2)
    | none => none
   | r => outHd P rs r
 | c, base, S => outHd P rs (ex fno base N c S)
theorem runDH_E {P : Program} {ex : ExecH} {base g : Nat} {args : List AV} {x : Option AV} {h h' : Heap} {b : Nat} {tk : List Nat} {ps : Pairs} (hr : runDH P ex base g args x h = some (h', b, tk, ps)) (hs : Alike ps) : runD P (exA ex) base g args x h = some (h', b, tk) := by
 unfold runDH at hr
 unfold runD
 split at hr
 ·cases hr
 rename_i fn hf
 rw [hf]
 simp only
 split at hr
 case h_2 => cases hr
 rename_i r c hb
 rw [hb]
 simp only
 split at hr
 case h_2 => cases hr
 rename_i d hd
 rw [hd]
 simp only
 split at hr
 case isFalse => cases hr
 rename_i hc
 rw [if_pos hc]
 split at hr
 ·rename_i S' b' tk' ps' he
  simp only [Option.some.injEq, Prod.mk.injEq] at hr
  obtain ⟨rfl, rfl, rfl, rfl⟩ := hr
  rw [exA_of he hs]
 ·rename_i S' b' tk' ps' he
  simp only [Option.some.injEq, Prod.mk.injEq] at hr
  obtain ⟨rfl, rfl, rfl, rfl⟩ := hr
  rw [exA_of he hs]
 ·cases hr
theorem outHd_E {P : Program} {rs : List ResultVar} {ex : ExecH} {fno base N : Nat} {c : Code} {S : St} {y : Way} {h' : Heap} {b : Nat} {tk : List Nat} {ps : Pairs} (h : outHd P rs (ex fno base N c S) = some (y, h', b, tk, ps)) (hs : Alike ps) : outE P rs (exA ex fno base N c S) = some (y, h', b, tk) := by
 cases he : ex fno base N c S with
 | none => rw [he] at h; cases h
 | some r =>
  obtain ⟨e, S', b', tk', ps'⟩ := r
  rw [he] at h
  simp only [outHd, Option.map_eq_some_iff, Prod.mk.injEq] at h
  obtain ⟨r, h1, rfl, rfl, rfl, rfl, rfl⟩ := h
  rw [exA_of he hs, h1]
theorem bodyH_E {P : Program} {ex : ExecH} {fno N : Nat} {rs : List ResultVar} : ∀ (c : Code) (base : Nat) (S : St) (y : Way) (h' : Heap) (b : Nat) (tk : List Nat) (ps : Pairs), bodyH P ex fno N rs c base S = some (y, h', b, tk, ps) → Alike ps → bodyE P (exA ex) fno N rs c base S = some (y, h', b, tk) := by
 intro c
 induction c with
 | seq x y _ ihy =>
  intro base S w h' b tk ps h hs
  simp only [bodyH] at h
  simp only [bodyE]
  split at h
  ·rename_i f as hd
   rw [hd]
   simp only
   split at h
   case h_2 => cases h
   rename_i g caps hf
   rw [hf]
   simp only
   split at h
   case h_2 => cases h
   rename_i e S2 b2 tk2 ps2 he
   split at h
   case h_2 => cases h
   rename_i pv hpv
   split at h
   case h_2 => cases h
   rename_i r hr
   obtain ⟨r1, r2, r3, r4⟩ := r
   simp only [Option.map_eq_some_iff, Prod.mk.injEq] at h
   obtain ⟨l, hl, rfl, rfl, rfl, rfl, rfl⟩ := h
   rw [exA_of he hs.left]
   simp only [hpv]
   rw [runDH_E hr hs.right]
   simp only [hl, Option.map_some]
  ·rename_i hd
   rw [hd]
   simp only
   split at h
   ·rename_i S' b' tk' ps' he
    split at h
    case h_2 => cases h
    rename_i r hr
    obtain ⟨r1, r2, r3, r4, r5⟩ := r
    simp only [Option.some.injEq, Prod.mk.injEq] at h
    obtain ⟨rfl, rfl, rfl, rfl, rfl⟩ := h
    rw [exA_of he hs.left]
    simp only
    rw [ihy _ _ _ _ _ _ _ hr hs.right]
   ·rename_i hnn
    have h2 := outHd_E h hs
    cases he : exA ex fno base N x S with
    | none => rw [he] at h2; simp [outE] at h2
    | some r =>
     obtain ⟨e, S', b', tk'⟩ := r
     cases e with
     | normal =>
      exfalso
      unfold exA at he
      split at he
      ·rename_i e1 S1 b1 tk1 ps1 h1
       split at he
       ·simp only [Option.some.injEq, Prod.mk.injEq] at he
        obtain ⟨rfl, rfl, rfl, rfl⟩ := he
        exact hnn _ _ _ _ h1
       ·cases he
      ·cases he
     | ret => rw [he] at h2; exact h2
     | exit i => rw [he] at h2; exact h2
     | panic x => rw [he] at h2; exact h2
 | _ =>
  intro base S w h' b tk ps h hs
  exact outHd_E h hs
def callBH (P : Program) (ex : ExecH) (base : Nat) (g : Nat) (args : List AV) (h : Heap) : Option (Way × Heap × Nat × List Nat × Pairs) :=
 match P.funcs[g]? with
 | none => none
 | some fn => match fn.body with
  | none => none
  | some b => if args.length ≤ fn.ntmps then bodyH P ex g fn.ntmps fn.results.toList b base ⟨startE args, h⟩ else none
theorem callBH_E {P : Program} {ex : ExecH} {base g : Nat} {args : List AV} {h h' : Heap} {y : Way} {b : Nat} {tk : List Nat} {ps : Pairs} (hc : callBH P ex base g args h = some (y, h', b, tk, ps)) (hs : Alike ps) : callXE P (exA ex) base g args h = some (y, h', b, tk) := by
 unfold callBH at hc
 unfold callXE
 split at hc
 ·cases hc
 rename_i fn hf
 rw [hf]
 simp only
 split at hc
 ·cases hc
 rename_i bd hb
 rw [hb]
 simp only
 split at hc
 case isFalse => cases hc
 rename_i hl
 rw [if_pos hl]
 exact bodyH_E _ _ _ _ _ _ _ _ hc hs
def retBH (r : Option (Way × Heap × Nat × List Nat × Pairs)) : Option (List AV × Heap × Nat × List Nat × Pairs) := match r with
 | some (.ret rs, h, b, tk, ps) => some (rs, h, b, tk, ps)
 | _ => none
def pureRunB (r : Option (List AV × Heap × Nat × List Nat × Pairs)) (rs : List D) : Option (AExit × Pairs) :=
 match r with
 | some (rs', h', _, _, ps) => match viewD h' rs' with
  | some ds => some (.ret, (.ds ds, .ds rs) :: ps)
  | none => none
 | none => none
theorem pure_of_runB {P : Program} (hm : OkP P) (hn : Named P) (pr : Par P) (n base : Nat) {g : Nat} {ds rs : List D}
    (h : outL (pureRunB (retBH (callBH P (execH P pr n) base g (ds.map .d) hp0)) rs) = outR .ret (pureRunB (retBH (callBH P (execH P pr n) base g (ds.map .d) hp0)) rs)) : Pure P g ds rs := by
 obtain ⟨ps, h1, hs⟩ := out_spec h
 unfold pureRunB at h1
 split at h1
 case h_2 => cases h1
 rename_i rs' h' b' tk ps' hr
 split at h1
 case h_2 => cases h1
 rename_i ds' hv
 simp only [Option.some.injEq, Prod.mk.injEq, true_and] at h1
 subst h1
 have g1 := hs.head
 simp only [Side.ds.injEq] at g1
 subst g1
 unfold retBH at hr
 split at hr
 case h_2 => cases hr
 rename_i rs2 h2 b2 tk2 ps2 hc
 simp only [Option.some.injEq, Prod.mk.injEq] at hr
 obtain ⟨rfl, rfl, rfl, rfl, rfl⟩ := hr
 exact pure_of_hcall (callXE_sound hm hn (exA_right (execH_right hm hn n)) (callBH_E hc hs.tail)).1 hv
end Go.Avm
