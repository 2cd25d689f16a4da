/-
  The abstract machine, part T: runs on open data are right.
-/
import Derived.Test.YtkhcaamgjjhpeaaGreatDoorAvmS
set_option linter.unusedSectionVars false
namespace Go.Avm
open Go.RowKit
variable [GlobTab]

/-- Is a runner right? -/
def RightH (P : Program) (ex : ExecH) : Prop := ∀ fno base N c S e S' b' tk ps, ex fno base N c S = some (e, S', b', tk, ps) → Alike ps →
  (∀ X : Fix, X.P = P → X.N = N → AW X c S fun e' S'' => e' = e ∧ S'' = S') ∧ ∀ k, k ∉ tk → S'.heap k = S.heap k

section
variable {P : Program} {pr : Par P}

theorem callDH_sound (hm : OkP P) (hn : Named P) {ex : ExecH} (hex : RightH P ex) {g : Nat} {ds rs : List D} {ps : Pairs} (h : callDH P ex g ds = some (rs, ps)) (hs : Alike ps) : Pure P g ds rs := by
  unfold callDH at h
  split at h
  · cases h
  · rename_i fn hf
    split at h
    · cases h
    · rename_i b hb
      split at h
      · rename_i hl
        refine pure_of_aw hm hf hb (hn.1 g fn hf) hl (fun X hP hN => ?_)
        split at h
        · rename_i S' b' tk ps' he
          simp only [Option.map_eq_some_iff, Prod.mk.injEq] at h
          obtain ⟨rs', hr, rfl, rfl⟩ := h
          refine ((hex _ _ _ _ _ _ _ _ _ _ he hs).1 X hP hN).mono ?_
          rintro e S'' ⟨rfl, rfl⟩
          exact ⟨.inl rfl, hr⟩
        · rename_i S' b' tk ps' he
          simp only [Option.map_eq_some_iff, Prod.mk.injEq] at h
          obtain ⟨rs', hr, rfl, rfl⟩ := h
          refine ((hex _ _ _ _ _ _ _ _ _ _ he hs).1 X hP hN).mono ?_
          rintro e S'' ⟨rfl, rfl⟩
          exact ⟨.inr rfl, hr⟩
        · cases h
      · cases h

theorem callHH_sound (hm : OkP P) (hn : Named P) {ex : ExecH} (hex : RightH P ex) {base g : Nat} {args rs : List AV} {h h' : Heap} {b2 : Nat} {tk : List Nat} {ps : Pairs} (hc : callHH P ex base g args h = some (rs, h', b2, tk, ps)) (hs : Alike ps) :
    HCall P g args h rs h' ∧ ∀ k, k ∉ tk → h' k = h k := by
  unfold callHH at hc
  split at hc
  · cases hc
  · rename_i fn hf
    split at hc
    · cases hc
    · rename_i b hb
      split at hc
      · rename_i hl
        split at hc
        · rename_i S' b' tk' ps' he
          simp only [Option.map_eq_some_iff, Prod.mk.injEq] at hc
          obtain ⟨rs', h1, rfl, rfl, rfl, rfl, rfl⟩ := hc
          have hr := hex _ _ _ _ _ _ _ _ _ _ he hs
          refine ⟨hcall_of_aw hm hf hb (hn.1 g fn hf) hl (fun X hP hN => ?_), hr.2⟩
          refine (hr.1 X hP hN).mono ?_
          rintro e S'' ⟨rfl, rfl⟩
          exact ⟨.inl rfl, h1, rfl⟩
        · rename_i S' b' tk' ps' he
          simp only [Option.map_eq_some_iff, Prod.mk.injEq] at hc
          obtain ⟨rs', h1, rfl, rfl, rfl, rfl, rfl⟩ := hc
          have hr := hex _ _ _ _ _ _ _ _ _ _ he hs
          refine ⟨hcall_of_aw hm hf hb (hn.1 g fn hf) hl (fun X hP hN => ?_), hr.2⟩
          refine (hr.1 X hP hN).mono ?_
          rintro e S'' ⟨rfl, rfl⟩
          exact ⟨.inr rfl, h1, rfl⟩
        · cases hc
      · cases hc

theorem callXH_sound (hm : OkP P) (hn : Named P) {ex : ExecH} (hex : RightH P ex) {fno key base g : Nat} {args rs : List AV} {h h' : Heap} {b2 : Nat} {tk : List Nat} {ps : Pairs} (hc : callXH P pr ex fno key base g args h = some (rs, h', b2, tk, ps)) (hs : Alike ps) :
    HCall P g args h rs h' ∧ ∀ k, k ∉ tk → h' k = h k := by
  unfold callXH at hc
  split at hc
  · rename_i H _
    split at hc
    case isFalse => cases hc
    rename_i hg
    split at hc
    case h_2 => cases hc
    rename_i q hq
    simp only [Option.some.injEq, Prod.mk.injEq] at hc
    obtain ⟨rfl, rfl, _, rfl, rfl⟩ := hc
    have h1 := hs.head
    simp only [Side.av.injEq, AV.tup.injEq] at h1
    subst h1
    subst hg
    refine ⟨H.proof h (heapPairs_spec hq hs.tail), fun k hk => ?_⟩
    simp only [List.mem_append, not_or] at hk
    rw [ovl_ne _ _ hk.1, H.hrst h k hk.2]
  · exact callHH_sound hm hn hex hc hs

theorem callOnceH_sound (hm : OkP P) (hn : Named P) {ex : ExecH} (hex : RightH P ex) {base g : Nat} {args : List AV} {h h' : Heap} {b2 : Nat} {tk : List Nat} {ps : Pairs} (hg : isOnce g = true) (hc : callOnceH P ex base args h = some (h', b2, tk, ps)) (hs : Alike ps) :
    HCall P g args h [] h' ∧ ∀ k, k ∉ tk → h' k = h k := by
  have hok := hn.2 g (isOnce_spec hg)
  unfold callOnceH at hc
  split at hc
  case h_2 => cases hc
  rename_i a f caps
  split at hc
  case h_2 => cases hc
  rename_i k v i es n m ha
  obtain ⟨o1, o2⟩ := hok h a f caps k v i es n m ha
  split at hc
  · rename_i hn0
    split at hc
    · rename_i hm0
      split at hc
      · rename_i r hr
        split at hc
        · rename_i k2 v2 i2 es2 n2 m2 ha2
          split at hc
          · rename_i hcc
            obtain ⟨rfl, rfl, rfl, rfl, rfl⟩ := hcc
            simp only [Option.some.injEq, Prod.mk.injEq] at hc
            obtain ⟨rfl, rfl, rfl, rfl⟩ := hc
            obtain ⟨r1, r2, r3, r4, r5⟩ := r
            obtain ⟨g1, g2⟩ := callHH_sound hm hn hex hr hs
            refine ⟨o2 hn0 hm0 r1 r2 es2 g1 ha2, fun k' hk' => ?_⟩
            simp only [List.mem_cons, not_or] at hk'
            exact (upd_ne _ _ hk'.1).trans ((g2 k' hk'.2).trans (upd_ne _ _ hk'.1))
          · cases hc
        · cases hc
      · cases hc
    · cases hc
  · rename_i hn0
    simp only [Option.some.injEq, Prod.mk.injEq] at hc
    obtain ⟨rfl, rfl, rfl, rfl⟩ := hc
    exact ⟨o1 hn0, fun _ _ => rfl⟩

theorem yieldH_sound (hm : OkP P) {ex : ExecH} (hex : RightH P ex) {base k v : Nat} {args : List AV} {h : Heap} {r : Bool × Heap × Nat × List Nat × Pairs} (hy : yieldH ex base k v args h = some r) (hs : Alike r.2.2.2.2) :
    YCall P k v args h [.d (.bool r.1)] r.2.1 ∧ ∀ k', k' ∉ r.2.2.2.1 → r.2.1 k' = h k' := by
  unfold yieldH at hy
  split at hy
  case h_2 => cases hy
  rename_i fno N env ps as bd hob
  split at hy
  case h_2 => cases hy
  rename_i env1 henv
  split at hy
  case h_2 => cases hy
  rename_i S1 b1 tk1 ps1 h1
  split at hy
  case h_2 => cases hy
  rename_i f1 N1 e1 q1 as1 bd1 hob1
  split at hy
  case h_2 => cases hy
  rename_i q hq
  obtain ⟨e, S2, b2, tk2, ps2⟩ := q
  split at hy
  case h_2 => cases hy
  rename_i f2 N2 e2 q2 as2 bd2 st2 z hob2 hz
  simp only [Option.some.injEq] at hy
  subst hy
  have g1 := hs.head
  have g2 := hs.tail.head
  have g3 := hs.tail.tail.head
  simp only [Side.nat.injEq] at g1 g2 g3
  have a1 := hex _ _ _ _ _ _ _ _ _ _ h1 hs.tail.tail.tail.left
  have a2 := hex _ _ _ _ _ _ _ _ _ _ hq hs.tail.tail.tail.right
  refine ⟨ycall_of_aw hm g1 hob henv (fun X hP hN => a1.1 X hP hN) g2 hob1 (fun X hP hN => a2.1 X hP hN) g3 hob2 hz, fun k' hk' => ?_⟩
  simp only [List.mem_cons, List.mem_append, not_or] at hk'
  exact (upd_ne _ _ hk'.1).trans ((a2.2 k' hk'.2.2).trans ((upd_ne _ _ hk'.1).trans (a1.2 k' hk'.2.1)))

theorem stepA_call {cfg : Cfg} {N i : Nat} {ops : Array Oper} {o : Oper} {S : St} {env : Nat → AV} {g : Nat} {args : List AV} {out : Out} (hw : wantedA ops o S.env = some true) (hco : callOf o S.env = some (g, args)) (hext : GlobTab.ext g = none) (hhc : cfg.hc i = none)
    (ho : opCall cfg i g args S.heap = some out) (hwr : out.wr = []) (hpt : putA N S.env o.dst out.val = some env) : stepA P cfg N ops i o S = some (⟨env, S.heap⟩, out.ob.map .data, ⟨i, out.rd, [], false⟩) := by
  unfold stepA
  rw [hw]
  simp only [hhc]
  have hcore : core P cfg i o (opd S.env) S.heap = some out := by
    unfold callOf at hco
    split at hco
    · rename_i c hop
      split at hco
      · rename_i f hcal
        split at hco
        · rename_i g' caps hf
          simp only [Option.some.injEq, Prod.mk.injEq] at hco
          obtain ⟨rfl, rfl⟩ := hco
          simp only [core, hop, coreCall, hcal, hf, hext, ho]
        · cases hco
      · cases hco
    · cases hco
  simp only [hcore, hpt, Option.map_some, hwr, updAll, List.map_nil]

theorem stepH_step (hm : OkP P) (hn : Named P) {ex : ExecH} (hex : RightH P ex) {fno rid base N i : Nat} {ops : Array Oper} {o : Oper} {S S' : St} {ft : Foot} {b2 : Nat} {tk : List Nat} {ps : Pairs}
    (h : stepH P pr ex fno rid base N ops i o S = some (S', ft, b2, tk, ps)) (hs : Alike ps) :
    (∃ r : CallRes, ∀ cfg : Cfg, cfg.ret i = r.ret → cfg.hc i = r.hc → cfg.obm i = pr.obm fno (o.dst.getD 0) → cfg.base i = r.base → ∃ ob, stepA P cfg N ops i o S = some (S', ob, ft) ∧ Obls P ob) ∧ ∀ k, k ∉ tk → S'.heap k = S.heap k := by
  unfold stepH at h
  split at h
  · rename_i hw
    split at h
    · rename_i g args hci
      obtain ⟨hco, hext⟩ := callIn_some hci
      split at h
      · rename_i H hH
        split at h
        case isFalse => cases h
        rename_i hg
        split at h
        case h_2 => cases h
        rename_i q hq
        simp only [Option.map_eq_some_iff, Prod.mk.injEq] at h
        obtain ⟨env, hpt, rfl, rfl, rfl, rfl, rfl⟩ := h
        have h1 := hs.head
        simp only [Side.av.injEq, AV.tup.injEq] at h1
        subst h1
        have hfits : Fits S.heap H.pre := heapPairs_spec hq hs.tail
        refine ⟨⟨⟨[], some (.frame H.pre H.rs H.post), base⟩, fun cfg h1 h2 h3 h4 => ⟨[.frame g H.args H.pre H.rs H.post], ?_, ?_⟩⟩, fun k hk => updAll_ne _ _ hk⟩
        · unfold stepA
          rw [hw]
          simp only [h2, hco, hpt, Option.map_some]
          rw [if_pos hfits]
        · intro c hc
          simp only [List.mem_singleton] at hc
          subst hc
          show ∀ h, Fits h H.pre → HCall P g H.args h H.rs (ovl H.post h)
          rw [hg]
          exact H.proof
      split at h
      · rename_i g' ds rs hp hhint
        split at h
        · rename_i hg
          subst hg
          split at h
          · rename_i ds' hds
            simp only [Option.map_eq_some_iff, Prod.mk.injEq] at h
            obtain ⟨env, hpt, rfl, rfl, rfl, rfl, rfl⟩ := h
            have h1 := hs.head
            simp only [Side.ds.injEq] at h1
            subst h1
            refine ⟨⟨⟨rs, none, base⟩, fun cfg h1 h2 h3 h4 => ⟨[.data (g', ds', rs)], ?_, ?_⟩⟩, fun _ _ => rfl⟩
            · have ho : opCall cfg i g' args S.heap = some { val := retAV rs, ob := [(g', ds', rs)] } := by simp only [opCall, hds, h1]
              exact stepA_call hw hco hext h2 ho rfl hpt
            · intro c hc
              simp only [List.mem_singleton] at hc
              subst hc
              exact hp
          · rename_i hds
            split at h
            · rename_i r hv
              split at h
              · rename_i hsc
                simp only [Option.map_eq_some_iff, Prod.mk.injEq] at h
                obtain ⟨env, hpt, rfl, rfl, rfl, rfl, rfl⟩ := h
                have h1 := hs.head
                simp only [Side.ds.injEq] at h1
                subst h1
                refine ⟨⟨⟨rs, none, base⟩, fun cfg h1 h2 h3 h4 => ⟨[.data (g', r.1, rs)], ?_, ?_⟩⟩, fun _ _ => rfl⟩
                · have ho : opCall cfg i g' args S.heap = some { val := retAV rs, rd := r.2, ob := [(g', r.1, rs)] } := by
                    simp only [opCall, hds, hv, h1]
                    rw [if_pos hsc]
                  exact stepA_call hw hco hext h2 ho rfl hpt
                · intro c hc
                  simp only [List.mem_singleton] at hc
                  subst hc
                  exact hp
              · cases h
            · cases h
        · cases h
      · split at h
        · rename_i hone
          split at h
          · rename_i r hr
            simp only [Option.map_eq_some_iff, Prod.mk.injEq] at h
            obtain ⟨env, hpt, rfl, rfl, rfl, rfl, rfl⟩ := h
            obtain ⟨r1, r2, r3, r4⟩ := r
            have hcs := callOnceH_sound hm hn hex hone hr hs
            refine ⟨⟨⟨[], some (.heap [] r1 r3), base⟩, fun cfg h1 h2 h3 h4 => ⟨[.heap g args S.heap [] r1], ?_, ?_⟩⟩, hcs.2⟩
            · unfold stepA
              rw [hw]
              simp only [h2, hco, retV, hpt, Option.map_some]
              rw [if_pos hcs.2]
            · intro c hc
              simp only [List.mem_singleton] at hc
              subst hc
              exact hcs.1
          · cases h
        split at h
        · rename_i ds hds
          split at h
          · rename_i r hr
            simp only [Option.map_eq_some_iff, Prod.mk.injEq] at h
            obtain ⟨env, hpt, rfl, rfl, rfl, rfl, rfl⟩ := h
            have htd : toDs args = some ds := by
              split at hds
              · cases hds
              · exact hds
            refine ⟨⟨⟨r.1, none, base⟩, fun cfg h1 h2 h3 h4 => ⟨[.data (g, ds, r.1)], ?_, ?_⟩⟩, fun _ _ => rfl⟩
            · have ho : opCall cfg i g args S.heap = some { val := retAV r.1, ob := [(g, ds, r.1)] } := by simp only [opCall, htd, h1]
              exact stepA_call hw hco hext h2 ho rfl hpt
            · intro c hc
              simp only [List.mem_singleton] at hc
              subst hc
              exact callDH_sound hm hn hex hr hs
          · cases h
        · split at h
          · rename_i r hr
            simp only [Option.map_eq_some_iff, Prod.mk.injEq] at h
            obtain ⟨env, hpt, rfl, rfl, rfl, rfl, rfl⟩ := h
            obtain ⟨r1, r2, r3, r4, r5⟩ := r
            have hcs := callXH_sound hm hn hex hr hs
            refine ⟨⟨⟨[], some (.heap r1 r2 r4), base⟩, fun cfg h1 h2 h3 h4 => ⟨[.heap g args S.heap r1 r2], ?_, ?_⟩⟩, hcs.2⟩
            · unfold stepA
              rw [hw]
              simp only [h2, hco, hpt, Option.map_some]
              rw [if_pos hcs.2]
            · intro c hc
              simp only [List.mem_singleton] at hc
              subst hc
              exact hcs.1
          · cases h
    · split at h
      · rename_i y hyl
        split at h
        · rename_i r hr
          simp only [Option.map_eq_some_iff, Prod.mk.injEq] at h
          obtain ⟨env, hpt, rfl, rfl, rfl, rfl, rfl⟩ := h
          obtain ⟨k, v, args⟩ := y
          have hcs := yieldH_sound hm hex hr hs
          refine ⟨⟨⟨[], some (.heap [.d (.bool r.1)] r.2.1 r.2.2.2.1), base⟩, fun cfg h1 h2 h3 h4 => ⟨[.yield k v args S.heap [.d (.bool r.1)] r.2.1], ?_, ?_⟩⟩, hcs.2⟩
          · unfold stepA
            rw [hw]
            simp only [h2, yldOf_callOf hyl, hyl, retV, hpt, Option.map_some]
            rw [if_pos hcs.2]
          · intro c hc
            simp only [List.mem_singleton] at hc
            subst hc
            exact hcs.1
        · cases h
      split at h
      · rename_i q hq
        split at h
        case h_2 => cases h
        rename_i hnob
        simp only [Option.map_eq_some_iff, Prod.mk.injEq] at h
        obtain ⟨env, hpt, rfl, rfl, rfl, rfl, rfl⟩ := h
        have hcore := coreH_spec hq hs
        refine ⟨⟨⟨[], none, base⟩, fun cfg h1 h2 h3 h4 => ⟨q.1.ob.map .data, ?_, ?_⟩⟩, fun k hk => updAll_ne _ _ hk⟩
        · unfold stepA
          rw [hw]
          simp only [h2]
          rw [core_cfg (cfg' := cfg) (cfg := { obm := fun _ => pr.obm fno (o.dst.getD 0), base := fun _ => base }) h1 h3 h4, hcore]
          simp only [hpt, Option.map_some]
        · rw [hnob]
          intro c hc
          cases hc
      · cases h
  · rename_i hw
    simp only [Option.map_eq_some_iff, Prod.mk.injEq] at h
    obtain ⟨env, hpt, rfl, rfl, rfl, rfl, rfl⟩ := h
    refine ⟨⟨⟨[], none, base⟩, fun cfg h1 h2 h3 h4 => ⟨[], ?_, fun c hc => by cases hc⟩⟩, fun _ _ => rfl⟩
    unfold stepA
    rw [hw]
    simp only [hpt, Option.map_some]
  · cases h

theorem opsH_run (hm : OkP P) (hn : Named P) {ex : ExecH} (hex : RightH P ex) {fno rid N : Nat} {ops : Array Oper} : ∀ (l : List Oper) (k base : Nat) (S S' : St) (fts : List Foot) (b2 : Nat) (tk : List Nat) (ps : Pairs), (∀ j, j < l.length → l[j]? = ops[k + j]?) →
    opsH P pr ex fno rid N ops l k base S = some (S', fts, b2, tk, ps) → Alike ps →
    (∃ T : Nat → CallRes, ∀ cfg : Cfg, (∀ j, k ≤ j → cfg.ret j = (T j).ret ∧ cfg.hc j = (T j).hc ∧ cfg.base j = (T j).base) → (∀ j, cfg.obm j = pr.obm fno (((ops[j]?).bind (·.dst)).getD 0)) →
      ∃ ob, runA P cfg N ops (List.range' k l.length) S = some (S', ob, fts) ∧ Obls P ob) ∧ ∀ k, k ∉ tk → S'.heap k = S.heap k
  | [], k, base, S, S', fts, b2, tk, ps, _, h, _ => by
    simp only [opsH, Option.some.injEq, Prod.mk.injEq] at h
    obtain ⟨rfl, rfl, _⟩ := h
    exact ⟨⟨fun _ => ⟨[], none, 0⟩, fun cfg _ _ => ⟨[], rfl, fun c hc => by cases hc⟩⟩, fun _ _ => rfl⟩
  | o :: r, k, base, S, S', fts, b2, tk, ps, hl, h, hs => by
    have ho : ops[k]? = some o := by simpa using (hl 0 (by simp)).symm
    simp only [opsH] at h
    split at h
    · cases h
    · rename_i a ha
      split at h
      · cases h
      · rename_i b hb
        simp only [Option.some.injEq, Prod.mk.injEq] at h
        obtain ⟨rfl, rfl, rfl, rfl, rfl⟩ := h
        obtain ⟨a1, a2, a3, a4, a5⟩ := a
        obtain ⟨b1, bf, b3, b4, b5⟩ := b
        obtain ⟨⟨rk, hk⟩, hk2⟩ := stepH_step hm hn hex ha hs.left
        obtain ⟨⟨T, hT⟩, hT2⟩ := opsH_run hm hn hex r (k + 1) a3 a1 b1 bf b3 b4 b5 (fun j hj => by have := hl (j + 1) (by simpa using hj); simpa [Nat.add_assoc, Nat.add_comm 1 j] using this) hb hs.right
        refine ⟨⟨fun j => if j = k then rk else T j, fun cfg h1 h2 => ?_⟩, fun s hk' => ?_⟩
        · have hkk := h1 k (Nat.le_refl k)
          simp only [if_true] at hkk
          obtain ⟨ob1, e1, o1⟩ := hk cfg hkk.1 hkk.2.1 (by rw [h2 k, ho]; rfl) hkk.2.2
          obtain ⟨ob2, e2, o2⟩ := hT cfg (fun j hj => by have := h1 j (by omega); simp only [if_neg (show ¬ j = k by omega)] at this; exact this) h2
          refine ⟨ob1 ++ ob2, ?_, fun c hc => (List.mem_append.1 hc).elim (o1 c) (o2 c)⟩
          simp only [List.length_cons, List.range'_succ, runA, ho, e1, e2]
        · simp only [List.mem_append, not_or] at hk'
          exact (hT2 s hk'.2).trans (hk2 s hk'.1)

theorem fgt_none (W : List Nat) (h : Heap) : ∀ k ∈ W, (fgt W h k).ob = none := fun k hk => by
  have : W.any (Nat.beq k) = true := List.any_eq_true.2 ⟨k, hk, Nat.beq_refl k⟩
  simp [fgt, this]
theorem fgt_off {W : List Nat} {h : Heap} {k : Nat} (hk : k ∉ W) : fgt W h k = h k := by
  have : W.any (Nat.beq k) = false := by
    cases hb : W.any (Nat.beq k) with
    | false => rfl
    | true =>
      obtain ⟨b, h1, h2⟩ := List.any_eq_true.1 hb
      rw [Nat.eq_of_beq_eq_true h2] at hk
      exact absurd h1 hk
  simp [fgt, this]
theorem fgt_up (W : List Nat) (h : Heap) : UpH h (fgt W h) := fun k => by
  by_cases hk : k ∈ W
  · refine .inr ⟨fgt_none W h k hk, ?_⟩
    have : W.any (Nat.beq k) = true := List.any_eq_true.2 ⟨k, hk, Nat.beq_refl k⟩
    simp [fgt, this]
  · exact .inl (fgt_off hk)
theorem lookF_spec : ∀ {l : List (Nat × Foot)}, (l.map (·.1)).Nodup → ∀ e ∈ l, lookF l e.1 = e.2
  | [], _, e, he => by cases he
  | (j, f) :: r, hn, e, he => by
    simp only [List.map_cons, List.nodup_cons] at hn
    rcases List.mem_cons.1 he with rfl | he
    · simp [lookF]
    · have hne : Nat.beq e.1 j = false := by
        cases hb : Nat.beq e.1 j with
        | false => rfl
        | true =>
          have := Nat.eq_of_beq_eq_true hb
          exact absurd (by rw [← this]; exact List.mem_map_of_mem he) hn.1
      simp only [lookF, hne, cond_false]
      exact lookF_spec hn.2 e he
theorem steps_env {cfg : Cfg} {N : Nat} {ops : Array Oper} {F : Nat → Foot} {op : Oper} : ∀ (l : List Nat) (S S' : St), StepsOk P cfg N ops F op l S S' → ∀ t, (dstsOf ops).contains t = false → S'.env t = S.env t
  | [], S, S', h, t, _ => by
    simp only [StepsOk] at h
    rw [h]
  | k :: r, S, S', h, t, ht => by
    obtain ⟨o, S1, ob, ho, hst, _, _, hs⟩ := h
    obtain ⟨v, act, hpt, _⟩ := stepA_local hst
    rw [steps_env r S1 S' hs t ht, putA_ne hpt (envJ_dst ho ht)]
theorem opsQ_run (hm : OkP P) (hn : Named P) {ex : ExecH} (hex : RightH P ex) {fno rid N : Nat} {ops : Array Oper} {op : Oper} : ∀ (l : List Nat) (base : Nat) (S S' : St) (fts : List (Nat × Foot)) (b2 : Nat) (tk : List Nat) (ps : Pairs),
    opsQ P pr ex fno rid N ops op l base S = some (S', fts, b2, tk, ps) → Alike ps →
    (∃ T : Nat → CallRes, ∀ (cfg : Cfg) (F : Nat → Foot), (∀ j ∈ l, cfg.ret j = (T j).ret ∧ cfg.hc j = (T j).hc ∧ cfg.base j = (T j).base) → (∀ j, cfg.obm j = pr.obm fno (((ops[j]?).bind (·.dst)).getD 0)) → (∀ e ∈ fts, F e.1 = e.2) → StepsOk P cfg N ops F op l S S') ∧
      (∀ k, k ∉ tk → S'.heap k = S.heap k) ∧ fts.map (·.1) = l ∧ l.Nodup
  | [], base, S, S', fts, b2, tk, ps, h, _ => by
    simp only [opsQ, Option.some.injEq, Prod.mk.injEq] at h
    obtain ⟨rfl, rfl, _⟩ := h
    exact ⟨⟨fun _ => ⟨[], none, 0⟩, fun cfg F _ _ _ => rfl⟩, fun _ _ => rfl, rfl, List.nodup_nil⟩
  | i :: r, base, S, S', fts, b2, tk, ps, h, hs => by
    simp only [opsQ] at h
    split at h
    · cases h
    rename_i o ho
    split at h
    · cases h
    rename_i a ha
    split at h
    · cases h
    rename_i hc
    split at h
    · cases h
    rename_i b hb
    simp only [Option.some.injEq, Prod.mk.injEq] at h
    obtain ⟨rfl, rfl, rfl, rfl, rfl⟩ := h
    obtain ⟨a1, a2, a3, a4, a5⟩ := a
    obtain ⟨b1, bf, b3, b4, b5⟩ := b
    obtain ⟨⟨rk, hk⟩, hk2⟩ := stepH_step hm hn hex ha hs.left
    obtain ⟨⟨T, hT⟩, hT2, hT3, hT4⟩ := opsQ_run hm hn hex r a3 a1 b1 bf b3 b4 b5 hb hs.right
    simp only [Bool.and_eq_true, Bool.or_eq_true, Bool.not_eq_true'] at hc
    have hir : i ∉ r := fun hx => by
      have : r.any (Nat.beq i) = true := List.any_eq_true.2 ⟨i, hx, Nat.beq_refl i⟩
      rw [this] at hc
      cases hc.2
    refine ⟨⟨fun j => if j = i then rk else T j, fun cfg F h1 h2 h3 => ?_⟩, fun s hk' => ?_, by simp [hT3], List.nodup_cons.2 ⟨hir, hT4⟩⟩
    · have hkk := h1 i (by simp)
      simp only [if_true] at hkk
      obtain ⟨ob1, e1, o1⟩ := hk cfg hkk.1 hkk.2.1 (by rw [h2 i, ho]; rfl) hkk.2.2
      have hF : F i = a2 := h3 (i, a2) (by simp)
      refine ⟨o, a1, ob1, ho, by rw [hF]; exact e1, o1, ?_, hT cfg F (fun j hj => ?_) h2 (fun e he => h3 e (by simp [he]))⟩
      · rcases hc.1 with hc | hc
        · exact .inl hc
        · refine .inr fun k hkw => ?_
          rw [hF] at hkw
          have := List.all_eq_true.1 hc k hkw
          simpa using this
      · have := h1 j (by simp [hj])
        simp only [if_neg (show ¬ j = i from fun e => hir (e ▸ hj))] at this
        exact this
    · simp only [List.mem_append, not_or] at hk'
      exact (hT2 s hk'.2).trans (hk2 s hk'.1)
theorem panH_Q {CC : Option (PCall P)} {ops : Array Oper} {o : Oper} {S : St} {x : AV} {h1 : Heap} {tk : List Nat} {ps : Pairs} {W : List Nat} (hq : panH P CC ops o S = some (x, h1, tk, ps)) (hs : Alike ps)
    (hd : disW CC W = true) : wantedA ops o S.env = some true ∧ PanQ P o S x (fgt W h1) W ∧ ∀ k, k ∉ tk → h1 k = S.heap k := by
  unfold panH at hq
  split at hq
  case h_2 => cases hq
  rename_i hw
  refine ⟨hw, ?_⟩
  split at hq
  · rename_i C
    split at hq
    case h_2 => cases hq
    rename_i g args hco
    split at hq
    case isFalse => cases hq
    rename_i hg
    simp only [Option.map_eq_some_iff, Prod.mk.injEq] at hq
    obtain ⟨q, hq, rfl, rfl, rfl, rfl⟩ := hq
    have h2 := hs.head
    simp only [Side.av.injEq, AV.tup.injEq] at h2
    subst h2
    have no : ∀ {l : List Nat} {k : Nat}, l.any (Nat.beq k) = false → k ∉ l := fun {l k} hf hx => by
      have : l.any (Nat.beq k) = true := List.any_eq_true.2 ⟨k, hx, Nat.beq_refl k⟩
      rw [this] at hf
      cases hf
    refine ⟨.inr ⟨g, C.args, C.pre, C.post, hco, fun h hf => by rw [hg]; exact C.proof h hf, heapPairs_spec hq hs.tail, fun k hk => ?_, fgt_up W _⟩, fun k hk => ovl_ne _ _ hk⟩
    have := List.all_eq_true.1 hd k hk
    simp only [Bool.and_eq_true, Bool.not_eq_true'] at this
    exact ⟨no this.1, no this.2⟩
  · split at hq
    case h_2 => cases hq
    rename_i u hop
    split at hq
    case h_2 => cases hq
    rename_i t y hu
    simp only [Option.some.injEq, Prod.mk.injEq] at hq
    obtain ⟨rfl, rfl, rfl, rfl⟩ := hq
    exact ⟨.inl ⟨u, t, y, hop, hu, rfl, fgt_up W _⟩, fun _ _ => rfl⟩

def RightL2 (P : Program) (pr : Par P) (ex : ExecH) : Prop := ∀ fno base N c S e S' b' tk ps, pr.loops fno (firstReg c) = none → ex fno base N (.loop c) S = some (e, S', b', tk, ps) → Alike ps →
  (∀ X : Fix, X.P = P → X.N = N → LW X c S fun e' S'' => e' = e ∧ S'' = S') ∧ ∀ k, k ∉ tk → S'.heap k = S.heap k

theorem loopH_right {n : Nat} (ih : RightH P (execH P pr n)) (ihl : RightL2 P pr (execH P pr n)) : RightL2 P pr (execH P pr (n + 1)) := fun fno base N x S e S' b' tk ps hno h hs => by
  simp only [execH] at h
  split at h
  · rename_i H hH; rw [hno] at hH; cases hH
  · split at h
    · rename_i S1 b1 tk1 ps1 h1
      split at h
      · rename_i e2 S2 b2 tk2 ps2 h2
        simp only [Option.some.injEq, Prod.mk.injEq] at h
        obtain ⟨rfl, rfl, rfl, rfl, rfl⟩ := h
        have a1 := ih _ _ _ _ _ _ _ _ _ _ h1 hs.left
        have a2 := ihl _ _ _ _ _ _ _ _ _ _ hno h2 hs.right
        refine ⟨fun X hP hN => lw_round ((a1.1 X hP hN).mono ?_), fun k hk => ?_⟩
        · rintro e1 S3 ⟨rfl, rfl⟩
          exact a2.1 X hP hN
        · simp only [List.mem_append, not_or] at hk
          exact (a2.2 k hk.2).trans (a1.2 k hk.1)
      · cases h
    · rename_i hnn
      have a1 := ih _ _ _ _ _ _ _ _ _ _ h hs
      refine ⟨fun X hP hN => lw_round ((a1.1 X hP hN).mono ?_), a1.2⟩
      rintro e1 S2 ⟨rfl, rfl⟩
      cases e1 with
      | normal => exact absurd h (hnn S2 _ _ _)
      | _ => exact ⟨rfl, rfl⟩

theorem execH_right2 (hm : OkP P) (hn : Named P) : ∀ n, RightH P (execH P pr n) ∧ RightL2 P pr (execH P pr n)
  | 0 => ⟨fun fno base N c S e S' b' tk ps h _ => by simp [execH] at h, fun fno base N c S e S' b' tk ps _ h _ => by simp [execH] at h⟩
  | n + 1 => by
    obtain ⟨ih, ihl⟩ := execH_right2 hm hn n
    have hl := loopH_right ih ihl
    refine ⟨fun fno base N c S e S' b' tk ps h hs => ?_, hl⟩
    cases c with
    | region id ops draw =>
      simp only [execH] at h
      split at h
      · rename_i wk hwk
        obtain ⟨W1, wtk, wps⟩ := wk
        split at h
        · rename_i H hH
          split at h
          · rename_i hex0
            split at h
            case h_2 => cases h
            rename_i r hr
            obtain ⟨S1, fts, b1, tk1, ps1⟩ := r
            split at h
            case h_2 => cases h
            rename_i o ho
            split at h
            case h_2 => cases h
            rename_i q hq
            obtain ⟨x, h1, tk2, ps2⟩ := q
            split at h
            case isFalse => cases h
            rename_i hd
            simp only [Option.some.injEq, Prod.mk.injEq] at h
            obtain ⟨rfl, rfl, _, rfl, rfl⟩ := h
            have hs1 := hs.left
            have hs2 := hs.right.left
            have hs3 := hs.right.right
            have hpl : H.p < ops.size := by
              rcases Nat.lt_or_ge H.p ops.size with hh | hh
              · exact hh
              · rw [Array.getElem?_eq_none hh] at ho; cases ho
            have hpan : wantedA ops o S1.env = some true ∧ PanA P o S1 x h1 ∧ ∀ k, k ∉ tk2 → h1 k = S1.heap k := by
              unfold panH at hq
              split at hq
              case h_2 => cases hq
              rename_i hw
              refine ⟨hw, ?_⟩
              split at hq
              · rename_i C _
                split at hq
                case h_2 => cases hq
                rename_i g args hco
                split at hq
                case isFalse => cases hq
                rename_i hg
                simp only [Option.map_eq_some_iff, Prod.mk.injEq] at hq
                obtain ⟨q, hq, rfl, rfl, rfl, rfl⟩ := hq
                have h2 := hs3.head
                simp only [Side.av.injEq, AV.tup.injEq] at h2
                subst h2
                refine ⟨.inr ⟨g, C.args, hco, by rw [hg]; exact C.proof _ (heapPairs_spec hq hs3.tail)⟩, fun k hk => ovl_ne _ _ hk⟩
              · split at hq
                case h_2 => cases hq
                rename_i u hop
                split at hq
                case h_2 => cases hq
                rename_i t y hu
                simp only [Option.some.injEq, Prod.mk.injEq] at hq
                obtain ⟨rfl, rfl, rfl, rfl⟩ := hq
                exact ⟨.inl ⟨u, t, y, hop, hu, rfl, rfl⟩, fun _ _ => rfl⟩
            obtain ⟨⟨T, hT⟩, hT2⟩ := opsH_run hm hn ih (ops.toList.take H.p) 0 base W1 S1 fts b1 tk1 ps1 (fun j hj => by
              rw [List.length_take] at hj
              rw [List.getElem?_take, if_pos (by omega), Nat.zero_add, Array.getElem?_toList]) hr hs2
            refine ⟨fun X hP hN => ?_, fun k hk => ?_⟩
            · obtain ⟨ob, hrun, hob⟩ := hT { ret := fun j => (T j).ret, hc := fun j => (T j).hc, obm := fun j => pr.obm fno (((ops[j]?).bind (·.dst)).getD 0), base := fun j => (T j).base } (fun j _ => ⟨rfl, rfl, rfl⟩) (fun j => rfl)
              rw [List.length_take, Array.length_toList, Nat.min_eq_left (by omega)] at hrun
              subst hP; subst hN
              refine AW.weak (weakAll_spec hwk hs1).1 ?_
              have hL : Leaf X.P ops H.p W1.env x h1 S1 := ⟨⟨o, ho, hpan.1, hpan.2.1⟩, fun t ht => runA_env _ _ _ _ _ hrun t ht⟩
              exact aw_region_pan ho hrun hob hL hd ⟨rfl, rfl⟩
            · simp only [List.mem_append, not_or] at hk
              exact (hpan.2.2 k hk.2.2).trans ((hT2 k hk.2.1).trans ((weakAll_spec (X := ⟨P, 0, default, fun _ _ => False, 0, hm, none, 0, []⟩) hwk hs1).2 k hk.1))
          · split at h
            · cases h
            split at h
            · cases h
            rename_i o ho
            split at h
            · cases h
            rename_i r hr
            obtain ⟨S1, fts, b1, tk1, ps1⟩ := r
            split at h
            · cases h
            rename_i q hq
            obtain ⟨x, h1, tk2, ps2⟩ := q
            split at h
            case h_2 => cases h
            rename_i hok
            simp only [Option.some.injEq, Prod.mk.injEq] at h
            obtain ⟨rfl, rfl, _, rfl, rfl⟩ := h
            have hs1 := hs.left
            have hs2 := hs.right.left
            have hs3 := hs.right.right
            unfold qOk at hok
            simp only [Bool.and_eq_true] at hok
            obtain ⟨⟨hlex, hlen⟩, hdis⟩ := hok
            have hpan := panH_Q hq hs3 hdis
            obtain ⟨⟨T, hT⟩, hT2, hT3, hT4⟩ := opsQ_run hm hn ih (List.range' 0 H.p ++ H.ex) base W1 S1 fts b1 tk1 ps1 hr hs2
            refine ⟨fun X hP hN => ?_, fun k hk => ?_⟩
            · have hrun := hT { ret := fun j => (T j).ret, hc := fun j => (T j).hc, obm := fun j => pr.obm fno (((ops[j]?).bind (·.dst)).getD 0), base := fun j => (T j).base } (lookF fts) (fun j _ => ⟨rfl, rfl, rfl⟩) (fun j => rfl) (lookF_spec (by rw [hT3]; exact hT4))
              subst hP; subst hN
              refine AW.weak (weakAll_spec hwk hs1).1 ?_
              exact aw_region_panQ ho (fgt_none (wQ o fts) h1) hrun hlex (by simpa using hlen) ⟨⟨o, ho, hpan.1, hpan.2.1⟩, fun t ht => steps_env _ _ _ hrun t ht⟩ ⟨rfl, rfl⟩
            · simp only [List.mem_append, not_or] at hk
              show fgt (wQ o fts) h1 k = S.heap k
              rw [fgt_off hk.2.2.2]
              exact (hpan.2.2 k hk.2.2.1).trans ((hT2 k hk.2.1).trans ((weakAll_spec (X := ⟨P, 0, default, fun _ _ => False, 0, hm, none, 0, []⟩) hwk hs1).2 k hk.1))
        · split at h
          · rename_i r hr
            obtain ⟨S1, fts, b1, tk1, ps1⟩ := r
            have hsplit : Alike wps ∧ Alike ps1 ∧ S' = S1 ∧ e = .normal ∧ tk = wtk ++ tk1 ∧ (draw = false ∨ lexOk ops fts = true) := by
              split at h
              · simp only [Option.some.injEq, Prod.mk.injEq] at h
                obtain ⟨rfl, rfl, _, rfl, rfl⟩ := h
                exact ⟨hs.left, hs.right, rfl, rfl, rfl, .inl rfl⟩
              · split at h
                · rename_i hlex
                  simp only [Option.some.injEq, Prod.mk.injEq] at h
                  obtain ⟨rfl, rfl, _, rfl, rfl⟩ := h
                  exact ⟨hs.left, hs.right, rfl, rfl, rfl, .inr hlex⟩
                · cases h
            obtain ⟨hs1, hs2, rfl, rfl, rfl, hd⟩ := hsplit
            obtain ⟨⟨T, hT⟩, hT2⟩ := opsH_run hm hn ih ops.toList 0 base W1 S' fts b1 tk1 ps1 (fun j _ => by simp) hr hs2
            refine ⟨fun X hP hN => ?_, fun k hk => ?_⟩
            · obtain ⟨ob, hrun, hob⟩ := hT { ret := fun j => (T j).ret, hc := fun j => (T j).hc, obm := fun j => pr.obm fno (((ops[j]?).bind (·.dst)).getD 0), base := fun j => (T j).base } (fun j _ => ⟨rfl, rfl, rfl⟩) (fun j => rfl)
              rw [Array.length_toList, ← List.range_eq_range'] at hrun
              subst hP; subst hN
              refine AW.weak (weakAll_spec hwk hs1).1 ?_
              cases draw with
              | false => exact aw_region hrun hob ⟨rfl, rfl⟩
              | true => exact aw_region_any hrun (hd.resolve_left (by simp)) hob ⟨rfl, rfl⟩
            · simp only [List.mem_append, not_or] at hk
              exact (hT2 k hk.2).trans ((weakAll_spec (X := ⟨P, 0, default, fun _ _ => False, 0, hm, none, 0, []⟩) hwk hs1).2 k hk.1)
          · cases h
      · cases h
    | seq x y =>
      simp only [execH] at h
      split at h
      · rename_i H hH
        split at h
        · rename_i hN0
          split at h
          · rename_i q hq
            simp only [Option.some.injEq, Prod.mk.injEq] at h
            obtain ⟨rfl, rfl, _, rfl, rfl⟩ := h
            have hc := hs.head
            simp only [Side.code.injEq] at hc
            have h1 := hs.tail.left
            have h2 := hs.tail.right
            refine ⟨fun X hP hN => ?_, fun k hk => ovl_ne _ _ hk⟩
            rw [hc]
            exact AW.weak (weak_to h1 hq h2) (H.proof S.heap X hP (by rw [hN, hN0]))
          · cases h
        · cases h
      split at h
      · rename_i S1 b1 tk1 ps1 h1
        split at h
        · rename_i e2 S2 b2 tk2 ps2 h2
          simp only [Option.some.injEq, Prod.mk.injEq] at h
          obtain ⟨rfl, rfl, rfl, rfl, rfl⟩ := h
          have a1 := ih _ _ _ _ _ _ _ _ _ _ h1 hs.left
          have a2 := ih _ _ _ _ _ _ _ _ _ _ h2 hs.right
          refine ⟨fun X hP hN => aw_seq ((a1.1 X hP hN).mono ?_), fun k hk => ?_⟩
          · rintro e1 S3 ⟨rfl, rfl⟩
            exact a2.1 X hP hN
          · simp only [List.mem_append, not_or] at hk
            exact (a2.2 k hk.2).trans (a1.2 k hk.1)
        · cases h
      · rename_i hnn
        have a1 := ih _ _ _ _ _ _ _ _ _ _ h hs
        refine ⟨fun X hP hN => aw_seq ((a1.1 X hP hN).mono ?_), a1.2⟩
        rintro e1 S2 ⟨rfl, rfl⟩
        cases e1 with
        | normal => exact absurd h (hnn S2 _ _ _)
        | _ => exact ⟨rfl, rfl⟩
    | block id x =>
      simp only [execH] at h
      split at h
      · rename_i i S1 b1 tk1 ps1 h1
        have hh : S' = S1 ∧ tk = tk1 ∧ ps = ps1 ∧ e = (if i = id then .normal else .exit i) := by
          split at h
          · rename_i hi; rw [if_pos hi]; simp only [Option.some.injEq, Prod.mk.injEq] at h; obtain ⟨rfl, rfl, _, rfl, rfl⟩ := h; exact ⟨rfl, rfl, rfl, rfl⟩
          · rename_i hi; rw [if_neg hi]; simp only [Option.some.injEq, Prod.mk.injEq] at h; obtain ⟨rfl, rfl, _, rfl, rfl⟩ := h; exact ⟨rfl, rfl, rfl, rfl⟩
        obtain ⟨rfl, rfl, rfl, rfl⟩ := hh
        have a1 := ih _ _ _ _ _ _ _ _ _ _ h1 hs
        refine ⟨fun X hP hN => aw_block ((a1.1 X hP hN).mono ?_), a1.2⟩
        rintro e1 S2 ⟨rfl, rfl⟩
        simp only [blockA]
        by_cases hi : i = id <;> simp [hi]
      · rename_i hno
        have a1 := ih _ _ _ _ _ _ _ _ _ _ h hs
        refine ⟨fun X hP hN => aw_block ((a1.1 X hP hN).mono ?_), a1.2⟩
        rintro e1 S2 ⟨rfl, rfl⟩
        cases e1 with
        | exit i => exact absurd h (hno i S2 _ _ _)
        | _ => exact ⟨rfl, rfl⟩
    | loop x =>
      by_cases hno : pr.loops fno (firstReg x) = none
      · have a1 := hl _ _ _ _ _ _ _ _ _ _ hno h hs
        exact ⟨fun X hP hN => (a1.1 X hP hN).aw, a1.2⟩
      · simp only [execH] at h
        split at h
        · rename_i H hH
          split at h
          · rename_i hN0
            split at h
            · rename_i q hq
              simp only [Option.some.injEq, Prod.mk.injEq] at h
              obtain ⟨rfl, rfl, _, rfl, rfl⟩ := h
              have hc := hs.head
              simp only [Side.code.injEq] at hc
              have h1 := hs.tail.left
              have h2 := hs.tail.right
              refine ⟨fun X hP hN => ?_, fun k hk => ovl_ne _ _ hk⟩
              rw [hc]
              exact AW.weak (weak_to h1 hq h2) (H.proof S.heap X hP (by rw [hN, hN0]))
            · cases h
          · cases h
        · rename_i hH; exact absurd hH hno
    | skip => simp only [execH, Option.some.injEq, Prod.mk.injEq] at h; obtain ⟨rfl, rfl, _⟩ := h; exact ⟨fun X _ _ => aw_skip ⟨rfl, rfl⟩, fun _ _ => rfl⟩
    | exit i => simp only [execH, Option.some.injEq, Prod.mk.injEq] at h; obtain ⟨rfl, rfl, _⟩ := h; exact ⟨fun X _ _ => aw_exit ⟨rfl, rfl⟩, fun _ _ => rfl⟩
    | ret => simp only [execH, Option.some.injEq, Prod.mk.injEq] at h; obtain ⟨rfl, rfl, _⟩ := h; exact ⟨fun X _ _ => aw_ret ⟨rfl, rfl⟩, fun _ _ => rfl⟩
    | cond c x y =>
      simp only [execH] at h
      split at h
      · rename_i b hb
        cases b with
        | true =>
          have a1 := ih _ _ _ _ _ _ _ _ _ _ h hs
          exact ⟨fun X hP hN => aw_cond hb (fun _ => a1.1 X hP hN) (fun hx => by cases hx), a1.2⟩
        | false =>
          have a1 := ih _ _ _ _ _ _ _ _ _ _ h hs
          exact ⟨fun X hP hN => aw_cond hb (fun hx => by cases hx) (fun _ => a1.1 X hP hN), a1.2⟩
      · cases h
    | rangeFunc g qs as bd =>
      simp only [execH] at h
      split at h
      case h_2 => cases h
      rename_i gf caps hg
      split at h
      case h_2 => cases h
      rename_i r hr
      split at h
      case h_2 => cases h
      rename_i f2 N2 env2 ps2 as2 bd2 st hlp
      split at h
      case h_2 => cases h
      rename_i e' he'
      simp only [Option.some.injEq, Prod.mk.injEq] at h
      obtain ⟨rfl, rfl, _, rfl, rfl⟩ := h
      have hk := hs.head
      simp only [Side.nat.injEq] at hk
      have hcs := callHH_sound hm hn ih hr hs.tail
      refine ⟨fun X hP hN => ?_, fun k hk => ?_⟩
      · subst hP; subst hN
        exact aw_rangeFunc hg (envL_spec _ _) hcs.1 hk hlp (endE_spec he')
      · simp only [List.mem_cons, not_or] at hk
        exact (upd_ne _ _ hk.1).trans ((hcs.2 k hk.2).trans (upd_ne _ _ hk.1))
    | _ => simp [execH] at h

theorem execH_right (hm : OkP P) (hn : Named P) (n : Nat) : RightH P (execH P pr n) := (execH_right2 hm hn n).1
end

/-! ### What the kernel compares -/
def outL (r : Option (AExit × Pairs)) : AExit × List Side := match r with
  | some r => (r.1, r.2.map (·.1))
  | none => (.exit 1000001, [])
def outR (e : AExit) (r : Option (AExit × Pairs)) : AExit × List Side := match r with
  | some r => (e, r.2.map (·.2))
  | none => (.exit 1000002, [])
theorem alike_of_map : ∀ {ps : Pairs}, ps.map (·.1) = ps.map (·.2) → Alike ps
  | [], _ => fun p hp => by cases hp
  | p :: r, h => fun q hq => by
    simp only [List.map_cons, List.cons.injEq] at h
    rcases List.mem_cons.1 hq with rfl | hq
    · exact h.1
    · exact alike_of_map h.2 q hq
theorem out_spec {e : AExit} {r : Option (AExit × Pairs)} (h : outL r = outR e r) : ∃ ps, r = some (e, ps) ∧ Alike ps := by
  cases r with
  | none => simp [outL, outR] at h
  | some r =>
    simp only [outL, outR, Prod.mk.injEq] at h
    exact ⟨r.2, by rw [← h.1], alike_of_map h.2⟩

def pureRun (P : Program) (ex : ExecH) (g : Nat) (ds rs : List D) : Option (AExit × Pairs) := match callDH P ex g ds with
  | some r => some (.ret, (.ds r.1, .ds rs) :: r.2)
  | none => none
theorem pure_of_run {P : Program} (hm : OkP P) (hn : Named P) (pr : Par P) (n : Nat) {g : Nat} {ds rs : List D} (h : outL (pureRun P (execH P pr n) g ds rs) = outR .ret (pureRun P (execH P pr n) g ds rs)) : Pure P g ds rs := by
  obtain ⟨ps, h1, hs⟩ := out_spec h
  unfold pureRun at h1
  split at h1
  · rename_i r hr
    simp only [Option.some.injEq, Prod.mk.injEq, true_and] at h1
    subst h1
    have := hs.head
    simp only [Side.ds.injEq] at this
    subst this
    exact callDH_sound hm hn (execH_right hm hn n) hr hs.tail
  · cases h1

/-- The contract of a call that turns the heap, by a run. -/
def callRun (r : Option (List AV × Heap × Nat × List Nat × Pairs)) (keys0 : List Nat) (rs : List AV) (hp' : List (Nat × Ent)) : Option (AExit × Pairs) :=
  match r with
  | some (rs', h', _, tk, ps) => match heapPairs h' hp' with
    | some q => match (tk ++ keys0).all fun k => (hp'.map (·.1)).any (Nat.beq k) with
      | true => some (.ret, (.av (.tup rs'), .av (.tup rs)) :: (ps ++ q))
      | false => none
    | none => none
  | none => none
theorem ovl_final {h' rest : Heap} {hp hp' : List (Nat × Ent)} {tk : List Nat} (hk : ((tk ++ hp.map (·.1)).all fun k => (hp'.map (·.1)).any (Nat.beq k)) = true) (h2 : ∀ k, k ∉ tk → h' k = ovl hp rest k) : ovl hp' h' = ovl hp' rest := by
  funext k
  by_cases hkk : k ∈ hp'.map (·.1)
  · exact ovl_in _ _ _ hkk
  · rw [ovl_ne _ _ hkk, ovl_ne _ _ hkk]
    have hno : ∀ k', k' ∈ tk ++ hp.map (·.1) → k' ≠ k := by
      rintro k' hk' rfl
      have := List.all_eq_true.1 hk k' hk'
      obtain ⟨a, ha, hb⟩ := List.any_eq_true.1 this
      have := Nat.eq_of_beq_eq_true hb
      subst this
      exact hkk ha
    rw [h2 k (fun hx => hno k (by simp [hx]) rfl)]
    exact ovl_ne _ _ (fun hx => hno k (by simp only [List.mem_append]; exact .inr hx) rfl)
theorem hcall_of_run {P : Program} (hm : OkP P) (hn : Named P) (pr : Par P) (n base g : Nat) {args rs : List AV} {hp hp' : List (Nat × Ent)} {rest : Heap}
    (h : outL (callRun (callHH P (execH P pr n) base g args (ovl hp rest)) (hp.map (·.1)) rs hp') = outR .ret (callRun (callHH P (execH P pr n) base g args (ovl hp rest)) (hp.map (·.1)) rs hp')) : HCall P g args (ovl hp rest) rs (ovl hp' rest) := by
  obtain ⟨ps, h1, hs⟩ := out_spec h
  unfold callRun at h1
  split at h1
  case h_2 => cases h1
  rename_i rs' h' b' tk ps' hr
  split at h1
  case h_2 => cases h1
  rename_i q hq
  split at h1
  case h_2 => cases h1
  rename_i hk
  simp only [Option.some.injEq, Prod.mk.injEq, true_and] at h1
  subst h1
  have g1 := hs.head
  simp only [Side.av.injEq, AV.tup.injEq] at g1
  subst g1
  obtain ⟨c1, c2⟩ := callHH_sound hm hn (execH_right hm hn n) hr hs.tail.left
  refine ⟨c1.1, fun G B w0 I0 w cargs hr hsz hargs => (c1.2 G B w0 I0 w cargs hr hsz hargs).mono ?_⟩
  rintro e w' ⟨v, G', rfl, e1, e2, e3⟩
  refine ⟨v, G', rfl, e1, ?_, e3⟩
  rw [← ovl_final hk c2]
  exact e2.forget (ovl_sub h' hp' (heapPairs_spec hq hs.tail.right))

/-- A call that gives up, by a run. -/
def callPH (P : Program) (ex : ExecH) (base : Nat) (g : Nat) (args : List AV) (h : Heap) : Option (AV × Heap × Nat × List Nat × Pairs) :=
  match P.funcs[g]? with
  | none => none
  | some fn => match fn.body with
    | none => none
    | some b => if args.length ≤ fn.ntmps then match ex g base fn.ntmps b ⟨startE args, h⟩ with
        | some (.panic x, S', b', tk, ps) => some (x, S'.heap, b', tk, ps)
        | _ => none
      else none
theorem callPH_sound {P : Program} (hm : OkP P) (hn : Named P) {ex : ExecH} (hex : RightH P ex) {base g : Nat} {args : List AV} {x : AV} {h h' : Heap} {b2 : Nat} {tk : List Nat} {ps : Pairs} (hc : callPH P ex base g args h = some (x, h', b2, tk, ps)) (hs : Alike ps) : HPan P g args h x h' ∧ ∀ k, k ∉ tk → h' k = h k := by
  unfold callPH at hc
  split at hc
  · cases hc
  rename_i fn hf
  split at hc
  · cases hc
  rename_i b hb
  split at hc
  case isFalse => cases hc
  rename_i hl
  split at hc
  case h_2 => cases hc
  rename_i x' S' b' tk' ps' he
  simp only [Option.some.injEq, Prod.mk.injEq] at hc
  obtain ⟨rfl, rfl, rfl, rfl, rfl⟩ := hc
  have hr := hex _ _ _ _ _ _ _ _ _ _ he hs
  refine ⟨hpan_of_aw hm hf hb (hn.1 g fn hf) hl (fun X hP hN => (hr.1 X hP hN).mono ?_), hr.2⟩
  rintro e S'' ⟨rfl, rfl⟩
  exact ⟨rfl, rfl⟩
def panRun (r : Option (AV × Heap × Nat × List Nat × Pairs)) (keys0 : List Nat) (x : AV) (hp' : List (Nat × Ent)) : Option (AExit × Pairs) :=
  match r with
  | some (x', h', _, tk, ps) => match heapPairs h' hp' with
    | some q => match (tk ++ keys0).all fun k => (hp'.map (·.1)).any (Nat.beq k) with
      | true => some (.ret, (.av x', .av x) :: (ps ++ q))
      | false => none
    | none => none
  | none => none
theorem hpan_of_run {P : Program} (hm : OkP P) (hn : Named P) (pr : Par P) (n base g : Nat) {args : List AV} {x : AV} {hp hp' : List (Nat × Ent)} {rest : Heap}
    (h : outL (panRun (callPH P (execH P pr n) base g args (ovl hp rest)) (hp.map (·.1)) x hp') = outR .ret (panRun (callPH P (execH P pr n) base g args (ovl hp rest)) (hp.map (·.1)) x hp')) : HPan P g args (ovl hp rest) x (ovl hp' rest) := by
  obtain ⟨ps, h1, hs⟩ := out_spec h
  unfold panRun at h1
  split at h1
  case h_2 => cases h1
  rename_i x' h' b' tk ps' hr
  split at h1
  case h_2 => cases h1
  rename_i q hq
  split at h1
  case h_2 => cases h1
  rename_i hk
  simp only [Option.some.injEq, Prod.mk.injEq, true_and] at h1
  subst h1
  have g1 := hs.head
  simp only [Side.av.injEq] at g1
  subst g1
  obtain ⟨c1, c2⟩ := callPH_sound hm hn (execH_right hm hn n) hr hs.tail.left
  refine ⟨c1.1, fun G B w0 I0 w cargs hr hsz hargs => (c1.2 G B w0 I0 w cargs hr hsz hargs).mono ?_⟩
  rintro e w' ⟨v, G', rfl, e1, e2, e3⟩
  refine ⟨v, G', rfl, e1, ?_, e3⟩
  rw [← ovl_final hk c2]
  exact e2.forget (ovl_sub h' hp' (heapPairs_spec hq hs.tail.right))


def finS (r : Option (AExit × St × Nat × List Nat × Pairs)) (keys0 : List Nat) (l' : List (Nat × AV)) (hp' : List (Nat × Ent)) : Option (AExit × Pairs) :=
  match r with
  | some (e, S, _, tk, ps) => match heapPairs S.heap hp' with
    | some q => match (tk ++ keys0).all fun k => (hp'.map (·.1)).any (Nat.beq k) with
      | true => some (e, ps ++ (envPairs S.env l' ++ q))
      | false => none
    | none => none
  | none => none
/-- A piece of code, from one written state to another one. -/
theorem seg {P : Program} (hm : OkP P) (hn : Named P) (pr : Par P) (n fno base N : Nat) {c : Code} {l l' : List (Nat × AV)} {hp hp' : List (Nat × Ent)} {rest : Heap} {e : AExit}
    (h : outL (finS (execH P pr n fno base N c ⟨envOf l, ovl hp rest⟩) (hp.map (·.1)) l' hp') = outR e (finS (execH P pr n fno base N c ⟨envOf l, ovl hp rest⟩) (hp.map (·.1)) l' hp'))
    (X : Fix) (hP : X.P = P) (hN : X.N = N) : AW X c ⟨envOf l, ovl hp rest⟩ fun e' S' => e' = e ∧ Weak X S' ⟨envOf l', ovl hp' rest⟩ := by
  obtain ⟨ps, h1, hs⟩ := out_spec h
  unfold finS at h1
  split at h1
  · rename_i e1 S1 b1 tk ps1 hr
    split at h1
    · rename_i q hq
      split at h1
      · rename_i hk
        simp only [Option.some.injEq, Prod.mk.injEq] at h1
        obtain ⟨rfl, rfl⟩ := h1
        have a1 := execH_right hm hn n _ _ _ _ _ _ _ _ _ _ hr hs.left
        refine (a1.1 X hP hN).mono ?_
        rintro e S' ⟨rfl, rfl⟩
        refine ⟨rfl, ?_⟩
        have hw := weak_to (X := X) hs.right.left hq hs.right.right
        have : ovl hp' S'.heap = ovl hp' rest := by
          funext k
          by_cases hkk : k ∈ hp'.map (·.1)
          · exact ovl_in _ _ _ hkk
          · rw [ovl_ne _ _ hkk, ovl_ne _ _ hkk]
            have hno : ∀ k', k' ∈ tk ++ hp.map (·.1) → k' ≠ k := by
              rintro k' hk' rfl
              have := List.all_eq_true.1 hk k' hk'
              obtain ⟨a, ha, hb⟩ := List.any_eq_true.1 this
              have := Nat.eq_of_beq_eq_true hb
              subst this
              exact hkk ha
            rw [a1.2 k (fun hx => hno k (by simp [hx]) rfl)]
            exact ovl_ne _ _ (fun hx => hno k (by simp only [List.mem_append]; exact .inr hx) rfl)
        rw [this] at hw
        exact hw
      · cases h1
    · cases h1
  · cases h1

/-- A loop over a family of written states. -/
theorem loop_of_segs {P : Program} {N : Nat} {c : Code} {ι : Type} (L : ι → List (Nat × AV)) (Hp : ι → Heap → List (Nat × Ent)) (J : ι → Prop) (μ : ι → Nat) (e : AExit) (l' : List (Nat × AV)) (hp' : Heap → List (Nat × Ent)) (x0 : ι) (j0 : J x0) (he : e ≠ .normal)
    (hI : ∀ rest x, J x → (∃ y, J y ∧ μ y < μ x ∧ ∀ X : Fix, X.P = P → X.N = N → AW X c ⟨envOf (L x), ovl (Hp x rest) rest⟩ fun e' S' => e' = .normal ∧ Weak X S' ⟨envOf (L y), ovl (Hp y rest) rest⟩) ∨
      (∀ X : Fix, X.P = P → X.N = N → AW X c ⟨envOf (L x), ovl (Hp x rest) rest⟩ fun e' S' => e' = e ∧ Weak X S' ⟨envOf l', ovl (hp' rest) rest⟩))
    (rest : Heap) (X : Fix) (hP : X.P = P) (hN : X.N = N) : AW X (.loop c) ⟨envOf (L x0), ovl (Hp x0 rest) rest⟩ fun e' S' => e' = e ∧ S' = ⟨envOf l', ovl (hp' rest) rest⟩ := by
  refine aw_post ?_
  refine aw_loopF (fun x => ⟨envOf (L x), ovl (Hp x rest) rest⟩) J μ x0 (Weak.refl _) j0 (fun x hx => ?_)
  rcases hI rest x hx with ⟨y, hy, hlt, haw⟩ | haw
  · refine (haw X hP hN).mono ?_
    rintro e' S' ⟨rfl, hw⟩
    exact ⟨y, hw, hy, hlt⟩
  · refine (haw X hP hN).mono ?_
    rintro e' S' ⟨rfl, hw⟩
    have : ∃ S'', Weak X S' S'' ∧ e' = e' ∧ S'' = ⟨envOf l', ovl (hp' rest) rest⟩ := ⟨_, hw, rfl, rfl⟩
    cases e' with
    | normal => exact absurd rfl he
    | _ => exact this
end Go.Avm
