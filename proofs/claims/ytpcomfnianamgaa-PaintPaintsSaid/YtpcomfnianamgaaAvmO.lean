/-
  The abstract machine, part O: whole runs on abstract states, calls and all; what such a run says of the program.
-/
import Derived.Test.YtpcomfnianamgaaAvmN
set_option linter.unusedSectionVars false
namespace Go.Avm
open Go.RowKit
variable [GlobTab]

def startE (args : List AV) : Nat → AV := fun t => (args[t]?).getD .junk
def resA (P : Program) (S : St) : List ResultVar → Option (List AV)
  | [] => some []
  | .tmp t :: r => (resA P S r).map (S.env t :: ·)
  | .cell t ty :: r => match opLoad P ty (S.env t) S.heap, resA P S r with
    | some o, some l => some (o.val :: l)
    | _, _ => none

/-! ### sync.Once: a call of Do is not entered: what it does is told by a contract of its own -/
/-- A Once: its object, where it begins there, what else lies there, is it done, is its lock free? -/
def onceAt (h : Heap) (a : AV) : Option (Nat × Nat × Nat × List AV × Int × Int) :=
  match a with
  | .ptr k v i off _ => if off = 0 then match (h k).ob with
      | some (.arr sz es) => if sz = 1 ∧ (h k).ver = v then match es[i]?, es[i + 1]? with
          | some (.d (.int .u32 n)), some (.d (.int .i32 m)) => some (k, v, i, es, n, m)
          | _, _ => none
        else none
      | _ => none
    else none
  | _ => none
def onceLock (h : Heap) (k v i : Nat) (es : List AV) : Heap := upd h k ⟨v, some (.arr 1 (es.set (i + 1) (.d (.int .i32 1))))⟩
def onceDone (h : Heap) (k v i : Nat) (es : List AV) : Heap := upd h k ⟨v, some (.arr 1 ((es.set i (.d (.int .u32 1))).set (i + 1) (.d (.int .i32 0))))⟩
/-- What is asked of Do. -/
def OnceOk (P : Program) (g : Nat) : Prop := ∀ (h : Heap) (a : AV) (f : Nat) (caps : List AV) (k v i : Nat) (es : List AV) (n m : Int), onceAt h a = some (k, v, i, es, n, m) →
  (n ≠ 0 → HCall P g [a, .fn f caps] h [] h) ∧
  (n = 0 → m = 0 → ∀ (rs : List AV) (h2 : Heap) (es2 : List AV), HCall P f caps (onceLock h k v i es) rs h2 → onceAt h2 a = some (k, v, i, es2, 0, 1) → HCall P g [a, .fn f caps] h [] (onceDone h2 k v i es2))
def OnceAll (P : Program) : Prop := ∀ g, GlobTab.once = some g → OnceOk P g

/-- A runner: of a function's number, the first key that is free, the frame's size: the way out, the state, the first key that is free then, the keys whose entries may have turned. -/
abbrev Exec := Nat → Nat → Nat → Code → St → Option (Exit × St × Nat × List Nat)

def callDE (P : Program) (ex : Exec) (g : Nat) (ds : List D) : Option (List D) :=
  match P.funcs[g]? with
  | none => none
  | some fn => match fn.body with
    | none => none
    | some b => if ds.length ≤ fn.ntmps then match ex g 0 fn.ntmps b (startSt ds) with
        | some (.normal, S', _, _) => resDs P S' fn.results.toList
        | some (.ret, S', _, _) => resDs P S' fn.results.toList
        | _ => none
      else none
def callHE (P : Program) (ex : Exec) (base : Nat) (g : Nat) (args : List AV) (h : Heap) : Option (List AV × Heap × Nat × List Nat) :=
  match P.funcs[g]? with
  | none => none
  | some fn => match fn.body with
    | none => none
    | some b => if args.length ≤ fn.ntmps then match ex g base fn.ntmps b ⟨startE args, h⟩ with
        | some (.normal, S', b', tk) => (resA P S' fn.results.toList).map fun rs => (rs, S'.heap, b', tk)
        | some (.ret, S', b', tk) => (resA P S' fn.results.toList).map fun rs => (rs, S'.heap, b', tk)
        | _ => none
      else none

def callOnceE (P : Program) (ex : Exec) (base : Nat) (args : List AV) (h : Heap) : Option (Heap × Nat × List Nat) :=
  match args with
  | [a, .fn f caps] => match onceAt h a with
    | some (k, v, i, es, n, m) =>
      if n = 0 then
        if m = 0 then match callHE P ex base f caps (onceLock h k v i es) with
          | some r => match onceAt r.2.1 a with
            | some (k2, v2, i2, es2, n2, m2) => if k2 = k ∧ v2 = v ∧ i2 = i ∧ n2 = 0 ∧ m2 = 1 then some (onceDone r.2.1 k v i es2, r.2.2.1, k :: r.2.2.2) else none
            | none => none
          | none => none
        else none
      else some (h, base, [])
    | none => none
  | _ => none
/-- The Go function that an operation calls: not one that the model answers itself. -/
def callIn (o : Oper) (env : Nat → AV) : Option (Nat × List AV) := match callOf o env with
  | some (g, args) => match GlobTab.ext g with
    | some _ => none
    | none => some (g, args)
  | none => none
theorem callIn_some {o : Oper} {env : Nat → AV} {g : Nat} {args : List AV} (h : callIn o env = some (g, args)) : callOf o env = some (g, args) ∧ GlobTab.ext g = none := by
  unfold callIn at h
  split at h
  · rename_i g' a' hc
    split at h
    · cases h
    · rename_i he
      simp only [Option.some.injEq, Prod.mk.injEq] at h
      obtain ⟨rfl, rfl⟩ := h
      exact ⟨hc, he⟩
  · cases h
/-- A frame's slots, written out. -/
def envL (N : Nat) (env : Nat → AV) : List (Nat × AV) := (List.range N).filterMap fun t => match env t with
  | .junk => none
  | x => some (t, x)
theorem envL_spec (N : Nat) (env : Nat → AV) : ∀ p ∈ envL N env, p.2 = env p.1 := fun p hp => by
  obtain ⟨t, _, h⟩ := List.mem_filterMap.1 hp
  split at h
  · cases h
  · cases h; rfl
/-- A round that an iterator asks for. -/
def yieldE (ex : Exec) (base k v : Nat) (args : List AV) (h : Heap) : Option (Bool × Heap × Nat × List Nat) :=
  match (h k).ob with
  | some (.lp fno N env ps as bd .ready) => if (h k).ver = v then match putPs N (envOf env) ps.toList args with
      | some env1 => match ex fno base N as ⟨env1, h⟩ with
        | some (.normal, S1, b1, tk1) => match (S1.heap k).ob with
          | some (.lp f1 N1 e1 ps1 as1 bd1 .ready) => if (S1.heap k).ver = v then match ex fno b1 N bd ⟨S1.env, upd S1.heap k ⟨v, some (.lp f1 N1 e1 ps1 as1 bd1 .busy)⟩⟩ with
              | some r => match (r.2.1.heap k).ob, roundOut r.1 with
                | some (.lp f2 N2 e2 ps2 as2 bd2 _), some q => if (r.2.1.heap k).ver = v then some (q.1, upd r.2.1.heap k ⟨v, some (.lp f2 N2 e2 ps2 as2 bd2 q.2)⟩, r.2.2.1, k :: (tk1 ++ r.2.2.2)) else none
                | _, _ => none
              | none => none
            else none
          | _ => none
        | _ => none
      | none => none
    else none
  | _ => none
theorem yldOf_callOf {o : Oper} {env : Nat → AV} {x : Nat × Nat × List AV} (h : yldOf o env = some x) : callOf o env = none := by
  unfold yldOf at h
  unfold callOf
  cases hop : o.op with
  | call c =>
    rw [hop] at h
    simp only at h ⊢
    cases hc : c.callee with
    | value f =>
      rw [hc] at h
      simp only at h ⊢
      cases hf : opd env f with
      | yld k v => rfl
      | _ => simp [hf] at h
    | _ => rfl
  | _ => rfl
/-- How a loop over a function is left. -/
def endE : LSt → Option Exit
  | .ready => some .normal
  | .done .ret => some .ret
  | .done (.exit id) => some (.exit id)
  | _ => none
theorem endE_spec {st : LSt} {e : Exit} {S : St} (h : endE st = some e) : endQ (fun e' S' => e' = e ∧ S' = S) S st := by
  unfold endE at h
  split at h <;> first | (cases h; exact ⟨rfl, rfl⟩) | (cases h; done)
def isOnce (g : Nat) : Bool := match GlobTab.once with
  | some g' => Nat.beq g' g
  | none => false
def stepE (P : Program) (obm : Nat → Nat → Bool) (hp : Nat → Bool) (ex : Exec) (fno base N : Nat) (ops : Array Oper) (i : Nat) (o : Oper) (S : St) : Option (St × Foot × Nat) :=
  match wantedA ops o S.env with
  | some true => match callIn o S.env with
    | some (g, args) => if isOnce g = true then match callOnceE P ex base args S.heap with
        | some r => (putA N S.env o.dst (.tup [])).map fun env => (⟨env, r.1⟩, ⟨i, [], r.2.2, true⟩, r.2.1)
        | none => none
      else match (if hp g = true then none else toDs args) with
      | some ds => match callDE P ex g ds with
        | some rs => (putA N S.env o.dst (retAV rs)).map fun env => (⟨env, S.heap⟩, ⟨i, [], [], false⟩, base)
        | none => none
      | none => match callHE P ex base g args S.heap with
        | some r => (putA N S.env o.dst (retV r.1)).map fun env => (⟨env, r.2.1⟩, ⟨i, [], r.2.2.2, true⟩, r.2.2.1)
        | none => none
    | none => match yldOf o S.env with
      | some y => match yieldE ex base y.1 y.2.1 y.2.2 S.heap with
        | some r => (putA N S.env o.dst (.d (.bool r.1))).map fun env => (⟨env, r.2.1⟩, ⟨i, [], r.2.2.2, true⟩, r.2.2.1)
        | none => none
      | none => match core P { obm := fun _ => obm fno (o.dst.getD 0), base := fun _ => base } i o (opd S.env) S.heap with
      | some out => match out.ob with
        | [] => (putA N S.env o.dst out.val).map fun env => (⟨env, updAll S.heap out.wr⟩, ⟨i, out.rd, out.wr.map (·.1), false⟩, base + N)
        | _ => none
      | none => none
  | some false => (putA N S.env o.dst (.tup [])).map fun env => (⟨env, S.heap⟩, ⟨i, [], [], false⟩, base)
  | none => none

def opsE (P : Program) (obm : Nat → Nat → Bool) (hp : Nat → Bool) (ex : Exec) (fno N : Nat) (ops : Array Oper) : List Oper → Nat → Nat → St → Option (St × List Foot × Nat × List Nat)
  | [], _, base, S => some (S, [], base, [])
  | o :: r, i, base, S => match stepE P obm hp ex fno base N ops i o S with
    | none => none
    | some a => match opsE P obm hp ex fno N ops r (i + 1) a.2.2 a.1 with
      | none => none
      | some b => some (b.1, a.2.1 :: b.2.1, b.2.2.1, a.2.1.wr ++ b.2.2.2)

def execE (P : Program) (obm : Nat → Nat → Bool) (hp : Nat → Bool) : Nat → Exec
  | 0, _, _, _, _, _ => none
  | n + 1, fno, base, N, c, S =>
    match c with
    | .region _ ops draw => match opsE P obm hp (execE P obm hp n) fno N ops ops.toList 0 base S with
      | some r => match draw with
        | false => some (.normal, r.1, r.2.2.1, r.2.2.2)
        | true => match lexOk ops r.2.1 with
          | true => some (.normal, r.1, r.2.2.1, r.2.2.2)
          | false => none
      | none => none
    | .seq x y => match execE P obm hp n fno base N x S with
      | some (.normal, S', b', tk) => match execE P obm hp n fno b' N y S' with
        | some (e, S2, b2, tk2) => some (e, S2, b2, tk ++ tk2)
        | none => none
      | r => r
    | .block id x => match execE P obm hp n fno base N x S with
      | some (.exit i, S', b', tk) => if i = id then some (.normal, S', b', tk) else some (.exit i, S', b', tk)
      | r => r
    | .loop x => match execE P obm hp n fno base N x S with
      | some (.normal, S', b', tk) => match execE P obm hp n fno b' N (.loop x) S' with
        | some (e, S2, b2, tk2) => some (e, S2, b2, tk ++ tk2)
        | none => none
      | r => r
    | .skip => some (.normal, S, base, [])
    | .exit i => some (.exit i, S, base, [])
    | .ret => some (.ret, S, base, [])
    | .cond c x y => match opd S.env c with
      | .d (.bool b) => match b with
        | true => execE P obm hp n fno base N x S
        | false => execE P obm hp n fno base N y S
      | _ => none
    | .rangeFunc g ps as bd => match opd S.env g with
      | .fn gf caps => match callHE P (execE P obm hp n) (base + N) gf (.yld base ((S.heap base).ver + 1) :: caps) (upd S.heap base ⟨(S.heap base).ver + 1, some (.lp fno N (envL N S.env) ps as bd .ready)⟩) with
        | some r => match (r.2.1 base).ob with
          | some (.lp _ _ _ _ _ _ st) => if (r.2.1 base).ver = (S.heap base).ver + 1 then match endE st with
              | some e => some (e, ⟨S.env, upd r.2.1 base ⟨(r.2.1 base).ver, none⟩⟩, r.2.2.1, base :: r.2.2.2)
              | none => none
            else none
          | _ => none
        | none => none
      | _ => none
    | _ => none

/-! ### Its soundness -/
/-- A loop's body, entered: it goes on to a way out. -/
def loopGoes (r : Option Nat) (P : Program) (c : Code) (Q : Exit → Act → World → Prop) (a : Act) (w : World) : Prop :=
  ∀ (b : Frame) k cs, b.roundOf = r → ∃ e a' w', Q e a' w' ∧ ArrivesIn (Machine.fenced P (FF r)) P (lone (b.atR a (.code c :: .inLoop c :: k)) cs w) b k cs e a' w'
theorem roomFF (r : Option Nat) (n : Nat) : (FF r).room n := fun d h => by cases h
theorem loopGoes_wp {r : Option Nat} {P : Program} {c : Code} {Q : Exit → Act → World → Prop} {a : Act} {w : World} (h : loopGoes r P c Q a w) : (Code.loop c).wpIn (FF r) 0 P Q a w := by
  intro b k cs hro hb hr
  obtain ⟨e, a', w', hq, harr⟩ := h b k cs hro
  exact ⟨e, a', w', hq, .of_steps (.one (fenced_calm hb hr rfl) stepR_loop) harr⟩
theorem loopGoes_round {r : Option Nat} {P : Program} {c : Code} {Q : Exit → Act → World → Prop} {a : Act} {w : World} (h : c.wpIn (FF r) 0 P (Exit.then (loopGoes r P c Q) Q) a w) : loopGoes r P c Q a w := by
  intro b k cs hro
  have hr : (FF r).room (cs.length + 1 + 0) := roomFF r _
  obtain ⟨e, a₁, w₁, hq, harr⟩ := h b (.inLoop c :: k) cs hro trivial hr
  cases e with
  | normal =>
    obtain ⟨e₂, a₂, w₂, hq₂, harr₂⟩ := hq b k cs hro
    exact ⟨e₂, a₂, w₂, hq₂, .of_steps (StepsIn.trans harr (.one (fenced_calm trivial hr rfl) stepR_inLoop)) harr₂⟩
  | exit id => exact ⟨_, a₁, w₁, hq, .pass (x := .inLoop c) rfl (fun _ _ => .inl (by simp)) harr⟩
  | goto l => exact ⟨_, a₁, w₁, hq, .pass (x := .inLoop c) rfl (fun _ _ => .inl (by simp)) harr⟩
  | ret => exact ⟨_, a₁, w₁, hq, .pass (x := .inLoop c) rfl (fun _ _ => .inl (by simp)) harr⟩
  | panic ch => exact ⟨_, a₁, w₁, hq, .pass (x := .inLoop c) rfl (fun _ _ => .inl (by simp)) harr⟩
  | outgrown => exact ⟨_, a₁, w₁, hq, .pass (x := .inLoop c) rfl (fun _ _ => .inl (by simp)) harr⟩
theorem loopGoes_mono {r : Option Nat} {P : Program} {c : Code} {Q Q' : Exit → Act → World → Prop} {a : Act} {w : World} (h : loopGoes r P c Q a w) (hq : ∀ e a w, Q e a w → Q' e a w) : loopGoes r P c Q' a w := fun b k cs hro => by
  obtain ⟨e, a', w', h1, h2⟩ := h b k cs hro
  exact ⟨e, a', w', hq _ _ _ h1, h2⟩
/-- A loop whose body is entered on an abstract state. -/
def LW (X : Fix) (c : Code) (S : St) (Q : Exit → St → Prop) : Prop :=
  ∀ G a w, Holds X G S a w → loopGoes X.rnd X.P c (fun e a' w' => ∃ S' G', Q e S' ∧ Ext G w G' w' ∧ Holds X G' S' a' w') a w
theorem LW.aw {X : Fix} {c : Code} {S : St} {Q : Exit → St → Prop} (h : LW X c S Q) : AW X (.loop c) S Q := fun G a w hh => loopGoes_wp (h G a w hh)
theorem lw_round {X : Fix} {c : Code} {S : St} {Q : Exit → St → Prop} (h : AW X c S (thenA (fun S' => LW X c S' Q) Q)) : LW X c S Q := fun G a w hh => by
  refine loopGoes_round (wpIn_mono (h G a w hh) ?_)
  rintro e a' w' ⟨S', G', q, e1, r⟩
  cases e with
  | normal => exact loopGoes_mono (q G' a' w' r) fun e a2 w2 ⟨S2, G2, q2, e2, r2⟩ => ⟨S2, G2, q2, e1.trans e2, r2⟩
  | _ => exact ⟨S', G', q, e1, r⟩

theorem core_cfg {P : Program} {cfg cfg' : Cfg} {i : Nat} {o : Oper} {ρ : Operand → AV} {h : Heap} (h1 : cfg'.ret i = cfg.ret i) (h2 : cfg'.obm i = cfg.obm i) (h3 : cfg'.base i = cfg.base i) : core P cfg' i o ρ h = core P cfg i o ρ h := by
  unfold core coreCall opCall
  simp only [h1, h2, h3]

/-- What a call is answered with. -/
structure CallRes where
  ret : List D
  hc : Option HCK
  base : Nat

section
variable {P : Program} {obm : Nat → Nat → Bool} {hp : Nat → Bool}

/-- Is a runner right? -/
def Right (P : Program) (ex : Exec) : Prop := ∀ fno base N c S e S' b' tk, ex fno base N c S = some (e, S', b', tk) → (∀ X : Fix, X.P = P → X.N = N → AW X c S fun e' S'' => e' = e ∧ S'' = S') ∧ ∀ k, k ∉ tk → S'.heap k = S.heap k

def Named (P : Program) : Prop := (∀ (g : Nat) (fn : Func), P.funcs[g]? = some fn → (fn.name == "runtime.NumGoroutine") = false) ∧ OnceAll P

theorem callDE_sound (hm : OkP P) (hn : Named P) {ex : Exec} (hex : Right P ex) {g : Nat} {ds rs : List D} (h : callDE P ex g ds = some rs) : Pure P g ds rs := by
  unfold callDE at h
  split at h
  · cases h
  · rename_i fn hf
    split at h
    · cases h
    · rename_i b hb
      split at h
      · rename_i hl
        refine pure_of_aw hm hf hb (hn.1 g fn hf) hl (fun X hP hN => ?_)
        split at h
        · rename_i S' b' tk he
          refine ((hex _ _ _ _ _ _ _ _ _ he).1 X hP hN).mono ?_
          rintro e S'' ⟨rfl, rfl⟩
          exact ⟨.inl rfl, h⟩
        · rename_i S' b' tk he
          refine ((hex _ _ _ _ _ _ _ _ _ he).1 X hP hN).mono ?_
          rintro e S'' ⟨rfl, rfl⟩
          exact ⟨.inr rfl, h⟩
        · cases h
      · cases h

theorem resA_sound {DL : List Deferred} {G : Gh} {B : Nat} {w0 w : World} {I0 : Nat → Nat → Prop} {N : Nat} {S : St} {a : Act} (hr : HR G B w0 I0 S.heap w) (hf : FR G w N DL S.env a) {fn : Func} {rs : List AV} (hx : resA P S fn.results.toList = some rs) :
    ∃ v, (results fn a.tmps).run P w = .ok v w ∧ Rep G w (retV rs) v := by
  have key : ∀ (l : List ResultVar) (rs : List AV), resA P S l = some rs → ∃ vs : List Value, vs.length = rs.length ∧
      (l.mapM (resV a.tmps)).run P w = .ok vs w ∧
      ∀ (i : Nat) (x : AV) (u : Value), rs[i]? = some x → vs[i]? = some u → Rep G w x u := by
    intro l
    induction l with
    | nil => intro rs h; simp [resA] at h; subst h; exact ⟨[], rfl, rfl, by simp⟩
    | cons r l ih =>
      intro rs h
      have one : ∃ x xs, rs = x :: xs ∧ resA P S l = some xs ∧ ∃ v, (resV a.tmps r).run P w = .ok v w ∧ Rep G w x v := by
        cases r with
        | tmp t =>
          simp only [resA, Option.map_eq_some_iff] at h
          obtain ⟨xs, h1, rfl⟩ := h
          exact ⟨_, xs, rfl, h1, _, rfl, hf.opd hr.maps.glob (.tmp t)⟩
        | cell t ty =>
          simp only [resA] at h
          split at h
          · rename_i out xs ho hxs
            simp only [Option.some.injEq] at h
            subst h
            obtain ⟨v, hrun, _, _, hrep⟩ := opLoad_sound hr (hf.opd hr.maps.glob (.tmp t)) ho
            refine ⟨_, xs, rfl, hxs, v, ?_, hrep⟩
            simp only [Instr.loadAt, Instr.sureAddr, Act.eval] at hrun
            simp only [resV]
            generalize a.tmps.getD t undef = u at hrun
            cases u with
            | pointer ao =>
              cases ao with
              | some ad => simpa [asAddr] using hrun
              | none => simp at hrun
            | _ => simp at hrun
          · cases h
      obtain ⟨x, xs, rfl, hxs, v, g1, g2⟩ := one
      obtain ⟨vs, h1, h2, h3⟩ := ih xs hxs
      refine ⟨v :: vs, by simp [h1], ?_, fun i y u hy hu => ?_⟩
      · rw [List.mapM_cons, Sem.run_bind]
        rw [g1, Result.andThen_ok, Sem.run_bind, h2, Result.andThen_ok]; rfl
      · cases i with
        | zero => simp at hy hu; subst hy; subst hu; exact g2
        | succ i => exact h3 i y u (by simpa using hy) (by simpa using hu)
  obtain ⟨vs, h1, h2, h3⟩ := key _ _ hx
  have hm : (fn.results.mapM (resV a.tmps)).run P w = .ok vs.toArray w := by
    rw [Array.mapM_eq_mapM_toList, Sem.run_map, h2]; rfl
  refine ⟨if h : vs.toArray.size = 1 then vs.toArray[0] else .tuple vs.toArray, ?_, ?_⟩
  · have hv : results fn a.tmps = (do let vs ← fn.results.mapM (resV a.tmps); pure (if h : vs.size = 1 then vs[0] else .tuple vs)) := by
      unfold results
      congr 1
    rw [hv, Sem.run_bind, hm]; rfl
  · by_cases hone : rs.length = 1
    · obtain ⟨x, hx1⟩ := List.length_eq_one_iff.1 hone
      have hvs : vs.length = 1 := by omega
      obtain ⟨v, hv⟩ := List.length_eq_one_iff.1 hvs
      subst hx1; subst hv
      exact h3 0 x v rfl rfl
    · have hne : ¬ (vs.toArray.size = 1) := by simp; omega
      rw [dif_neg hne]
      have : retV rs = .tup rs := by
        unfold retV
        split
        · simp at hone
        · rfl
      rw [this]
      exact .tup _ _ (by simp [h1]) (fun i x u a b => h3 i x u a (by simpa using b))

theorem Ext.ends {G G' : Gh} {w w' w2 : World} (e : Ext G w G' w') (hs : Shut w.heap.size w' w2) : Ext G w G' w2 :=
  ⟨e.imm, e.loc, fun b o x => (hs.cell _).trans (e.cell b o x), by rw [hs.size]; exact e.size, e.lim, e.nloc, e.mloc, fun b o hb x => by
    rw [hs.low b (Array.getElem?_eq_some_iff.1 x).1]; exact e.kept b o hb x⟩
theorem hcall_of_aw (hm : OkP P) {f : Nat} {fn : Func} {c : Code} {args rs : List AV} {h h' : Heap} (hf : P.funcs[f]? = some fn) (hb : fn.body = some c) (hn : (fn.name == "runtime.NumGoroutine") = false) (hl : args.length ≤ fn.ntmps)
    (haw : ∀ X : Fix, X.P = P → X.N = fn.ntmps → AW X c ⟨startE args, h⟩ fun e S' => (e = .normal ∨ e = .ret) ∧ resA P S' fn.results.toList = some rs ∧ S'.heap = h') : HCall P f args h rs h' := by
  refine ⟨⟨fn, hf, by rw [hb]; rfl, hn⟩, fun G B w0 I0 w cargs hr hs hargs => callsIn_wide.1 (callsIn_of_wp_marks (F := FF none) (n := 0) hf hb trivial ?_)⟩
  let X : Fix := ⟨P, B, w0, I0, fn.ntmps, hm, none, w.heap.size⟩
  have hstart : Holds X G ⟨startE args, h⟩ { tmps := cargs ++ Array.replicate (fn.ntmps - cargs.size) undef, defers := [] } w := by
    refine ⟨hr, [], ⟨?_, rfl, ?_, ?_⟩, List.nodup_nil, fun _ h => (by cases h), fun _ h => (by cases h), fun _ h => (by cases h), Nat.le_refl _⟩
    · show (cargs ++ Array.replicate (fn.ntmps - cargs.size) undef).size = fn.ntmps
      simp [hs]; omega
    · intro t _
      show Rep _ _ ((args[t]?).getD .junk) ((cargs ++ Array.replicate (fn.ntmps - cargs.size) undef).getD t undef)
      cases ha : args[t]? with
      | none => exact .junk _
      | some x =>
        have hlt : t < cargs.size := by rw [hs]; exact (List.getElem?_eq_some_iff.1 ha).1
        have hu : cargs[t]? = some cargs[t] := Array.getElem?_eq_getElem hlt
        rw [Array.getD_eq_getD_getElem?, Array.getElem?_append_left hlt, hu]
        exact hargs t x _ ha hu
    · intro t ht
      show (args[t]?).getD .junk = .junk
      rw [List.getElem?_eq_none (by have : X.N = fn.ntmps := rfl; omega)]
      rfl
  refine wpIn_mono (haw X rfl rfl _ _ _ hstart) ?_
  rintro e a' w' ⟨S', G', ⟨he, hres, rfl⟩, hex, hr', bs, hfr, hside⟩
  have fin : ∀ R : Ending → World → Prop, (∀ v w2, Ext G w G' w2 → HR G' B w0 I0 S'.heap w2 → Rep G' w2 (retV rs) v → R (.returned v) w2) → LeavesInM (FF none) 0 P fn a'.tmps R a'.defers .returning w' := fun R hR => by
    rw [hfr.nod]
    refine leaves_marks (B := w.heap.size) bs w' hside.nd hside.low hside.live (fun w2 hsh _ => ?_)
    have hsB : Shut B w' w2 := ⟨hsh.os, hsh.tape, hsh.output, hsh.size, hsh.oth, fun b hb => hsh.low b (Nat.lt_of_lt_of_le hb hr.bsz), hsh.cell⟩
    have hr2 := hr'.shut hsB
    obtain ⟨v, hv, hret⟩ := resA_sound hr2 (hfr.shut hsB) hres
    exact ⟨v, hv, hR v w2 (hex.ends hsh) hr2 hret⟩
  rcases he with rfl | rfl
  · exact fin _ fun v w2 c1 c2 c3 => ⟨v, G', rfl, c1, c2, c3⟩
  · exact fin _ fun v w2 c1 c2 c3 => ⟨v, G', rfl, c1, c2, c3⟩

theorem callHE_sound (hm : OkP P) (hn : Named P) {ex : Exec} (hex : Right P ex) {base g : Nat} {args rs : List AV} {h h' : Heap} {b2 : Nat} {tk : List Nat} (hc : callHE P ex base g args h = some (rs, h', b2, tk)) : HCall P g args h rs h' ∧ ∀ k, k ∉ tk → h' k = h k := by
  unfold callHE at hc
  split at hc
  · cases hc
  · rename_i fn hf
    split at hc
    · cases hc
    · rename_i b hb
      split at hc
      · rename_i hl
        split at hc
        · rename_i S' b' tk' he
          simp only [Option.map_eq_some_iff, Prod.mk.injEq] at hc
          obtain ⟨rs', h1, rfl, rfl, rfl, rfl⟩ := hc
          refine ⟨hcall_of_aw hm hf hb (hn.1 g fn hf) hl (fun X hP hN => ?_), (hex _ _ _ _ _ _ _ _ _ he).2⟩
          refine ((hex _ _ _ _ _ _ _ _ _ he).1 X hP hN).mono ?_
          rintro e S'' ⟨rfl, rfl⟩
          exact ⟨.inl rfl, h1, rfl⟩
        · rename_i S' b' tk' he
          simp only [Option.map_eq_some_iff, Prod.mk.injEq] at hc
          obtain ⟨rs', h1, rfl, rfl, rfl, rfl⟩ := hc
          refine ⟨hcall_of_aw hm hf hb (hn.1 g fn hf) hl (fun X hP hN => ?_), (hex _ _ _ _ _ _ _ _ _ he).2⟩
          refine ((hex _ _ _ _ _ _ _ _ _ he).1 X hP hN).mono ?_
          rintro e S'' ⟨rfl, rfl⟩
          exact ⟨.inr rfl, h1, rfl⟩
        · cases hc
      · cases hc

theorem isOnce_spec {g : Nat} (h : isOnce g = true) : GlobTab.once = some g := by
  unfold isOnce at h
  split at h
  · rename_i g' hg; rw [hg, Nat.eq_of_beq_eq_true h]
  · cases h
theorem callOnceE_sound (hm : OkP P) (hn : Named P) {ex : Exec} (hex : Right P ex) {base g : Nat} {args : List AV} {h h' : Heap} {b2 : Nat} {tk : List Nat} (hg : isOnce g = true) (hc : callOnceE P ex base args h = some (h', b2, tk)) : HCall P g args h [] h' ∧ ∀ k, k ∉ tk → h' k = h k := by
  have hok := hn.2 g (isOnce_spec hg)
  unfold callOnceE at hc
  split at hc
  case h_2 => cases hc
  rename_i a f caps
  split at hc
  case h_2 => cases hc
  rename_i k v i es n m ha
  obtain ⟨o1, o2⟩ := hok h a f caps k v i es n m ha
  split at hc
  · rename_i hn0
    split at hc
    · rename_i hm0
      split at hc
      · rename_i r hr
        split at hc
        · rename_i k2 v2 i2 es2 n2 m2 ha2
          split at hc
          · rename_i hcc
            obtain ⟨rfl, rfl, rfl, rfl, rfl⟩ := hcc
            simp only [Option.some.injEq, Prod.mk.injEq] at hc
            obtain ⟨rfl, rfl, rfl⟩ := hc
            obtain ⟨r1, r2, r3, r4⟩ := r
            obtain ⟨c1, c2⟩ := callHE_sound hm hn hex hr
            refine ⟨o2 hn0 hm0 r1 r2 es2 c1 ha2, fun k' hk' => ?_⟩
            simp only [List.mem_cons, not_or] at hk'
            exact (upd_ne _ _ hk'.1).trans ((c2 k' hk'.2).trans (upd_ne _ _ hk'.1))
          · cases hc
        · cases hc
      · cases hc
    · cases hc
  · rename_i hn0
    simp only [Option.some.injEq, Prod.mk.injEq] at hc
    obtain ⟨rfl, rfl, rfl⟩ := hc
    exact ⟨o1 hn0, fun _ _ => rfl⟩

theorem yieldE_sound (hm : OkP P) {ex : Exec} (hex : Right P ex) {base k v : Nat} {args : List AV} {h : Heap} {r : Bool × Heap × Nat × List Nat} (hy : yieldE ex base k v args h = some r) : YCall P k v args h [.d (.bool r.1)] r.2.1 ∧ ∀ k', k' ∉ r.2.2.2 → r.2.1 k' = h k' := by
  unfold yieldE at hy
  split at hy
  case h_2 => cases hy
  rename_i fno N env ps as bd hob
  split at hy
  case isFalse => cases hy
  rename_i hv
  split at hy
  case h_2 => cases hy
  rename_i env1 henv
  split at hy
  case h_2 => cases hy
  rename_i S1 b1 tk1 h1
  split at hy
  case h_2 => cases hy
  rename_i f1 N1 e1 ps1 as1 bd1 hob1
  split at hy
  case isFalse => cases hy
  rename_i hv1
  split at hy
  case h_2 => cases hy
  rename_i q hq
  obtain ⟨e, S2, b2, tk2⟩ := q
  split at hy
  case h_2 => cases hy
  rename_i f2 N2 e2 ps2 as2 bd2 st2 z hob2 hz
  split at hy
  case isFalse => cases hy
  rename_i hv2
  simp only [Option.some.injEq] at hy
  subst hy
  have a1 := hex _ _ _ _ _ _ _ _ _ h1
  have a2 := hex _ _ _ _ _ _ _ _ _ hq
  refine ⟨ycall_of_aw hm hv hob henv (fun X hP hN => a1.1 X hP hN) hv1 hob1 (fun X hP hN => a2.1 X hP hN) hv2 hob2 hz, fun k' hk' => ?_⟩
  simp only [List.mem_cons, List.mem_append, not_or] at hk'
  exact (upd_ne _ _ hk'.1).trans ((a2.2 k' hk'.2.2).trans ((upd_ne _ _ hk'.1).trans (a1.2 k' hk'.2.1)))

theorem stepE_step (hm : OkP P) (hn : Named P) {ex : Exec} (hex : Right P ex) {fno base N i : Nat} {ops : Array Oper} {o : Oper} {S S' : St} {ft : Foot} {b2 : Nat} (h : stepE P obm hp ex fno base N ops i o S = some (S', ft, b2)) :
    (∃ r : CallRes, ∀ cfg : Cfg, cfg.ret i = r.ret → cfg.hc i = r.hc → cfg.obm i = obm fno (o.dst.getD 0) → cfg.base i = r.base → ∃ ob, stepA P cfg N ops i o S = some (S', ob, ft) ∧ Obls P ob) ∧ ∀ k, k ∉ ft.wr → S'.heap k = S.heap k := by
  unfold stepE at h
  split at h
  · rename_i hw
    split at h
    · rename_i g args hci
      obtain ⟨hco, hext⟩ := callIn_some hci
      split at h
      · rename_i hone
        split at h
        · rename_i r hr
          simp only [Option.map_eq_some_iff, Prod.mk.injEq] at h
          obtain ⟨env, hpt, rfl, rfl, rfl⟩ := h
          obtain ⟨r1, r2, r3⟩ := r
          obtain ⟨c1, c2⟩ := callOnceE_sound hm hn hex hone hr
          refine ⟨⟨⟨[], some (.heap [] r1 r3), base⟩, fun cfg h1 h2 h3 h4 => ⟨[.heap g args S.heap [] r1], ?_, ?_⟩⟩, c2⟩
          · unfold stepA
            rw [hw]
            simp only [h2, hco, retV, hpt, Option.map_some]
            rw [if_pos c2]
          · intro c hc
            simp only [List.mem_singleton] at hc
            subst hc
            exact c1
        · cases h
      split at h
      · rename_i ds hds
        split at h
        · rename_i rs hrs
          simp only [Option.map_eq_some_iff, Prod.mk.injEq] at h
          obtain ⟨env, hpt, rfl, rfl, rfl⟩ := h
          have htd : toDs args = some ds := by
            split at hds
            · cases hds
            · exact hds
          refine ⟨⟨⟨rs, none, base⟩, fun cfg h1 h2 h3 h4 => ⟨[.data (g, ds, rs)], ?_, ?_⟩⟩, fun _ _ => rfl⟩
          · unfold stepA
            rw [hw]
            simp only [h2]
            have hcore : core P cfg i o (opd S.env) S.heap = some { val := retAV rs, ob := [(g, ds, rs)] } := by
              unfold callOf at hco
              split at hco
              · rename_i c hop
                split at hco
                · rename_i f hcal
                  split at hco
                  · rename_i g' caps hf
                    simp only [Option.some.injEq, Prod.mk.injEq] at hco
                    obtain ⟨rfl, rfl⟩ := hco
                    simp only [core, hop, coreCall, hcal, hf, hext, opCall, htd, h1]
                  · cases hco
                · cases hco
              · cases hco
            simp only [hcore, hpt, Option.map_some, updAll, List.map_cons, List.map_nil]
          · intro c hc
            simp only [List.mem_singleton] at hc
            subst hc
            exact callDE_sound hm hn hex hrs
        · cases h
      · split at h
        · rename_i r hr
          simp only [Option.map_eq_some_iff, Prod.mk.injEq] at h
          obtain ⟨env, hpt, rfl, rfl, rfl⟩ := h
          obtain ⟨r1, r2, r3, r4⟩ := r
          obtain ⟨c1, c2⟩ := callHE_sound hm hn hex hr
          refine ⟨⟨⟨[], some (.heap r1 r2 r4), base⟩, fun cfg h1 h2 h3 h4 => ⟨[.heap g args S.heap r1 r2], ?_, ?_⟩⟩, c2⟩
          · unfold stepA
            rw [hw]
            simp only [h2, hco, hpt, Option.map_some]
            rw [if_pos c2]
          · intro c hc
            simp only [List.mem_singleton] at hc
            subst hc
            exact c1
        · cases h
    · split at h
      · rename_i y hyl
        split at h
        · rename_i r hr
          simp only [Option.map_eq_some_iff, Prod.mk.injEq] at h
          obtain ⟨env, hpt, rfl, rfl, rfl⟩ := h
          obtain ⟨k, v, args⟩ := y
          obtain ⟨c1, c2⟩ := yieldE_sound hm hex hr
          refine ⟨⟨⟨[], some (.heap [.d (.bool r.1)] r.2.1 r.2.2.2), base⟩, fun cfg h1 h2 h3 h4 => ⟨[.yield k v args S.heap [.d (.bool r.1)] r.2.1], ?_, ?_⟩⟩, c2⟩
          · unfold stepA
            rw [hw]
            simp only [h2, yldOf_callOf hyl, hyl, retV, hpt, Option.map_some]
            rw [if_pos c2]
          · intro c hc
            simp only [List.mem_singleton] at hc
            subst hc
            exact c1
        · cases h
      split at h
      · rename_i out hcore
        split at h
        case h_2 => cases h
        rename_i hnob
        simp only [Option.map_eq_some_iff, Prod.mk.injEq] at h
        obtain ⟨env, hpt, rfl, rfl, rfl⟩ := h
        refine ⟨⟨⟨[], none, base⟩, fun cfg h1 h2 h3 h4 => ⟨out.ob.map .data, ?_, ?_⟩⟩, fun k hk => updAll_ne _ _ hk⟩
        · unfold stepA
          rw [hw]
          simp only [h2]
          rw [core_cfg (cfg' := cfg) (cfg := { obm := fun _ => obm fno (o.dst.getD 0), base := fun _ => base }) h1 h3 h4, hcore]
          simp only [hpt, Option.map_some]
        · rw [hnob]
          intro c hc
          cases hc
      · cases h
  · rename_i hw
    simp only [Option.map_eq_some_iff, Prod.mk.injEq] at h
    obtain ⟨env, hpt, rfl, rfl, rfl⟩ := h
    refine ⟨⟨⟨[], none, base⟩, fun cfg h1 h2 h3 h4 => ⟨[], ?_, fun c hc => by cases hc⟩⟩, fun _ _ => rfl⟩
    unfold stepA
    rw [hw]
    simp only [hpt, Option.map_some]
  · cases h

theorem opsE_run (hm : OkP P) (hn : Named P) {ex : Exec} (hex : Right P ex) {fno N : Nat} {ops : Array Oper} : ∀ (l : List Oper) (k base : Nat) (S S' : St) (fts : List Foot) (b2 : Nat) (tk : List Nat), (∀ j, l[j]? = ops[k + j]?) →
    opsE P obm hp ex fno N ops l k base S = some (S', fts, b2, tk) →
    (∃ T : Nat → CallRes, ∀ cfg : Cfg, (∀ j, k ≤ j → cfg.ret j = (T j).ret ∧ cfg.hc j = (T j).hc ∧ cfg.base j = (T j).base) → (∀ j, cfg.obm j = obm fno (((ops[j]?).bind (·.dst)).getD 0)) →
      ∃ ob, runA P cfg N ops (List.range' k l.length) S = some (S', ob, fts) ∧ Obls P ob) ∧ ∀ k, k ∉ tk → S'.heap k = S.heap k
  | [], k, base, S, S', fts, b2, tk, _, h => by
    simp only [opsE, Option.some.injEq, Prod.mk.injEq] at h
    obtain ⟨rfl, rfl, _⟩ := h
    exact ⟨⟨fun _ => ⟨[], none, 0⟩, fun cfg _ _ => ⟨[], rfl, fun c hc => by cases hc⟩⟩, fun _ _ => rfl⟩
  | o :: r, k, base, S, S', fts, b2, tk, hl, h => by
    have ho : ops[k]? = some o := by simpa using (hl 0).symm
    simp only [opsE] at h
    split at h
    · cases h
    · rename_i a ha
      split at h
      · cases h
      · rename_i b hb
        simp only [Option.some.injEq, Prod.mk.injEq] at h
        obtain ⟨rfl, rfl, rfl, rfl⟩ := h
        obtain ⟨a1, a2, a3⟩ := a
        obtain ⟨b1, bf, b3, b4⟩ := b
        obtain ⟨⟨rk, hk⟩, hk2⟩ := stepE_step hm hn hex ha
        obtain ⟨⟨T, hT⟩, hT2⟩ := opsE_run hm hn hex r (k + 1) a3 a1 b1 bf b3 b4 (fun j => by have := hl (j + 1); simpa [Nat.add_assoc, Nat.add_comm 1 j] using this) hb
        refine ⟨⟨fun j => if j = k then rk else T j, fun cfg h1 h2 => ?_⟩, fun s hs => by
          simp only [List.mem_append, not_or] at hs
          exact (hT2 s hs.2).trans (hk2 s hs.1)⟩
        have hkk := h1 k (Nat.le_refl k)
        simp only [if_true] at hkk
        obtain ⟨ob1, e1, o1⟩ := hk cfg hkk.1 hkk.2.1 (by rw [h2 k, ho]; rfl) hkk.2.2
        obtain ⟨ob2, e2, o2⟩ := hT cfg (fun j hj => by have := h1 j (by omega); simp only [if_neg (show ¬ j = k by omega)] at this; exact this) h2
        refine ⟨ob1 ++ ob2, ?_, fun c hc => (List.mem_append.1 hc).elim (o1 c) (o2 c)⟩
        simp only [List.length_cons, List.range'_succ, runA, ho, e1, e2]

def RightL (P : Program) (ex : Exec) : Prop := ∀ fno base N c S e S' b' tk, ex fno base N (.loop c) S = some (e, S', b', tk) → (∀ X : Fix, X.P = P → X.N = N → LW X c S fun e' S'' => e' = e ∧ S'' = S') ∧ ∀ k, k ∉ tk → S'.heap k = S.heap k

theorem loopE_right {n : Nat} (ih : Right P (execE P obm hp n)) (ihl : RightL P (execE P obm hp n)) : RightL P (execE P obm hp (n + 1)) := fun fno base N x S e S' b' tk h => by
  simp only [execE] at h
  split at h
  · rename_i S1 b1 tk1 h1
    split at h
    · rename_i e2 S2 b2 tk2 h2
      simp only [Option.some.injEq, Prod.mk.injEq] at h
      obtain ⟨rfl, rfl, rfl, rfl⟩ := h
      have a1 := ih _ _ _ _ _ _ _ _ _ h1
      have a2 := ihl _ _ _ _ _ _ _ _ _ h2
      refine ⟨fun X hP hN => lw_round ((a1.1 X hP hN).mono ?_), fun k hk => ?_⟩
      · rintro e1 S3 ⟨rfl, rfl⟩
        exact a2.1 X hP hN
      · simp only [List.mem_append, not_or] at hk
        exact (a2.2 k hk.2).trans (a1.2 k hk.1)
    · cases h
  · rename_i hno
    have a1 := ih _ _ _ _ _ _ _ _ _ h
    refine ⟨fun X hP hN => lw_round ((a1.1 X hP hN).mono ?_), a1.2⟩
    rintro e1 S2 ⟨rfl, rfl⟩
    cases e1 with
    | normal => exact absurd h (hno S2 _ _)
    | _ => exact ⟨rfl, rfl⟩

theorem execE_right2 (hm : OkP P) (hn : Named P) : ∀ n, Right P (execE P obm hp n) ∧ RightL P (execE P obm hp n)
  | 0 => ⟨fun fno base N c S e S' b' tk h => by simp [execE] at h, fun fno base N c S e S' b' tk h => by simp [execE] at h⟩
  | n + 1 => by
    obtain ⟨ih, ihl⟩ := execE_right2 hm hn n
    have hl := loopE_right ih ihl
    refine ⟨fun fno base N c S e S' b' tk h => ?_, hl⟩
    cases c with
    | region id ops draw =>
      simp only [execE] at h
      split at h
      · rename_i r hr
        obtain ⟨S1, fts, b1, tk1⟩ := r
        have hsplit : S' = S1 ∧ e = .normal ∧ tk = tk1 ∧ (draw = false ∨ lexOk ops fts = true) := by
          split at h
          · simp only [Option.some.injEq, Prod.mk.injEq] at h
            obtain ⟨rfl, rfl, _, rfl⟩ := h
            exact ⟨rfl, rfl, rfl, .inl rfl⟩
          · split at h
            · rename_i hlex
              simp only [Option.some.injEq, Prod.mk.injEq] at h
              obtain ⟨rfl, rfl, _, rfl⟩ := h
              exact ⟨rfl, rfl, rfl, .inr hlex⟩
            · cases h
        obtain ⟨rfl, rfl, rfl, hd⟩ := hsplit
        obtain ⟨⟨T, hT⟩, hT2⟩ := opsE_run hm hn ih ops.toList 0 base S S' fts b1 tk (fun j => by simp) hr
        refine ⟨fun X hP hN => ?_, hT2⟩
        obtain ⟨ob, hrun, hob⟩ := hT { ret := fun j => (T j).ret, hc := fun j => (T j).hc, obm := fun j => obm fno (((ops[j]?).bind (·.dst)).getD 0), base := fun j => (T j).base } (fun j _ => ⟨rfl, rfl, rfl⟩) (fun j => rfl)
        rw [Array.length_toList, ← List.range_eq_range'] at hrun
        subst hP; subst hN
        cases draw with
        | false => exact aw_region hrun hob ⟨rfl, rfl⟩
        | true => exact aw_region_any hrun (hd.resolve_left (by simp)) hob ⟨rfl, rfl⟩
      · cases h
    | seq x y =>
      simp only [execE] at h
      split at h
      · rename_i S1 b1 tk1 h1
        split at h
        · rename_i e2 S2 b2 tk2 h2
          simp only [Option.some.injEq, Prod.mk.injEq] at h
          obtain ⟨rfl, rfl, rfl, rfl⟩ := h
          have a1 := ih _ _ _ _ _ _ _ _ _ h1
          have a2 := ih _ _ _ _ _ _ _ _ _ h2
          refine ⟨fun X hP hN => aw_seq ((a1.1 X hP hN).mono ?_), fun k hk => ?_⟩
          · rintro e1 S3 ⟨rfl, rfl⟩
            exact a2.1 X hP hN
          · simp only [List.mem_append, not_or] at hk
            exact (a2.2 k hk.2).trans (a1.2 k hk.1)
        · cases h
      · rename_i hno
        have a1 := ih _ _ _ _ _ _ _ _ _ h
        refine ⟨fun X hP hN => aw_seq ((a1.1 X hP hN).mono ?_), a1.2⟩
        rintro e1 S2 ⟨rfl, rfl⟩
        cases e1 with
        | normal => exact absurd h (hno S2 _ _)
        | _ => exact ⟨rfl, rfl⟩
    | block id x =>
      simp only [execE] at h
      split at h
      · rename_i i S1 b1 tk1 h1
        have hh : S' = S1 ∧ tk = tk1 ∧ e = (if i = id then .normal else .exit i) := by
          split at h
          · rename_i hi; rw [if_pos hi]; simp only [Option.some.injEq, Prod.mk.injEq] at h; obtain ⟨rfl, rfl, _, rfl⟩ := h; exact ⟨rfl, rfl, rfl⟩
          · rename_i hi; rw [if_neg hi]; simp only [Option.some.injEq, Prod.mk.injEq] at h; obtain ⟨rfl, rfl, _, rfl⟩ := h; exact ⟨rfl, rfl, rfl⟩
        obtain ⟨rfl, rfl, rfl⟩ := hh
        have a1 := ih _ _ _ _ _ _ _ _ _ h1
        refine ⟨fun X hP hN => aw_block ((a1.1 X hP hN).mono ?_), a1.2⟩
        rintro e1 S2 ⟨rfl, rfl⟩
        simp only [blockA]
        by_cases hi : i = id <;> simp [hi]
      · rename_i hno
        have a1 := ih _ _ _ _ _ _ _ _ _ h
        refine ⟨fun X hP hN => aw_block ((a1.1 X hP hN).mono ?_), a1.2⟩
        rintro e1 S2 ⟨rfl, rfl⟩
        cases e1 with
        | exit i => exact absurd h (hno i S2 _ _)
        | _ => exact ⟨rfl, rfl⟩
    | loop x =>
      have a1 := hl _ _ _ _ _ _ _ _ _ h
      exact ⟨fun X hP hN => (a1.1 X hP hN).aw, a1.2⟩
    | skip => simp only [execE, Option.some.injEq, Prod.mk.injEq] at h; obtain ⟨rfl, rfl, _⟩ := h; exact ⟨fun X _ _ => aw_skip ⟨rfl, rfl⟩, fun _ _ => rfl⟩
    | exit i => simp only [execE, Option.some.injEq, Prod.mk.injEq] at h; obtain ⟨rfl, rfl, _⟩ := h; exact ⟨fun X _ _ => aw_exit ⟨rfl, rfl⟩, fun _ _ => rfl⟩
    | ret => simp only [execE, Option.some.injEq, Prod.mk.injEq] at h; obtain ⟨rfl, rfl, _⟩ := h; exact ⟨fun X _ _ => aw_ret ⟨rfl, rfl⟩, fun _ _ => rfl⟩
    | cond c x y =>
      simp only [execE] at h
      split at h
      · rename_i b hb
        cases b with
        | true =>
          have a1 := ih _ _ _ _ _ _ _ _ _ h
          exact ⟨fun X hP hN => aw_cond hb (fun _ => a1.1 X hP hN) (fun hx => by cases hx), a1.2⟩
        | false =>
          have a1 := ih _ _ _ _ _ _ _ _ _ h
          exact ⟨fun X hP hN => aw_cond hb (fun hx => by cases hx) (fun _ => a1.1 X hP hN), a1.2⟩
      · cases h
    | rangeFunc g ps as bd =>
      simp only [execE] at h
      split at h
      case h_2 => cases h
      rename_i gf caps hg
      split at h
      case h_2 => cases h
      rename_i r hr
      split at h
      case h_2 => cases h
      rename_i f2 N2 env2 ps2 as2 bd2 st hlp
      split at h
      case isFalse => cases h
      rename_i hk
      split at h
      case h_2 => cases h
      rename_i e' he'
      simp only [Option.some.injEq, Prod.mk.injEq] at h
      obtain ⟨rfl, rfl, _, rfl⟩ := h
      obtain ⟨c1, c2⟩ := callHE_sound hm hn ih hr
      refine ⟨fun X hP hN => ?_, fun k hk => ?_⟩
      · subst hP; subst hN
        exact aw_rangeFunc hg (envL_spec _ _) c1 hk hlp (endE_spec he')
      · simp only [List.mem_cons, not_or] at hk
        exact (upd_ne _ _ hk.1).trans ((c2 k hk.2).trans (upd_ne _ _ hk.1))
    | _ => simp [execE] at h

theorem execE_right (hm : OkP P) (hn : Named P) (n : Nat) : Right P (execE P obm hp n) := (execE_right2 hm hn n).1

/-- A whole run on data. -/
theorem pure_of_exec (hm : OkP P) (hn : Named P) (obm : Nat → Nat → Bool) (hp : Nat → Bool) (n : Nat) {g : Nat} {ds rs : List D} (h : callDE P (execE P obm hp n) g ds = some rs) : Pure P g ds rs :=
  callDE_sound hm hn (execE_right hm hn n) h
end
end Go.Avm
