/-
  Paint: what every text of these laws needs: no package variables are read; short names.
-/
import Derived.Test.YtpcomfnianamgaaG05
import Derived.Test.YtpcomfnianamgaaProg
import Derived.Test.YtpcomfnianamgaaChecked
import Derived.IntWalk
set_option linter.unusedSectionVars false
namespace Go.Avm
open Go.Proofs
instance paTab : GlobTab := ⟨fun _ => none, none, fun _ => none⟩
theorem extOk : ExtAll Try.prog := fun g k h => by cases h
theorem okP : OkP Try.prog := ⟨Try.checked.mixed, extOk⟩
theorem onceAll : OnceAll Try.prog := fun g h => by cases h
theorem named : Named Try.prog := named_of (by kernel_rfl) onceAll
abbrev dN (n : Nat) : AV := .d (.int .i64 (n : Int))
abbrev dB (b : Bool) : AV := .d (.bool b)
def hLt (P : Program) (a b : Nat) (t : Bool) (h : decide (a < b) = t) : Hint P := .val (dB (decide ((a : Int) < (b : Int)))) (dB t) (by
 congr 2
 rw [← h]
 simp)
def hSucc (P : Program) (i : Nat) (h : i < 9223372036854775807) : Hint P := .val (dI (IntKind.i64.wrap ((i : Int) + 1))) (dN (i + 1)) (by
 unfold dI
 congr 2
 rw [IntWalk.i64_in _ (by omega)]
 simp)
def bodyOf (P : Program) (f : Nat) : Code := ((P.funcs[f]?).bind (·.body)).getD .skip
def findLoop (r : Nat) : Code → Option Code
 | .loop x => if firstReg x = r then some x else findLoop r x
 | .seq x y => match findLoop r x with
  | some c => some c
  | none => findLoop r y
 | .block _ x => findLoop r x
 | .cond _ x y => match findLoop r x with
  | some c => some c
  | none => findLoop r y
 | _ => none
def loopOf (P : Program) (f r : Nat) : Code := (findLoop r (bodyOf P f)).getD .skip
end Go.Avm
namespace Go.Avm
open Go.Proofs
abbrev rowD (r : List Int) : D := .ro (r.map fun x => .int .i64 x)
abbrev rowsD (l : List (List Int)) : D := .ro (l.map rowD)
theorem getI {l : List Int} {i : Nat} (h : i < l.length) : (l.map fun x => D.int .i64 x)[((i : Nat) : Int).toNat]? = some (.int .i64 l[i]) := by
 simp [h]
def hLen (P : Program) (R : List Int) : Hint P := .val (dN (R.map fun x => D.int .i64 x).length) (dN R.length) (by simp)
section
variable (vp vl vd vo n : Nat) (near likes : D) (left deg out : List AV) (R : List Int) (i : Nat)
end
end Go.Avm
namespace Go.Avm
open Go.Proofs
def smL (a : List Int) (i : Nat) : List (Nat × AV) := [(0, .d (rowD a)), (1, .d (rowD a)), (12, dN a.length), (13, dN i)]
theorem smRound (a : List Int) (i : Nat) (x : Int) (hi : i < a.length) (hs : i < 9223372036854775807) (hx : a[i] = x) (rest : Heap) (X : Fix) (hP : X.P = Try.prog) (hN : X.N = 26) :
    AW X (loopOf Try.prog 41 4) ⟨envOf (smL a i), ovl [] rest⟩ fun e' S' => e' = .normal ∧ Weak X S' ⟨envOf (smL a (i + 1)), ovl [] rest⟩ :=
 seg okP named { hint := fun f s => if f = 41 then (if s = 14 then some (hLt Try.prog i a.length true (by simpa using hi)) else if s = 18 ∨ s = 22 then some (.idx (a.map fun x => .int .i64 x) ((i : Nat) : Int) (.int .i64 x) (by omega) (by rw [← hx]; exact getI hi)) else if s = 24 then some (.val (dB (x != x)) (dB false) (by simp))
  else if s = 25 then some (hSucc Try.prog i hs) else none) else none } 1000 41 500000 26 (by kernel_rfl) X hP hN
theorem smStop (a : List Int) (rest : Heap) (X : Fix) (hP : X.P = Try.prog) (hN : X.N = 26) :
    AW X (loopOf Try.prog 41 4) ⟨envOf (smL a a.length), ovl [] rest⟩ fun e' S' => e' = .exit 0 ∧ Weak X S' ⟨envOf [], ovl [] rest⟩ :=
 seg okP named { hint := fun f s => if f = 41 then (if s = 14 then some (hLt Try.prog a.length a.length false (by simp)) else none) else none } 1000 41 500000 26 (by kernel_rfl) X hP hN
theorem smLoop (a : List Int) (hl : a.length < 1000000000) (rest : Heap) (X : Fix) (hP : X.P = Try.prog) (hN : X.N = 26) :
    AW X (.loop (loopOf Try.prog 41 4)) ⟨envOf (smL a 0), ovl [] rest⟩ fun e' S' => e' = .exit 0 ∧ S' = ⟨envOf [], ovl [] rest⟩ := by
 refine loop_of_segs (P := Try.prog) (N := 26) (c := loopOf Try.prog 41 4) (fun i => smL a i) (fun _ _ => []) (fun i => i ≤ a.length) (fun i => a.length - i) (.exit 0) [] (fun _ => []) 0 (Nat.zero_le _) (by simp) (fun rest i hi => ?_) rest X hP hN
 rcases Nat.lt_or_ge i a.length with h | h
 ·exact .inl ⟨i + 1, h, by omega, fun X hP hN => smRound a i a[i] h (by omega) rfl rest X hP hN⟩
 ·have : i = a.length := by omega
  subst this
  exact .inr fun X hP hN => smStop a rest X hP hN
theorem sameC (a : List Int) (hl : a.length < 1000000000) : Pure Try.prog 41 [rowD a, rowD a] [.bool true] :=
 pure_of_run okP named { hint := fun f s => if f = 41 then (if s = 7 ∨ s = 9 ∨ s = 12 then some (hLen Try.prog a) else if s = 10 then some (.val (dB ((a.length : Int) != (a.length : Int))) (dB false) (by simp)) else none) else none
                         loops := fun f r => if f = 41 then (if r = 4 then some ⟨26, loopOf Try.prog 41 4, smL a 0, fun _ => [], .exit 0, [], fun _ => [], smLoop a hl⟩ else none) else none } 1000 (by kernel_rfl)
def hLenR (P : Program) (g : List (List Int)) : Hint P := .val (dN (g.map rowD).length) (dN g.length) (by simp)
section
variable (g l : List (List Int)) (v i w1 w2 : Nat) (x : List Int)
end
end Go.Avm
namespace Go.Avm
open Go.Proofs
def lookK {P : Program} (f s : Nat) : List (Nat × Nat × Hint P) → Option (Hint P)
 | [] => none
 | (f', s', h) :: r => bif Nat.beq f f' && Nat.beq s s' then some h else lookK f s r
def tabH (P : Program) (l : List (Nat × Nat × Hint P)) : Nat → Nat → Option (Hint P) := fun f s => lookK f s l
def hB (P : Program) (a b : Bool) (h : a = b) : Hint P := .val (dB a) (dB b) (by rw [h])
def hNat (P : Program) (a : Int) (n : Nat) (h : a = (n : Int)) : Hint P := .val (dI a) (dN n) (by subst h; rfl)
def hI (P : Program) (a b : Int) (h : a = b) : Hint P := .val (dI a) (dI b) (by rw [h])
def hIx (P : Program) (r : List Int) (i : Nat) (x : Int) (h : r[i]? = some x) : Hint P := .idx (r.map fun x => .int .i64 x) ((i : Nat) : Int) (.int .i64 x) (by omega) (by simp [h])
def hIxR (P : Program) (g : List (List Int)) (i : Nat) (r : List Int) (h : g[i]? = some r) : Hint P := .idx (g.map rowD) ((i : Nat) : Int) (rowD r) (by omega) (by simp [h])
theorem lw_from {X : Fix} {c : Code} {n : Nat} (S : Nat → St) {e : AExit} {Z : St} (he : e ≠ .normal) (hR : ∀ i, i < n → AW X c (S i) fun e' S' => e' = .normal ∧ Weak X S' (S (i + 1))) (hE : AW X c (S n) fun e' S' => e' = e ∧ Weak X S' Z) :
    ∀ (m i : Nat), n - i = m → i ≤ n → LW X c (S i) fun e' S' => e' = e ∧ S' = Z
 | 0, i, hm, hi => by
  have : i = n := by omega
  subst this
  exact lw_end hE he
 | m + 1, i, hm, hi => lw_seg (hR i (by omega)) (lw_from S he hR hE m (i + 1) (by omega) (by omega))
theorem lw_count {X : Fix} {c : Code} (n : Nat) (S : Nat → St) {e : AExit} {Z : St} (he : e ≠ .normal) (hR : ∀ i, i < n → AW X c (S i) fun e' S' => e' = .normal ∧ Weak X S' (S (i + 1))) (hE : AW X c (S n) fun e' S' => e' = e ∧ Weak X S' Z) :
    LW X c (S 0) fun e' S' => e' = e ∧ S' = Z := lw_from S he hR hE n 0 rfl (Nat.zero_le _)
theorem dec_true {p : Prop} [Decidable p] (h : p) : decide p = true := decide_eq_true h
theorem dec_false {p : Prop} [Decidable p] (h : ¬ p) : decide p = false := decide_eq_false h
end Go.Avm
namespace Go.Avm
open Go.Proofs
noncomputable abbrev Pg : Program := Try.prog
abbrev RE (N : Nat) (c : Code) (l : List (Nat × AV)) (hp : List (Nat × Ent)) (e : AExit) (l' : List (Nat × AV)) (hp' : List (Nat × Ent)) : Prop := ∀ (rest : Heap) (X : Fix), X.P = Pg → X.N = N → AW X c ⟨envOf l, ovl hp rest⟩ fun e' S' => e' = e ∧ S' = ⟨envOf l', ovl hp' rest⟩
abbrev RW (N : Nat) (c : Code) (l : List (Nat × AV)) (hp : List (Nat × Ent)) (e : AExit) (l' : List (Nat × AV)) (hp' : List (Nat × Ent)) : Prop := ∀ (rest : Heap) (X : Fix), X.P = Pg → X.N = N → AW X c ⟨envOf l, ovl hp rest⟩ fun e' S' => e' = e ∧ Weak X S' ⟨envOf l', ovl hp' rest⟩
noncomputable abbrev lO (f q : Nat) : Code := loopOf Pg f q
theorem qS (pr : Par Pg) (fno base : Nat) {N : Nat} {c : Code} {l l' : List (Nat × AV)} {hp hp' : List (Nat × Ent)} {e : AExit}
    (h : ∀ rest : Heap, outL (finS (execH Pg pr 2000 fno base N c ⟨envOf l, ovl hp rest⟩) (hp.map (·.1)) l' hp') = outR e (finS (execH Pg pr 2000 fno base N c ⟨envOf l, ovl hp rest⟩) (hp.map (·.1)) l' hp') := by (intro _; kernel_rfl)) : RW N c l hp e l' hp' :=
  fun rest X hP hN => seg okP named pr 2000 fno base N (h rest) X hP hN
theorem qU (pr : Par Pg) {g : Nat} {ds rs : List D} (h : outL (pureRun Pg (execH Pg pr 2000) g ds rs) = outR .ret (pureRun Pg (execH Pg pr 2000) g ds rs) := by kernel_rfl) : Pure Pg g ds rs := pure_of_run okP named pr 2000 h
theorem qH (pr : Par Pg) {g : Nat} {args rs : List AV} {hp hp' : List (Nat × Ent)} {rest : Heap} (h : outL (callRun (callHH Pg (execH Pg pr 2000) 500000 g args (ovl hp rest)) (hp.map (·.1)) rs hp') = outR .ret (callRun (callHH Pg (execH Pg pr 2000) 500000 g args (ovl hp rest)) (hp.map (·.1)) rs hp') := by kernel_rfl) : HCall Pg g args (ovl hp rest) rs (ovl hp' rest) := hcall_of_run okP named pr 2000 500000 g h
noncomputable def qP {N : Nat} {c : Code} {l l' : List (Nat × AV)} {hp hp' : List (Nat × Ent)} {e : AExit} (h : RE N (.loop c) l hp e l' hp') : Option (LHint Pg) := some ⟨N, c, l, fun _ => hp, e, l', fun _ => hp', h⟩
noncomputable def qQ {N : Nat} {c : Code} {l l' : List (Nat × AV)} {hp hp' : List (Nat × Ent)} {e : AExit} (h : RE N c l hp e l' hp') : Option (QHint Pg) := some ⟨N, c, l, fun _ => hp, e, l', fun _ => hp', h⟩
noncomputable def qK {α : Type} (s : Nat) : List (Nat × α) → Option α
  | [] => none
  | (k, h) :: r => bif Nat.beq s k then some h else qK s r
noncomputable def qT (f : Nat) (l : List (Nat × Hint Pg)) : Nat → Nat → Option (Hint Pg) := fun f' s => bif Nat.beq f' f then qK s l else none
noncomputable def qO {α : Type} (f q : Nat) (a : Option α) : Nat → Nat → Option α := fun f' q' => bif Nat.beq f' f && Nat.beq q' q then a else none
noncomputable def qC (f s g : Nat) {args : List AV} {pre : List (Nat × Ent)} {rs : List AV} {post : List (Nat × Ent)} (h : ∀ h : Heap, Fits h pre → HCall Pg g args h rs (ovl post h)) : Nat → Nat → Nat → Option (CHint Pg) := fun f' s' _ => bif Nat.beq f' f && Nat.beq s' s then some ⟨g, args, pre, rs, post, h⟩ else none
noncomputable def qB {a b : Bool} (h : a = b) : Hint Pg := hB Pg a b h
noncomputable def qL {a b : Nat} (h : a < b) : Hint Pg := hLt Pg a b true (by simpa using h)
noncomputable def qG (a : Nat) : Hint Pg := hLt Pg a a false (by simp)
end Go.Avm
namespace Go.Avm
open Go.Proofs Go.Avm.Dom
abbrev natR (r : List Nat) : List Int := r.map fun b => ((b : Nat) : Int)
abbrev natG (g : Graph) : List (List Int) := g.map natR
abbrev rowN (r : List Nat) : D := rowD (natR r)
abbrev rowsN (g : Graph) : D := rowsD (natG g)
def butI : Option Nat → Int
 | none => -1
 | some b => (b : Int)
theorem butI_eq {b : Nat} {c : Option Nat} : ((b : Int) = butI c) ↔ some b = c := by
 cases c with
 | none => simp [butI]
 | some c => simp [butI]; omega
section
variable (P : Program)
def hLenN (r : List Nat) : Hint P := .val (dN ((natR r).map fun x => D.int .i64 x).length) (dN r.length) (by simp)
def hLenG (g : Graph) : Hint P := .val (dN ((natG g).map rowD).length) (dN g.length) (by simp)
def hIxN (r : List Nat) (i : Nat) (x : Nat) (h : r[i]? = some x) : Hint P := .idx ((natR r).map fun x => .int .i64 x) ((i : Nat) : Int) (.int .i64 (x : Int)) (by omega) (by simp [h])
def hIxG (g : Graph) (i : Nat) (r : List Nat) (h : g[i]? = some r) : Hint P := .idx ((natG g).map rowD) ((i : Nat) : Int) (rowN r) (by omega) (by simp [h])
def hInb (i n : Nat) (h : i < n) : Hint P := .inb ((i : Nat) : Int) n (by omega) (by simpa using h)
def hElB (bs : List Bool) (i : Nat) (b : Bool) (h : bs[i]? = some b) : Hint P := .elt (bs.map dB) (0 + i) (dB b) (by simp [h])
def hElI (l : List Int) (i : Nat) (x : Int) (h : l[i]? = some x) : Hint P := .elt (l.map dI) (0 + i) (dI x) (by simp [h])
def hEq (a b : Int) (t : Bool) (h : (a == b) = t) : Hint P := .val (dB (a == b)) (dB t) (by rw [h])
def hNeq (a b : Int) (t : Bool) (h : (!(a == b)) = t) : Hint P := .val (dB (!(a == b))) (dB t) (by rw [h])
end
theorem succ_get {g : Graph} {a : Nat} (h : a < g.length) : g[a]? = some (succ g a) := by
 unfold succ
 rw [List.getD_eq_getElem?_getD, List.getElem?_eq_getElem h]
 rfl
theorem getD_get {l : List Nat} {k : Nat} (h : k < l.length) : l[k]? = some (l.getD k 0) := by
 rw [List.getD_eq_getElem?_getD, List.getElem?_eq_getElem h]
 rfl
theorem met_get {bs : List Bool} {k : Nat} (h : k < bs.length) : bs[k]? = some (met bs k) := by
 unfold met
 rw [List.getD_eq_getElem?_getD, List.getElem?_eq_getElem h]
 rfl
theorem mapB (l : List Bool) (i : Nat) (x : Bool) : (l.map dB).set (0 + i) (dB x) = (l.set i x).map dB := by rw [List.map_set, Nat.zero_add]
theorem mapI (l : List Int) (i : Nat) (x : Int) : (l.map dI).set (0 + i) (dI x) = (l.set i x).map dI := by rw [List.map_set, Nat.zero_add]
theorem viewB (n : Nat) (h : Heap) : ∀ r : List Bool, viewL (view (n + 1) h) (r.map dB) = some (r.map .bool, [])
 | [] => rfl
 | x :: r => by
  rw [List.map_cons, viewL, viewB n h r]
  rfl
def wB (t k n : Nat) (bs : List Bool) (h : bs.length = n) : WHint := ⟨t, k, n, bs.map dB, bs.map .bool, by simpa using h, fun hh => viewB 2 hh bs⟩
def fil {α : Type} (f : Nat → α) (z : α) (i n : Nat) : List α := (List.range i).map f ++ List.replicate (n - i) z
theorem fil_zero {α : Type} (f : Nat → α) (z : α) (n : Nat) : fil f z 0 n = List.replicate n z := by simp [fil]
theorem fil_get {α : Type} {f : Nat → α} {z : α} {i n : Nat} (h : i < n) : (fil f z i n)[0 + i]? = some z := by
 rw [Nat.zero_add, fil, List.getElem?_append_right (by simp), List.getElem?_replicate, if_pos (by simp; omega)]
theorem fil_set {α : Type} {f : Nat → α} {z : α} {i n : Nat} (h : i < n) : (fil f z i n).set (0 + i) (f i) = fil f z (i + 1) n := by
 rw [Nat.zero_add, fil, fil, List.set_append_right _ _ (by simp), List.range_succ, List.map_append, List.append_assoc]
 congr 1
 obtain ⟨m, hm⟩ : ∃ m, n - i = m + 1 := ⟨n - i - 1, by omega⟩
 rw [hm, show n - (i + 1) = m by omega]
 simp [List.replicate_succ]
theorem fil_full {α : Type} (f : Nat → α) (z : α) (n : Nat) : fil f z n n = (List.range n).map f := by simp [fil]
theorem fil_len {α : Type} (f : Nat → α) (z : α) {i n : Nat} (h : i ≤ n) : (fil f z i n).length = n := by simp [fil]; omega
section
variable (P : Program)
def hIxB (bs : List Bool) (i : Nat) (b : Bool) (h : bs[i]? = some b) : Hint P := .idx (bs.map .bool) ((i : Nat) : Int) (.bool b) (by omega) (by simp [h])
end
def wD (t k n : Nat) (l : List D) (h : l.length = n) (ho : (l.all fun x => x.one) = true) : WHint := ⟨t, k, n, l.map .d, l, by simpa using h, fun hh => viewD 2 hh l ho⟩
theorem weak_cell {X : Fix} {env : Nat → AV} {C K a n vC vK : Nat} {cs es : List AV} {ds : List D} {tl : List (Nat × Ent)} {rest : Heap} (hCK : C ≠ K) (ha : cs[a]? = some (.sl K vK 0 n 1)) (hn : es.length = n) (hv : ∀ h : Heap, viewL (view 3 h) es = some (ds, [])) :
    Weak X ⟨env, ovl ((C, ⟨vC, some (.arr 1 cs)⟩) :: (K, ⟨vK, some (.arr 1 es)⟩) :: tl) rest⟩ ⟨env, ovl ((C, ⟨vC, some (.arr 1 (cs.set a (.d (.ro ds))))⟩) :: (K, ⟨vK + 1, none⟩) :: tl) rest⟩ := by
 have hC : ovl ((C, ⟨vC, some (.arr 1 cs)⟩) :: (K, ⟨vK, some (.arr 1 es)⟩) :: tl) rest C = ⟨vC, some (.arr 1 cs)⟩ := by simp only [ovl, upd_same]
 have hK : ovl ((C, ⟨vC, some (.arr 1 cs)⟩) :: (K, ⟨vK, some (.arr 1 es)⟩) :: tl) rest K = ⟨vK, some (.arr 1 es)⟩ := by
  simp only [ovl]
  rw [upd_ne _ _ (Ne.symm hCK), upd_same]
 generalize hh : ovl ((C, ⟨vC, some (.arr 1 cs)⟩) :: (K, ⟨vK, some (.arr 1 es)⟩) :: tl) rest = h at hC hK
 have hview : view 4 h (.sl K vK 0 n 1) = some (.ro ds, [K]) := by
  rw [view_sl, hK]
  simp only
  rw [if_pos ⟨trivial, by omega⟩, List.drop_zero, List.take_of_length_le (by omega), hv]
  rfl
 have := weak_freeze (X := X) (env := env) (h := h) (C := C) (a := a) (n := 4) (ces := cs) (ks := [K]) (d := .ro ds) (by simpa using hCK) (by rw [hC]) ha rfl hview
 have e : upd (updAll h (kill h [K])) C ⟨(h C).ver, some (.arr 1 (cs.set a (.d (.ro ds))))⟩ = ovl ((C, ⟨vC, some (.arr 1 (cs.set a (.d (.ro ds))))⟩) :: (K, ⟨vK + 1, none⟩) :: tl) rest := by
  have hk : updAll h (kill h [K]) = upd h K ⟨(h K).ver + 1, none⟩ := rfl
  funext t
  simp only [ovl, hk]
  by_cases h1 : t = C
  ·subst h1
   rw [upd_same, upd_same, hC]
  ·rw [upd_ne _ _ h1, upd_ne _ _ h1]
   by_cases h2 : t = K
   ·subst h2
    rw [upd_same, upd_same, hK]
   ·rw [upd_ne _ _ h2, upd_ne _ _ h2, ← hh]
    simp only [ovl]
    rw [upd_ne _ _ h1, upd_ne _ _ h2]
 rw [e] at this
 exact this
end Go.Avm
namespace Go.Avm
open Go.Proofs
structure DbgR where
 depth : Int
 var : Int
 kind : Int
 arg : Int
 a : Int
 b : Int
 deriving DecidableEq
structure InstR where
 op : Int
 dst : Int
 args : List Int
 imm : Int
 site : Int
 dbg : List DbgR
 deriving DecidableEq
structure BlkR where
 phis : List InstR
 insts : List InstR
 fin : Int
 arg : Int
 to : Int
 els : Int
 deriving DecidableEq
structure FunR where
 params : Int
 vars : Int
 vals : Int
 blocks : List BlkR
 deriving DecidableEq
structure CodeR where
 funs : List FunR
 stops : List (List (Int × Int))
 main : Int
 deriving DecidableEq
def dbgD (d : DbgR) : D := .agg [.int .i64 d.depth, .int .i64 d.var, .int .u8 d.kind, .int .i64 d.arg, .int .i64 d.a, .int .i64 d.b]
def dbgsD (l : List DbgR) : D := .ro (l.map dbgD)
def instD (x : InstR) : D := .agg [.int .u8 x.op, .int .i64 x.dst, rowD x.args, .int .i64 x.imm, .int .i64 x.site, dbgsD x.dbg]
def instsD (l : List InstR) : D := .ro (l.map instD)
def blkD (b : BlkR) : D := .agg [instsD b.phis, instsD b.insts, .int .u8 b.fin, .int .i64 b.arg, .int .i64 b.to, .int .i64 b.els]
def blksD (l : List BlkR) : D := .ro (l.map blkD)
def funD (f : FunR) : D := .agg [.int .i64 f.params, .int .i64 f.vars, .int .i64 f.vals, blksD f.blocks]
def funsD (l : List FunR) : D := .ro (l.map funD)
def spotD (p : Int × Int) : D := .agg [.int .i64 p.1, .int .i64 p.2]
def spotsD (l : List (Int × Int)) : D := .ro (l.map spotD)
def stopsD (l : List (List (Int × Int))) : D := .ro (l.map spotsD)
def codeD (c : CodeR) : D := .agg [funsD c.funs, stopsD c.stops, .int .i64 c.main]
def hLenM {α : Type} (P : Program) (f : α → D) (l : List α) : Hint P := .val (dN (l.map f).length) (dN l.length) (by simp)
def hIxM {α : Type} (P : Program) (f : α → D) (l : List α) (i : Nat) (x : α) (h : l[i]? = some x) : Hint P := .idx (l.map f) ((i : Nat) : Int) (f x) (by omega) (by simp [h])
def hAdd (P : Program) (a b c : Nat) (h : c = a + b) (hb : c < 4611686018427387904) : Hint P := .val (dI (IntKind.i64.wrap ((a : Int) + (b : Int)))) (dN c) (by
 congr 2
 rw [IntWalk.i64_in _ (by omega)]
 omega)
theorem get_of {α : Type} {l : List α} {i : Nat} (h : i < l.length) : l[i]? = some l[i] := List.getElem?_eq_getElem h
theorem sum_take {α : Type} (f : α → Nat) {l : List α} {i : Nat} {x : α} (h : l[i]? = some x) : ((l.take (i + 1)).map f).sum = ((l.take i).map f).sum + f x := by
 rw [List.take_add_one, h]
 simp
theorem sum_le {α : Type} (f : α → Nat) : ∀ (l : List α) (i : Nat), ((l.take i).map f).sum ≤ (l.map f).sum
 | [], i => by simp
 | a :: l, 0 => by simp
 | a :: l, i + 1 => by
  have := sum_le f l i
  simp only [List.take_succ_cons, List.map_cons, List.sum_cons]
  omega
theorem sum_get {α : Type} (f : α → Nat) {l : List α} {i : Nat} {x : α} (h : l[i]? = some x) : f x ≤ (l.map f).sum := by
 have h1 := sum_take f h
 have h2 := sum_le f l (i + 1)
 omega
def szD (x : InstR) : Nat := 1 + x.args.length + x.dbg.length
def szIs (l : List InstR) : Nat := (l.map szD).sum
def szB (b : BlkR) : Nat := b.phis.length + b.insts.length
def szF (f : FunR) : Nat := (f.blocks.map szB).sum
def szC (c : CodeR) : Nat := (c.funs.map szF).sum
def zI (fs : List FunR) (i : Nat) (bs : List BlkR) (k n : Nat) : List (Nat × AV) := [(3, dN n), (9, .d (funsD fs)), (10, dN fs.length), (11, dN i), (16, .d (blksD bs)), (17, dN bs.length), (18, dN k)]
def zO (fs : List FunR) (i n : Nat) : List (Nat × AV) := [(3, dN n), (9, .d (funsD fs)), (10, dN fs.length), (11, dN i)]
def zE (u : Nat × Nat) : List (Nat × Ent) := [(500107, ⟨u.1, none⟩), (500109, ⟨u.2, none⟩)]
theorem lw_ver {P : Program} {N : Nat} {c : Code} {V : Type} (n : Nat) (S : Nat → V → Heap → St) (Z : V → Heap → St) {e : AExit} (he : e ≠ .normal)
    (hR : ∀ i, i < n → ∀ u, ∃ u', ∀ (rest : Heap) (X : Fix), X.P = P → X.N = N → AW X c (S i u rest) fun e' S' => e' = .normal ∧ Weak X S' (S (i + 1) u' rest))
    (hE : ∀ u, ∃ u', ∀ (rest : Heap) (X : Fix), X.P = P → X.N = N → AW X c (S n u rest) fun e' S' => e' = e ∧ Weak X S' (Z u' rest)) (u : V) :
    ∃ u', ∀ (rest : Heap) (X : Fix), X.P = P → X.N = N → AW X (.loop c) (S 0 u rest) fun e' S' => e' = e ∧ S' = Z u' rest := by
 have key : ∀ (m i : Nat) (u : V), n - i = m → i ≤ n → ∃ u', ∀ (rest : Heap) (X : Fix), X.P = P → X.N = N → LW X c (S i u rest) fun e' S' => e' = e ∧ S' = Z u' rest := by
  intro m
  induction m with
  | zero =>
   intro i u hm hi
   have : i = n := by omega
   subst this
   obtain ⟨u', h⟩ := hE u
   exact ⟨u', fun rest X hP hN => lw_end (h rest X hP hN) he⟩
  | succ m ih =>
   intro i u hm hi
   obtain ⟨u1, h1⟩ := hR i (by omega) u
   obtain ⟨u', h2⟩ := ih (i + 1) u1 (by omega) (by omega)
   exact ⟨u', fun rest X hP hN => lw_seg (h1 rest X hP hN) (h2 rest X hP hN)⟩
 obtain ⟨u', h⟩ := key n 0 u rfl (Nat.zero_le _)
 exact ⟨u', fun rest X hP hN => (h rest X hP hN).aw⟩
section
variable (fs : List FunR) (i : Nat) (bs : List BlkR) (k n : Nat) (u : Nat × Nat) (b : BlkR) (f : FunR)
theorem z22Round (hk : k < bs.length) (hl : bs.length < 4000000) (hx : bs[k]? = some b) (hn : n + szB b < 1000000000) : RW 34 (lO 22 6) (zI fs i bs k n) (zE u) .normal (zI fs i bs (k + 1) (n + szB b)) (zE (u.1, u.2 + 1)) := qS { hint := qT 22 [(19, qL hk), (20, hIxM Pg blkD bs k b hx), (25, hLenM Pg instD b.phis), (28, hLenM Pg instD b.insts), (29, hAdd Pg b.phis.length b.insts.length (szB b) rfl (by omega)), (30, hAdd Pg n (szB b) (n + szB b) rfl (by omega)), (31, hSucc Pg k (by omega))] } 22 500000
theorem z22Stop : RW 34 (lO 22 6) (zI fs i bs bs.length n) (zE u) (.exit 2) (zO fs i n) (zE u) := qS { hint := qT 22 [(19, qG bs.length)] } 22 500000
theorem z22In (hl : bs.length < 4000000) (hn : n + (bs.map szB).sum < 1000000000) : ∃ u', RE 34 (.loop (lO 22 6)) (zI fs i bs 0 n) (zE u) (.exit 2) (zO fs i (n + (bs.map szB).sum)) (zE u') := by
 have h := lw_ver (P := Pg) (N := 34) (c := loopOf Pg 22 6) bs.length (fun k u rest => ⟨envOf (zI fs i bs k (n + ((bs.take k).map szB).sum)), ovl (zE u) rest⟩) (fun u rest => ⟨envOf (zO fs i (n + (bs.map szB).sum)), ovl (zE u) rest⟩) (e := .exit 2) (by simp)
  (fun k hk u => ⟨_, fun rest X hP hN => by
   have h1 := sum_take szB (get_of hk)
   have h2 := sum_le szB bs (k + 1)
   have := z22Round fs i bs k (n + ((bs.take k).map szB).sum) u bs[k] hk hl (get_of hk) (by omega) rest X hP hN
   rw [Nat.add_assoc, ← h1] at this
   exact this⟩)
  (fun u => ⟨u, fun rest X hP hN => by
   have := z22Stop fs i bs (n + (bs.map szB).sum) u rest X hP hN
   rw [List.take_length]
   exact this⟩) u
 exact h
theorem z22ORound (hi : i < fs.length) (hx : fs[i]? = some f) (hl : fs.length < 4000000) (u' : Nat × Nat) (n' : Nat)
    (hin : RE 34 (.loop (lO 22 6)) (zI fs i f.blocks 0 n) (zE (u.1 + 1, u.2)) (.exit 2) (zO fs i n') (zE u'))
    : RW 34 (lO 22 3) (zO fs i n) (zE u) .normal (zO fs (i + 1) n') (zE u') := qS { loops := qO 22 6 (qP hin), hint := qT 22 [(12, qL hi), (13, hIxM Pg funD fs i f hx), (17, hLenM Pg blkD f.blocks), (32, hSucc Pg i (by omega))] } 22 500000
theorem z22OStop : RW 34 (lO 22 3) (zO fs fs.length n) (zE u) (.exit 0) [(3, dN n)] (zE u) := qS { hint := qT 22 [(12, qG fs.length)] } 22 500000
theorem z22Out (hl : fs.length < 4000000) (hb : ∀ f ∈ fs, f.blocks.length < 4000000) (hn : (fs.map szF).sum < 1000000000) : ∃ u', RE 34 (.loop (lO 22 3)) (zO fs 0 0) (zE u) (.exit 0) [(3, dN (fs.map szF).sum)] (zE u') := by
 refine lw_ver (P := Pg) (N := 34) (c := loopOf Pg 22 3) fs.length (fun i u rest => ⟨envOf (zO fs i ((fs.take i).map szF).sum), ovl (zE u) rest⟩) (fun u rest => ⟨envOf [(3, dN (fs.map szF).sum)], ovl (zE u) rest⟩) (e := .exit 0) (by simp)
  (fun i hi u => ?_)
  (fun u => ⟨u, fun rest X hP hN => by
   have := z22OStop fs (fs.map szF).sum u rest X hP hN
   rw [List.take_length]
   exact this⟩) u
 have h1 := sum_take szF (get_of hi)
 have h2 := sum_le szF fs (i + 1)
 obtain ⟨u', hin⟩ := z22In fs i fs[i].blocks ((fs.take i).map szF).sum (u.1 + 1, u.2) (hb _ (List.getElem_mem hi)) (by unfold szF at *; omega)
 refine ⟨u', fun rest X hP hN => ?_⟩
 have := z22ORound fs i _ u fs[i] hi (get_of hi) hl u' _ hin rest X hP hN
 rw [h1]
 exact this
theorem size22 (c : CodeR) (hl : c.funs.length < 4000000) (hb : ∀ f ∈ c.funs, f.blocks.length < 4000000) (hn : szC c < 1000000000) : Pure Pg 22 [codeD c] [.int .i64 (szC c : Int)] := by
 obtain ⟨u', h⟩ := z22Out c.funs (0, 0) hl hb hn
 exact qU { loops := qO 22 3 (qP h), hint := qT 22 [(10, hLenM Pg funD c.funs)] }
theorem z23Round (hk : k < bs.length) (hl : bs.length < 4000000) (hx : bs[k]? = some b) (hn : n + szB b < 1000000000) : RW 34 (lO 23 6) (zI fs i bs k n) (zE u) .normal (zI fs i bs (k + 1) (n + szB b)) (zE (u.1, u.2 + 1)) := qS { hint := qT 23 [(19, qL hk), (20, hIxM Pg blkD bs k b hx), (25, hLenM Pg instD b.phis), (28, hLenM Pg instD b.insts), (29, hAdd Pg b.phis.length b.insts.length (szB b) rfl (by omega)), (30, hAdd Pg n (szB b) (n + szB b) rfl (by omega)), (31, hSucc Pg k (by omega))] } 23 500000
theorem z23Stop : RW 34 (lO 23 6) (zI fs i bs bs.length n) (zE u) (.exit 2) (zO fs i n) (zE u) := qS { hint := qT 23 [(19, qG bs.length)] } 23 500000
theorem z23In (hl : bs.length < 4000000) (hn : n + (bs.map szB).sum < 1000000000) : ∃ u', RE 34 (.loop (lO 23 6)) (zI fs i bs 0 n) (zE u) (.exit 2) (zO fs i (n + (bs.map szB).sum)) (zE u') := by
 have h := lw_ver (P := Pg) (N := 34) (c := loopOf Pg 23 6) bs.length (fun k u rest => ⟨envOf (zI fs i bs k (n + ((bs.take k).map szB).sum)), ovl (zE u) rest⟩) (fun u rest => ⟨envOf (zO fs i (n + (bs.map szB).sum)), ovl (zE u) rest⟩) (e := .exit 2) (by simp)
  (fun k hk u => ⟨_, fun rest X hP hN => by
   have h1 := sum_take szB (get_of hk)
   have h2 := sum_le szB bs (k + 1)
   have := z23Round fs i bs k (n + ((bs.take k).map szB).sum) u bs[k] hk hl (get_of hk) (by omega) rest X hP hN
   rw [Nat.add_assoc, ← h1] at this
   exact this⟩)
  (fun u => ⟨u, fun rest X hP hN => by
   have := z23Stop fs i bs (n + (bs.map szB).sum) u rest X hP hN
   rw [List.take_length]
   exact this⟩) u
 exact h
theorem z23ORound (hi : i < fs.length) (hx : fs[i]? = some f) (hl : fs.length < 4000000) (u' : Nat × Nat) (n' : Nat)
    (hin : RE 34 (.loop (lO 23 6)) (zI fs i f.blocks 0 n) (zE (u.1 + 1, u.2)) (.exit 2) (zO fs i n') (zE u'))
    : RW 34 (lO 23 3) (zO fs i n) (zE u) .normal (zO fs (i + 1) n') (zE u') := qS { loops := qO 23 6 (qP hin), hint := qT 23 [(12, qL hi), (13, hIxM Pg funD fs i f hx), (17, hLenM Pg blkD f.blocks), (32, hSucc Pg i (by omega))] } 23 500000
theorem z23OStop : RW 34 (lO 23 3) (zO fs fs.length n) (zE u) (.exit 0) [(3, dN n)] (zE u) := qS { hint := qT 23 [(12, qG fs.length)] } 23 500000
theorem z23Out (hl : fs.length < 4000000) (hb : ∀ f ∈ fs, f.blocks.length < 4000000) (hn : (fs.map szF).sum < 1000000000) : ∃ u', RE 34 (.loop (lO 23 3)) (zO fs 0 0) (zE u) (.exit 0) [(3, dN (fs.map szF).sum)] (zE u') := by
 refine lw_ver (P := Pg) (N := 34) (c := loopOf Pg 23 3) fs.length (fun i u rest => ⟨envOf (zO fs i ((fs.take i).map szF).sum), ovl (zE u) rest⟩) (fun u rest => ⟨envOf [(3, dN (fs.map szF).sum)], ovl (zE u) rest⟩) (e := .exit 0) (by simp)
  (fun i hi u => ?_)
  (fun u => ⟨u, fun rest X hP hN => by
   have := z23OStop fs (fs.map szF).sum u rest X hP hN
   rw [List.take_length]
   exact this⟩) u
 have h1 := sum_take szF (get_of hi)
 have h2 := sum_le szF fs (i + 1)
 obtain ⟨u', hin⟩ := z23In fs i fs[i].blocks ((fs.take i).map szF).sum (u.1 + 1, u.2) (hb _ (List.getElem_mem hi)) (by unfold szF at *; omega)
 refine ⟨u', fun rest X hP hN => ?_⟩
 have := z23ORound fs i _ u fs[i] hi (get_of hi) hl u' _ hin rest X hP hN
 rw [h1]
 exact this
theorem size23 (c : CodeR) (hl : c.funs.length < 4000000) (hb : ∀ f ∈ c.funs, f.blocks.length < 4000000) (hn : szC c < 1000000000) : Pure Pg 23 [codeD c] [.int .i64 (szC c : Int)] := by
 obtain ⟨u', h⟩ := z23Out c.funs (0, 0) hl hb hn
 exact qU { loops := qO 23 3 (qP h), hint := qT 23 [(10, hLenM Pg funD c.funs)] }
end
end Go.Avm
namespace Go.Avm
open Go.Proofs
def hAppl (P : Program) {α : Type} (f : α → D) (l : List α) (c : Nat) (hc : ∀ x, (f x).cells.length = c) (h : l.length < 1000000000) : Hint P := .appl [] (l.map f) c ⟨by simp; omega, by
 rw [List.all_eq_true]
 intro y hy
 obtain ⟨x, _, rfl⟩ := List.mem_map.1 hy
 simp [hc]⟩
def intD (x : Int) : D := .int .i64 x
def cbL (l : List InstR) (vo i : Nat) : List (Nat × AV) := [(3, .vec 12 vo 6 ((l.take i).map instD)), (6, .d (instsD l)), (7, dN l.length), (8, dN i)]
def cbU (i : Nat) : Nat × Nat × Nat × Nat := (i, 2 * i, 2 * i, i)
def cbE (vo : Nat) (u : Nat × Nat × Nat × Nat) : List (Nat × Ent) := [(12, ⟨vo, none⟩), (500089, ⟨u.1, none⟩), (500152, ⟨u.2.1, none⟩), (500325, ⟨u.2.2.1, none⟩), (500556, ⟨u.2.2.2, none⟩)]
theorem take_snoc {α β : Type} (f : α → β) {l : List α} {i : Nat} {x : α} (h : l[i]? = some x) : (l.take (i + 1)).map f = (l.take i).map f ++ [f x] := by
 rw [List.take_add_one, h]
 simp
section
variable (l : List InstR) (i vo : Nat) (u : Nat × Nat × Nat × Nat) (x : InstR)
theorem cbRound (hi : i < l.length) (hl : l.length < 4000000) (hx : l[i]? = some x) (ha : x.args.length < 4000000) (hd : x.dbg.length < 4000000) : RW 28 (lO 56 3) (cbL l vo i) (cbE vo u) .normal (cbL l (vo + 1) (i + 1)) (cbE (vo + 1) (u.1 + 1, u.2.1 + 2, u.2.2.1 + 2, u.2.2.2 + 1)) := by
 intro rest X hP hN
 unfold cbL
 rw [take_snoc instD hx]
 exact seg okP named { hint := qT 56 [(9, qL hi), (10, hIxM Pg instD l i x hx), (15, hAppl Pg intD x.args 1 (fun _ => rfl) (by omega)), (20, hAppl Pg dbgD x.dbg 6 (fun _ => rfl) (by omega)), (25, .app ((l.take i).map instD) 1 (by simp; omega)), (26, hSucc Pg i (by omega))] } 2000 56 500000 28 (by kernel_rfl) X hP hN
theorem cbStop : RW 28 (lO 56 3) (cbL l vo l.length) (cbE vo u) (.exit 0) [(3, .vec 12 vo 6 (l.map instD))] (cbE vo u) := by
 intro rest X hP hN
 unfold cbL
 rw [List.take_length]
 exact seg okP named { hint := qT 56 [(9, qG l.length)] } 2000 56 500000 28 (by kernel_rfl) X hP hN
end
def InstR.small (x : InstR) : Prop := x.args.length < 4000000 ∧ x.dbg.length < 4000000
def smallIs (l : List InstR) : Prop := l.length < 4000000 ∧ ∀ x ∈ l, x.small
theorem twinsC (l : List InstR) (h : smallIs l) : Pure Pg 56 [instsD l] [instsD l] := by
 have h1 := fun rest X hP hN => (lw_count (X := X) (c := loopOf Pg 56 3) l.length (fun i => ⟨envOf (cbL l i i), ovl (cbE i (cbU i)) rest⟩) (e := .exit 0) (Z := ⟨envOf [(3, .vec 12 l.length 6 (l.map instD))], ovl (cbE l.length (cbU l.length)) rest⟩) (by simp)
  (fun i hi => cbRound l i i (cbU i) l[i] hi h.1 (get_of hi) (h.2 _ (List.getElem_mem hi)).1 (h.2 _ (List.getElem_mem hi)).2 rest X hP hN) (cbStop l l.length _ rest X hP hN)).aw
 exact qU { nils2 := fun f q => if f = 56 then (if q = 2 then [⟨0, 3, 12, 6, true, false⟩] else []) else [], loops := qO 56 3 (qP h1), hint := qT 56 [(7, hLenM Pg instD l)] }
def boxC (c : CodeR) : List AV := [.d (funsD c.funs), .d (stopsD c.stops), dI c.main]
def zeroC : List AV := [.nils, .nils, dI 0]
def ccS (c : CodeR) (i : Nat) : List (Nat × AV) := [(1, .ptr 1 1 0 0 1), (2, .ptr 69 1 0 0 1), (3, .ptr 338 1 0 0 1), (15, .d (stopsD c.stops)), (16, dN c.stops.length), (17, dN i)]
def ccSE (c : CodeR) (v i : Nat) (u : Nat × Nat) : List (Nat × Ent) := [(1, ⟨1, some (.arr 1 (boxC c))⟩), (69, ⟨1, some (.arr 1 zeroC)⟩), (338, ⟨1, some (.arr 1 [.nils, .vec 13 v 1 ((c.stops.take i).map spotsD), dI c.main])⟩), (13, ⟨v, none⟩), (500425, ⟨u.1, none⟩), (500629, ⟨u.2, none⟩)]
def ccSZ (c : CodeR) (v : Nat) (u : Nat × Nat) : List (Nat × Ent) := [(1, ⟨1, some (.arr 1 (boxC c))⟩), (69, ⟨1, some (.arr 1 zeroC)⟩), (338, ⟨1, some (.arr 1 [.nils, .vec 13 v 1 (c.stops.map spotsD), dI c.main])⟩), (13, ⟨v, none⟩), (500425, ⟨u.1, none⟩), (500629, ⟨u.2, none⟩)]
section
variable (c : CodeR) (i v : Nat) (u : Nat × Nat) (s : List (Int × Int))
theorem ccSRound (hi : i < c.stops.length) (hl : c.stops.length < 4000000) (hx : c.stops[i]? = some s) (ha : s.length < 4000000) : RW 67 (lO 17 3) (ccS c i) (ccSE c v i u) .normal (ccS c (i + 1)) (ccSE c (v + 1) (i + 1) (u.1 + 2, u.2 + 1)) := by
 intro rest X hP hN
 unfold ccSE
 rw [take_snoc spotsD hx]
 exact seg okP named { hint := qT 17 [(18, qL hi), (19, hIxM Pg spotsD c.stops i s hx), (25, hAppl Pg spotD s 2 (fun _ => rfl) (by omega)), (27, .app ((c.stops.take i).map spotsD) 1 (by simp; omega)), (29, hSucc Pg i (by omega))] } 2000 17 500000 67 (by kernel_rfl) X hP hN
theorem ccSStop : RW 67 (lO 17 3) (ccS c c.stops.length) (ccSE c v c.stops.length u) (.exit 0) [(1, .ptr 1 1 0 0 1), (2, .ptr 69 1 0 0 1), (3, .ptr 338 1 0 0 1)] (ccSZ c v u) := by
 intro rest X hP hN
 unfold ccSE
 rw [List.take_length]
 exact seg okP named { hint := qT 17 [(18, qG c.stops.length)] } 2000 17 500000 67 (by kernel_rfl) X hP hN
theorem ccSLoop (hl : c.stops.length < 4000000) (ha : ∀ s ∈ c.stops, s.length < 4000000) : ∃ u', RE 67 (.loop (lO 17 3)) (ccS c 0) (ccSE c 0 0 u) (.exit 0) [(1, .ptr 1 1 0 0 1), (2, .ptr 69 1 0 0 1), (3, .ptr 338 1 0 0 1)] (ccSZ c c.stops.length u') :=
 lw_ver (P := Pg) (N := 67) (c := loopOf Pg 17 3) c.stops.length (fun i u rest => ⟨envOf (ccS c i), ovl (ccSE c i i u) rest⟩) (fun u rest => ⟨envOf [(1, .ptr 1 1 0 0 1), (2, .ptr 69 1 0 0 1), (3, .ptr 338 1 0 0 1)], ovl (ccSZ c c.stops.length u) rest⟩) (e := .exit 0) (by simp)
  (fun i hi u => ⟨_, fun rest X hP hN => ccSRound c i i u c.stops[i] hi hl (get_of hi) (ha _ (List.getElem_mem hi)) rest X hP hN⟩)
  (fun u => ⟨u, fun rest X hP hN => ccSStop c c.stops.length u rest X hP hN⟩) u
end
def ptrs17 : List (Nat × AV) := [(2, .ptr 69 1 0 0 1), (3, .ptr 338 1 0 0 1)]
def ccHZ (c : CodeR) (vs vq : Nat) : List (Nat × Ent) := [(69, ⟨1, some (.arr 1 zeroC)⟩), (338, ⟨1, some (.arr 1 [.vec 15 vq 4 (c.funs.map funD), .vec 13 vs 1 (c.stops.map spotsD), dI c.main])⟩), (13, ⟨vs, none⟩), (15, ⟨vq, none⟩)]
def ccF (fs : List FunR) (i : Nat) : List (Nat × AV) := ptrs17 ++ [(31, .d (funsD fs)), (32, dN fs.length), (33, dN i)]
def ccB (fs : List FunR) (i : Nat) (f : FunR) (vf vb k : Nat) : List (Nat × AV) := ptrs17 ++ [(7, .ptr 500208 vf 0 0 1), (8, .vec 14 vb 6 ((f.blocks.take k).map blkD)), (31, .d (funsD fs)), (32, dN fs.length), (33, dN i), (38, .d (blksD f.blocks)), (39, dN f.blocks.length), (40, dN k)]
def ccB' (fs : List FunR) (i : Nat) (f : FunR) (vf vb : Nat) : List (Nat × AV) := ptrs17 ++ [(7, .ptr 500208 vf 0 0 1), (8, .vec 14 vb 6 (f.blocks.map blkD)), (31, .d (funsD fs)), (32, dN fs.length), (33, dN i)]
def ccH (c : CodeR) (vs vq i : Nat) : List (Nat × Ent) := [(69, ⟨1, some (.arr 1 zeroC)⟩), (338, ⟨1, some (.arr 1 [.vec 15 vq 4 ((c.funs.take i).map funD), .vec 13 vs 1 (c.stops.map spotsD), dI c.main])⟩), (13, ⟨vs, none⟩), (15, ⟨vq, none⟩)]
def ccBE (c : CodeR) (vs vq i : Nat) (f : FunR) (vf vb : Nat) (w : Nat × Nat) : List (Nat × Ent) := ccH c vs vq i ++ [(500208, ⟨vf, some (.arr 1 [dI f.params, dI f.vars, dI f.vals, .d (blksD f.blocks)])⟩), (14, ⟨vb, none⟩), (500211, ⟨w.1, none⟩), (501059, ⟨w.2, none⟩)]
section
variable (c : CodeR) (vs vq i : Nat) (f : FunR) (vf vb k : Nat) (w : Nat × Nat) (b : BlkR)
theorem ccBRound (hk : k < f.blocks.length) (hl : f.blocks.length < 4000000) (hx : f.blocks[k]? = some b) (hp : Pure Pg 56 [instsD b.phis] [instsD b.phis]) (hi : Pure Pg 56 [instsD b.insts] [instsD b.insts]) : RW 67 (lO 17 12) (ccB c.funs i f vf vb k) (ccBE c vs vq i f vf vb w) .normal (ccB c.funs i f vf (vb + 1) (k + 1)) (ccBE c vs vq i f vf (vb + 1) (w.1 + 1, w.2 + 1)) := by
 intro rest X hP hN
 unfold ccB
 rw [take_snoc blkD hx]
 exact seg okP named { hint := qT 17 [(41, qL hk), (42, hIxM Pg blkD f.blocks k b hx), (46, .call 56 _ _ hp), (49, .call 56 _ _ hi), (55, .app ((f.blocks.take k).map blkD) 1 (by simp; omega)), (56, hSucc Pg k (by omega))] } 2000 17 500000 67 (by kernel_rfl) X hP hN
theorem ccBStop : RW 67 (lO 17 12) (ccB c.funs i f vf vb f.blocks.length) (ccBE c vs vq i f vf vb w) (.exit 4) (ccB' c.funs i f vf vb) (ccBE c vs vq i f vf vb w) := by
 intro rest X hP hN
 unfold ccB
 rw [List.take_length]
 exact seg okP named { hint := qT 17 [(41, qG f.blocks.length)] } 2000 17 500000 67 (by kernel_rfl) X hP hN
theorem ccBLoop (hl : f.blocks.length < 4000000) (hs : ∀ b ∈ f.blocks, smallIs b.phis ∧ smallIs b.insts) : ∃ w', RE 67 (.loop (lO 17 12)) (ccB c.funs i f vf vb 0) (ccBE c vs vq i f vf vb w) (.exit 4) (ccB' c.funs i f vf (vb + f.blocks.length)) (ccBE c vs vq i f vf (vb + f.blocks.length) w') :=
 lw_ver (P := Pg) (N := 67) (c := loopOf Pg 17 12) f.blocks.length (fun k w rest => ⟨envOf (ccB c.funs i f vf (vb + k) k), ovl (ccBE c vs vq i f vf (vb + k) w) rest⟩) (fun w rest => ⟨envOf (ccB' c.funs i f vf (vb + f.blocks.length)), ovl (ccBE c vs vq i f vf (vb + f.blocks.length) w) rest⟩) (e := .exit 4) (by simp)
  (fun k hk w => ⟨_, fun rest X hP hN => ccBRound c vs vq i f vf (vb + k) k w f.blocks[k] hk hl (get_of hk) (twinsC _ (hs _ (List.getElem_mem hk)).1) (twinsC _ (hs _ (List.getElem_mem hk)).2) rest X hP hN⟩)
  (fun w => ⟨w, fun rest X hP hN => ccBStop c vs vq i f vf (vb + f.blocks.length) w rest X hP hN⟩) w
end
def ccFE (c : CodeR) (vs vq i : Nat) (u : Nat × Nat × Nat × Nat × Nat) : List (Nat × Ent) := ccH c vs vq i ++ [(500208, ⟨u.1, none⟩), (14, ⟨u.2.1, none⟩), (500211, ⟨u.2.2.1, none⟩), (501059, ⟨u.2.2.2.1, none⟩), (501134, ⟨u.2.2.2.2, none⟩)]
def ccFZ (c : CodeR) (vs vq : Nat) (u : Nat × Nat × Nat × Nat × Nat) : List (Nat × Ent) := ccHZ c vs vq ++ [(500208, ⟨u.1, none⟩), (14, ⟨u.2.1, none⟩), (500211, ⟨u.2.2.1, none⟩), (501059, ⟨u.2.2.2.1, none⟩), (501134, ⟨u.2.2.2.2, none⟩)]
section
variable (c : CodeR) (vs vq i : Nat) (f : FunR) (u : Nat × Nat × Nat × Nat × Nat) (w' : Nat × Nat)
theorem ccFRound (hi : i < c.funs.length) (hl : c.funs.length < 4000000) (hx : c.funs[i]? = some f)
    (h : RE 67 (.loop (lO 17 12)) (ccB c.funs i f (u.1 + 1) u.2.1 0) (ccBE c vs vq i f (u.1 + 1) u.2.1 (u.2.2.1, u.2.2.2.1)) (.exit 4) (ccB' c.funs i f (u.1 + 1) (u.2.1 + f.blocks.length)) (ccBE c vs vq i f (u.1 + 1) (u.2.1 + f.blocks.length) w'))
    : RW 67 (lO 17 8) (ccF c.funs i) (ccFE c vs vq i u) .normal (ccF c.funs (i + 1)) (ccFE c vs (vq + 1) (i + 1) (u.1 + 1, u.2.1 + f.blocks.length, w'.1, w'.2, u.2.2.2.2 + 1)) := by
 intro rest X hP hN
 unfold ccFE ccH
 rw [take_snoc funD hx]
 exact seg okP named { nils2 := fun f q => if f = 17 then (if q = 11 then [⟨0, 8, 14, 6, true, false⟩] else []) else [], loops := qO 17 12 (qP h), hint := qT 17 [(34, qL hi), (35, hIxM Pg funD c.funs i f hx), (39, hLenM Pg blkD f.blocks), (63, .app ((c.funs.take i).map funD) 1 (by simp; omega)), (65, hSucc Pg i (by omega))] } 2000 17 500000 67 (by kernel_rfl) X hP hN
theorem ccFStop : RW 67 (lO 17 8) (ccF c.funs c.funs.length) (ccFE c vs vq c.funs.length u) (.exit 2) ptrs17 (ccFZ c vs vq u) := by
 intro rest X hP hN
 unfold ccFE ccH
 rw [List.take_length]
 exact seg okP named { hint := qT 17 [(34, qG c.funs.length)] } 2000 17 500000 67 (by kernel_rfl) X hP hN
theorem ccFLoop (hl : c.funs.length < 4000000) (hs : ∀ f ∈ c.funs, f.blocks.length < 4000000 ∧ ∀ b ∈ f.blocks, smallIs b.phis ∧ smallIs b.insts) : ∃ u', RE 67 (.loop (lO 17 8)) (ccF c.funs 0) (ccFE c vs 0 0 u) (.exit 2) ptrs17 (ccFZ c vs c.funs.length u') :=
 lw_ver (P := Pg) (N := 67) (c := loopOf Pg 17 8) c.funs.length (fun i u rest => ⟨envOf (ccF c.funs i), ovl (ccFE c vs i i u) rest⟩) (fun u rest => ⟨envOf ptrs17, ovl (ccFZ c vs c.funs.length u) rest⟩) (e := .exit 2) (by simp)
  (fun i hi u => by
   have hf := hs _ (List.getElem_mem hi)
   obtain ⟨w', h⟩ := ccBLoop c vs i i c.funs[i] (u.1 + 1) u.2.1 (u.2.2.1, u.2.2.2.1) hf.1 hf.2
   exact ⟨(u.1 + 1, u.2.1 + c.funs[i].blocks.length, w'.1, w'.2, u.2.2.2.2 + 1), fun rest X hP hN => ccFRound c vs i i c.funs[i] u w' hi hl (get_of hi) h rest X hP hN⟩)
  (fun u => ⟨u, fun rest X hP hN => ccFStop c vs c.funs.length u rest X hP hN⟩) u
end
structure CodeR.Fine (c : CodeR) : Prop where
 funs : c.funs.length < 4000000
 stops : c.stops.length < 4000000
 stop : ∀ s ∈ c.stops, s.length < 4000000
 fn : ∀ f ∈ c.funs, f.blocks.length < 4000000 ∧ ∀ b ∈ f.blocks, smallIs b.phis ∧ smallIs b.insts
end Go.Avm
namespace Go.Avm
open Go.Proofs
theorem twinC17 (c : CodeR) (h : c.Fine) : Pure Pg 17 [codeD c] [codeD c] := by
 obtain ⟨u1, h1⟩ := ccSLoop c (0, 0) h.stops h.stop
 obtain ⟨u2, h2⟩ := ccFLoop c c.stops.length (0, 0, 0, 0, 0) h.funs h.fn
 exact qU { loops := fun f' q => if f' = 17 then (if q = 3 then qP h1 else if q = 8 then qP h2 else none) else none, nils2 := fun f q => if f = 17 then (if q = 2 then [⟨338, 1, 13, 1, false, false⟩] else if q = 7 then [⟨338, 0, 15, 4, false, false⟩] else []) else [], hint := qT 17 [(16, hLenM Pg spotsD c.stops), (32, hLenM Pg funD c.funs)] }
end Go.Avm
namespace Go.Avm
open Go.Proofs
def okR (n : Nat) (r : List Int) : Bool := r.all fun b => decide (0 ≤ b ∧ b < (n : Int))
def okG (g : List (List Int)) : Bool := g.all (okR g.length)
def ckL (g : List (List Int)) (r : List Int) (i k : Nat) : List (Nat × AV) := [(0, .d (rowsD g)), (10, .d (rowsD g)), (11, dN g.length), (12, dN i), (16, .d (rowD r)), (17, dN r.length), (18, dN k)]
def ckO (g : List (List Int)) (i : Nat) : List (Nat × AV) := [(0, .d (rowsD g)), (10, .d (rowsD g)), (11, dN g.length), (12, dN i)]
theorem first_bad {α : Type} (p : α → Bool) : ∀ l : List α, l.all p = true ∨ ∃ (j : Nat) (x : α), l[j]? = some x ∧ p x = false ∧ ∀ (i : Nat) (y : α), i < j → l[i]? = some y → p y = true
 | [] => .inl rfl
 | a :: r => by
  cases ha : p a with
  | false => exact .inr ⟨0, a, rfl, ha, fun i y h => absurd h (by omega)⟩
  | true =>
   rcases first_bad p r with h | ⟨j, x, h1, h2, h3⟩
   ·exact .inl (by simp [ha, h])
   ·refine .inr ⟨j + 1, x, by simpa using h1, h2, fun i y hi hy => ?_⟩
    cases i with
    | zero => simp at hy; subst hy; exact ha
    | succ i => exact h3 i y (by omega) (by simpa using hy)
section
variable (g : List (List Int)) (r : List Int) (i k : Nat) (x : Int)
theorem ck73Round (hk1 : k < r.length) (hl : r.length < 1000000000) (hx : r[k]? = some x) (h0 : decide (x < 0) = false) (h1 : decide ((g.length : Int) ≤ x) = false) : RW 32 (lO 73 7) (ckL g r i k) [] .normal (ckL g r i (k + 1)) [] := qS { hint := qT 73 [(19, qL hk1), (20, hIx Pg r k x hx), (23, hB Pg _ _ h0), (27, hLenR Pg g), (28, hB Pg _ _ h1), (30, hSucc Pg k (by omega))] } 73 500000
theorem ck73Stop : RW 32 (lO 73 7) (ckL g r i r.length) [] (.exit 2) (ckO g i) [] := qS { hint := qT 73 [(19, qG r.length)] } 73 500000
theorem ck73Low (hk1 : k < r.length) (hx : r[k]? = some x) (h0 : decide (x < 0) = true) : RW 32 (lO 73 7) (ckL g r i k) [] .ret [(2, dI 3)] [] := qS { hint := qT 73 [(19, qL hk1), (20, hIx Pg r k x hx), (23, hB Pg _ _ h0)] } 73 500000
theorem ck73High (hk1 : k < r.length) (hx : r[k]? = some x) (h0 : decide (x < 0) = false) (h1 : decide ((g.length : Int) ≤ x) = true) : RW 32 (lO 73 7) (ckL g r i k) [] .ret [(2, dI 3)] [] := qS { hint := qT 73 [(19, qL hk1), (20, hIx Pg r k x hx), (23, hB Pg _ _ h0), (27, hLenR Pg g), (28, hB Pg _ _ h1)] } 73 500000
theorem ck73Good (hl : r.length < 1000000000) (hr : okR g.length r = true) : RE 32 (.loop (lO 73 7)) (ckL g r i 0) [] (.exit 2) (ckO g i) [] := fun rest X hP hN =>
 (lw_count r.length (fun k => ⟨envOf (ckL g r i k), ovl [] rest⟩) (by simp) (fun k hk => by
  have := List.all_eq_true.1 hr _ (List.getElem_mem hk)
  simp only [decide_eq_true_eq] at this
  exact ck73Round g r i k r[k] hk hl (List.getElem?_eq_getElem hk) (dec_false (by omega)) (dec_false (by omega)) rest X hP hN) (ck73Stop g r i rest X hP hN)).aw
theorem ck73Bad (hl : r.length < 1000000000) (hr : okR g.length r = false) : RE 32 (.loop (lO 73 7)) (ckL g r i 0) [] .ret [(2, dI 3)] [] := by
 intro rest X hP hN
 rcases first_bad (fun b => decide (0 ≤ b ∧ b < (g.length : Int))) r with h | ⟨j, x, h1, h2, h3⟩
 ·unfold okR at hr; rw [h] at hr; simp at hr
 ·have hj : j < r.length := (List.getElem?_eq_some_iff.1 h1).1
  refine (lw_count j (fun k => ⟨envOf (ckL g r i k), ovl [] rest⟩) (by simp) (fun k hk => ?_) ?_).aw
  ·have := h3 k r[k] hk (List.getElem?_eq_getElem (by omega))
   simp only [decide_eq_true_eq] at this
   exact ck73Round g r i k r[k] (by omega) hl (List.getElem?_eq_getElem (by omega)) (dec_false (by omega)) (dec_false (by omega)) rest X hP hN
  ·simp only [decide_eq_false_iff_not] at h2
   by_cases hx : x < 0
   ·exact ck73Low g r i j x hj h1 (dec_true hx) rest X hP hN
   ·exact ck73High g r i j x hj h1 (dec_false hx) (dec_true (by omega)) rest X hP hN
theorem ck73Row (hi : i < g.length) (hg : g.length ≤ 60000) (hx : g[i]? = some r) (hl : r.length < 1000000000) (hr : okR g.length r = true) : RW 32 (lO 73 4) (ckO g i) [] .normal (ckO g (i + 1)) [] := qS { loops := qO 73 7 (qP (ck73Good g r i hl hr)), hint := qT 73 [(13, qL hi), (14, hIxR Pg g i r hx), (17, hLen Pg r), (31, hSucc Pg i (by omega))] } 73 500000
theorem ck73RowBad (hi : i < g.length) (hx : g[i]? = some r) (hl : r.length < 1000000000) (hr : okR g.length r = false) : RW 32 (lO 73 4) (ckO g i) [] .ret [(2, dI 3)] [] := qS { loops := qO 73 7 (qP (ck73Bad g r i hl hr)), hint := qT 73 [(13, qL hi), (14, hIxR Pg g i r hx), (17, hLen Pg r)] } 73 500000
theorem ck73RowStop : RW 32 (lO 73 4) (ckO g g.length) [] (.exit 0) [] [] := qS { hint := qT 73 [(13, qG g.length)] } 73 500000
section
variable (hg : g.length ≤ 60000) (hl : ∀ r ∈ g, r.length < 1000000000)
include hg hl
theorem ck73All (hr : okG g = true) : RE 32 (.loop (lO 73 4)) (ckO g 0) [] (.exit 0) [] [] := fun rest X hP hN =>
 (lw_count g.length (fun i => ⟨envOf (ckO g i), ovl [] rest⟩) (by simp) (fun i hi =>
  ck73Row g g[i] i hi hg (List.getElem?_eq_getElem hi) (hl _ (List.getElem_mem hi)) (List.all_eq_true.1 hr _ (List.getElem_mem hi)) rest X hP hN) (ck73RowStop g rest X hP hN)).aw
theorem ck73Not (hr : okG g = false) : RE 32 (.loop (lO 73 4)) (ckO g 0) [] .ret [(2, dI 3)] [] := by
 intro rest X hP hN
 rcases first_bad (okR g.length) g with h | ⟨j, r, h1, h2, h3⟩
 ·unfold okG at hr; rw [h] at hr; simp at hr
 ·have hj : j < g.length := (List.getElem?_eq_some_iff.1 h1).1
  have hlr : r.length < 1000000000 := hl _ (List.mem_of_getElem? h1)
  exact (lw_count j (fun i => ⟨envOf (ckO g i), ovl [] rest⟩) (by simp) (fun i hi =>
   ck73Row g g[i] i (by omega) hg (List.getElem?_eq_getElem (by omega)) (hl _ (List.getElem_mem (by omega))) (h3 i _ hi (List.getElem?_eq_getElem (by omega))) rest X hP hN) (ck73RowBad g r j hj h1 hlr h2 rest X hP hN)).aw
theorem check73 : Pure Pg 73 [rowsD g] [.int .i64 (if okG g = true then 0 else 3)] := by
 cases hr : okG g with
 | true => exact qU { loops := qO 73 4 (qP (ck73All g hg hl hr)), hint := qT 73 [(8, hLenR Pg g), (9, hB Pg (decide ((60000 : Int) < (g.length : Int))) false (dec_false (by omega))), (11, hLenR Pg g)] }
 | false => exact qU { loops := qO 73 4 (qP (ck73Not g hg hl hr)), hint := qT 73 [(8, hLenR Pg g), (9, hB Pg (decide ((60000 : Int) < (g.length : Int))) false (dec_false (by omega))), (11, hLenR Pg g)] }
end
theorem ck39Round (hk1 : k < r.length) (hl : r.length < 1000000000) (hx : r[k]? = some x) (h0 : decide (x < 0) = false) (h1 : decide ((g.length : Int) ≤ x) = false) : RW 32 (lO 39 7) (ckL g r i k) [] .normal (ckL g r i (k + 1)) [] := qS { hint := qT 39 [(19, qL hk1), (20, hIx Pg r k x hx), (23, hB Pg _ _ h0), (27, hLenR Pg g), (28, hB Pg _ _ h1), (30, hSucc Pg k (by omega))] } 39 500000
theorem ck39Stop : RW 32 (lO 39 7) (ckL g r i r.length) [] (.exit 2) (ckO g i) [] := qS { hint := qT 39 [(19, qG r.length)] } 39 500000
theorem ck39Low (hk1 : k < r.length) (hx : r[k]? = some x) (h0 : decide (x < 0) = true) : RW 32 (lO 39 7) (ckL g r i k) [] .ret [(2, dI 3)] [] := qS { hint := qT 39 [(19, qL hk1), (20, hIx Pg r k x hx), (23, hB Pg _ _ h0)] } 39 500000
theorem ck39High (hk1 : k < r.length) (hx : r[k]? = some x) (h0 : decide (x < 0) = false) (h1 : decide ((g.length : Int) ≤ x) = true) : RW 32 (lO 39 7) (ckL g r i k) [] .ret [(2, dI 3)] [] := qS { hint := qT 39 [(19, qL hk1), (20, hIx Pg r k x hx), (23, hB Pg _ _ h0), (27, hLenR Pg g), (28, hB Pg _ _ h1)] } 39 500000
theorem ck39Good (hl : r.length < 1000000000) (hr : okR g.length r = true) : RE 32 (.loop (lO 39 7)) (ckL g r i 0) [] (.exit 2) (ckO g i) [] := fun rest X hP hN =>
 (lw_count r.length (fun k => ⟨envOf (ckL g r i k), ovl [] rest⟩) (by simp) (fun k hk => by
  have := List.all_eq_true.1 hr _ (List.getElem_mem hk)
  simp only [decide_eq_true_eq] at this
  exact ck39Round g r i k r[k] hk hl (List.getElem?_eq_getElem hk) (dec_false (by omega)) (dec_false (by omega)) rest X hP hN) (ck39Stop g r i rest X hP hN)).aw
theorem ck39Bad (hl : r.length < 1000000000) (hr : okR g.length r = false) : RE 32 (.loop (lO 39 7)) (ckL g r i 0) [] .ret [(2, dI 3)] [] := by
 intro rest X hP hN
 rcases first_bad (fun b => decide (0 ≤ b ∧ b < (g.length : Int))) r with h | ⟨j, x, h1, h2, h3⟩
 ·unfold okR at hr; rw [h] at hr; simp at hr
 ·have hj : j < r.length := (List.getElem?_eq_some_iff.1 h1).1
  refine (lw_count j (fun k => ⟨envOf (ckL g r i k), ovl [] rest⟩) (by simp) (fun k hk => ?_) ?_).aw
  ·have := h3 k r[k] hk (List.getElem?_eq_getElem (by omega))
   simp only [decide_eq_true_eq] at this
   exact ck39Round g r i k r[k] (by omega) hl (List.getElem?_eq_getElem (by omega)) (dec_false (by omega)) (dec_false (by omega)) rest X hP hN
  ·simp only [decide_eq_false_iff_not] at h2
   by_cases hx : x < 0
   ·exact ck39Low g r i j x hj h1 (dec_true hx) rest X hP hN
   ·exact ck39High g r i j x hj h1 (dec_false hx) (dec_true (by omega)) rest X hP hN
theorem ck39Row (hi : i < g.length) (hg : g.length ≤ 60000) (hx : g[i]? = some r) (hl : r.length < 1000000000) (hr : okR g.length r = true) : RW 32 (lO 39 4) (ckO g i) [] .normal (ckO g (i + 1)) [] := qS { loops := qO 39 7 (qP (ck39Good g r i hl hr)), hint := qT 39 [(13, qL hi), (14, hIxR Pg g i r hx), (17, hLen Pg r), (31, hSucc Pg i (by omega))] } 39 500000
theorem ck39RowBad (hi : i < g.length) (hx : g[i]? = some r) (hl : r.length < 1000000000) (hr : okR g.length r = false) : RW 32 (lO 39 4) (ckO g i) [] .ret [(2, dI 3)] [] := qS { loops := qO 39 7 (qP (ck39Bad g r i hl hr)), hint := qT 39 [(13, qL hi), (14, hIxR Pg g i r hx), (17, hLen Pg r)] } 39 500000
theorem ck39RowStop : RW 32 (lO 39 4) (ckO g g.length) [] (.exit 0) [] [] := qS { hint := qT 39 [(13, qG g.length)] } 39 500000
section
variable (hg : g.length ≤ 60000) (hl : ∀ r ∈ g, r.length < 1000000000)
include hg hl
theorem ck39All (hr : okG g = true) : RE 32 (.loop (lO 39 4)) (ckO g 0) [] (.exit 0) [] [] := fun rest X hP hN =>
 (lw_count g.length (fun i => ⟨envOf (ckO g i), ovl [] rest⟩) (by simp) (fun i hi =>
  ck39Row g g[i] i hi hg (List.getElem?_eq_getElem hi) (hl _ (List.getElem_mem hi)) (List.all_eq_true.1 hr _ (List.getElem_mem hi)) rest X hP hN) (ck39RowStop g rest X hP hN)).aw
theorem ck39Not (hr : okG g = false) : RE 32 (.loop (lO 39 4)) (ckO g 0) [] .ret [(2, dI 3)] [] := by
 intro rest X hP hN
 rcases first_bad (okR g.length) g with h | ⟨j, r, h1, h2, h3⟩
 ·unfold okG at hr; rw [h] at hr; simp at hr
 ·have hj : j < g.length := (List.getElem?_eq_some_iff.1 h1).1
  have hlr : r.length < 1000000000 := hl _ (List.mem_of_getElem? h1)
  exact (lw_count j (fun i => ⟨envOf (ckO g i), ovl [] rest⟩) (by simp) (fun i hi =>
   ck39Row g g[i] i (by omega) hg (List.getElem?_eq_getElem (by omega)) (hl _ (List.getElem_mem (by omega))) (h3 i _ hi (List.getElem?_eq_getElem (by omega))) rest X hP hN) (ck39RowBad g r j hj h1 hlr h2 rest X hP hN)).aw
theorem check39 : Pure Pg 39 [rowsD g] [.int .i64 (if okG g = true then 0 else 3)] := by
 cases hr : okG g with
 | true => exact qU { loops := qO 39 4 (qP (ck39All g hg hl hr)), hint := qT 39 [(8, hLenR Pg g), (9, hB Pg (decide ((60000 : Int) < (g.length : Int))) false (dec_false (by omega))), (11, hLenR Pg g)] }
 | false => exact qU { loops := qO 39 4 (qP (ck39Not g hg hl hr)), hint := qT 39 [(8, hLenR Pg g), (9, hB Pg (decide ((60000 : Int) < (g.length : Int))) false (dec_false (by omega))), (11, hLenR Pg g)] }
end
end
end Go.Avm
namespace Go.Avm
open Go.Proofs
def szBk (b : BlkR) : Nat := szIs b.phis + szIs b.insts
def szFn (f : FunR) : Nat := f.blocks.length + (f.blocks.map szBk).sum
def fnOk (f : FunR) : Bool := decide (f.vals ≤ 2000) && decide (f.blocks.length ≤ 150)
def szAll (c : CodeR) : Nat := c.funs.length + c.stops.length + (c.stops.map List.length).sum + (c.funs.map szFn).sum
def few (c : CodeR) : Bool := c.funs.all fnOk && decide (szAll c ≤ 3000)
def fwS (c : CodeR) (i n : Nat) : List (Nat × AV) := [(1, .ptr 1 1 0 0 1), (3, dN n), (22, .d (stopsD c.stops)), (23, dN c.stops.length), (24, dN i)]
def fwF (fs : List FunR) (i n : Nat) : List (Nat × AV) := [(3, dN n), (34, .d (funsD fs)), (35, dN fs.length), (36, dN i)]
def fwB (fs : List FunR) (i : Nat) (bs : List BlkR) (k n : Nat) : List (Nat × AV) := fwF fs i n ++ [(55, .d (blksD bs)), (56, dN bs.length), (57, dN k)]
def fwL (fs : List FunR) (i : Nat) (bs : List BlkR) (k : Nat) (v : Nat) (p q : List InstR) (j n : Nat) : List (Nat × AV) := fwB fs i bs k n ++ [(65, .vec 500902 v 1 [instsD p, instsD q]), (66, dN 2), (67, dN j)]
def fwI (fs : List FunR) (i : Nat) (bs : List BlkR) (k : Nat) (v : Nat) (p q : List InstR) (j : Nat) (l : List InstR) (m n : Nat) : List (Nat × AV) := fwL fs i bs k v p q j n ++ [(71, .d (instsD l)), (72, dN l.length), (73, dN m)]
section
variable (c : CodeR) (fs : List FunR) (i : Nat) (bs : List BlkR) (k v : Nat) (p q : List InstR) (j : Nat) (l : List InstR) (m n u : Nat) (x : InstR) (s : List (Int × Int))
theorem fwSRound (hi : i < c.stops.length) (hl : c.stops.length < 4000000) (hx : c.stops[i]? = some s) (hn : n + s.length < 1000000000) : RW 93 (lO 16 3) (fwS c i n) [(1, ⟨1, some (.arr 1 (boxC c))⟩)] .normal (fwS c (i + 1) (n + s.length)) [(1, ⟨1, some (.arr 1 (boxC c))⟩)] := qS { hint := qT 16 [(25, qL hi), (26, hIxM Pg spotsD c.stops i s hx), (30, hLenM Pg spotD s), (31, hAdd Pg n s.length (n + s.length) rfl (by omega)), (32, hSucc Pg i (by omega))] } 16 500000
theorem fwSStop : RW 93 (lO 16 3) (fwS c c.stops.length n) [(1, ⟨1, some (.arr 1 (boxC c))⟩)] (.exit 0) [(1, .ptr 1 1 0 0 1), (3, dN n)] [(1, ⟨1, some (.arr 1 (boxC c))⟩)] := qS { hint := qT 16 [(25, qG c.stops.length)] } 16 500000
def fwIE (v u : Nat) : List (Nat × Ent) := [(500902, ⟨v, none⟩), (500292, ⟨u, none⟩)]
theorem fwIRound (hm : m < l.length) (hl : l.length < 4000000) (hx : l[m]? = some x) (hn : n + szD x < 1000000000) : RW 93 (lO 16 20) (fwI fs i bs k v p q j l m n) (fwIE v u) .normal (fwI fs i bs k v p q j l (m + 1) (n + szD x)) (fwIE v (u + 1)) := qS { hint := qT 16 [(74, qL hm), (75, hIxM Pg instD l m x hx), (80, hLenM Pg intD x.args), (81, hAdd Pg 1 x.args.length (1 + x.args.length) rfl (by unfold szD at hn; omega)), (84, hLenM Pg dbgD x.dbg), (85, hAdd Pg (1 + x.args.length) x.dbg.length (szD x) rfl (by unfold szD at hn ⊢; omega)), (86, hAdd Pg n (szD x) (n + szD x) rfl (by omega)), (87, hSucc Pg m (by omega))] } 16 500000
theorem fwIStop : RW 93 (lO 16 20) (fwI fs i bs k v p q j l l.length n) (fwIE v u) (.exit 8) (fwL fs i bs k v p q j n) (fwIE v u) := qS { hint := qT 16 [(74, qG l.length)] } 16 500000
theorem fwILoop (hl : l.length < 4000000) (hn : n + szIs l < 1000000000) : ∃ u', RE 93 (.loop (lO 16 20)) (fwI fs i bs k v p q j l 0 n) (fwIE v u) (.exit 8) (fwL fs i bs k v p q j (n + szIs l)) (fwIE v u') :=
 lw_ver (P := Pg) (N := 93) (c := loopOf Pg 16 20) l.length (fun m u rest => ⟨envOf (fwI fs i bs k v p q j l m (n + ((l.take m).map szD).sum)), ovl (fwIE v u) rest⟩) (fun u rest => ⟨envOf (fwL fs i bs k v p q j (n + szIs l)), ovl (fwIE v u) rest⟩) (e := .exit 8) (by simp)
  (fun m hm u => ⟨u + 1, fun rest X hP hN => by
   have h1 := sum_take szD (get_of hm)
   have h2 := sum_le szD l (m + 1)
   have := fwIRound fs i bs k v p q j l m (n + ((l.take m).map szD).sum) u l[m] hm hl (get_of hm) (by unfold szIs at hn; omega) rest X hP hN
   rw [Nat.add_assoc, ← h1] at this
   exact this⟩)
  (fun u => ⟨u, fun rest X hP hN => by
   have := fwIStop fs i bs k v p q j l (n + szIs l) u rest X hP hN
   rw [List.take_length]
   exact this⟩) u
theorem fwLRound (hj : j < 2) (hx : [p, q][j]? = some l) (n' u' : Nat) (h : RE 93 (.loop (lO 16 20)) (fwI fs i bs k v p q j l 0 n) (fwIE v u) (.exit 8) (fwL fs i bs k v p q j n') (fwIE v u')) : RW 93 (lO 16 17) (fwL fs i bs k v p q j n) (fwIE v u) .normal (fwL fs i bs k v p q (j + 1) n') (fwIE v u') := qS { loops := fun f' q' => if f' = 16 then (if q' = 20 then qP h else none) else none, hint := qT 16 [(68, qL hj), (69, hIxM Pg instsD [p, q] j l hx), (72, hLenM Pg instD l), (88, hSucc Pg j (by omega))] } 16 500000
theorem fwLStop : RW 93 (lO 16 17) (fwL fs i bs k v p q 2 n) (fwIE v u) (.exit 6) (fwB fs i bs k n) (fwIE v u) := qS { hint := fun _ _ => none } 16 500000
theorem fwLLoop (hp : p.length < 4000000) (hq : q.length < 4000000) (hn : n + (szIs p + szIs q) < 1000000000) : ∃ u', RE 93 (.loop (lO 16 17)) (fwL fs i bs k v p q 0 n) (fwIE v u) (.exit 6) (fwB fs i bs k (n + (szIs p + szIs q))) (fwIE v u') := by
 obtain ⟨u1, h1⟩ := fwILoop fs i bs k v p q 0 p n u hp (by omega)
 obtain ⟨u2, h2⟩ := fwILoop fs i bs k v p q 1 q (n + szIs p) u1 hq (by omega)
 rw [Nat.add_assoc] at h2
 exact ⟨u2, fun rest X hP hN => (lw_seg (fwLRound fs i bs k v p q 0 p n u (by omega) rfl _ u1 h1 rest X hP hN) (lw_seg (fwLRound fs i bs k v p q 1 q _ u1 (by omega) rfl _ u2 h2 rest X hP hN) (lw_end (fwLStop fs i bs k v p q _ u2 rest X hP hN) (by simp)))).aw⟩
variable (b : BlkR) (w : Nat × Nat × Nat)
def fwBE (w : Nat × Nat × Nat) : List (Nat × Ent) := [(500902, ⟨w.1, none⟩), (500292, ⟨w.2.1, none⟩), (500288, ⟨w.2.2, none⟩)]
theorem fwBRound (hk : k < bs.length) (hl : bs.length < 4000000) (hx : bs[k]? = some b) (n' u' : Nat) (h : RE 93 (.loop (lO 16 17)) (fwL fs i bs k (w.1 + 1) b.phis b.insts 0 n) (fwIE (w.1 + 1) w.2.1) (.exit 6) (fwB fs i bs k n') (fwIE (w.1 + 1) u')) : RW 93 (lO 16 14) (fwB fs i bs k n) (fwBE w) .normal (fwB fs i bs (k + 1) n') (fwBE (w.1 + 1, u', w.2.2 + 1)) := qS { loops := fun f' q' => if f' = 16 then (if q' = 17 then qP h else none) else none, hint := qT 16 [(58, qL hk), (59, hIxM Pg blkD bs k b hx), (89, hSucc Pg k (by omega))] } 16 500000
theorem fwBStop : RW 93 (lO 16 14) (fwB fs i bs bs.length n) (fwBE w) (.exit 4) (fwF fs i n) (fwBE w) := qS { hint := qT 16 [(58, qG bs.length)] } 16 500000
theorem fwBLoop (hl : bs.length < 4000000) (hs : ∀ b ∈ bs, b.phis.length < 4000000 ∧ b.insts.length < 4000000) (hn : n + (bs.map szBk).sum < 1000000000) : ∃ w', RE 93 (.loop (lO 16 14)) (fwB fs i bs 0 n) (fwBE w) (.exit 4) (fwF fs i (n + (bs.map szBk).sum)) (fwBE w') :=
 lw_ver (P := Pg) (N := 93) (c := loopOf Pg 16 14) bs.length (fun k w rest => ⟨envOf (fwB fs i bs k (n + ((bs.take k).map szBk).sum)), ovl (fwBE w) rest⟩) (fun w rest => ⟨envOf (fwF fs i (n + (bs.map szBk).sum)), ovl (fwBE w) rest⟩) (e := .exit 4) (by simp)
  (fun k hk w => by
   have h1 := sum_take szBk (get_of hk)
   have h2 := sum_le szBk bs (k + 1)
   have hb := hs _ (List.getElem_mem hk)
   obtain ⟨u', h⟩ := fwLLoop fs i bs k (w.1 + 1) bs[k].phis bs[k].insts (n + ((bs.take k).map szBk).sum) w.2.1 hb.1 hb.2 (by unfold szBk at *; omega)
   refine ⟨(w.1 + 1, u', w.2.2 + 1), fun rest X hP hN => ?_⟩
   have := fwBRound fs i bs k (n + ((bs.take k).map szBk).sum) bs[k] w hk hl (get_of hk) _ u' h rest X hP hN
   rw [Nat.add_assoc, show szIs bs[k].phis + szIs bs[k].insts = szBk bs[k] from rfl, ← h1] at this
   exact this)
  (fun w => ⟨w, fun rest X hP hN => by
   have := fwBStop fs i bs (n + (bs.map szBk).sum) w rest X hP hN
   rw [List.take_length]
   exact this⟩) w
def fwFE (z : Nat × Nat × Nat × Nat) : List (Nat × Ent) := [(500902, ⟨z.1, none⟩), (500292, ⟨z.2.1, none⟩), (500288, ⟨z.2.2.1, none⟩), (500286, ⟨z.2.2.2, none⟩)]
variable (f : FunR) (z : Nat × Nat × Nat × Nat)
theorem fwFBad1 (hi : i < fs.length) (hx : fs[i]? = some f) (h1 : decide (2000 < f.vals) = true) : RW 93 (lO 16 8) (fwF fs i n) (fwFE z) .ret [(2, dB false)] (fwFE (z.1, z.2.1, z.2.2.1, z.2.2.2 + 1)) := qS { hint := qT 16 [(37, qL hi), (38, hIxM Pg funD fs i f hx), (42, qB h1)] } 16 500000
theorem fwFBad2 (hi : i < fs.length) (hx : fs[i]? = some f) (h1 : decide (2000 < f.vals) = false) (h2 : decide ((150 : Int) < f.blocks.length) = true) : RW 93 (lO 16 8) (fwF fs i n) (fwFE z) .ret [(2, dB false)] (fwFE (z.1, z.2.1, z.2.2.1, z.2.2.2 + 1)) := qS { hint := qT 16 [(37, qL hi), (38, hIxM Pg funD fs i f hx), (42, qB h1), (46, hLenM Pg blkD f.blocks), (47, qB h2)] } 16 500000
theorem fwFRound (hi : i < fs.length) (hl : fs.length < 4000000) (hx : fs[i]? = some f) (h1 : decide (2000 < f.vals) = false) (h2 : decide ((150 : Int) < f.blocks.length) = false) (hn : n + f.blocks.length < 1000000000) (n' : Nat) (w' : Nat × Nat × Nat)
    (h : RE 93 (.loop (lO 16 14)) (fwB fs i f.blocks 0 (n + f.blocks.length)) (fwBE (z.1, z.2.1, z.2.2.1)) (.exit 4) (fwF fs i n') (fwBE w')) : RW 93 (lO 16 8) (fwF fs i n) (fwFE z) .normal (fwF fs (i + 1) n') (fwFE (w'.1, w'.2.1, w'.2.2, z.2.2.2 + 1)) := qS { loops := fun f' q' => if f' = 16 then (if q' = 14 then qP h else none) else none, hint := qT 16 [(37, qL hi), (38, hIxM Pg funD fs i f hx), (42, qB h1), (46, hLenM Pg blkD f.blocks), (47, qB h2), (52, hLenM Pg blkD f.blocks), (53, hAdd Pg n f.blocks.length (n + f.blocks.length) rfl (by omega)), (56, hLenM Pg blkD f.blocks), (90, hSucc Pg i (by omega))] } 16 500000
theorem fwFStop : RW 93 (lO 16 8) (fwF fs fs.length n) (fwFE z) (.exit 2) [(3, dN n)] (fwFE z) := qS { hint := qT 16 [(37, qG fs.length)] } 16 500000
theorem fnOk_true {f : FunR} (h : fnOk f = true) : decide (2000 < f.vals) = false ∧ decide ((150 : Int) < f.blocks.length) = false := by
 simp only [fnOk, Bool.and_eq_true, decide_eq_true_eq] at h
 exact ⟨dec_false (by omega), dec_false (by omega)⟩
def fineF (f : FunR) : Prop := f.blocks.length < 4000000 ∧ ∀ b ∈ f.blocks, smallIs b.phis ∧ smallIs b.insts
theorem fwFStep (hl : fs.length < 4000000) (hs : ∀ f ∈ fs, fineF f) (hn : n + (fs.map szFn).sum < 1000000000) (i : Nat) (hi : i < fs.length) (hok : fnOk fs[i] = true) (z : Nat × Nat × Nat × Nat) : ∃ z', RW 93 (lO 16 8) (fwF fs i (n + ((fs.take i).map szFn).sum)) (fwFE z) .normal (fwF fs (i + 1) (n + ((fs.take (i + 1)).map szFn).sum)) (fwFE z') := by
 have h1 := sum_take szFn (get_of hi)
 have h2 := sum_le szFn fs (i + 1)
 obtain ⟨hb, hq⟩ := hs _ (List.getElem_mem hi)
 have hsz : szFn fs[i] = fs[i].blocks.length + (fs[i].blocks.map szBk).sum := rfl
 obtain ⟨w', h⟩ := fwBLoop fs i fs[i].blocks (n + ((fs.take i).map szFn).sum + fs[i].blocks.length) (z.1, z.2.1, z.2.2.1) hb (fun b hb => ⟨(hq b hb).1.1, (hq b hb).2.1⟩) (by omega)
 refine ⟨(w'.1, w'.2.1, w'.2.2, z.2.2.2 + 1), fun rest X hP hN => ?_⟩
 have := fwFRound fs i _ fs[i] z hi hl (get_of hi) (fnOk_true hok).1 (fnOk_true hok).2 (by omega) _ w' h rest X hP hN
 rw [show n + ((fs.take (i + 1)).map szFn).sum = n + ((fs.take i).map szFn).sum + fs[i].blocks.length + (fs[i].blocks.map szBk).sum by omega]
 exact this
theorem fwFGood (hl : fs.length < 4000000) (hs : ∀ f ∈ fs, fineF f) (hn : n + (fs.map szFn).sum < 1000000000) (hok : fs.all fnOk = true) : ∃ z', RE 93 (.loop (lO 16 8)) (fwF fs 0 n) (fwFE z) (.exit 2) [(3, dN (n + (fs.map szFn).sum))] (fwFE z') :=
 lw_ver (P := Pg) (N := 93) (c := loopOf Pg 16 8) fs.length (fun i z rest => ⟨envOf (fwF fs i (n + ((fs.take i).map szFn).sum)), ovl (fwFE z) rest⟩) (fun z rest => ⟨envOf [(3, dN (n + (fs.map szFn).sum))], ovl (fwFE z) rest⟩) (e := .exit 2) (by simp)
  (fun i hi z => fwFStep fs n hl hs hn i hi (List.all_eq_true.1 hok _ (List.getElem_mem hi)) z)
  (fun z => ⟨z, fun rest X hP hN => by
   have := fwFStop fs (n + (fs.map szFn).sum) z rest X hP hN
   rw [List.take_length]
   exact this⟩) z
theorem fwFBad (hl : fs.length < 4000000) (hs : ∀ f ∈ fs, fineF f) (hn : n + (fs.map szFn).sum < 1000000000) (hok : fs.all fnOk = false) : ∃ z', RE 93 (.loop (lO 16 8)) (fwF fs 0 n) (fwFE z) .ret [(2, dB false)] (fwFE z') := by
 rcases first_bad fnOk fs with h | ⟨j, f, h1, h2, h3⟩
 ·rw [h] at hok; cases hok
 ·have hj : j < fs.length := (List.getElem?_eq_some_iff.1 h1).1
  refine lw_ver (P := Pg) (N := 93) (c := loopOf Pg 16 8) j (fun i z rest => ⟨envOf (fwF fs i (n + ((fs.take i).map szFn).sum)), ovl (fwFE z) rest⟩) (fun z rest => ⟨envOf [(2, dB false)], ovl (fwFE z) rest⟩) (e := .ret) (by simp)
   (fun i hi z => fwFStep fs n hl hs hn i (by omega) (h3 i _ hi (get_of (by omega))) z) (fun z => ⟨(z.1, z.2.1, z.2.2.1, z.2.2.2 + 1), fun rest X hP hN => ?_⟩) z
  by_cases hv : 2000 < f.vals
  ·exact fwFBad1 fs j _ f z hj h1 (dec_true hv) rest X hP hN
  ·refine fwFBad2 fs j _ f z hj h1 (dec_false hv) (dec_true ?_) rest X hP hN
   simp only [fnOk, Bool.and_eq_false_iff, decide_eq_false_iff_not] at h2
   omega
theorem fwSLoop (c : CodeR) (n : Nat) (hl : c.stops.length < 4000000) (hn : n + (c.stops.map List.length).sum < 1000000000) : RE 93 (.loop (lO 16 3)) (fwS c 0 n) [(1, ⟨1, some (.arr 1 (boxC c))⟩)] (.exit 0) [(1, .ptr 1 1 0 0 1), (3, dN (n + (c.stops.map List.length).sum))] [(1, ⟨1, some (.arr 1 (boxC c))⟩)] := by
 intro rest X hP hN
 have h := (lw_count (X := X) (c := loopOf Pg 16 3) c.stops.length (fun i => ⟨envOf (fwS c i (n + ((c.stops.take i).map List.length).sum)), ovl [(1, ⟨1, some (.arr 1 (boxC c))⟩)] rest⟩) (e := .exit 0) (Z := ⟨envOf [(1, .ptr 1 1 0 0 1), (3, dN (n + (c.stops.map List.length).sum))], ovl [(1, ⟨1, some (.arr 1 (boxC c))⟩)] rest⟩) (by simp)
  (fun i hi => by
   have h1 := sum_take List.length (get_of hi)
   have h2 := sum_le List.length c.stops (i + 1)
   have := fwSRound c i (n + ((c.stops.take i).map List.length).sum) c.stops[i] hi hl (get_of hi) (by omega) rest X hP hN
   rw [Nat.add_assoc, ← h1] at this
   exact this) (by
   have := fwSStop c (n + (c.stops.map List.length).sum) rest X hP hN
   rw [List.take_length]
   exact this)).aw
 exact h
end
theorem fewC (c : CodeR) (h : c.Fine) (hn : szAll c < 1000000000) : Pure Pg 16 [codeD c] [.bool (few c)] := by
 have hS := fun rest X hP hN => fwSLoop c (c.funs.length + c.stops.length) h.stops (by unfold szAll at hn; omega) rest X hP hN
 have hF : ∀ f ∈ c.funs, fineF f := h.fn
 have e : c.funs.length + c.stops.length + (c.stops.map List.length).sum + (c.funs.map szFn).sum = szAll c := rfl
 cases hok : c.funs.all fnOk with
 | false =>
  obtain ⟨z', hz⟩ := fwFBad c.funs (c.funs.length + c.stops.length + (c.stops.map List.length).sum) (0, 0, 0, 0) h.funs hF (by omega) hok
  have hr : few c = false := by simp [few, hok]
  rw [hr]
  exact qU { loops := fun f' q => if f' = 16 then (if q = 3 then qP hS else if q = 8 then qP hz else none) else none, hint := qT 16 [(16, hLenM Pg funD c.funs), (19, hLenM Pg spotsD c.stops), (20, hAdd Pg c.funs.length c.stops.length _ rfl (by have := h.funs; have := h.stops; omega)), (23, hLenM Pg spotsD c.stops), (35, hLenM Pg funD c.funs)] }
 | true =>
  obtain ⟨z', hz⟩ := fwFGood c.funs (c.funs.length + c.stops.length + (c.stops.map List.length).sum) (0, 0, 0, 0) h.funs hF (by omega) hok
  rw [e] at hz
  have hr : few c = decide ((szAll c : Int) ≤ 3000) := by
   simp only [few, hok, Bool.true_and, decide_eq_decide]
   omega
  rw [hr]
  exact qU { loops := fun f' q => if f' = 16 then (if q = 3 then qP hS else if q = 8 then qP hz else none) else none, hint := qT 16 [(16, hLenM Pg funD c.funs), (19, hLenM Pg spotsD c.stops), (20, hAdd Pg c.funs.length c.stops.length _ rfl (by have := h.funs; have := h.stops; omega)), (23, hLenM Pg spotsD c.stops), (35, hLenM Pg funD c.funs)] }
end Go.Avm
namespace Go.Avm
open Go.Proofs
def hSelf (P : Program) (a : Int) : Hint P := hNeq P a a false (by simp)
def saO (l : List InstR) (i : Nat) : List (Nat × AV) := [(0, .d (instsD l)), (1, .d (instsD l)), (15, dN l.length), (16, dN i)]
def saI (l : List InstR) (i : Nat) (x : InstR) (v w m : Nat) : List (Nat × AV) := saO l i ++ [(6, .ptr 500985 v 0 0 1), (7, .ptr 501075 w 0 0 1), (72, dN x.dbg.length), (73, dN m)]
def cellsI (x : InstR) : List AV := [.d (.int .u8 x.op), dI x.dst, .d (rowD x.args), dI x.imm, dI x.site, .d (dbgsD x.dbg)]
def saIE (x : InstR) (v w : Nat) : List (Nat × Ent) := [(500985, ⟨v, some (.arr 1 (cellsI x))⟩), (501075, ⟨w, some (.arr 1 (cellsI x))⟩)]
section
variable (l : List InstR) (i : Nat) (x : InstR) (v w m : Nat) (d : DbgR)
theorem saIRound (hm : m < x.dbg.length) (hl : x.dbg.length < 4000000) (hx : x.dbg[m]? = some d) : RW 89 (lO 61 10) (saI l i x v w m) (saIE x v w) .normal (saI l i x v w (m + 1)) (saIE x v w) := qS { hint := qT 61 [(74, qL hm), (79, hIxM Pg dbgD x.dbg m d hx), (84, hIxM Pg dbgD x.dbg m d hx), (86, hB Pg (!(d.depth == d.depth && (d.var == d.var && (d.kind == d.kind && (d.arg == d.arg && (d.a == d.a && (d.b == d.b && true))))))) false (by simp)), (87, hSucc Pg m (by omega))] } 61 500000
theorem saIStop : RW 89 (lO 61 10) (saI l i x v w x.dbg.length) (saIE x v w) (.exit 2) (saO l i) (saIE x v w) := qS { hint := qT 61 [(74, qG x.dbg.length)] } 61 500000
theorem saILoop (hl : x.dbg.length < 4000000) : RE 89 (.loop (lO 61 10)) (saI l i x v w 0) (saIE x v w) (.exit 2) (saO l i) (saIE x v w) := fun rest X hP hN =>
 (lw_count x.dbg.length (fun m => ⟨envOf (saI l i x v w m), ovl (saIE x v w) rest⟩) (by simp) (fun m hm => saIRound l i x v w m x.dbg[m] hm hl (get_of hm) rest X hP hN) (saIStop l i x v w rest X hP hN)).aw
def saE (v w : Nat) : List (Nat × Ent) := [(500985, ⟨v, none⟩), (501075, ⟨w, none⟩)]
theorem saORound (hi : i < l.length) (hl : l.length < 4000000) (hx : l[i]? = some x) (hd : x.dbg.length < 4000000) (hs : Pure Pg 41 [rowD x.args, rowD x.args] [.bool true]) : RW 89 (lO 61 4) (saO l i) (saE v w) .normal (saO l (i + 1)) (saE (v + 1) (w + 1)) := qS { loops := fun f' q => if f' = 61 then (if q = 10 then qP (saILoop l i x (v + 1) (w + 1) hd) else none) else none, hint := qT 61 [(17, qL hi), (21, hIxM Pg instD l i x hx), (25, hIxM Pg instD l i x hx), (31, hSelf Pg x.op), (37, hSelf Pg x.dst), (44, hSelf Pg x.imm), (51, hSelf Pg x.site), (58, .call 41 _ _ hs), (64, hLenM Pg dbgD x.dbg), (67, hLenM Pg dbgD x.dbg), (68, hNeq Pg (x.dbg.length : Int) x.dbg.length false (by simp)), (72, hLenM Pg dbgD x.dbg), (88, hSucc Pg i (by omega))] } 61 500000
theorem saOStop : RW 89 (lO 61 4) (saO l l.length) (saE v w) (.exit 0) [] (saE v w) := qS { hint := qT 61 [(17, qG l.length)] } 61 500000
end
theorem same61 (l : List InstR) (h : smallIs l) : Pure Pg 61 [instsD l, instsD l] [.bool true] := by
 have hl := fun rest X hP hN => (lw_count (X := X) (c := loopOf Pg 61 4) l.length (fun i => ⟨envOf (saO l i), ovl (saE i i) rest⟩) (e := .exit 0) (Z := ⟨envOf [], ovl (saE l.length l.length) rest⟩) (by simp)
  (fun i hi => saORound l i l[i] i i hi h.1 (get_of hi) (h.2 _ (List.getElem_mem hi)).2 (sameC _ (by have := (h.2 _ (List.getElem_mem hi)).1; omega)) rest X hP hN) (saOStop l l.length l.length rest X hP hN)).aw
 exact qU { loops := qO 61 4 (qP hl), hint := qT 61 [(10, hLenM Pg instD l), (12, hLenM Pg instD l), (13, hNeq Pg (l.length : Int) l.length false (by simp)), (15, hLenM Pg instD l)] }
def boxes (c : CodeR) : List (Nat × Ent) := [(2, ⟨1, some (.arr 1 (boxC c))⟩), (190, ⟨1, some (.arr 1 (boxC c))⟩)]
def pt24 : List (Nat × AV) := [(2, .ptr 2 1 0 0 1), (3, .ptr 190 1 0 0 1)]
def sbO (c : CodeR) (i : Nat) : List (Nat × AV) := pt24 ++ [(38, dN c.stops.length), (39, dN i)]
def sbI (c : CodeR) (i n m : Nat) : List (Nat × AV) := sbO c i ++ [(5, dN i), (60, dN n), (61, dN m)]
section
variable (c : CodeR) (i m : Nat) (s : List (Int × Int)) (x : Int × Int)
theorem sbIRound (hi : c.stops[i]? = some s) (hm : m < s.length) (hl : s.length < 4000000) (hx : s[m]? = some x) : RW 187 (lO 24 9) (sbI c i s.length m) (boxes c) .normal (sbI c i s.length (m + 1)) (boxes c) := qS { hint := qT 24 [(62, qL hm), (67, hIxM Pg spotsD c.stops i s hi), (70, hIxM Pg spotD s m x hx), (75, hIxM Pg spotsD c.stops i s hi), (78, hIxM Pg spotD s m x hx), (80, hB Pg (!(x.1 == x.1 && (x.2 == x.2 && true))) false (by simp)), (81, hSucc Pg m (by omega))] } 24 500000
theorem sbIStop (n : Nat) : RW 187 (lO 24 9) (sbI c i n n) (boxes c) (.exit 2) (sbO c i) (boxes c) := qS { hint := qT 24 [(62, qG n)] } 24 500000
theorem sbILoop (hi : c.stops[i]? = some s) (hl : s.length < 4000000) : RE 187 (.loop (lO 24 9)) (sbI c i s.length 0) (boxes c) (.exit 2) (sbO c i) (boxes c) := fun rest X hP hN =>
 (lw_count s.length (fun m => ⟨envOf (sbI c i s.length m), ovl (boxes c) rest⟩) (by simp) (fun m hm => sbIRound c i m s s[m] hi hm hl (get_of hm) rest X hP hN) (sbIStop c i s.length rest X hP hN)).aw
theorem sbORound (hi : i < c.stops.length) (hl : c.stops.length < 4000000) (hx : c.stops[i]? = some s) (hs : s.length < 4000000) : RW 187 (lO 24 4) (sbO c i) (boxes c) .normal (sbO c (i + 1)) (boxes c) := qS { loops := qO 24 9 (qP (sbILoop c i s hx hs)), hint := qT 24 [(40, qL hi), (45, hIxM Pg spotsD c.stops i s hx), (47, hLenM Pg spotD s), (51, hIxM Pg spotsD c.stops i s hx), (53, hLenM Pg spotD s), (54, hNeq Pg (s.length : Int) s.length false (by simp)), (58, hIxM Pg spotsD c.stops i s hx), (60, hLenM Pg spotD s), (82, hSucc Pg i (by omega))] } 24 500000
theorem sbOStop : RW 187 (lO 24 4) (sbO c c.stops.length) (boxes c) (.exit 0) pt24 (boxes c) := qS { hint := qT 24 [(40, qG c.stops.length)] } 24 500000
theorem sbOLoop (hl : c.stops.length < 4000000) (hs : ∀ s ∈ c.stops, s.length < 4000000) : RE 187 (.loop (lO 24 4)) (sbO c 0) (boxes c) (.exit 0) pt24 (boxes c) := fun rest X hP hN =>
 (lw_count c.stops.length (fun i => ⟨envOf (sbO c i), ovl (boxes c) rest⟩) (by simp) (fun i hi => sbORound c i c.stops[i] hi hl (get_of hi) (hs _ (List.getElem_mem hi)) rest X hP hN) (sbOStop c rest X hP hN)).aw
def cellsF (f : FunR) : List AV := [dI f.params, dI f.vars, dI f.vals, .d (blksD f.blocks)]
def scO (c : CodeR) (i : Nat) : List (Nat × AV) := pt24 ++ [(85, dN c.funs.length), (86, dN i)]
def scI (c : CodeR) (i : Nat) (f : FunR) (v w k : Nat) : List (Nat × AV) := scO c i ++ [(8, .ptr 502439 v 0 0 1), (9, .ptr 502627 w 0 0 1), (129, dN f.blocks.length), (130, dN k)]
def scIE (c : CodeR) (f : FunR) (v w : Nat) (z : Nat × Nat) : List (Nat × Ent) := boxes c ++ [(502439, ⟨v, some (.arr 1 (cellsF f))⟩), (502627, ⟨w, some (.arr 1 (cellsF f))⟩), (502442, ⟨z.1, none⟩), (502630, ⟨z.2, none⟩)]
variable (f : FunR) (v w k : Nat) (z : Nat × Nat) (b : BlkR)
theorem scIRound (hk : k < f.blocks.length) (hl : f.blocks.length < 4000000) (hx : f.blocks[k]? = some b) (hp : Pure Pg 61 [instsD b.phis, instsD b.phis] [.bool true]) (hq : Pure Pg 61 [instsD b.insts, instsD b.insts] [.bool true]) : RW 187 (lO 24 22) (scI c i f v w k) (scIE c f v w z) .normal (scI c i f v w (k + 1)) (scIE c f v w (z.1 + 1, z.2 + 1)) := qS { hint := qT 24 [(131, qL hk), (136, hIxM Pg blkD f.blocks k b hx), (141, hIxM Pg blkD f.blocks k b hx), (147, hSelf Pg b.fin), (153, hSelf Pg b.arg), (160, hSelf Pg b.to), (167, hSelf Pg b.els), (174, .call 61 _ _ hp), (182, .call 61 _ _ hq), (185, hSucc Pg k (by omega))] } 24 500000
theorem scIStop : RW 187 (lO 24 22) (scI c i f v w f.blocks.length) (scIE c f v w z) (.exit 6) (scO c i) (scIE c f v w z) := qS { hint := qT 24 [(131, qG f.blocks.length)] } 24 500000
theorem scILoop (hl : f.blocks.length < 4000000) (hs : ∀ b ∈ f.blocks, smallIs b.phis ∧ smallIs b.insts) : ∃ z', RE 187 (.loop (lO 24 22)) (scI c i f v w 0) (scIE c f v w z) (.exit 6) (scO c i) (scIE c f v w z') :=
 lw_ver (P := Pg) (N := 187) (c := loopOf Pg 24 22) f.blocks.length (fun k z rest => ⟨envOf (scI c i f v w k), ovl (scIE c f v w z) rest⟩) (fun z rest => ⟨envOf (scO c i), ovl (scIE c f v w z) rest⟩) (e := .exit 6) (by simp)
  (fun k hk z => ⟨(z.1 + 1, z.2 + 1), fun rest X hP hN => scIRound c i f v w k z f.blocks[k] hk hl (get_of hk) (same61 _ (hs _ (List.getElem_mem hk)).1) (same61 _ (hs _ (List.getElem_mem hk)).2) rest X hP hN⟩)
  (fun z => ⟨z, fun rest X hP hN => scIStop c i f v w z rest X hP hN⟩) z
def scE (c : CodeR) (u : Nat × Nat × Nat × Nat) : List (Nat × Ent) := boxes c ++ [(502439, ⟨u.1, none⟩), (502627, ⟨u.2.1, none⟩), (502442, ⟨u.2.2.1, none⟩), (502630, ⟨u.2.2.2, none⟩)]
variable (u : Nat × Nat × Nat × Nat) (z' : Nat × Nat)
theorem scORound (hi : i < c.funs.length) (hl : c.funs.length < 4000000) (hx : c.funs[i]? = some f) (h : RE 187 (.loop (lO 24 22)) (scI c i f (u.1 + 1) (u.2.1 + 1) 0) (scIE c f (u.1 + 1) (u.2.1 + 1) u.2.2) (.exit 6) (scO c i) (scIE c f (u.1 + 1) (u.2.1 + 1) z')) : RW 187 (lO 24 16) (scO c i) (scE c u) .normal (scO c (i + 1)) (scE c (u.1 + 1, u.2.1 + 1, z')) := qS { loops := qO 24 22 (qP h), hint := qT 24 [(87, qL hi), (92, hIxM Pg funD c.funs i f hx), (97, hIxM Pg funD c.funs i f hx), (103, hSelf Pg f.params), (109, hSelf Pg f.vars), (116, hSelf Pg f.vals), (121, hLenM Pg blkD f.blocks), (124, hLenM Pg blkD f.blocks), (125, hNeq Pg (f.blocks.length : Int) f.blocks.length false (by simp)), (129, hLenM Pg blkD f.blocks), (186, hSucc Pg i (by omega))] } 24 500000
theorem scOStop : RW 187 (lO 24 16) (scO c c.funs.length) (scE c u) (.exit 4) [] (scE c u) := qS { hint := qT 24 [(87, qG c.funs.length)] } 24 500000
theorem scOLoop (hl : c.funs.length < 4000000) (hs : ∀ f ∈ c.funs, fineF f) : ∃ u', RE 187 (.loop (lO 24 16)) (scO c 0) (scE c u) (.exit 4) [] (scE c u') :=
 lw_ver (P := Pg) (N := 187) (c := loopOf Pg 24 16) c.funs.length (fun i u rest => ⟨envOf (scO c i), ovl (scE c u) rest⟩) (fun u rest => ⟨envOf [], ovl (scE c u) rest⟩) (e := .exit 4) (by simp)
  (fun i hi u => by
   obtain ⟨h1, h2⟩ := hs _ (List.getElem_mem hi)
   obtain ⟨z', h⟩ := scILoop c i c.funs[i] (u.1 + 1) (u.2.1 + 1) u.2.2 h1 h2
   exact ⟨(u.1 + 1, u.2.1 + 1, z'), fun rest X hP hN => scORound c i c.funs[i] u z' hi hl (get_of hi) h rest X hP hN⟩)
  (fun u => ⟨u, fun rest X hP hN => scOStop c u rest X hP hN⟩) u
end
theorem same24 (c : CodeR) (h : c.Fine) : Pure Pg 24 [codeD c, codeD c] [.bool true] := by
 obtain ⟨u', hu⟩ := scOLoop c (0, 0, 0, 0) h.funs h.fn
 exact qU { loops := fun f' q => if f' = 24 then (if q = 4 then qP (sbOLoop c h.stops h.stop) else if q = 16 then qP hu else none) else none, hint := qT 24 [(17, hSelf Pg c.main), (21, hLenM Pg funD c.funs), (24, hLenM Pg funD c.funs), (25, hNeq Pg (c.funs.length : Int) c.funs.length false (by simp)), (30, hLenM Pg spotsD c.stops), (33, hLenM Pg spotsD c.stops), (34, hNeq Pg (c.stops.length : Int) c.stops.length false (by simp)), (38, hLenM Pg spotsD c.stops), (85, hLenM Pg funD c.funs)] }
end Go.Avm
namespace Go.Avm
open Go.Proofs Go.Avm.Dom
abbrev RS := List Bool × Bool
def reStep (but : Option Nat) (a : Nat) (s : RS) (b : Nat) : RS := if met s.1 a = true ∧ some b ≠ but ∧ met s.1 b = false then (s.1.set b true, true) else s
def reRow (but : Option Nat) (a : Nat) (r : List Nat) (s : RS) : Nat → RS
 | 0 => s
 | k + 1 => reStep but a (reRow but a r s k) (r.getD k 0)
def reAll (g : Graph) (but : Option Nat) (s : RS) : Nat → RS
 | 0 => s
 | a + 1 => reRow but a (succ g a) (reAll g but s a) (succ g a).length
theorem reStep_len (but : Option Nat) (a : Nat) (s : RS) (b : Nat) : (reStep but a s b).1.length = s.1.length := by
 unfold reStep
 split <;> simp
theorem reRow_len (but : Option Nat) (a : Nat) (r : List Nat) (s : RS) : ∀ k, (reRow but a r s k).1.length = s.1.length
 | 0 => rfl
 | k + 1 => by rw [reRow, reStep_len, reRow_len but a r s k]
theorem reAll_len (g : Graph) (but : Option Nat) (s : RS) : ∀ a, (reAll g but s a).1.length = s.1.length
 | 0 => rfl
 | a + 1 => by rw [reAll, reRow_len, reAll_len g but s a]
def reI (g : Graph) (but : Option Nat) (K v a : Nat) (r : List Nat) (s : RS) (k : Nat) : List (Nat × AV) :=
 [(0, .d (rowsN g)), (2, dI (butI but)), (7, .sl K v 0 g.length 1), (8, dB s.2), (9, dN a), (30, .d (rowsN g)), (31, dN g.length), (32, dN a), (37, .d (rowN r)), (38, dN r.length), (39, dN k)]
def reO (g : Graph) (but : Option Nat) (K v : Nat) (s : RS) (a : Nat) : List (Nat × AV) :=
 [(0, .d (rowsN g)), (2, dI (butI but)), (7, .sl K v 0 g.length 1), (8, dB s.2), (30, .d (rowsN g)), (31, dN g.length), (32, dN a)]
def reW (g : Graph) (but : Option Nat) (K v : Nat) (s : RS) : List (Nat × AV) :=
 [(0, .d (rowsN g)), (2, dI (butI but)), (7, .sl K v 0 g.length 1), (8, dB s.2)]
def reE (K v : Nat) (bs : List Bool) : List (Nat × Ent) := [(K, ⟨v, some (.arr 1 (bs.map dB))⟩)]
section
variable (g : Graph) (but : Option Nat) (v a : Nat) (r : List Nat) (bs : List Bool) (m : Bool) (k b : Nat)
section
variable (hk : k < r.length) (hr : r.length < 1000000000) (hb : r[k]? = some b) (ha : a < g.length)
include hk hr hb ha
theorem reNo (h1 : bs[a]? = some false) : RW 65 (lO 44 12) (reI g but 210 v a r (bs, m) k) (reE 210 v bs) .normal (reI g but 210 v a r (bs, m) (k + 1)) (reE 210 v bs) := qS { hint := qT 44 [(40, qL hk), (41, hIxN Pg r k b hb), (45, hInb Pg a g.length ha), (46, hElB Pg bs a false h1), (62, hSucc Pg k (by omega))] } 44 500000
theorem reBut (h1 : bs[a]? = some true) (h2 : (!((b : Int) == butI but)) = false) : RW 65 (lO 44 12) (reI g but 210 v a r (bs, m) k) (reE 210 v bs) .normal (reI g but 210 v a r (bs, m) (k + 1)) (reE 210 v bs) := qS { hint := qT 44 [(40, qL hk), (41, hIxN Pg r k b hb), (45, hInb Pg a g.length ha), (46, hElB Pg bs a true h1), (50, hNeq Pg _ _ _ h2), (62, hSucc Pg k (by omega))] } 44 500000
theorem reOld (h1 : bs[a]? = some true) (h2 : (!((b : Int) == butI but)) = true) (hbl : b < g.length) (h3 : bs[b]? = some true) : RW 65 (lO 44 12) (reI g but 210 v a r (bs, m) k) (reE 210 v bs) .normal (reI g but 210 v a r (bs, m) (k + 1)) (reE 210 v bs) := qS { hint := qT 44 [(40, qL hk), (41, hIxN Pg r k b hb), (45, hInb Pg a g.length ha), (46, hElB Pg bs a true h1), (50, hNeq Pg _ _ _ h2), (55, hInb Pg b g.length hbl), (56, hElB Pg bs b true h3), (62, hSucc Pg k (by omega))] } 44 500000
theorem reNew (h1 : bs[a]? = some true) (h2 : (!((b : Int) == butI but)) = true) (hbl : b < g.length) (h3 : bs[b]? = some false) : RW 65 (lO 44 12) (reI g but 210 v a r (bs, m) k) (reE 210 v bs) .normal (reI g but 210 v a r (bs.set b true, true) (k + 1)) (reE 210 v (bs.set b true)) := by
 intro rest X hP hN
 unfold reE
 rw [← mapB]
 exact seg okP named { hint := qT 44 [(40, qL hk), (41, hIxN Pg r k b hb), (45, hInb Pg a g.length ha), (46, hElB Pg bs a true h1), (50, hNeq Pg _ _ _ h2), (55, hInb Pg b g.length hbl), (56, hElB Pg bs b false h3), (61, hInb Pg b g.length hbl), (115003, hElB Pg bs b false h3), (62, hSucc Pg k (by omega))] } 2000 44 500000 65 (by kernel_rfl) X hP hN
end
theorem reIStop : RW 65 (lO 44 12) (reI g but 210 v a r (bs, m) r.length) (reE 210 v bs) (.exit 4) (reO g but 210 v (bs, m) a) (reE 210 v bs) := qS { hint := qT 44 [(40, qG r.length)] } 44 500000
end
section
variable {g : Graph} (hg : Valid g)
include hg
theorem reIRound (but : Option Nat) (v a : Nat) (s : RS) (k : Nat) (hs : s.1.length = g.length) (ha : a < g.length) (hr : (succ g a).length < 1000000000) (hk : k < (succ g a).length) : RW 65 (lO 44 12) (reI g but 210 v a (succ g a) s k) (reE 210 v s.1) .normal (reI g but 210 v a (succ g a) (reStep but a s ((succ g a).getD k 0)) (k + 1)) (reE 210 v (reStep but a s ((succ g a).getD k 0)).1) := by
 intro rest X hP hN
 obtain ⟨bs, m⟩ := s
 have hb := getD_get hk
 generalize hbe : (succ g a).getD k 0 = b at hb
 have hbl : b < g.length := (succ_lt hg (List.mem_of_getElem? hb)).1
 have h1 := met_get (bs := bs) (k := a) (by simp only at hs; omega)
 have h3 := met_get (bs := bs) (k := b) (by simp only at hs; omega)
 cases hma : met bs a with
 | false =>
  have e : reStep but a (bs, m) b = (bs, m) := by unfold reStep; rw [if_neg]; simp [hma]
  rw [e]
  exact reNo g but v a _ bs m k b hk hr hb ha (h1.trans (by rw [hma])) rest X hP hN
 | true =>
  by_cases hbb : some b = but
  ·have e : reStep but a (bs, m) b = (bs, m) := by unfold reStep; rw [if_neg]; simp [hbb]
   rw [e]
   exact reBut g but v a _ bs m k b hk hr hb ha (h1.trans (by rw [hma])) (by rw [butI_eq.2 hbb]; simp) rest X hP hN
  ·have hne : (!((b : Int) == butI but)) = true := by
     have : ¬ ((b : Int) = butI but) := fun h => hbb (butI_eq.1 h)
     simpa using this
   cases hmb : met bs b with
   | true =>
    have e : reStep but a (bs, m) b = (bs, m) := by unfold reStep; rw [if_neg]; simp [hmb]
    rw [e]
    exact reOld g but v a _ bs m k b hk hr hb ha (h1.trans (by rw [hma])) hne hbl (h3.trans (by rw [hmb])) rest X hP hN
   | false =>
    have e : reStep but a (bs, m) b = (bs.set b true, true) := by unfold reStep; rw [if_pos ⟨hma, hbb, hmb⟩]
    rw [e]
    exact reNew g but v a _ bs m k b hk hr hb ha (h1.trans (by rw [hma])) hne hbl (h3.trans (by rw [hmb])) rest X hP hN
theorem reILoop (but : Option Nat) (v a : Nat) (s : RS) (hs : s.1.length = g.length) (ha : a < g.length) (hr : (succ g a).length < 1000000000) : RE 65 (.loop (lO 44 12)) (reI g but 210 v a (succ g a) s 0) (reE 210 v s.1) (.exit 4) (reO g but 210 v (reRow but a (succ g a) s (succ g a).length) a) (reE 210 v (reRow but a (succ g a) s (succ g a).length).1) := fun rest X hP hN =>
 (lw_count (succ g a).length (fun k => ⟨envOf (reI g but 210 v a (succ g a) (reRow but a (succ g a) s k) k), ovl (reE 210 v (reRow but a (succ g a) s k).1) rest⟩) (by simp)
  (fun k hk => reIRound hg but v a (reRow but a (succ g a) s k) k (by rw [reRow_len]; exact hs) ha hr hk rest X hP hN)
  (reIStop g but v a _ _ _ rest X hP hN)).aw
end
section
variable (g : Graph) (but : Option Nat) (v a : Nat) (r : List Nat) (s s' : RS)
theorem reORound (ha : a < g.length) (hgl : g.length < 1000000000) (hr : g[a]? = some r)
    (hl : RE 65 (.loop (lO 44 12)) (reI g but 210 v a r s 0) (reE 210 v s.1) (.exit 4) (reO g but 210 v s' a) (reE 210 v s'.1))
    : RW 65 (lO 44 9) (reO g but 210 v s a) (reE 210 v s.1) .normal (reO g but 210 v s' (a + 1)) (reE 210 v s'.1) := qS { loops := qO 44 12 (qP hl), hint := qT 44 [(33, qL ha), (35, hIxG Pg g a r hr), (38, hLenN Pg r), (63, hSucc Pg a (by omega))] } 44 500000
theorem reOStop : RW 65 (lO 44 9) (reO g but 210 v s g.length) (reE 210 v s.1) (.exit 2) (reW g but 210 v s) (reE 210 v s.1) := qS { hint := qT 44 [(33, qG g.length)] } 44 500000
end
section
variable {g : Graph} (hg : Valid g)
include hg
theorem reOLoop (but : Option Nat) (v : Nat) (s : RS) (hs : s.1.length = g.length) (hgl : g.length < 1000000000) (hr : ∀ a, (succ g a).length < 1000000000) : RE 65 (.loop (lO 44 9)) (reO g but 210 v s 0) (reE 210 v s.1) (.exit 2) (reW g but 210 v (reAll g but s g.length)) (reE 210 v (reAll g but s g.length).1) := fun rest X hP hN =>
 (lw_count g.length (fun a => ⟨envOf (reO g but 210 v (reAll g but s a) a), ovl (reE 210 v (reAll g but s a).1) rest⟩) (by simp)
  (fun a ha => reORound g but v a (succ g a) _ _ ha hgl (succ_get ha) (fun rest X hP hN => reILoop hg but v a (reAll g but s a) (by rw [reAll_len]; exact hs) ha (hr a) rest X hP hN) rest X hP hN)
  (reOStop g but v _ rest X hP hN)).aw
end
section
variable (g : Graph) (but : Option Nat) (v : Nat) (s s' : RS)
theorem reWRound (bs : List Bool)
    (hl : RE 65 (.loop (lO 44 9)) (reO g but 210 v (bs, false) 0) (reE 210 v bs) (.exit 2) (reW g but 210 v s') (reE 210 v s'.1))
    : RW 65 (lO 44 6) (reW g but 210 v (bs, true)) (reE 210 v bs) .normal (reW g but 210 v s') (reE 210 v s'.1) := qS { loops := qO 44 9 (qP hl), hint := qT 44 [(31, hLenG Pg g)] } 44 500000
theorem reWStop (bs : List Bool) : RW 65 (lO 44 6) (reW g but 210 v (bs, false)) (reE 210 v bs) (.exit 0) [(7, .sl 210 v 0 g.length 1)] (reE 210 v bs) := qS { hint := fun _ _ => none } 44 500000
end
theorem met_set_iff {bs : List Bool} {b v : Nat} (hb : b < bs.length) : met (bs.set b true) v = true ↔ met bs v = true ∨ v = b := by
 rw [met_set hb]
 simp
structure ReInv (g : Graph) (but : Option Nat) (n : Nat) (s : RS) : Prop where
 len : s.1.length = g.length
 sound : ∀ v, v < g.length → met s.1 v = true → Re g but n v
 self : met s.1 n = true
section
variable {g : Graph} (hg : Valid g) {but : Option Nat} {n : Nat}
include hg
theorem reStep_inv {a b : Nat} {s : RS} (h : ReInv g but n s) (ha : a < g.length) (hb : b ∈ succ g a) : ReInv g but n (reStep but a s b) := by
 have hbl := (succ_lt hg hb).1
 unfold reStep
 split
 ·rename_i hc
  refine ⟨by simpa using h.len, fun v hv hm => ?_, ?_⟩
  ·rcases (met_set_iff (by rw [h.len]; exact hbl)).1 hm with h1 | h1
   ·exact h.sound v hv h1
   ·subst h1
    exact .step (h.sound a ha hc.1) hb hc.2.1
  ·exact (met_set_iff (by rw [h.len]; exact hbl)).2 (.inl h.self)
 ·exact h
theorem reRow_inv {a : Nat} {s : RS} (h : ReInv g but n s) (ha : a < g.length) : ∀ k, k ≤ (succ g a).length → ReInv g but n (reRow but a (succ g a) s k)
 | 0, _ => h
 | k + 1, hk => reStep_inv hg (reRow_inv h ha k (by omega)) ha (List.mem_of_getElem? (getD_get (by omega)))
theorem reAll_inv {s : RS} (h : ReInv g but n s) : ∀ a, a ≤ g.length → ReInv g but n (reAll g but s a)
 | 0, _ => h
 | a + 1, ha => reRow_inv hg (reAll_inv h a (by omega)) (by omega) _ (Nat.le_refl _)
end
structure ReGo (s s' : RS) : Prop where
 less : left s'.1 ≤ left s.1
 same : s'.2 = false → s.2 = false ∧ s' = s
 new : s'.2 = true → s.2 = true ∨ left s'.1 < left s.1
theorem ReGo.refl (s : RS) : ReGo s s := ⟨Nat.le_refl _, fun h => ⟨h, rfl⟩, fun h => .inl h⟩
theorem ReGo.trans {a b c : RS} (h : ReGo a b) (k : ReGo b c) : ReGo a c :=
 ⟨Nat.le_trans k.less h.less, fun hc => by obtain ⟨h1, h2⟩ := k.same hc; rw [h2]; exact h.same h1, fun hc => by
  rcases k.new hc with h1 | h1
  ·rcases h.new h1 with h2 | h2
   ·exact .inl h2
   ·exact .inr (by have := k.less; omega)
  ·exact .inr (by have := h.less; omega)⟩
theorem reStep_go (but : Option Nat) (a : Nat) (s : RS) (b : Nat) : ReGo s (reStep but a s b) := by
 unfold reStep
 split
 ·rename_i hc
  have := left_set hc.2.2
  exact ⟨by simp only; omega, fun h => by simp at h, fun _ => .inr (by simp only; omega)⟩
 ·exact .refl s
theorem reRow_go (but : Option Nat) (a : Nat) (r : List Nat) (s : RS) : ∀ k, ReGo s (reRow but a r s k)
 | 0 => .refl s
 | k + 1 => (reRow_go but a r s k).trans (reStep_go but a _ _)
theorem reAll_go (g : Graph) (but : Option Nat) (s : RS) : ∀ a, ReGo s (reAll g but s a)
 | 0 => .refl s
 | a + 1 => (reAll_go g but s a).trans (reRow_go but a _ _ _)
theorem reRow_closed {but : Option Nat} {a : Nat} {r : List Nat} {s : RS} : ∀ k, k ≤ r.length → reRow but a r s k = s → s.2 = false → met s.1 a = true → ∀ j, j < k → some (r.getD j 0) ≠ but → met s.1 (r.getD j 0) = true
 | 0, _, _, _, _, j, hj, _ => by omega
 | k + 1, hk, h, hf, ha, j, hj, hb => by
  have h0 : reRow but a r s k = s := by
   have h1 := (reStep_go but a (reRow but a r s k) (r.getD k 0)).same (by
    rw [show reStep but a (reRow but a r s k) (r.getD k 0) = s from h]; exact hf)
   exact h1.2.symm.trans h
  rcases Nat.lt_or_ge j k with hjk | hjk
  ·exact reRow_closed k (by omega) h0 hf ha j hjk hb
  ·have : j = k := by omega
   subst this
   have h1 : reStep but a s (r.getD j 0) = s := by
    have : reStep but a (reRow but a r s j) (r.getD j 0) = s := h
    rwa [h0] at this
   cases hm : met s.1 (r.getD j 0) with
   | true => rfl
   | false =>
    unfold reStep at h1
    rw [if_pos ⟨ha, hb, hm⟩] at h1
    have : s.2 = true := by rw [← h1]
    rw [hf] at this
    cases this
theorem reAll_closed {g : Graph} {but : Option Nat} {s : RS} : ∀ n, n ≤ g.length → reAll g but s n = s → s.2 = false → ∀ a, a < n → met s.1 a = true → ∀ b ∈ succ g a, some b ≠ but → met s.1 b = true
 | 0, _, _, _, a, ha, _, _, _, _ => by omega
 | n + 1, hn, h, hf, a, ha, hm, b, hb, hne => by
  have h0 : reAll g but s n = s := by
   have h1 := (reRow_go but n (succ g n) (reAll g but s n) (succ g n).length).same (by
    rw [show reRow but n (succ g n) (reAll g but s n) (succ g n).length = s from h]; exact hf)
   exact h1.2.symm.trans h
  rcases Nat.lt_or_ge a n with han | han
  ·exact reAll_closed n (by omega) h0 hf a han hm b hb hne
  ·have : a = n := by omega
   subst this
   have h1 : reRow but a (succ g a) s (succ g a).length = s := by
    have : reRow but a (succ g a) (reAll g but s a) (succ g a).length = s := h
    rwa [h0] at this
   obtain ⟨j, hj, he⟩ := List.getElem_of_mem hb
   have h2 := getD_get hj
   rw [List.getElem?_eq_getElem hj, he] at h2
   have h3 : (succ g a).getD j 0 = b := (Option.some.inj h2).symm
   have := reRow_closed (succ g a).length (Nat.le_refl _) h1 hf hm j hj (by rw [h3]; exact hne)
   rwa [h3] at this
open Classical in
noncomputable def reachL (g : Graph) (n : Nat) (but : Option Nat) : List Bool := (List.range g.length).map fun v => decide (n < g.length ∧ Re g but n v)
theorem reachL_met {g : Graph} {n v : Nat} {but : Option Nat} (hv : v < g.length) : met (reachL g n but) v = true ↔ n < g.length ∧ Re g but n v := by
 unfold met reachL
 rw [List.getD_eq_getElem?_getD, List.getElem?_map, List.getElem?_range hv]
 simp
theorem reachL_len (g : Graph) (n : Nat) (but : Option Nat) : (reachL g n but).length = g.length := by simp [reachL]
theorem met_ext {a b : List Bool} (hl : a.length = b.length) (h : ∀ v, v < a.length → (met a v = true ↔ met b v = true)) : a = b := by
 apply List.ext_getElem?
 intro i
 rcases Nat.lt_or_ge i a.length with hi | hi
 ·rw [met_get hi, met_get (by omega)]
  have := h i hi
  congr 1
  cases h1 : met a i <;> cases h2 : met b i <;> simp_all
 ·rw [List.getElem?_eq_none hi, List.getElem?_eq_none (by omega)]
theorem re_end {g : Graph} (hg : Valid g) {but : Option Nat} {n : Nat} {s : RS} (hn : n < g.length) (hnb : some n ≠ but) (hi : ReInv g but n s) (h : reAll g but s g.length = s) (hf : s.2 = false) : s.1 = reachL g n but := by
 refine met_ext (by rw [reachL_len, hi.len]) fun v hv => ?_
 rw [hi.len] at hv
 rw [reachL_met hv]
 constructor
 ·intro hm; exact ⟨hn, hi.sound v hv hm⟩
 ·rintro ⟨_, hr⟩
  induction hr with
  | refl => exact hi.self
  | @step p b hp h1 h2 ih =>
   have hpl := (succ_lt hg h1).2
   exact reAll_closed g.length (Nat.le_refl _) h hf p hpl (ih hpl) b h1 h2
section
variable {g : Graph} (hg : Valid g)
include hg
theorem reWLoop {but : Option Nat} {n : Nat} (hn : n < g.length) (hnb : some n ≠ but) (v : Nat) (hgl : g.length < 1000000000) (hr : ∀ a, (succ g a).length < 1000000000) (rest : Heap) (X : Fix) (hP : X.P = Pg) (hN : X.N = 65) :
    ∀ (m : Nat) (bs : List Bool), left bs = m → ReInv g but n (bs, true) → LW X (lO 44 6) ⟨envOf (reW g but 210 v (bs, true)), ovl (reE 210 v bs) rest⟩ fun e' S' => e' = .exit 0 ∧ S' = ⟨envOf [(7, .sl 210 v 0 g.length 1)], ovl (reE 210 v (reachL g n but)) rest⟩ := fun m => by
 induction m using Nat.strongRecOn with
 | ind m ih =>
  intro bs hm hi
  have hi' : ReInv g but n (bs, false) := ⟨hi.len, hi.sound, hi.self⟩
  have h1 := reWRound g but v (reAll g but (bs, false) g.length) bs (fun rest X hP hN => reOLoop hg but v (bs, false) hi.len hgl hr rest X hP hN) rest X hP hN
  refine lw_seg h1 ?_
  have h2 := reAll_inv hg hi' g.length (Nat.le_refl _)
  have h3 := reAll_go g but (bs, false) g.length
  generalize hs : reAll g but (bs, false) g.length = s at h2 h3
  obtain ⟨bs', m'⟩ := s
  cases m' with
  | true =>
   have h4 := (h3.new rfl).resolve_left (by simp)
   exact ih (left bs') (by rw [← hm]; exact h4) bs' rfl h2
  | false =>
   obtain ⟨_, h4⟩ := h3.same rfl
   simp only [Prod.mk.injEq, and_true] at h4
   subst h4
   have := re_end hg hn hnb h2 hs rfl
   simp only at this
   rw [← this]
   exact lw_end (reWStop g but v bs' rest X hP hN) (by simp)
theorem reachGo {but : Option Nat} {n : Nat} (hn : n < g.length) (hnb : some n ≠ but) (hgl : g.length < 1000000000) (hr : ∀ a, (succ g a).length < 1000000000) :
    Pure Pg 44 [rowsN g, .int .i64 (n : Int), .int .i64 (butI but)] [.ro ((reachL g n but).map .bool)] := by
 have hi : ReInv g but n ((List.replicate g.length false).set n true, true) := by
  refine ⟨by simp, fun v hv hm => ?_, ?_⟩
  ·rcases (met_set_iff (by simpa using hn)).1 hm with h | h
   ·rw [met_none] at h; simp at h; omega
   ·subst h; exact .refl hnb
  ·exact (met_set_iff (by simpa using hn)).2 (.inr rfl)
 have hne : ((n : Int) == butI but) = false := by
  have : ¬ ((n : Int) = butI but) := fun h => hnb (butI_eq.1 h)
  simpa using this
 have e : ((List.replicate g.length false).set n true).map dB = (List.replicate g.length (dB false)).set (0 + n) (dB true) := by rw [← mapB, List.map_replicate]
 have hl : RE 65 (.loop (lO 44 6)) (reW g but 210 1 ((List.replicate g.length false).set n true, true)) [(210, ⟨1, some (.arr 1 ((List.replicate g.length (dB false)).set (0 + n) (dB true)))⟩)] (.exit 0) [(7, .sl 210 1 0 g.length 1)] (reE 210 1 (reachL g n but)) := fun rest X hP hN => by
  have := (reWLoop hg hn hnb 1 hgl hr rest X hP hN _ _ rfl hi).aw
  unfold reE at this ⊢
  rw [e] at this
  exact this
 exact qU { weaks := fun f q => if f = 44 then (if q = 19 then some (wB 7 210 g.length (reachL g n but) (reachL_len g n but)) else none) else none, loops := qO 44 6 (qP hl), hint := qT 44 [(14, hLenG Pg g), (15, .mk ((g.length : Nat) : Int) (by omega) (by omega)), (18, hLenG Pg g), (19, hB Pg (decide (((g.length : Nat) : Int) ≤ ((n : Nat) : Int))) false (dec_false (by omega))), (23, hEq Pg _ _ _ hne), (28, hInb Pg n g.length hn), (104003, .elt (List.replicate g.length (dB false)) (0 + n) (dB false) (by simp [hn]))] }
end
theorem re_self {g : Graph} {n v : Nat} : ¬ Re g (some n) n v := fun h => by
 induction h with
 | refl h => exact h rfl
 | step _ _ _ ih => exact ih
theorem reachL_no {g : Graph} {n : Nat} {but : Option Nat} (h : g.length ≤ n ∨ some n = but) : reachL g n but = List.replicate g.length false := by
 refine met_ext (by rw [reachL_len]; simp) fun v hv => ?_
 rw [reachL_len] at hv
 rw [reachL_met hv, met_none]
 rcases h with h | h
 ·simp; omega
 ·subst h
  constructor
  ·intro h; exact absurd h.2 re_self
  ·intro h; simp at h; omega
theorem reachOut {g : Graph} {but : Option Nat} {n : Nat} (h : g.length ≤ n) (hgl : g.length < 1000000000) (hn : n < 1000000000) :
    Pure Pg 44 [rowsN g, .int .i64 (n : Int), .int .i64 (butI but)] [.ro ((List.replicate g.length false).map .bool)] := by
 have e : (List.replicate g.length false).map dB = List.replicate g.length (dB false) := by rw [List.map_replicate]
 exact qU { weaks := fun f q => if f = 44 then (if q = 3 then some ⟨7, 210, g.length, List.replicate g.length (dB false), (List.replicate g.length false).map .bool, by simp, fun hh => by rw [← e]; exact viewB 2 hh _⟩ else none) else none, hint := qT 44 [(14, hLenG Pg g), (15, .mk ((g.length : Nat) : Int) (by omega) (by omega)), (18, hLenG Pg g), (19, hB Pg (decide (((g.length : Nat) : Int) ≤ ((n : Nat) : Int))) true (dec_true (by omega)))] }
theorem reachBut {g : Graph} {n : Nat} (h : n < g.length) (hgl : g.length < 1000000000) :
    Pure Pg 44 [rowsN g, .int .i64 (n : Int), .int .i64 (butI (some n))] [.ro ((List.replicate g.length false).map .bool)] := by
 have e : (List.replicate g.length false).map dB = List.replicate g.length (dB false) := by rw [List.map_replicate]
 exact qU { weaks := fun f q => if f = 44 then (if q = 3 then some ⟨7, 210, g.length, List.replicate g.length (dB false), (List.replicate g.length false).map .bool, by simp, fun hh => by rw [← e]; exact viewB 2 hh _⟩ else none) else none, hint := qT 44 [(14, hLenG Pg g), (15, .mk ((g.length : Nat) : Int) (by omega) (by omega)), (18, hLenG Pg g), (19, hB Pg (decide (((g.length : Nat) : Int) ≤ ((n : Nat) : Int))) false (dec_false (by omega))), (23, hEq Pg ((n : Nat) : Int) (butI (some n)) true (by simp [butI]))] }
theorem reachC {g : Graph} (hg : Valid g) {but : Option Nat} {n : Nat} (hgl : g.length < 1000000000) (hn : n < 1000000000) (hr : ∀ a, (succ g a).length < 1000000000) :
    Pure Pg 44 [rowsN g, .int .i64 (n : Int), .int .i64 (butI but)] [.ro ((reachL g n but).map .bool)] := by
 rcases Nat.lt_or_ge n g.length with h | h
 ·by_cases hb : some n = but
  ·rw [reachL_no (.inr hb)]
   subst hb
   exact reachBut h hgl
  ·exact reachGo hg h hb hgl hr
 ·rw [reachL_no (.inl h)]
  exact reachOut h hgl hn
end Go.Avm
namespace Go.Avm
open Go.Proofs Go.Avm.Dom
open Classical in
noncomputable def domB (g : Graph) (a b : Nat) : Bool := decide (Doms g a b)
theorem domB_true {g : Graph} {a b : Nat} (h : Doms g a b) : domB g a b = true := by unfold domB; simp [h]
theorem domB_false {g : Graph} {a b : Nat} (h : ¬ Doms g a b) : domB g a b = false := by unfold domB; simp [h]
theorem int_eq {a b : Nat} (h : a = b) : ((a : Int) == (b : Int)) = true := by subst h; simp
theorem int_ne {a b : Nat} (h : a ≠ b) : ((a : Int) == (b : Int)) = false := by
 simp
 omega
noncomputable def domsL (g : Graph) (a : Nat) : List Bool := (List.range g.length).map (domB g a)
abbrev rowB (bs : List Bool) : D := .ro (bs.map .bool)
abbrev roB (bs : List Bool) : AV := .d (rowB bs)
theorem reachL_get {g : Graph} {n v : Nat} {but : Option Nat} (hv : v < g.length) : (reachL g n but)[v]? = some (met (reachL g n but) v) := met_get (by rw [reachL_len]; exact hv)
noncomputable def dmI (g : Graph) (vo vr a b : Nat) : List (Nat × AV) :=
 [(0, .d (rowsN g)), (3, roB (reachL g 0 none)), (4, .sl 327 vo 0 g.length 1), (5, dN a), (6, roB (reachL g 0 (some a))), (14, dN g.length), (15, dN a), (28, dN g.length), (29, dN b)]
noncomputable def dmO (g : Graph) (vo a : Nat) : List (Nat × AV) := [(0, .d (rowsN g)), (3, roB (reachL g 0 none)), (4, .sl 327 vo 0 g.length 1), (14, dN g.length), (15, dN a)]
noncomputable def dmE (vo : Nat) (cs : List AV) (vr : Nat) (bs : List AV) : List (Nat × Ent) := [(327, ⟨vo, some (.arr 1 cs)⟩), (500463, ⟨vr, some (.arr 1 bs)⟩)]
section
variable (g : Graph) (vo vr a b : Nat) (cs bs : List AV) (z : AV)
section
variable (hb : b < g.length) (ha : a < g.length) (hgl : g.length < 1000000000) (hc : cs[0 + a]? = some (.sl 500463 vr 0 g.length 1)) (hz : bs[0 + b]? = some z)
include hb ha hgl hc hz
theorem dmNo (h1 : (reachL g 0 none)[a]? = some false) : RW 63 (lO 43 9) (dmI g vo vr a b) (dmE vo cs vr bs) .normal (dmI g vo vr a (b + 1)) (dmE vo cs vr (bs.set (0 + b) (dB false))) := qS { hint := qT 43 [(30, qL hb), (34, hInb Pg a g.length ha), (35, .elt cs (0 + a) _ hc), (39, hIxB Pg (reachL g 0 none) a false h1), (59, hInb Pg b g.length hb), (111028, .elt bs (0 + b) z hz), (60, hSucc Pg b (by omega))] } 43 500000
theorem dmNo2 (h1 : (reachL g 0 none)[a]? = some true) (h2 : (reachL g 0 none)[b]? = some false) : RW 63 (lO 43 9) (dmI g vo vr a b) (dmE vo cs vr bs) .normal (dmI g vo vr a (b + 1)) (dmE vo cs vr (bs.set (0 + b) (dB false))) := qS { hint := qT 43 [(30, qL hb), (34, hInb Pg a g.length ha), (35, .elt cs (0 + a) _ hc), (39, hIxB Pg (reachL g 0 none) a true h1), (44, hIxB Pg (reachL g 0 none) b false h2), (59, hInb Pg b g.length hb), (111028, .elt bs (0 + b) z hz), (60, hSucc Pg b (by omega))] } 43 500000
theorem dmSelf (h1 : (reachL g 0 none)[a]? = some true) (h2 : (reachL g 0 none)[b]? = some true) (h3 : ((a : Int) == (b : Int)) = true) : RW 63 (lO 43 9) (dmI g vo vr a b) (dmE vo cs vr bs) .normal (dmI g vo vr a (b + 1)) (dmE vo cs vr (bs.set (0 + b) (dB true))) := qS { hint := qT 43 [(30, qL hb), (34, hInb Pg a g.length ha), (35, .elt cs (0 + a) _ hc), (39, hIxB Pg (reachL g 0 none) a true h1), (44, hIxB Pg (reachL g 0 none) b true h2), (50, hEq Pg _ _ _ h3), (59, hInb Pg b g.length hb), (111028, .elt bs (0 + b) z hz), (60, hSucc Pg b (by omega))] } 43 500000
end
theorem dmLeft (l : Bool) (hb : b < g.length) (ha : a < g.length) (hgl : g.length < 1000000000) (hc : cs[0 + a]? = some (.sl 500463 vr 0 g.length 1)) (hz : bs[0 + b]? = some z) (h1 : (reachL g 0 none)[a]? = some true) (h2 : (reachL g 0 none)[b]? = some true) (h3 : ((a : Int) == (b : Int)) = false) (h4 : (reachL g 0 (some a))[b]? = some l) : RW 63 (lO 43 9) (dmI g vo vr a b) (dmE vo cs vr bs) .normal (dmI g vo vr a (b + 1)) (dmE vo cs vr (bs.set (0 + b) (dB (!l)))) := qS { hint := qT 43 [(30, qL hb), (34, hInb Pg a g.length ha), (35, .elt cs (0 + a) _ hc), (39, hIxB Pg (reachL g 0 none) a true h1), (44, hIxB Pg (reachL g 0 none) b true h2), (50, hEq Pg _ _ _ h3), (54, hIxB Pg (reachL g 0 (some a)) b l h4), (59, hInb Pg b g.length hb), (111028, .elt bs (0 + b) z hz), (60, hSucc Pg b (by omega))] } 43 500000
theorem dmIStop : RW 63 (lO 43 9) (dmI g vo vr a g.length) (dmE vo cs vr bs) (.exit 2) (dmO g vo a) (dmE vo cs vr bs) := qS { hint := qT 43 [(30, qG g.length)] } 43 500000
end
section
variable {g : Graph} (hg : Valid g)
theorem dmRound (vo vr a b : Nat) (cs bs : List AV) (z : AV) (hb : b < g.length) (ha : a < g.length) (hgl : g.length < 1000000000) (hc : cs[0 + a]? = some (.sl 500463 vr 0 g.length 1)) (hz : bs[0 + b]? = some z) : RW 63 (lO 43 9) (dmI g vo vr a b) (dmE vo cs vr bs) .normal (dmI g vo vr a (b + 1)) (dmE vo cs vr (bs.set (0 + b) (dB (domB g a b)))) := by
 intro rest X hP hN
 have g1 := reachL_get (g := g) (n := 0) (but := none) ha
 have g2 := reachL_get (g := g) (n := 0) (but := none) hb
 have g3 := reachL_get (g := g) (n := 0) (but := some a) hb
 have hn : 0 < g.length := by omega
 have m1 := reachL_met (g := g) (n := 0) (but := none) ha
 have m2 := reachL_met (g := g) (n := 0) (but := none) hb
 have m3 := reachL_met (g := g) (n := 0) (but := some a) hb
 cases h1 : met (reachL g 0 none) a with
 | false =>
  have e : domB g a b = false := by
   refine domB_false fun h => ?_
   rw [m1.2 ⟨hn, h.1⟩] at h1
   cases h1
  rw [e]
  exact dmNo g vo vr a b cs bs z hb ha hgl hc hz (g1.trans (by rw [h1])) rest X hP hN
 | true =>
  cases h2 : met (reachL g 0 none) b with
  | false =>
   have e : domB g a b = false := by
    refine domB_false fun h => ?_
    rw [m2.2 ⟨hn, h.2.1⟩] at h2
    cases h2
   rw [e]
   exact dmNo2 g vo vr a b cs bs z hb ha hgl hc hz (g1.trans (by rw [h1])) (g2.trans (by rw [h2])) rest X hP hN
  | true =>
   by_cases hab : a = b
   ·have e : domB g a b = true := domB_true ⟨(m1.1 h1).2, (m2.1 h2).2, .inl hab⟩
    rw [e]
    exact dmSelf g vo vr a b cs bs z hb ha hgl hc hz (g1.trans (by rw [h1])) (g2.trans (by rw [h2])) (int_eq hab) rest X hP hN
   ·have e : domB g a b = !(met (reachL g 0 (some a)) b) := by
      cases h3 : met (reachL g 0 (some a)) b with
      | true =>
       refine domB_false fun h => ?_
       rcases h.2.2 with h | h
       ·exact hab h
       ·exact h (m3.1 h3).2
      | false =>
       refine domB_true ⟨(m1.1 h1).2, (m2.1 h2).2, .inr fun h => ?_⟩
       rw [m3.2 ⟨hn, h⟩] at h3
       cases h3
    rw [e]
    exact dmLeft g vo vr a b cs bs z _ hb ha hgl hc hz (g1.trans (by rw [h1])) (g2.trans (by rw [h2])) (int_ne hab) g3 rest X hP hN
theorem dmILoop (vo vr a : Nat) (cs : List AV) (ha : a < g.length) (hgl : g.length < 1000000000) (hc : cs[0 + a]? = some (.sl 500463 vr 0 g.length 1)) : RE 63 (.loop (lO 43 9)) (dmI g vo vr a 0) (dmE vo cs vr (fil (fun b => dB (domB g a b)) (dB false) 0 g.length)) (.exit 2) (dmO g vo a) (dmE vo cs vr (fil (fun b => dB (domB g a b)) (dB false) g.length g.length)) := fun rest X hP hN =>
 (lw_count g.length (fun b => ⟨envOf (dmI g vo vr a b), ovl (dmE vo cs vr (fil (fun b => dB (domB g a b)) (dB false) b g.length)) rest⟩) (by simp)
  (fun b hb => by
   rw [← fil_set hb]
   exact dmRound vo vr a b cs _ (dB false) hb ha hgl hc (fil_get hb) rest X hP hN)
  (dmIStop g vo vr a cs _ rest X hP hN)).aw
end
section
variable (g : Graph) (vo vr a : Nat) (cs : List AV)
theorem dmORound (ds : List Bool) (hbs : ds.length = g.length) (ha : a < g.length) (hgl : g.length < 1000000000) (hc : cs[0 + a]? = some (.nils))
    (hcall : Pure Pg 44 [rowsN g, .int .i64 0, .int .i64 (a : Int)] [.ro ((reachL g 0 (some a)).map .bool)])
    (hl : ∀ (vo : Nat) (rest : Heap) (X : Fix), X.P = Pg → X.N = 63 → AW X (.loop (lO 43 9)) ⟨envOf (dmI g vo (vr + 1) a 0), ovl (dmE vo (cs.set (0 + a) (.sl 500463 (vr + 1) 0 g.length 1)) (vr + 1) (List.replicate g.length (dB false))) rest⟩ fun e' S' => e' = .exit 2 ∧ S' = ⟨envOf (dmO g vo a), ovl (dmE vo (cs.set (0 + a) (.sl 500463 (vr + 1) 0 g.length 1)) (vr + 1) (ds.map dB)) rest⟩)
    : RW 63 (lO 43 4) (dmO g vo a) [(327, ⟨vo, some (.arr 1 cs)⟩), (500463, ⟨vr, none⟩)] .normal (dmO g vo (a + 1)) [(327, ⟨vo, some (.arr 1 (cs.set (0 + a) (roB ds)))⟩), (500463, ⟨vr + 2, none⟩)] := by
 intro rest X hP hN
 have h := (seg okP named { loops := qO 43 9 (qP (hl vo)), hint := qT 43 [(16, qL ha), (21, hLenG Pg g), (22, .mk ((g.length : Nat) : Int) (by omega) (by omega)), (23, hInb Pg a g.length ha), (106006, .elt cs (0 + a) _ hc), (26, .call 44 _ _ hcall), (28, hLenG Pg g), (61, hSucc Pg a (by omega))] } 2000 43 500000 63 (by kernel_rfl) X hP hN : AW X (lO 43 4) ⟨envOf (dmO g vo a), ovl [(327, ⟨vo, some (.arr 1 cs)⟩), (500463, ⟨vr, none⟩)] rest⟩ fun e' S' => e' = .normal ∧ Weak X S' ⟨envOf (dmO g vo (a + 1)), ovl [(327, ⟨vo, some (.arr 1 (cs.set (0 + a) (.sl 500463 (vr + 1) 0 g.length 1)))⟩), (500463, ⟨vr + 1, some (.arr 1 (ds.map dB))⟩)] rest⟩)
 refine h.mono fun e' S' hh => ⟨hh.1, hh.2.trans ?_⟩
 have hlt : 0 + a < cs.length := (List.getElem?_eq_some_iff.1 hc).1
 have hw := weak_cell (X := X) (env := envOf (dmO g vo (a + 1))) (C := 327) (K := 500463) (a := 0 + a) (n := g.length) (vC := vo) (vK := vr + 1) (cs := cs.set (0 + a) (.sl 500463 (vr + 1) 0 g.length 1)) (es := ds.map dB) (ds := ds.map .bool) (tl := []) (rest := rest) (by omega) (by rw [List.getElem?_set_self hlt]) (by simpa using hbs) (fun h => viewB 2 h ds)
 rw [List.set_set] at hw
 exact hw
theorem dmOStop : RW 63 (lO 43 4) (dmO g vo g.length) [(327, ⟨vo, some (.arr 1 cs)⟩), (500463, ⟨vr, none⟩)] (.exit 0) [(4, .sl 327 vo 0 g.length 1)] [(327, ⟨vo, some (.arr 1 cs)⟩), (500463, ⟨vr, none⟩)] := qS { hint := qT 43 [(16, qG g.length)] } 43 500000
end
section
variable {g : Graph} (hg : Valid g)
include hg
theorem dmOLoop (vo : Nat) (hgl : g.length < 1000000000) (hr : ∀ a, (succ g a).length < 1000000000) (rest : Heap) (X : Fix) (hP : X.P = Pg) (hN : X.N = 63) :
    AW X (.loop (lO 43 4)) ⟨envOf (dmO g vo 0), ovl [(327, ⟨vo, some (.arr 1 (List.replicate g.length .nils))⟩), (500463, ⟨(rest 500463).ver, none⟩)] rest⟩ fun e' S' => e' = .exit 0 ∧
     S' = ⟨envOf [(4, .sl 327 vo 0 g.length 1)], ovl [(327, ⟨vo, some (.arr 1 ((List.range g.length).map fun a => roB (domsL g a)))⟩), (500463, ⟨(rest 500463).ver + 2 * g.length, none⟩)] rest⟩ := by
 rw [← fil_zero (fun a => roB (domsL g a)), ← fil_full (fun a => roB (domsL g a)) .nils]
 refine (lw_count g.length (fun a => ⟨envOf (dmO g vo a), ovl [(327, ⟨vo, some (.arr 1 (fil (fun a => roB (domsL g a)) .nils a g.length))⟩), (500463, ⟨(rest 500463).ver + 2 * a, none⟩)] rest⟩) (by simp) (fun a ha => ?_) (dmOStop g vo _ _ rest X hP hN)).aw
 rw [← fil_set ha]
 refine dmORound g vo ((rest 500463).ver + 2 * a) a _ (domsL g a) (by simp [domsL]) ha hgl (fil_get ha) (reachC hg (n := 0) (but := some a) hgl (by omega) hr) (fun vo rest2 X2 hP2 hN2 => ?_) rest X hP hN
 have h := dmILoop vo ((rest 500463).ver + 2 * a + 1) a ((fil (fun a => roB (domsL g a)) .nils a g.length).set (0 + a) (.sl 500463 ((rest 500463).ver + 2 * a + 1) 0 g.length 1)) ha hgl (by rw [List.getElem?_set_self (by rw [fil_len _ _ (by omega)]; omega)]) rest2 X2 hP2 hN2
 rw [fil_zero, fil_full] at h
 have e : (List.range g.length).map (fun b => dB (domB g a b)) = (domsL g a).map dB := by simp [domsL]
 rw [e] at h
 exact h
theorem domsC (hgl : g.length < 1000000000) (hr : ∀ a, (succ g a).length < 1000000000) : Pure Pg 43 [rowsN g] [.ro ((List.range g.length).map fun a => rowB (domsL g a))] := by
 have hc := reachC hg (but := none) (n := 0) hgl (by omega) hr
 have e : (List.range g.length).map (fun a => roB (domsL g a)) = ((List.range g.length).map fun a => rowB (domsL g a)).map .d := by simp
 exact qU { weaks := fun f q => if f = 43 then (if q = 14 then some (⟨4, 327, g.length, (List.range g.length).map (fun a => roB (domsL g a)), (List.range g.length).map fun a => rowB (domsL g a), by simp, fun h => by rw [e]; exact viewD 2 h _ (by simp [D.one])⟩ : WHint) else none) else none, loops := fun f q => if f = 43 then (if q = 4 then some ⟨63, loopOf Pg 43 4, dmO g 1 0, fun rest => [(327, ⟨1, some (.arr 1 (List.replicate g.length .nils))⟩), (500463, ⟨(rest 500463).ver, none⟩)], .exit 0, [(4, .sl 327 1 0 g.length 1)], fun rest => [(327, ⟨1, some (.arr 1 ((List.range g.length).map fun a => roB (domsL g a)))⟩), (500463, ⟨(rest 500463).ver + 2 * g.length, none⟩)], fun rest X hP hN => dmOLoop hg 1 hgl hr rest X hP hN⟩ else none) else none, hint := qT 43 [(9, .call 44 _ _ hc), (11, hLenG Pg g), (12, .mk ((g.length : Nat) : Int) (by omega) (by omega)), (14, hLenG Pg g)] }
end
end Go.Avm
namespace Go.Avm
open Go.Proofs Go.Avm.Dom
def intsN (l : List Nat) : List D := l.map fun (b : Nat) => .int .i64 (b : Int)
theorem intsN_app (l m : List Nat) : intsN (l ++ m) = intsN l ++ intsN m := by simp [intsN]
theorem intsN_len (l : List Nat) : (intsN l).length = l.length := by simp [intsN]
def kidsN (g : Graph) (f : Nat) (r : List Nat) (s : Acc) : Nat → Acc
 | 0 => s
 | k + 1 => if met (kidsN g f r s k).1 (r.getD k 0) = true then kidsN g f r s k else ((dfs g f (kidsN g f r s k).1 (r.getD k 0)).1, (kidsN g f r s k).2 ++ (dfs g f (kidsN g f r s k).1 (r.getD k 0)).2)
theorem kids_app (g : Graph) (f : Nat) : ∀ (a b : List Nat) (s : Acc), kids g f s (a ++ b) = kids g f (kids g f s a) b := fun a b s => by simp [kids, List.foldl_append]
theorem kidsN_take (g : Graph) (f : Nat) (r : List Nat) (s : Acc) : ∀ k, k ≤ r.length → kidsN g f r s k = kids g f s (r.take k)
 | 0, _ => by simp [kidsN, kids]
 | k + 1, hk => by
  have hlt : k < r.length := by omega
  rw [kidsN, kidsN_take g f r s k (by omega), List.take_succ_eq_append_getElem hlt, kids_app]
  have e : r.getD k 0 = r[k] := by rw [List.getD_eq_getElem?_getD, List.getElem?_eq_getElem hlt]; rfl
  rw [e]
  generalize kids g f s (r.take k) = q
  cases h : met q.1 r[k] with
  | true => rw [if_pos rfl, kids_met g f q _ _ h, kids_nil]
  | false => rw [if_neg (by simp), kids_new g f q _ _ h, kids_nil]
theorem kidsN_all (g : Graph) (f : Nat) (r : List Nat) (s : Acc) : kidsN g f r s r.length = kids g f s r := by rw [kidsN_take g f r s _ (Nat.le_refl _), List.take_length]
theorem kidsN_ok {g : Graph} (hg : Valid g) {f n : Nat} {s : Acc} (hs : s.1.length = g.length) (hf : left s.1 ≤ f) : ∀ k, k ≤ (succ g n).length → (kidsN g f (succ g n) s k).1.length = g.length ∧ left (kidsN g f (succ g n) s k).1 ≤ f ∧ ∃ q, (kidsN g f (succ g n) s k).2 = s.2 ++ q
 | 0, _ => ⟨hs, hf, [], by simp [kidsN]⟩
 | k + 1, hk => by
  obtain ⟨h1, h2, q, h3⟩ := kidsN_ok hg (n := n) hs hf k (by omega)
  rw [kidsN]
  split
  ·exact ⟨h1, h2, q, h3⟩
  ·rename_i hm
   obtain ⟨w, _⟩ := went hg f _ _ h1 (by simpa using hm) h2
   exact ⟨w.len.trans h1, Nat.le_trans w.less h2, q ++ _, by simp only; rw [h3, List.append_assoc]⟩
section
variable (g : Graph) (n vb ver w : Nat) (bs bs' : List Bool) (l p r : List Nat) (k b : Nat)
end
theorem post_len {g : Graph} (hg : Valid g) {f n : Nat} {bs : List Bool} (hs : bs.length = g.length) (hn : met bs n = false) (hf : left bs ≤ f) : left (dfs g f bs n).1 + (dfs g f bs n).2.length ≤ left bs ∧ 0 < (dfs g f bs n).2.length := by
 obtain ⟨w, hin⟩ := went hg f bs n hs hn hf
 refine ⟨?_, List.length_pos_of_mem hin⟩
 -- each that is new was left before
 have h : ∀ (p : List Nat) (b b' : List Bool), b.length = b'.length → p.Nodup → (∀ x ∈ p, met b x = false) → (∀ x, met b' x = (met b x || decide (x ∈ p))) → left b' + p.length = left b := fun p => by
  induction p with
  | nil =>
   intro b b' hl _ _ hx
   have : b' = b := met_ext hl.symm fun v _ => by rw [hx]; simp
   rw [this]; rfl
  | cons a r ih =>
   intro b b' hl hnd hfr hx
   have hab := hfr a (by simp)
   have hal := met_lt hab
   have h1 := ih (b.set a true) b' (by simpa using hl) (List.nodup_cons.1 hnd).2 (fun x hxr => by
    rw [met_set hal, hfr x (by simp [hxr])]
    have : x ≠ a := fun e => (List.nodup_cons.1 hnd).1 (e ▸ hxr)
    simpa using this) (fun x => by
    rw [hx, met_set hal]
    cases met b x <;> by_cases hxa : x = a <;> simp [hxa])
   have h2 := left_set hab
   simp only [List.length_cons]
   omega
 exact Nat.le_of_eq (h _ bs _ w.len.symm w.nodup w.fresh w.new)
section
variable {g : Graph} (hg : Valid g) (hgl : g.length < 1000000000) (hr : ∀ a, (succ g a).length < 1000000000)
include hg hgl hr
end
end Go.Avm
namespace Go.Avm
open Go.Proofs Go.Avm.Dom
section
variable (g : Graph) (n vb ver w : Nat) (bs bs' : List Bool) (p : List Nat)
end
section
variable {g : Graph} (hg : Valid g) (hgl : g.length < 1000000000) (hr : ∀ a, (succ g a).length < 1000000000)
include hg hgl hr
end
theorem intsN_get {p : List Nat} {k x : Nat} (h : p[k]? = some x) : (intsN p)[k]? = some (.int .i64 (x : Int)) := by simp [intsN, h]
section
variable {g : Graph} (hg : Valid g) (hgl : g.length < 1000000000) (hr : ∀ a, (succ g a).length < 1000000000)
include hg hgl hr
end
end Go.Avm
