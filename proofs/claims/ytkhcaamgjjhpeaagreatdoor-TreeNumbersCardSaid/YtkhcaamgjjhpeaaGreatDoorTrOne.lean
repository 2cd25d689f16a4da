/-
  Texts as programs: what a reader of tokens answers, in plain words.
-/
import Derived.Test.YtkhcaamgjjhpeaaGreatDoorAvmRo
import Derived.Test.YtkhcaamgjjhpeaaGreatDoorTrA
import Derived.Test.YtkhcaamgjjhpeaaGreatDoorTrM
import Derived.Test.YtkhcaamgjjhpeaaGreatDoorAvmTd
set_option linter.unusedSectionVars false
namespace Go.Avm

/-- A token. -/
structure T where
  k : Int
  p : Int
  t : List UInt8
  n : Int
  deriving Inhabited
def tD (x : T) : D := .agg [.int .u8 x.k, .int .i64 x.p, .str x.t, .int .i64 x.n]
/-- An expression. -/
inductive Ex where
  | mk (k o : Int) (nm : List UInt8) (n p : Int) (xs : List Ex)
/-- A statement. -/
inductive St' where
  | mk (k id : Int) (nm : List UInt8) (ty n p : Int) (es : List Ex) (bd el : List St')
mutual
def exD : Ex → D
  | .mk k o nm n p xs => .agg [.int .u8 k, .int .u8 o, .str nm, .int .i64 n, .int .i64 p, .ro (exL xs)]
def exL : List Ex → List D
  | [] => []
  | x :: l => exD x :: exL l
end
mutual
def stD : St' → D
  | .mk k id nm ty n p es bd el => .agg [.int .u8 k, .int .i64 id, .str nm, .int .u8 ty, .int .i64 n, .int .i64 p, .ro (exL es), .ro (stL bd), .ro (stL el)]
def stL : List St' → List D
  | [] => []
  | x :: l => stD x :: stL l
end
structure Pm where
  nm : List UInt8
  ty : Int
  p : Int
def pmD (x : Pm) : D := .agg [.str x.nm, .int .u8 x.ty, .int .i64 x.p]
structure Fn where
  nm : List UInt8
  ps : List Pm
  res : Int
  bd : List St'
  p : Int
def fnD (x : Fn) : D := .agg [.str x.nm, .ro (x.ps.map pmD), .int .u8 x.res, .ro (stL x.bd), .int .i64 x.p]
theorem exL_map : ∀ l, exL l = l.map exD
  | [] => rfl
  | x :: l => by simp [exL, exL_map l]
theorem stL_map : ∀ l, stL l = l.map stD
  | [] => rfl
  | x :: l => by simp [stL, stL_map l]
theorem exL_app (l m : List Ex) : exL (l ++ m) = exL l ++ exL m := by simp [exL_map]
theorem stL_app (l m : List St') : stL (l ++ m) = stL l ++ stL m := by simp [stL_map]
theorem exL_len (l : List Ex) : (exL l).length = l.length := by simp [exL_map]
theorem stL_len (l : List St') : (stL l).length = l.length := by simp [stL_map]

/-- How far a reader is: the token, the brackets that are open, the statements. -/
structure RS where
  i : Nat
  op : Int
  n : Int
inductive Res (α : Type) where
  | ok (a : α) (s : RS)
  | bad (p e : Int) (s : RS)
  | out
def Res.bind {α β : Type} (r : Res α) (f : α → RS → Res β) : Res β := match r with
  | .ok a s => f a s
  | .bad p e s => .bad p e s
  | .out => .out
def w64 (x : Int) : Int := IntKind.wrap .i64 x

section
variable (L : List T)
def cur (s : RS) : T := L.getD s.i default
def isT (s : RS) (x : List UInt8) : Bool := ((cur L s).k == 2 || (cur L s).k == 4) && (cur L s).t == x
def RS.nx (s : RS) : RS := { s with i := s.i + 1 }
def fail {α : Type} (s : RS) : Res α := .bad (cur L s).p 4 s
/-- That must come. -/
def sWant (x : List UInt8) (s : RS) : Res T :=
  bif isT L s x then
    bif x == [40] || x == [91] || x == [123] then
      bif decide (200 < w64 (s.op + 1)) then .bad (cur L s).p 5 { s with op := w64 (s.op + 1) } else .ok (cur L s) ⟨s.i + 1, w64 (s.op + 1), s.n⟩
    else bif x == [41] || x == [93] || x == [125] then .ok (cur L s) ⟨s.i + 1, w64 (s.op - 1), s.n⟩
    else .ok (cur L s) s.nx
  else fail L s
def sTake (k : Int) (s : RS) : Res T := bif (cur L s).k == k then .ok (cur L s) s.nx else fail L s
def sMay (x : List UInt8) (s : RS) : Res Bool := bif isT L s x then (sWant L x s).bind fun _ s => .ok true s else .ok false s
def tName : Int → List UInt8
  | 1 => [105, 110, 116]
  | 2 => [98, 111, 111, 108]
  | 3 => [97, 114, 114]
  | _ => []
def sKind : List Int → RS → Res Int
  | [], s => fail L s
  | k :: r, s => (sMay L (tName k) s).bind fun b s => bif b then .ok k s else sKind r s
/-- The signs of two: how strongly they bind. -/
def signs : List (Int × List UInt8 × Int) := [(1, [43], 9), (2, [45], 9), (3, [42], 10), (4, [47], 10), (5, [37], 10), (6, [38], 7), (7, [124], 5), (8, [94], 6), (9, [60, 60], 8), (10, [62, 62], 8), (11, [60], 4), (12, [60, 61], 4), (13, [62], 4), (14, [62, 61], 4), (15, [61, 61], 3), (16, [33, 61], 3), (17, [38, 38], 2), (18, [124, 124], 1)]
def signOf (s : RS) (least : Int) : List (Int × List UInt8 × Int) → Int × Int
  | [] => (0, 0)
  | (o, x, k) :: r => bif decide (least ≤ k) && isT L s x then (o, k) else signOf s least r
def sSign (least : Int) (s : RS) : Int × Int := signOf L s least signs
mutual
def sOne : Nat → RS → Res Ex
  | 0, _ => .out
  | n + 1, s => (sMay L [45] s).bind fun b s1 => bif b then (sOne n s1).bind fun e s2 => .ok (.mk 8 19 [] 0 (cur L s).p [e]) s2 else
    (sMay L [126] s1).bind fun b s1 => bif b then (sOne n s1).bind fun e s2 => .ok (.mk 8 20 [] 0 (cur L s).p [e]) s2 else
    (sMay L [33] s1).bind fun b s1 => bif b then (sOne n s1).bind fun e s2 => .ok (.mk 8 21 [] 0 (cur L s).p [e]) s2 else
    bif (cur L s).k == 3 then .ok (.mk 1 0 [] (cur L s).n (cur L s).p []) s1.nx else
    (sMay L [116, 114, 117, 101] s1).bind fun b s1 => bif b then .ok (.mk 2 0 [] 1 (cur L s).p []) s1 else
    (sMay L [102, 97, 108, 115, 101] s1).bind fun b s1 => bif b then .ok (.mk 2 0 [] 0 (cur L s).p []) s1 else
    (sMay L [114, 101, 97, 100] s1).bind fun b s1 => bif b then (sWant L [40] s1).bind fun _ s2 => (sWant L [41] s2).bind fun _ s3 => .ok (.mk 6 0 [] 0 (cur L s).p []) s3 else
    (sMay L [108, 101, 110] s1).bind fun b s1 => bif b then (sWant L [40] s1).bind fun _ s2 => (sTake L 1 s2).bind fun t s3 => (sWant L [41] s3).bind fun _ s4 => .ok (.mk 7 0 t.t 0 (cur L s).p []) s4 else
    bif isT L s1 [40] then (sWant L [40] s1).bind fun _ s2 => (sExpr n 1 s2).bind fun e s3 => (sWant L [41] s3).bind fun _ s4 => .ok e s4 else
    (sTake L 1 s1).bind fun t s2 => bif isT L s2 [91] then (sPlace n s2).bind fun e s3 => .ok (.mk 4 0 t.t 0 (cur L s).p [e]) s3 else
    bif isT L s2 [40] then (sCall n t.t (cur L s).p s2).bind fun e s3 => .ok e s3 else .ok (.mk 3 0 t.t 0 (cur L s).p []) s2
def sPlace : Nat → RS → Res Ex
  | 0, _ => .out
  | n + 1, s => (sWant L [91] s).bind fun _ s1 => (sExpr n 1 s1).bind fun e s2 => (sWant L [93] s2).bind fun _ s3 => .ok e s3
def sCall : Nat → List UInt8 → Int → RS → Res Ex
  | 0, _, _, _ => .out
  | n + 1, nm, p, s => (sArgs n s).bind fun l s1 => .ok (.mk 5 0 nm 0 p l) s1
def sArgs : Nat → RS → Res (List Ex)
  | 0, _ => .out
  | n + 1, s => (sWant L [40] s).bind fun _ s1 => bif isT L s1 [41] then (sWant L [41] s1).bind fun _ s2 => .ok [] s2 else
    (sExpr n 1 s1).bind fun e s2 => (sMore n [e] s2).bind fun l s3 => (sWant L [41] s3).bind fun _ s4 => .ok l s4
def sMore : Nat → List Ex → RS → Res (List Ex)
  | 0, _, _ => .out
  | n + 1, l, s => (sMay L [44] s).bind fun b s1 => bif b then (sExpr n 1 s1).bind fun e s2 => sMore n (l ++ [e]) s2 else .ok l s1
def sExpr : Nat → Int → RS → Res Ex
  | 0, _, _ => .out
  | n + 1, least, s => (sOne n s).bind fun e s1 => sTail n least e s1
def sTail : Nat → Int → Ex → RS → Res Ex
  | 0, _, _, _ => .out
  | n + 1, least, e, s => bif (sSign L least s).1 == 0 then .ok e s else
    (sExpr n (w64 ((sSign L least s).2 + 1)) s.nx).bind fun r s2 => sTail n least (.mk 9 (sSign L least s).1 [] 0 (cur L s).p [e, r]) s2
end
def sLet (n : Nat) (id p : Int) (s1 : RS) : Res St' :=
  (sTake L 1 s1).bind fun t s2 => (sWant L [58] s2).bind fun _ s3 => (sKind L [1, 2, 3] s3).bind fun ty s4 =>
    bif ty == 3 then (sWant L [91] s4).bind fun _ s5 => (sTake L 3 s5).bind fun m s6 => (sWant L [93] s6).bind fun _ s7 => (sWant L [59] s7).bind fun _ s8 => .ok (.mk 1 id t.t ty m.n p [] [] []) s8
    else (sMay L [61] s4).bind fun b s5 => bif b then (sExpr L n 1 s5).bind fun e s6 => (sWant L [59] s6).bind fun _ s7 => .ok (.mk 1 id t.t ty 0 p [e] [] []) s7
    else (sWant L [59] s5).bind fun _ s6 => .ok (.mk 1 id t.t ty 0 p [] [] []) s6
def sNamed (n : Nat) (id p : Int) (s1 : RS) : Res St' :=
  (sTake L 1 s1).bind fun t s2 => bif isT L s2 [40] then
    (sCall L n t.t p s2).bind fun e s3 => (sWant L [59] s3).bind fun _ s4 => .ok (.mk 8 id [] 0 0 p [e] [] []) s4
  else bif isT L s2 [91] then
    (sPlace L n s2).bind fun e s3 => (sWant L [61] s3).bind fun _ s4 => (sExpr L n 1 s4).bind fun f s5 => (sWant L [59] s5).bind fun _ s6 => .ok (.mk 3 id t.t 0 0 p [e, f] [] []) s6
  else (sWant L [61] s2).bind fun _ s3 => (sExpr L n 1 s3).bind fun e s4 => (sWant L [59] s4).bind fun _ s5 => .ok (.mk 2 id t.t 0 0 p [e] [] []) s5
/-- A statement begins: it has a number. -/
def RS.st (s : RS) : RS := { s with n := w64 (s.n + 1) }
mutual
def sBlock : Nat → RS → Res (List St')
  | 0, _ => .out
  | n + 1, s => (sWant L [123] s).bind fun _ s1 => (sStmts n [] s1).bind fun l s2 => (sWant L [125] s2).bind fun _ s3 => .ok l s3
def sStmts : Nat → List St' → RS → Res (List St')
  | 0, _, _ => .out
  | n + 1, l, s => bif isT L s [125] then .ok l s else (sStmt n s).bind fun x s1 => sStmts n (l ++ [x]) s1
def sStmt : Nat → RS → Res St'
  | 0, _ => .out
  | n + 1, s0 =>
    (sMay L [108, 101, 116] s0.st).bind fun b s1 => bif b then (sLet L n s0.st.n (cur L s0.st).p s1).bind fun x s2 => .ok x s2
    else (sMay L [105, 102] s1).bind fun b s1 => bif b then
      (sExpr L n 1 s1).bind fun e s2 => (sBlock n s2).bind fun l s3 => (sMay L [101, 108, 115, 101] s3).bind fun b s4 =>
        bif b then (sBlock n s4).bind fun m s5 => .ok (.mk 4 s0.st.n [] 0 0 (cur L s0.st).p [e] l m) s5 else .ok (.mk 4 s0.st.n [] 0 0 (cur L s0.st).p [e] l []) s4
    else (sMay L [119, 104, 105, 108, 101] s1).bind fun b s1 => bif b then
      (sExpr L n 1 s1).bind fun e s2 => (sBlock n s2).bind fun l s3 => .ok (.mk 5 s0.st.n [] 0 0 (cur L s0.st).p [e] l []) s3
    else (sMay L [114, 101, 116, 117, 114, 110] s1).bind fun b s1 => bif b then
      bif isT L s1 [59] then (sWant L [59] s1).bind fun _ s2 => .ok (.mk 6 s0.st.n [] 0 0 (cur L s0.st).p [] [] []) s2
      else (sExpr L n 1 s1).bind fun e s2 => (sWant L [59] s2).bind fun _ s3 => .ok (.mk 6 s0.st.n [] 0 0 (cur L s0.st).p [e] [] []) s3
    else (sMay L [112, 114, 105, 110, 116] s1).bind fun b s1 => bif b then
      (sExpr L n 1 s1).bind fun e s2 => (sWant L [59] s2).bind fun _ s3 => .ok (.mk 7 s0.st.n [] 0 0 (cur L s0.st).p [e] [] []) s3
    else (sNamed L n s0.st.n (cur L s0.st).p s1).bind fun x s2 => .ok x s2
end
def sParam (s : RS) : Res Pm := (sTake L 1 s).bind fun t s1 => (sWant L [58] s1).bind fun _ s2 => (sKind L [1, 2, 3] s2).bind fun k s3 => .ok ⟨t.t, k, t.p⟩ s3
def sPMore : Nat → List Pm → RS → Res (List Pm)
  | 0, _, _ => .out
  | n + 1, l, s => (sMay L [44] s).bind fun b s1 => bif b then (sParam L s1).bind fun e s2 => sPMore n (l ++ [e]) s2 else .ok l s1
def sParams (n : Nat) (s : RS) : Res (List Pm) := (sWant L [40] s).bind fun _ s1 => bif isT L s1 [41] then (sWant L [41] s1).bind fun _ s2 => .ok [] s2 else
    (sParam L s1).bind fun e s2 => (sPMore L n [e] s2).bind fun l s3 => (sWant L [41] s3).bind fun _ s4 => .ok l s4
def sFn (n : Nat) (s : RS) : Res Fn := (sWant L [102, 110] s).bind fun t s1 => (sTake L 1 s1).bind fun u s2 => (sParams L n s2).bind fun ps s3 => (sMay L [58] s3).bind fun b s4 =>
  bif b then (sKind L [1, 2] s4).bind fun k s5 => (sBlock L n s5).bind fun l s6 => .ok ⟨u.t, ps, k, l, t.p⟩ s6
  else (sBlock L n s4).bind fun l s5 => .ok ⟨u.t, ps, 0, l, t.p⟩ s5
def sFns (N : Nat) : Nat → List Fn → RS → Res (List Fn)
  | 0, _, _ => .out
  | n + 1, l, s => bif (cur L s).k == 0 then .ok l s else (sFn L N s).bind fun f s1 => sFns N n (l ++ [f]) s1
def sProg (n : Nat) : Res (List Fn) := (sFn L n ⟨0, 0, 0⟩).bind fun f s1 => sFns L n n [f] s1
end
/-! ### Readers go on -/
def Gr {α : Type} (s : RS) (r : Res α) : Prop := ∀ a s', r = .ok a s' → s.i < s'.i
def Gq {α : Type} (s : RS) (r : Res α) : Prop := ∀ a s', r = .ok a s' → s.i ≤ s'.i
theorem Gr.le {α : Type} {s : RS} {r : Res α} (h : Gr s r) : Gq s r := fun a s' e => Nat.le_of_lt (h a s' e)
theorem Gr.bind {α β : Type} {s : RS} {r : Res α} {f : α → RS → Res β} (h : Gr s r) (hf : ∀ a s', r = .ok a s' → Gq s' (f a s')) : Gr s (r.bind f) := fun b s2 e => by
  cases r with
  | ok a s1 => exact Nat.lt_of_lt_of_le (h a s1 rfl) (hf a s1 rfl b s2 e)
  | bad p q s1 => cases e
  | out => cases e
theorem Gq.bind {α β : Type} {s : RS} {r : Res α} {f : α → RS → Res β} (h : Gq s r) (hf : ∀ a s', r = .ok a s' → Gr s' (f a s')) : Gr s (r.bind f) := fun b s2 e => by
  cases r with
  | ok a s1 => exact Nat.lt_of_le_of_lt (h a s1 rfl) (hf a s1 rfl b s2 e)
  | bad p q s1 => cases e
  | out => cases e
theorem Gq.bindq {α β : Type} {s : RS} {r : Res α} {f : α → RS → Res β} (h : Gq s r) (hf : ∀ a s', r = .ok a s' → Gq s' (f a s')) : Gq s (r.bind f) := fun b s2 e => by
  cases r with
  | ok a s1 => exact Nat.le_trans (h a s1 rfl) (hf a s1 rfl b s2 e)
  | bad p q s1 => cases e
  | out => cases e
theorem Gq.ok {α : Type} (a : α) (s : RS) : Gq s (.ok a s) := fun _ _ e => by cases e; exact Nat.le_refl _
theorem Gq.out {α : Type} (s : RS) : Gq s (Res.out : Res α) := fun _ _ e => by cases e
theorem Gr.out {α : Type} (s : RS) : Gr s (Res.out : Res α) := fun _ _ e => by cases e
theorem want_gr (L : List T) (x : List UInt8) (s : RS) : Gr s (sWant L x s) := fun a s' e => by
  unfold sWant at e
  cases h : isT L s x <;> rw [h] at e
  · cases e
  · simp only [cond_true] at e
    cases h1 : (x == [40] || x == [91] || x == [123]) <;> rw [h1] at e
    · simp only [cond_false] at e
      cases h2 : (x == [41] || x == [93] || x == [125]) <;> rw [h2] at e <;> cases e <;> exact Nat.lt_succ_self _
    · simp only [cond_true] at e
      cases h2 : decide (200 < w64 (s.op + 1)) <;> rw [h2] at e <;> cases e
      exact Nat.lt_succ_self _
theorem take_gr (L : List T) (k : Int) (s : RS) : Gr s (sTake L k s) := fun a s' e => by
  unfold sTake at e
  cases h : ((cur L s).k == k) <;> rw [h] at e <;> cases e
  exact Nat.lt_succ_self _
theorem may_gq (L : List T) (x : List UInt8) (s : RS) : Gq s (sMay L x s) := fun a s' e => by
  unfold sMay at e
  cases h : isT L s x <;> rw [h] at e
  · cases e; exact Nat.le_refl _
  · exact ((want_gr L x s).bind fun _ _ _ => Gq.ok _ _) a s' e |> Nat.le_of_lt
theorem Gr.mayT {α : Type} {L : List T} {x : List UInt8} {s : RS} {X Y : RS → Res α} (hX : ∀ s', s.i < s'.i → Gq s' (X s')) (hY : Gr s (Y s)) : Gr s ((sMay L x s).bind fun b s1 => bif b then X s1 else Y s1) := fun a s' e => by
  unfold sMay at e
  cases h : isT L s x <;> rw [h] at e
  · exact hY a s' e
  · simp only [cond_true] at e
    cases hw : sWant L x s <;> rw [hw] at e
    · rename_i t s1
      have := want_gr L x s t s1 hw
      exact Nat.lt_of_lt_of_le this (hX s1 this a s' e)
    · cases e
    · cases e
theorem Gr.ite {α : Type} {c : Bool} {s : RS} {X Y : Res α} (hX : Gr s X) (hY : Gr s Y) : Gr s (bif c then X else Y) := by cases c <;> assumption
theorem Gq.ite {α : Type} {c : Bool} {s : RS} {X Y : Res α} (hX : Gq s X) (hY : Gq s Y) : Gq s (bif c then X else Y) := by cases c <;> assumption
theorem tree_gr (L : List T) : ∀ n, (∀ s, Gr s (sOne L n s)) ∧ (∀ s, Gr s (sPlace L n s)) ∧ (∀ nm p s, Gr s (sCall L n nm p s)) ∧ (∀ s, Gr s (sArgs L n s)) ∧ (∀ l s, Gq s (sMore L n l s)) ∧ (∀ k s, Gr s (sExpr L n k s)) ∧ (∀ k e s, Gq s (sTail L n k e s))
  | 0 => ⟨fun s => Gr.out s, fun s => Gr.out s, fun _ _ s => Gr.out s, fun s => Gr.out s, fun _ s => Gq.out s, fun _ s => Gr.out s, fun _ _ s => Gq.out s⟩
  | n + 1 => by
    obtain ⟨h1, h2, h3, h4, h5, h6, h7⟩ := tree_gr L n
    refine ⟨fun s => ?_, fun s => ?_, fun nm p s => ?_, fun s => ?_, fun l s => ?_, fun k s => ?_, fun k e s => ?_⟩
    · simp only [sOne]
      have un : ∀ (f : Ex → Ex) s', Gq s' ((sOne L n s').bind fun e s2 => .ok (f e) s2) := fun f s' => ((h1 s').bind fun _ _ _ => Gq.ok _ _).le
      refine Gr.mayT (fun s' _ => un _ s') (Gr.mayT (fun s' _ => un _ s') (Gr.mayT (fun s' _ => un _ s') (Gr.ite (fun _ _ e => by cases e; exact Nat.lt_succ_self _) ?_)))
      refine Gr.mayT (fun s' _ => Gq.ok _ _) (Gr.mayT (fun s' _ => Gq.ok _ _) ?_)
      refine Gr.mayT (fun s' _ => ((want_gr L _ s').bind fun _ _ _ => ((want_gr L _ _).bind fun _ _ _ => Gq.ok _ _).le).le) ?_
      refine Gr.mayT (fun s' _ => ((want_gr L _ s').bind fun _ _ _ => ((take_gr L _ _).bind fun _ _ _ => ((want_gr L _ _).bind fun _ _ _ => Gq.ok _ _).le).le).le) ?_
      refine Gr.ite ((want_gr L _ s).bind fun _ _ _ => ((h6 _ _).bind fun _ _ _ => ((want_gr L _ _).bind fun _ _ _ => Gq.ok _ _).le).le) ?_
      refine (take_gr L _ s).bind fun _ s' _ => Gq.ite ((h2 s').bind fun _ _ _ => Gq.ok _ _).le (Gq.ite ((h3 _ _ s').bind fun _ _ _ => Gq.ok _ _).le (Gq.ok _ _))
    · simp only [sPlace]
      exact (want_gr L _ s).bind fun _ _ _ => ((h6 _ _).bind fun _ _ _ => ((want_gr L _ _).bind fun _ _ _ => Gq.ok _ _).le).le
    · simp only [sCall]
      exact (h4 s).bind fun _ _ _ => Gq.ok _ _
    · simp only [sArgs]
      exact (want_gr L _ s).bind fun _ s1 _ => Gq.ite ((want_gr L _ s1).bind fun _ _ _ => Gq.ok _ _).le ((h6 _ s1).bind fun _ s2 _ => (h5 _ s2).bindq fun _ s3 _ => ((want_gr L _ s3).bind fun _ _ _ => Gq.ok _ _).le).le
    · simp only [sMore]
      intro a s' e
      unfold sMay at e
      cases h : isT L s [44] <;> rw [h] at e
      · cases e; exact Nat.le_refl _
      · simp only [cond_true] at e
        cases hw : sWant L [44] s <;> rw [hw] at e
        · rename_i t s1
          have g1 := want_gr L _ s t s1 hw
          exact Nat.le_trans (Nat.le_of_lt g1) (((h6 1 s1).bind fun _ s2 _ => h5 _ s2).le a s' e)
        · cases e
        · cases e
    · simp only [sExpr]
      exact (h1 s).bind fun _ s1 _ => h7 _ _ s1
    · simp only [sTail]
      refine Gq.ite (Gq.ok _ _) (fun a s' e2 => ?_)
      have := ((h6 (w64 ((sSign L k s).2 + 1)) s.nx).bind fun _ s2 _ => h7 _ _ s2) a s' e2
      simp only [RS.nx] at this
      omega
theorem exprGrows (L : List T) (n : Nat) (k : Int) (s : RS) (a : Ex) (s2 : RS) (h : sExpr L n k s = .ok a s2) : s.i < s2.i := (tree_gr L n).2.2.2.2.2.1 k s a s2 h
theorem expr_gr (L : List T) (n : Nat) (k : Int) (s : RS) : Gr s (sExpr L n k s) := (tree_gr L n).2.2.2.2.2.1 k s
theorem kind_gr (L : List T) : ∀ (l : List Int) (s : RS), Gr s (sKind L l s)
  | [], s => fun _ _ e => by cases e
  | k :: r, s => by
    simp only [sKind]
    exact Gr.mayT (fun s' _ => Gq.ok _ _) (kind_gr L r s)
theorem let_gr (L : List T) (n : Nat) (id p : Int) (s : RS) : Gr s (sLet L n id p s) := by
  unfold sLet
  refine (take_gr L _ s).bind fun _ s2 _ => ((want_gr L _ s2).bind fun _ s3 _ => ((kind_gr L _ s3).bind fun _ s4 _ => Gq.ite ?_ ?_).le).le
  · exact ((want_gr L _ s4).bind fun _ s5 _ => ((take_gr L _ s5).bind fun _ s6 _ => ((want_gr L _ s6).bind fun _ s7 _ => ((want_gr L _ s7).bind fun _ _ _ => Gq.ok _ _).le).le).le).le
  · exact (Gr.mayT (fun s' _ => ((expr_gr L n 1 s').bind fun _ s6 _ => ((want_gr L _ s6).bind fun _ _ _ => Gq.ok _ _).le).le) ((want_gr L _ s4).bind fun _ _ _ => Gq.ok _ _)).le
theorem named_gr (L : List T) (n : Nat) (id p : Int) (s : RS) : Gr s (sNamed L n id p s) := by
  unfold sNamed
  obtain ⟨_, h2, h3, _⟩ := tree_gr L n
  refine (take_gr L _ s).bind fun _ s2 _ => Gq.ite ((h3 _ _ s2).bind fun _ s3 _ => ((want_gr L _ s3).bind fun _ _ _ => Gq.ok _ _).le).le (Gq.ite ?_ ?_)
  · exact ((h2 s2).bind fun _ s3 _ => ((want_gr L _ s3).bind fun _ s4 _ => ((expr_gr L n 1 s4).bind fun _ s5 _ => ((want_gr L _ s5).bind fun _ _ _ => Gq.ok _ _).le).le).le).le
  · exact ((want_gr L _ s2).bind fun _ s3 _ => ((expr_gr L n 1 s3).bind fun _ s4 _ => ((want_gr L _ s4).bind fun _ _ _ => Gq.ok _ _).le).le).le
theorem Gr.st {α : Type} {s : RS} {r : Res α} (h : Gr s.st r) : Gr s r := fun a s' e => h a s' e
theorem stmt_gr (L : List T) : ∀ n, (∀ s, Gr s (sBlock L n s)) ∧ (∀ l s, Gq s (sStmts L n l s)) ∧ (∀ s, Gr s (sStmt L n s))
  | 0 => ⟨fun s => Gr.out s, fun _ s => Gq.out s, fun s => Gr.out s⟩
  | n + 1 => by
    obtain ⟨h1, h2, h3⟩ := stmt_gr L n
    refine ⟨fun s => ?_, fun l s => ?_, fun s => ?_⟩
    · simp only [sBlock]
      exact (want_gr L _ s).bind fun _ s1 _ => (h2 _ s1).bindq fun _ s2 _ => ((want_gr L _ s2).bind fun _ _ _ => Gq.ok _ _).le
    · simp only [sStmts]
      exact Gq.ite (Gq.ok _ _) ((h3 s).bind fun _ s1 _ => h2 _ s1).le
    · simp only [sStmt]
      refine Gr.st (Gr.mayT (fun s' _ => ((let_gr L n _ _ s').bind fun _ _ _ => Gq.ok _ _).le) (Gr.mayT (fun s' _ => ?_) (Gr.mayT (fun s' _ => ?_) (Gr.mayT (fun s' _ => ?_) (Gr.mayT (fun s' _ => ?_) ?_)))))
      · exact ((expr_gr L n 1 s').bind fun _ s2 _ => ((h1 s2).bind fun _ s3 _ => (may_gq L _ s3).bindq fun b s4 _ => Gq.ite ((h1 s4).bind fun _ _ _ => Gq.ok _ _).le (Gq.ok _ _)).le).le
      · exact ((expr_gr L n 1 s').bind fun _ s2 _ => ((h1 s2).bind fun _ _ _ => Gq.ok _ _).le).le
      · exact Gq.ite ((want_gr L _ s').bind fun _ _ _ => Gq.ok _ _).le ((expr_gr L n 1 s').bind fun _ s2 _ => ((want_gr L _ s2).bind fun _ _ _ => Gq.ok _ _).le).le
      · exact ((expr_gr L n 1 s').bind fun _ s2 _ => ((want_gr L _ s2).bind fun _ _ _ => Gq.ok _ _).le).le
      · exact (named_gr L n _ _ _).bind fun _ _ _ => Gq.ok _ _
end Go.Avm
/-
  Texts as programs: tables of hints; the reader's part of the heap; what a reader's function answers.
-/
set_option linter.unusedSectionVars false
namespace Go.Avm
open Go.Proofs

def lookK {P : Program} (f s : Nat) : List (Nat × Nat × Hint P) → Option (Hint P)
  | [] => none
  | (f', s', h) :: r => bif Nat.beq f f' && Nat.beq s s' then some h else lookK f s r
def tabH (P : Program) (l : List (Nat × Nat × Hint P)) : Nat → Nat → Option (Hint P) := fun f s => lookK f s l
def lookKB {P : Program} (f s b : Nat) : List (Nat × Nat × Nat × Hint P) → Option (Hint P)
  | [] => none
  | (f', s', b', h) :: r => bif Nat.beq f f' && Nat.beq s s' && Nat.beq b b' then some h else lookKB f s b r
def tabHB (P : Program) (l : List (Nat × Nat × Nat × Hint P)) : Nat → Nat → Nat → Option (Hint P) := fun f s b => lookKB f s b l
def lookC {P : Program} (f s b : Nat) : List (Nat × Nat × Nat × CHint P) → Option (CHint P)
  | [] => none
  | (f', s', b', h) :: r => bif Nat.beq f f' && Nat.beq s s' && Nat.beq b b' then some h else lookC f s b r
def tabC (P : Program) (l : List (Nat × Nat × Nat × CHint P)) : Nat → Nat → Nat → Option (CHint P) := fun f s b => lookC f s b l
def lookP {P : Program} (f s b : Nat) : List (Nat × Nat × Nat × PHint P) → Option (PHint P)
  | [] => none
  | (f', s', b', h) :: r => bif Nat.beq f f' && Nat.beq s s' && Nat.beq b b' then some h else lookP f s b r
def tabP (P : Program) (l : List (Nat × Nat × Nat × PHint P)) : Nat → Nat → Nat → Option (PHint P) := fun f s b => lookP f s b l
def cOf {P : Program} {g : Nat} {args rs : List AV} {pre post : List (Nat × Ent)} (h : ∀ rest : Heap, HCall P g args (ovl pre rest) rs (ovl post rest)) : CHint P := ⟨g, args, pre, rs, post, fits_of h⟩
/-- A call that looks alone. -/
def cRo {P : Program} {g : Nat} {args rs : List AV} {pre : List (Nat × Ent)} (hs : (pre.all fun p => p.2.ob.isSome) = true) (h : ∀ rest : Heap, HCall P g args (ovl pre rest) rs (ovl pre rest)) : CHint P := ⟨g, args, pre, rs, [], fits_ro hs h⟩
theorem hpan_forget {P : Program} {g : Nat} {args : List AV} {x : AV} {h h1 h2 : Heap} (hc : HPan P g args h1 x h2) (hh : ∀ k, (h1 k).ver = (h k).ver ∧ ((h1 k).ob = none ∨ (h1 k).ob = (h k).ob)) : HPan P g args h x h2 :=
  ⟨hc.1, fun G B w0 I0 w cargs hr hs hargs => hc.2 G B w0 I0 w cargs (hr.forget hh) hs hargs⟩
def pOf {P : Program} {g : Nat} {args : List AV} {x : AV} {pre post : List (Nat × Ent)} (h : ∀ rest : Heap, HPan P g args (ovl pre rest) x (ovl post rest)) : PCall P := ⟨g, args, pre, x, post, fun h' hf => hpan_forget (h h') (ovl_sub h' pre hf)⟩
def hB (P : Program) (a b : Bool) (h : a = b) : Hint P := .val (dB a) (dB b) (by rw [h])

/-! ### The reader -/
abbrev toksD (L : List T) : D := .ro (L.map tD)
/-- The reader's object. -/
abbrev rdC (L : List T) (s : RS) : List AV := [.d (toksD L), dN s.i, dI s.op, dI s.n]
abbrev rd (L : List T) (s : RS) : List (Nat × Ent) := [(500000, ⟨1, some (.arr 1 (rdC L s))⟩)]
abbrev rP : AV := .ptr 500000 1 0 0 1
abbrev flt (p e : Int) : AV := .iv 102 (.d (.agg [.int .i64 p, .int .i64 e]))
/-- What a call of a reader's function does. -/
def RC {α : Type} (L : List T) (f : Nat) (args : List AV) (g : α → List D) (s : RS) : Res α → Prop
  | .ok a s' => s'.i < L.length ∧ ∀ rest : Heap, HCall Tryz.prog f args (ovl (rd L s) rest) ((g a).map .d) (ovl (rd L s') rest)
  | .bad p e s' => ∀ rest : Heap, HPan Tryz.prog f args (ovl (rd L s) rest) (flt p e) (ovl (rd L s') rest)
  | .out => True
/-- Tokens of which the last alone is the end. -/
structure Toks (L : List T) : Prop where
  len : L.length < 1000000
  last : ∀ i x, L[i]? = some x → x.k ≠ 0 → i + 1 < L.length
theorem cur_get {L : List T} {s : RS} (h : s.i < L.length) : L[s.i]? = some (cur L s) := by
  unfold cur
  rw [List.getD_eq_getElem?_getD, List.getElem?_eq_getElem h]
  rfl
theorem nx_lt {L : List T} (hL : Toks L) {s : RS} (h : s.i < L.length) (hk : (cur L s).k ≠ 0) : s.i + 1 < L.length := hL.last s.i _ (cur_get h) hk
theorem isT_nx {L : List T} (hL : Toks L) {s : RS} (h : s.i < L.length) {x : List UInt8} (hi : isT L s x = true) : s.i + 1 < L.length := nx_lt hL h fun h0 => by
  unfold isT at hi
  rw [h0] at hi
  simp at hi
def hCur (P : Program) {L : List T} {s : RS} (h : s.i < L.length) : Hint P := .idx (L.map tD) ((s.i : Nat) : Int) (tD (cur L s)) (by omega) (by rw [Int.toNat_natCast, List.getElem?_map, cur_get h]; rfl)
end Go.Avm
/-
  Texts as programs: the reader's small functions.
-/
set_option linter.unusedSectionVars false
namespace Go.Avm
open Go.Proofs

section
variable {L : List T} {s : RS} (hi : s.i < L.length)
include hi
theorem nowR : ∀ rest : Heap, HCall Tryz.prog 22 [rP] (ovl (rd L s) rest) ([tD (cur L s)].map .d) (ovl (rd L s) rest) :=
  hclean_of_run okP named { hint := tabH Tryz.prog [(22, 11, hCur Tryz.prog hi)] } 2000 1000 _ 1000000 ⟨rfl, rfl, rfl, by kernel_rfl, by kernel_rfl, by kernel_rfl⟩ (fun _ => by kernel_rfl)
theorem badR : ∀ rest : Heap, HPan Tryz.prog 61 [rP] (ovl (rd L s) rest) (flt (cur L s).p 4) (ovl (rd L s) rest) :=
  hcleanP_of_run okP named { calls := tabC Tryz.prog [(61, 3, 1007, cOf (nowR hi))], pans := tabP Tryz.prog [(61, 0, 1000, ⟨5, none, []⟩)] } 2000 1000 _ 1000000 ⟨rfl, rfl, rfl, by kernel_rfl, by kernel_rfl, by kernel_rfl⟩ (by kernel_rfl) (fun _ => by kernel_rfl)
theorem isA (x : List UInt8) (h1 : ((cur L s).k == 2) = true) : ∀ rest : Heap, HCall Tryz.prog 60 [rP, .d (.str x)] (ovl (rd L s) rest) ([.bool ((cur L s).t == x)].map .d) (ovl (rd L s) rest) :=
  hclean_of_run okP named { hint := tabH Tryz.prog [(60, 10, hB Tryz.prog ((cur L s).k == 2) true h1)], calls := tabC Tryz.prog [(60, 7, 1044, cOf (nowR hi))] } 2000 1000 _ 1000000 ⟨rfl, rfl, rfl, by kernel_rfl, by kernel_rfl, by kernel_rfl⟩ (fun _ => by kernel_rfl)
theorem isB (x : List UInt8) (h1 : ((cur L s).k == 2) = false) (h2 : ((cur L s).k == 4) = true) : ∀ rest : Heap, HCall Tryz.prog 60 [rP, .d (.str x)] (ovl (rd L s) rest) ([.bool ((cur L s).t == x)].map .d) (ovl (rd L s) rest) :=
  hclean_of_run okP named { hint := tabH Tryz.prog [(60, 10, hB Tryz.prog ((cur L s).k == 2) false h1), (60, 14, hB Tryz.prog ((cur L s).k == 4) true h2)], calls := tabC Tryz.prog [(60, 7, 1044, cOf (nowR hi))] } 2000 1000 _ 1000000 ⟨rfl, rfl, rfl, by kernel_rfl, by kernel_rfl, by kernel_rfl⟩ (fun _ => by kernel_rfl)
theorem isN (x : List UInt8) (h1 : ((cur L s).k == 2) = false) (h2 : ((cur L s).k == 4) = false) : ∀ rest : Heap, HCall Tryz.prog 60 [rP, .d (.str x)] (ovl (rd L s) rest) ([.bool false].map .d) (ovl (rd L s) rest) :=
  hclean_of_run okP named { hint := tabH Tryz.prog [(60, 10, hB Tryz.prog ((cur L s).k == 2) false h1), (60, 14, hB Tryz.prog ((cur L s).k == 4) false h2)], calls := tabC Tryz.prog [(60, 7, 1044, cOf (nowR hi))] } 2000 1000 _ 1000000 ⟨rfl, rfl, rfl, by kernel_rfl, by kernel_rfl, by kernel_rfl⟩ (fun _ => by kernel_rfl)
theorem isR (x : List UInt8) : ∀ rest : Heap, HCall Tryz.prog 60 [rP, .d (.str x)] (ovl (rd L s) rest) ([.bool (isT L s x)].map .d) (ovl (rd L s) rest) := by
  unfold isT
  cases h1 : ((cur L s).k == 2) with
  | true => exact isA hi x h1
  | false => cases h2 : ((cur L s).k == 4) with
    | true => exact isB hi x h1 h2
    | false => exact isN hi x h1 h2
/-! ### take -/
theorem takeT (hL : Toks L) (k : Int) (h : (cur L s).k = k) : ∀ rest : Heap, HCall Tryz.prog 35 [rP, .d (.int .u8 k)] (ovl (rd L s) rest) ([tD (cur L s)].map .d) (ovl (rd L s.nx) rest) :=
  hclean_of_run okP named { hint := tabH Tryz.prog [(35, 11, hB Tryz.prog ((cur L s).k != k) false (by simp [h])), (35, 18, hSucc Tryz.prog s.i (by have := hL.len; omega))], calls := tabC Tryz.prog [(35, 7, 1044, cOf (nowR hi))] } 2000 1000 _ 1000000 ⟨rfl, rfl, rfl, by kernel_rfl, by kernel_rfl, by kernel_rfl⟩ (fun _ => by kernel_rfl)
theorem takeF (k : Int) (h : (cur L s).k ≠ k) : ∀ rest : Heap, HPan Tryz.prog 35 [rP, .d (.int .u8 k)] (ovl (rd L s) rest) (flt (cur L s).p 4) (ovl (rd L s) rest) :=
  hcleanP_of_run okP named { hint := tabH Tryz.prog [(35, 11, hB Tryz.prog ((cur L s).k != k) true (by simpa using h))], calls := tabC Tryz.prog [(35, 7, 1044, cOf (nowR hi))], pans := tabP Tryz.prog [(35, 3, 1176, ⟨1, some (pOf (badR hi)), []⟩)] } 2000 1000 _ 1000000 ⟨rfl, rfl, rfl, by kernel_rfl, by kernel_rfl, by kernel_rfl⟩ (by kernel_rfl) (fun _ => by kernel_rfl)
theorem takeR (hL : Toks L) (k : Int) (hk : k ≠ 0) : RC L 35 [rP, .d (.int .u8 k)] (fun t => [tD t]) s (sTake L k s) := by
  unfold sTake
  cases h : ((cur L s).k == k) with
  | true =>
    have h := eq_of_beq h
    exact ⟨nx_lt hL hi (by rw [h]; exact hk), takeT hi hL k h⟩
  | false =>
    exact takeF hi k (by simpa using h)
/-! ### want -/
theorem wantF (x : List UInt8) (h : isT L s x = false) : ∀ rest : Heap, HPan Tryz.prog 34 [rP, .d (.str x)] (ovl (rd L s) rest) (flt (cur L s).p 4) (ovl (rd L s) rest) :=
  hcleanP_of_run okP named { hint := tabH Tryz.prog [(34, 9, hB Tryz.prog (!isT L s x) true (by simp [h]))], calls := tabC Tryz.prog [(34, 8, 1162, cOf (isR hi x))], pans := tabP Tryz.prog [(34, 2, 1216, ⟨1, some (pOf (badR hi)), []⟩)] } 2000 1000 _ 1000000 ⟨rfl, rfl, rfl, by kernel_rfl, by kernel_rfl, by kernel_rfl⟩ (by kernel_rfl) (fun _ => by kernel_rfl)
theorem want0 (hL : Toks L) (x : List UInt8) (h : isT L s x = true) (h1 : (x == [40]) = false) (h2 : (x == [91]) = false) (h3 : (x == [123]) = false) (h4 : (x == [41]) = false) (h5 : (x == [93]) = false) (h6 : (x == [125]) = false) :
    ∀ rest : Heap, HCall Tryz.prog 34 [rP, .d (.str x)] (ovl (rd L s) rest) ([tD (cur L s)].map .d) (ovl (rd L s.nx) rest) :=
  hclean_of_run okP named { hint := tabH Tryz.prog [(34, 9, hB Tryz.prog (!isT L s x) false (by simp [h])), (34, 16, hB Tryz.prog (x == [40]) false h1), (34, 17, hB Tryz.prog (x == [91]) false h2), (34, 18, hB Tryz.prog (x == [123]) false h3), (34, 36, hB Tryz.prog (x == [41]) false h4), (34, 37, hB Tryz.prog (x == [93]) false h5), (34, 38, hB Tryz.prog (x == [125]) false h6), (34, 50, hSucc Tryz.prog s.i (by have := hL.len; omega))], calls := tabC Tryz.prog [(34, 8, 1162, cOf (isR hi x)), (34, 13, 1270, cOf (nowR hi))] } 2000 1000 _ 1000000 ⟨rfl, rfl, rfl, by kernel_rfl, by kernel_rfl, by kernel_rfl⟩ (fun _ => by kernel_rfl)
theorem wantO40 (hL : Toks L) (h : isT L s [40] = true) (hd : decide (200 < w64 (s.op + 1)) = false) :
    ∀ rest : Heap, HCall Tryz.prog 34 [rP, .d (.str [40])] (ovl (rd L s) rest) ([tD (cur L s)].map .d) (ovl (rd L ⟨s.i + 1, w64 (s.op + 1), s.n⟩) rest) :=
  hclean_of_run okP named { hint := tabH Tryz.prog [(34, 9, hB Tryz.prog (!isT L s [40]) false (by simp [h])), (34, 30, hB Tryz.prog (decide (200 < IntKind.i64.wrap (s.op + 1))) false hd), (34, 50, hSucc Tryz.prog s.i (by have := hL.len; omega))], calls := tabC Tryz.prog [(34, 8, 1162, cOf (isR hi [40])), (34, 13, 1270, cOf (nowR hi))] } 2000 1000 _ 1000000 ⟨rfl, rfl, rfl, by kernel_rfl, by kernel_rfl, by kernel_rfl⟩ (fun _ => by kernel_rfl)
theorem wantD40 (h : isT L s [40] = true) (hd : decide (200 < w64 (s.op + 1)) = true) :
    ∀ rest : Heap, HPan Tryz.prog 34 [rP, .d (.str [40])] (ovl (rd L s) rest) (flt (cur L s).p 5) (ovl (rd L { s with op := w64 (s.op + 1) }) rest) :=
  hcleanP_of_run okP named { hint := tabH Tryz.prog [(34, 9, hB Tryz.prog (!isT L s [40]) false (by simp [h])), (34, 30, hB Tryz.prog (decide (200 < IntKind.i64.wrap (s.op + 1))) true hd)], calls := tabC Tryz.prog [(34, 8, 1162, cOf (isR hi [40])), (34, 13, 1270, cOf (nowR hi))], pans := tabP Tryz.prog [(34, 10, 2242, ⟨4, none, []⟩)] } 2000 1000 _ 1000000 ⟨rfl, rfl, rfl, by kernel_rfl, by kernel_rfl, by kernel_rfl⟩ (by kernel_rfl) (fun _ => by kernel_rfl)
theorem wantO91 (hL : Toks L) (h : isT L s [91] = true) (hd : decide (200 < w64 (s.op + 1)) = false) :
    ∀ rest : Heap, HCall Tryz.prog 34 [rP, .d (.str [91])] (ovl (rd L s) rest) ([tD (cur L s)].map .d) (ovl (rd L ⟨s.i + 1, w64 (s.op + 1), s.n⟩) rest) :=
  hclean_of_run okP named { hint := tabH Tryz.prog [(34, 9, hB Tryz.prog (!isT L s [91]) false (by simp [h])), (34, 30, hB Tryz.prog (decide (200 < IntKind.i64.wrap (s.op + 1))) false hd), (34, 50, hSucc Tryz.prog s.i (by have := hL.len; omega))], calls := tabC Tryz.prog [(34, 8, 1162, cOf (isR hi [91])), (34, 13, 1270, cOf (nowR hi))] } 2000 1000 _ 1000000 ⟨rfl, rfl, rfl, by kernel_rfl, by kernel_rfl, by kernel_rfl⟩ (fun _ => by kernel_rfl)
theorem wantD91 (h : isT L s [91] = true) (hd : decide (200 < w64 (s.op + 1)) = true) :
    ∀ rest : Heap, HPan Tryz.prog 34 [rP, .d (.str [91])] (ovl (rd L s) rest) (flt (cur L s).p 5) (ovl (rd L { s with op := w64 (s.op + 1) }) rest) :=
  hcleanP_of_run okP named { hint := tabH Tryz.prog [(34, 9, hB Tryz.prog (!isT L s [91]) false (by simp [h])), (34, 30, hB Tryz.prog (decide (200 < IntKind.i64.wrap (s.op + 1))) true hd)], calls := tabC Tryz.prog [(34, 8, 1162, cOf (isR hi [91])), (34, 13, 1270, cOf (nowR hi))], pans := tabP Tryz.prog [(34, 10, 2350, ⟨4, none, []⟩)] } 2000 1000 _ 1000000 ⟨rfl, rfl, rfl, by kernel_rfl, by kernel_rfl, by kernel_rfl⟩ (by kernel_rfl) (fun _ => by kernel_rfl)
theorem wantO123 (hL : Toks L) (h : isT L s [123] = true) (hd : decide (200 < w64 (s.op + 1)) = false) :
    ∀ rest : Heap, HCall Tryz.prog 34 [rP, .d (.str [123])] (ovl (rd L s) rest) ([tD (cur L s)].map .d) (ovl (rd L ⟨s.i + 1, w64 (s.op + 1), s.n⟩) rest) :=
  hclean_of_run okP named { hint := tabH Tryz.prog [(34, 9, hB Tryz.prog (!isT L s [123]) false (by simp [h])), (34, 30, hB Tryz.prog (decide (200 < IntKind.i64.wrap (s.op + 1))) false hd), (34, 50, hSucc Tryz.prog s.i (by have := hL.len; omega))], calls := tabC Tryz.prog [(34, 8, 1162, cOf (isR hi [123])), (34, 13, 1270, cOf (nowR hi))] } 2000 1000 _ 1000000 ⟨rfl, rfl, rfl, by kernel_rfl, by kernel_rfl, by kernel_rfl⟩ (fun _ => by kernel_rfl)
theorem wantD123 (h : isT L s [123] = true) (hd : decide (200 < w64 (s.op + 1)) = true) :
    ∀ rest : Heap, HPan Tryz.prog 34 [rP, .d (.str [123])] (ovl (rd L s) rest) (flt (cur L s).p 5) (ovl (rd L { s with op := w64 (s.op + 1) }) rest) :=
  hcleanP_of_run okP named { hint := tabH Tryz.prog [(34, 9, hB Tryz.prog (!isT L s [123]) false (by simp [h])), (34, 30, hB Tryz.prog (decide (200 < IntKind.i64.wrap (s.op + 1))) true hd)], calls := tabC Tryz.prog [(34, 8, 1162, cOf (isR hi [123])), (34, 13, 1270, cOf (nowR hi))], pans := tabP Tryz.prog [(34, 10, 2458, ⟨4, none, []⟩)] } 2000 1000 _ 1000000 ⟨rfl, rfl, rfl, by kernel_rfl, by kernel_rfl, by kernel_rfl⟩ (by kernel_rfl) (fun _ => by kernel_rfl)
theorem wantC41 (hL : Toks L) (h : isT L s [41] = true) :
    ∀ rest : Heap, HCall Tryz.prog 34 [rP, .d (.str [41])] (ovl (rd L s) rest) ([tD (cur L s)].map .d) (ovl (rd L ⟨s.i + 1, w64 (s.op - 1), s.n⟩) rest) :=
  hclean_of_run okP named { hint := tabH Tryz.prog [(34, 9, hB Tryz.prog (!isT L s [41]) false (by simp [h])), (34, 50, hSucc Tryz.prog s.i (by have := hL.len; omega))], calls := tabC Tryz.prog [(34, 8, 1162, cOf (isR hi [41])), (34, 13, 1270, cOf (nowR hi))] } 2000 1000 _ 1000000 ⟨rfl, rfl, rfl, by kernel_rfl, by kernel_rfl, by kernel_rfl⟩ (fun _ => by kernel_rfl)
theorem wantC93 (hL : Toks L) (h : isT L s [93] = true) :
    ∀ rest : Heap, HCall Tryz.prog 34 [rP, .d (.str [93])] (ovl (rd L s) rest) ([tD (cur L s)].map .d) (ovl (rd L ⟨s.i + 1, w64 (s.op - 1), s.n⟩) rest) :=
  hclean_of_run okP named { hint := tabH Tryz.prog [(34, 9, hB Tryz.prog (!isT L s [93]) false (by simp [h])), (34, 50, hSucc Tryz.prog s.i (by have := hL.len; omega))], calls := tabC Tryz.prog [(34, 8, 1162, cOf (isR hi [93])), (34, 13, 1270, cOf (nowR hi))] } 2000 1000 _ 1000000 ⟨rfl, rfl, rfl, by kernel_rfl, by kernel_rfl, by kernel_rfl⟩ (fun _ => by kernel_rfl)
theorem wantC125 (hL : Toks L) (h : isT L s [125] = true) :
    ∀ rest : Heap, HCall Tryz.prog 34 [rP, .d (.str [125])] (ovl (rd L s) rest) ([tD (cur L s)].map .d) (ovl (rd L ⟨s.i + 1, w64 (s.op - 1), s.n⟩) rest) :=
  hclean_of_run okP named { hint := tabH Tryz.prog [(34, 9, hB Tryz.prog (!isT L s [125]) false (by simp [h])), (34, 50, hSucc Tryz.prog s.i (by have := hL.len; omega))], calls := tabC Tryz.prog [(34, 8, 1162, cOf (isR hi [125])), (34, 13, 1270, cOf (nowR hi))] } 2000 1000 _ 1000000 ⟨rfl, rfl, rfl, by kernel_rfl, by kernel_rfl, by kernel_rfl⟩ (fun _ => by kernel_rfl)
theorem wantR (hL : Toks L) (x : List UInt8) : RC L 34 [rP, .d (.str x)] (fun t => [tD t]) s (sWant L x s) := by
  unfold sWant
  cases h : isT L s x with
  | false => exact wantF hi x h
  | true =>
    have hn := isT_nx hL hi h
    simp only [cond_true]
    cases h1 : (x == [40]) with
    | true =>
      obtain rfl : x = [40] := eq_of_beq h1
      simp only [Bool.true_or, cond_true]
      cases hd : decide (200 < w64 (s.op + 1)) with
      | true => exact wantD40 hi h hd
      | false => exact ⟨hn, wantO40 hi hL h hd⟩
    | false => cases h2 : (x == [91]) with
    | true =>
      obtain rfl : x = [91] := eq_of_beq h2
      simp only [Bool.true_or, Bool.or_true, cond_true]
      cases hd : decide (200 < w64 (s.op + 1)) with
      | true => exact wantD91 hi h hd
      | false => exact ⟨hn, wantO91 hi hL h hd⟩
    | false => cases h3 : (x == [123]) with
    | true =>
      obtain rfl : x = [123] := eq_of_beq h3
      simp only [Bool.true_or, Bool.or_true, cond_true]
      cases hd : decide (200 < w64 (s.op + 1)) with
      | true => exact wantD123 hi h hd
      | false => exact ⟨hn, wantO123 hi hL h hd⟩
    | false => cases h4 : (x == [41]) with
    | true =>
      obtain rfl : x = [41] := eq_of_beq h4
      exact ⟨hn, wantC41 hi hL h⟩
    | false => cases h5 : (x == [93]) with
    | true =>
      obtain rfl : x = [93] := eq_of_beq h5
      exact ⟨hn, wantC93 hi hL h⟩
    | false => cases h6 : (x == [125]) with
    | true =>
      obtain rfl : x = [125] := eq_of_beq h6
      exact ⟨hn, wantC125 hi hL h⟩
    | false => exact ⟨hn, want0 hi hL x h h1 h2 h3 h4 h5 h6⟩
/-! ### may -/
theorem mayF (x : List UInt8) (h : isT L s x = false) : ∀ rest : Heap, HCall Tryz.prog 39 [rP, .d (.str x)] (ovl (rd L s) rest) ([.bool false].map .d) (ovl (rd L s) rest) :=
  hclean_of_run okP named { hint := tabH Tryz.prog [(39, 8, hB Tryz.prog (!isT L s x) true (by simp [h]))], calls := tabC Tryz.prog [(39, 7, 1036, cOf (isR hi x))] } 2000 1000 _ 1000000 ⟨rfl, rfl, rfl, by kernel_rfl, by kernel_rfl, by kernel_rfl⟩ (fun _ => by kernel_rfl)
theorem mayT (x : List UInt8) (h : isT L s x = true) (t : T) (s' : RS) (hw : ∀ rest : Heap, HCall Tryz.prog 34 [rP, .d (.str x)] (ovl (rd L s) rest) ([tD t].map .d) (ovl (rd L s') rest)) : ∀ rest : Heap, HCall Tryz.prog 39 [rP, .d (.str x)] (ovl (rd L s) rest) ([.bool true].map .d) (ovl (rd L s') rest) :=
  hclean_of_run okP named { hint := tabH Tryz.prog [(39, 8, hB Tryz.prog (!isT L s x) false (by simp [h]))], calls := tabC Tryz.prog [(39, 7, 1036, cOf (isR hi x)), (39, 11, 1072, cOf hw)] } 2000 1000 _ 1000000 ⟨rfl, rfl, rfl, by kernel_rfl, by kernel_rfl, by kernel_rfl⟩ (fun _ => by kernel_rfl)
theorem mayP (x : List UInt8) (h : isT L s x = true) (p e : Int) (s' : RS) (hw : ∀ rest : Heap, HPan Tryz.prog 34 [rP, .d (.str x)] (ovl (rd L s) rest) (flt p e) (ovl (rd L s') rest)) : ∀ rest : Heap, HPan Tryz.prog 39 [rP, .d (.str x)] (ovl (rd L s) rest) (flt p e) (ovl (rd L s') rest) :=
  hcleanP_of_run okP named { hint := tabH Tryz.prog [(39, 8, hB Tryz.prog (!isT L s x) false (by simp [h]))], calls := tabC Tryz.prog [(39, 7, 1036, cOf (isR hi x))], pans := tabP Tryz.prog [(39, 3, 1048, ⟨2, some (pOf hw), []⟩)] } 2000 1000 _ 1000000 ⟨rfl, rfl, rfl, by kernel_rfl, by kernel_rfl, by kernel_rfl⟩ (by kernel_rfl) (fun _ => by kernel_rfl)
theorem mayR (hL : Toks L) (x : List UInt8) : RC L 39 [rP, .d (.str x)] (fun b => [.bool b]) s (sMay L x s) := by
  unfold sMay
  cases h : isT L s x with
  | false => exact ⟨hi, mayF hi x h⟩
  | true =>
    simp only [cond_true]
    have hw := wantR hi hL x
    revert hw
    cases sWant L x s with
    | ok t s' => exact fun hw => ⟨hw.1, mayT hi x h t s' hw.2⟩
    | bad p e s' => exact fun hw => mayP hi x h p e s' hw
    | out => exact fun _ => trivial
theorem isRT (x : List UInt8) {b : Bool} (h : isT L s x = b) : ∀ rest : Heap, HCall Tryz.prog 60 [rP, .d (.str x)] (ovl (rd L s) rest) ([.bool b].map .d) (ovl (rd L s) rest) := h ▸ isR hi x
end
/-! ### Joining -/
section
variable {L : List T} {F : Nat} {args : List AV} {s0 : RS} {α β : Type} {g : α → List D}
theorem RC.bind {f' : Nat} {args' : List AV} {g' : β → List D} {s : RS} {r : Res β} {k : β → RS → Res α} (h : RC L f' args' g' s r)
    (hb : ∀ p e s', (∀ rest : Heap, HPan Tryz.prog f' args' (ovl (rd L s) rest) (flt p e) (ovl (rd L s') rest)) → ∀ rest : Heap, HPan Tryz.prog F args (ovl (rd L s0) rest) (flt p e) (ovl (rd L s') rest))
    (hk : ∀ a s', s'.i < L.length → (∀ rest : Heap, HCall Tryz.prog f' args' (ovl (rd L s) rest) ((g' a).map .d) (ovl (rd L s') rest)) → RC L F args g s0 (k a s')) : RC L F args g s0 (r.bind k) := by
  cases r with
  | ok a s' => exact hk a s' h.1 h.2
  | bad p e s' => exact hb p e s' h
  | out => trivial
theorem RC.may {s : RS} (hi : s.i < L.length) (hL : Toks L) (x : List UInt8) {X Y : RS → Res α}
    (hb : ∀ p e s', (∀ rest : Heap, HPan Tryz.prog 39 [rP, .d (.str x)] (ovl (rd L s) rest) (flt p e) (ovl (rd L s') rest)) → ∀ rest : Heap, HPan Tryz.prog F args (ovl (rd L s0) rest) (flt p e) (ovl (rd L s') rest))
    (hT : ∀ s', s'.i < L.length → (∀ rest : Heap, HCall Tryz.prog 39 [rP, .d (.str x)] (ovl (rd L s) rest) ([.bool true].map .d) (ovl (rd L s') rest)) → RC L F args g s0 (X s'))
    (hF : isT L s x = false → RC L F args g s0 (Y s)) : RC L F args g s0 ((sMay L x s).bind fun b s1 => bif b then X s1 else Y s1) := by
  have h := mayR hi hL x
  revert h
  unfold sMay
  cases hx : isT L s x with
  | false => exact fun _ => hF hx
  | true =>
    simp only [cond_true]
    cases sWant L x s with
    | ok t s' => exact fun h => hT s' h.1 h.2
    | bad p e s' => exact fun h => hb p e s' h
    | out => exact fun _ => trivial
theorem RC.ite {c : Bool} {X Y : Res α} (hT : c = true → RC L F args g s0 X) (hF : c = false → RC L F args g s0 Y) : RC L F args g s0 (bif c then X else Y) := by
  cases h : c with
  | true => exact hT h
  | false => exact hF h
end
end Go.Avm
/-
  Texts as programs: the reader's functions of expressions.
-/
set_option linter.unusedSectionVars false
namespace Go.Avm
open Go.Proofs

section
variable {L : List T} (hL : Toks L)
include hL
theorem oneStep (n : Nat) (ih : ∀ s : RS, s.i < L.length → RC L 99 [rP] (fun e => [exD e]) s (sOne L n s)) (ihE : ∀ (k : Int) (s : RS), s.i < L.length → RC L 77 [rP, dI k] (fun e => [exD e]) s (sExpr L n k s)) (ihP : ∀ s : RS, s.i < L.length → RC L 102 [rP] (fun e => [exD e]) s (sPlace L n s))
    (ihC : ∀ (nm : List UInt8) (p : Int) (s : RS), s.i < L.length → RC L 101 [rP, .d (.str nm), dI p] (fun e => [exD e]) s (sCall L n nm p s)) (s : RS) (l : s.i < L.length) : RC L 99 [rP] (fun e => [exD e]) s (sOne L (n + 1) s) := by
  simp only [sOne]
  refine RC.may l hL [45] ?_ ?_ ?_
  · exact fun _ _ _ c => hcleanP_of_run okP named { hint := tabH Tryz.prog [(99, 21, .call 13 _ _ sgF19)], calls := tabC Tryz.prog [(99, 12, 1244, cOf (nowR l))], pans := tabP Tryz.prog [(99, 6, 3074, ⟨2, some (pOf c), []⟩)] } 2000 1000 _ 1000000 ⟨rfl, rfl, rfl, by kernel_rfl, by kernel_rfl, by kernel_rfl⟩ (by kernel_rfl) (fun _ => by kernel_rfl)
  · intro s1 l1 c1
    refine RC.bind (ih _ l1) ?_ ?_
    · exact fun _ _ _ c => hcleanP_of_run okP named { hint := tabH Tryz.prog [(99, 21, .call 13 _ _ sgF19)], calls := tabC Tryz.prog [(99, 12, 1244, cOf (nowR l)), (99, 26, 3318, cOf c1)], pans := tabP Tryz.prog [(99, 7, 3318, ⟨4, some (pOf c), []⟩)] } 2000 1000 _ 1000000 ⟨rfl, rfl, rfl, by kernel_rfl, by kernel_rfl, by kernel_rfl⟩ (by kernel_rfl) (fun _ => by kernel_rfl)
    · intro x s2 l2 c2
      obtain ⟨k0, o0, nm0, n0, p0, as0⟩ := x
      exact ⟨l2, hclean_of_run okP named { hint := tabH Tryz.prog [(99, 21, .call 13 _ _ sgF19)], calls := tabC Tryz.prog [(99, 12, 1244, cOf (nowR l)), (99, 26, 3318, cOf c1), (99, 31, 3806, cOf c2)] } 2000 1000 _ 1000000 ⟨rfl, rfl, rfl, by kernel_rfl, by kernel_rfl, by kernel_rfl⟩ (fun _ => by kernel_rfl)⟩
  · intro h1
    refine RC.may l hL [126] ?_ ?_ ?_
    · exact fun _ _ _ c => hcleanP_of_run okP named { hintB := tabHB Tryz.prog [(99, 21, 2464, .call 13 _ _ sgF19), (99, 21, 4172, .call 13 _ _ sgF20)], calls := tabC Tryz.prog [(99, 12, 1244, cOf (nowR l)), (99, 26, 3318, cOf (mayF l [45] h1))], pans := tabP Tryz.prog [(99, 6, 4782, ⟨2, some (pOf c), []⟩)] } 2000 1000 _ 1000000 ⟨rfl, rfl, rfl, by kernel_rfl, by kernel_rfl, by kernel_rfl⟩ (by kernel_rfl) (fun _ => by kernel_rfl)
    · intro s2 l2 c2
      refine RC.bind (ih _ l2) ?_ ?_
      · exact fun _ _ _ c => hcleanP_of_run okP named { hintB := tabHB Tryz.prog [(99, 21, 2464, .call 13 _ _ sgF19), (99, 21, 4172, .call 13 _ _ sgF20)], calls := tabC Tryz.prog [(99, 12, 1244, cOf (nowR l)), (99, 26, 3318, cOf (mayF l [45] h1)), (99, 26, 5026, cOf c2)], pans := tabP Tryz.prog [(99, 7, 5026, ⟨4, some (pOf c), []⟩)] } 2000 1000 _ 1000000 ⟨rfl, rfl, rfl, by kernel_rfl, by kernel_rfl, by kernel_rfl⟩ (by kernel_rfl) (fun _ => by kernel_rfl)
      · intro x s3 l3 c3
        obtain ⟨k0, o0, nm0, n0, p0, as0⟩ := x
        exact ⟨l3, hclean_of_run okP named { hintB := tabHB Tryz.prog [(99, 21, 2464, .call 13 _ _ sgF19), (99, 21, 4172, .call 13 _ _ sgF20)], calls := tabC Tryz.prog [(99, 12, 1244, cOf (nowR l)), (99, 26, 3318, cOf (mayF l [45] h1)), (99, 26, 5026, cOf c2), (99, 31, 5514, cOf c3)] } 2000 1000 _ 1000000 ⟨rfl, rfl, rfl, by kernel_rfl, by kernel_rfl, by kernel_rfl⟩ (fun _ => by kernel_rfl)⟩
    · intro h2
      refine RC.may l hL [33] ?_ ?_ ?_
      · exact fun _ _ _ c => hcleanP_of_run okP named { hintB := tabHB Tryz.prog [(99, 21, 2464, .call 13 _ _ sgF19), (99, 21, 4172, .call 13 _ _ sgF20), (99, 21, 5880, .call 13 _ _ sgF21)], calls := tabC Tryz.prog [(99, 12, 1244, cOf (nowR l)), (99, 26, 3318, cOf (mayF l [45] h1)), (99, 26, 5026, cOf (mayF l [126] h2))], pans := tabP Tryz.prog [(99, 6, 6490, ⟨2, some (pOf c), []⟩)] } 2000 1000 _ 1000000 ⟨rfl, rfl, rfl, by kernel_rfl, by kernel_rfl, by kernel_rfl⟩ (by kernel_rfl) (fun _ => by kernel_rfl)
      · intro s3 l3 c3
        refine RC.bind (ih _ l3) ?_ ?_
        · exact fun _ _ _ c => hcleanP_of_run okP named { hintB := tabHB Tryz.prog [(99, 21, 2464, .call 13 _ _ sgF19), (99, 21, 4172, .call 13 _ _ sgF20), (99, 21, 5880, .call 13 _ _ sgF21)], calls := tabC Tryz.prog [(99, 12, 1244, cOf (nowR l)), (99, 26, 3318, cOf (mayF l [45] h1)), (99, 26, 5026, cOf (mayF l [126] h2)), (99, 26, 6734, cOf c3)], pans := tabP Tryz.prog [(99, 7, 6734, ⟨4, some (pOf c), []⟩)] } 2000 1000 _ 1000000 ⟨rfl, rfl, rfl, by kernel_rfl, by kernel_rfl, by kernel_rfl⟩ (by kernel_rfl) (fun _ => by kernel_rfl)
        · intro x s4 l4 c4
          obtain ⟨k0, o0, nm0, n0, p0, as0⟩ := x
          exact ⟨l4, hclean_of_run okP named { hintB := tabHB Tryz.prog [(99, 21, 2464, .call 13 _ _ sgF19), (99, 21, 4172, .call 13 _ _ sgF20), (99, 21, 5880, .call 13 _ _ sgF21)], calls := tabC Tryz.prog [(99, 12, 1244, cOf (nowR l)), (99, 26, 3318, cOf (mayF l [45] h1)), (99, 26, 5026, cOf (mayF l [126] h2)), (99, 26, 6734, cOf c3), (99, 31, 7222, cOf c4)] } 2000 1000 _ 1000000 ⟨rfl, rfl, rfl, by kernel_rfl, by kernel_rfl, by kernel_rfl⟩ (fun _ => by kernel_rfl)⟩
      · intro h3
        refine RC.ite (fun h4 => ?_) (fun h4 => ?_)
        ·
          have l5 : s.nx.i < L.length := nx_lt hL l (by rw [eq_of_beq h4]; decide)
          exact ⟨l5, hclean_of_run okP named { hintB := tabHB Tryz.prog [(99, 21, 2464, .call 13 _ _ sgF19), (99, 21, 4172, .call 13 _ _ sgF20), (99, 21, 5880, .call 13 _ _ sgF21), (99, 38, 7344, hB Tryz.prog ((cur L s).k == 3) true h4), (99, 43, 8076, hSucc Tryz.prog s.i (by have := hL.len; omega))], calls := tabC Tryz.prog [(99, 12, 1244, cOf (nowR l)), (99, 26, 3318, cOf (mayF l [45] h1)), (99, 26, 5026, cOf (mayF l [126] h2)), (99, 26, 6734, cOf (mayF l [33] h3))] } 2000 1000 _ 1000000 ⟨rfl, rfl, rfl, by kernel_rfl, by kernel_rfl, by kernel_rfl⟩ (fun _ => by kernel_rfl)⟩
        ·
          refine RC.may l hL [116, 114, 117, 101] ?_ ?_ ?_
          · exact fun _ _ _ c => hcleanP_of_run okP named { hintB := tabHB Tryz.prog [(99, 21, 2464, .call 13 _ _ sgF19), (99, 21, 4172, .call 13 _ _ sgF20), (99, 21, 5880, .call 13 _ _ sgF21), (99, 38, 7344, hB Tryz.prog ((cur L s).k == 3) false h4)], calls := tabC Tryz.prog [(99, 12, 1244, cOf (nowR l)), (99, 26, 3318, cOf (mayF l [45] h1)), (99, 26, 5026, cOf (mayF l [126] h2)), (99, 26, 6734, cOf (mayF l [33] h3))], pans := tabP Tryz.prog [(99, 12, 7588, ⟨1, some (pOf c), []⟩)] } 2000 1000 _ 1000000 ⟨rfl, rfl, rfl, by kernel_rfl, by kernel_rfl, by kernel_rfl⟩ (by kernel_rfl) (fun _ => by kernel_rfl)
          · intro s5 l5 c5
            exact ⟨l5, hclean_of_run okP named { hintB := tabHB Tryz.prog [(99, 21, 2464, .call 13 _ _ sgF19), (99, 21, 4172, .call 13 _ _ sgF20), (99, 21, 5880, .call 13 _ _ sgF21), (99, 38, 7344, hB Tryz.prog ((cur L s).k == 3) false h4)], calls := tabC Tryz.prog [(99, 12, 1244, cOf (nowR l)), (99, 26, 3318, cOf (mayF l [45] h1)), (99, 26, 5026, cOf (mayF l [126] h2)), (99, 26, 6734, cOf (mayF l [33] h3)), (99, 53, 7710, cOf c5)] } 2000 1000 _ 1000000 ⟨rfl, rfl, rfl, by kernel_rfl, by kernel_rfl, by kernel_rfl⟩ (fun _ => by kernel_rfl)⟩
          · intro h5
            refine RC.may l hL [102, 97, 108, 115, 101] ?_ ?_ ?_
            · exact fun _ _ _ c => hcleanP_of_run okP named { hintB := tabHB Tryz.prog [(99, 21, 2464, .call 13 _ _ sgF19), (99, 21, 4172, .call 13 _ _ sgF20), (99, 21, 5880, .call 13 _ _ sgF21), (99, 38, 7344, hB Tryz.prog ((cur L s).k == 3) false h4)], calls := tabC Tryz.prog [(99, 12, 1244, cOf (nowR l)), (99, 26, 3318, cOf (mayF l [45] h1)), (99, 26, 5026, cOf (mayF l [126] h2)), (99, 26, 6734, cOf (mayF l [33] h3)), (99, 53, 7710, cOf (mayF l [116, 114, 117, 101] h5))], pans := tabP Tryz.prog [(99, 14, 7832, ⟨1, some (pOf c), []⟩)] } 2000 1000 _ 1000000 ⟨rfl, rfl, rfl, by kernel_rfl, by kernel_rfl, by kernel_rfl⟩ (by kernel_rfl) (fun _ => by kernel_rfl)
            · intro s6 l6 c6
              exact ⟨l6, hclean_of_run okP named { hintB := tabHB Tryz.prog [(99, 21, 2464, .call 13 _ _ sgF19), (99, 21, 4172, .call 13 _ _ sgF20), (99, 21, 5880, .call 13 _ _ sgF21), (99, 38, 7344, hB Tryz.prog ((cur L s).k == 3) false h4)], calls := tabC Tryz.prog [(99, 12, 1244, cOf (nowR l)), (99, 26, 3318, cOf (mayF l [45] h1)), (99, 26, 5026, cOf (mayF l [126] h2)), (99, 26, 6734, cOf (mayF l [33] h3)), (99, 53, 7710, cOf (mayF l [116, 114, 117, 101] h5)), (99, 59, 7954, cOf c6)] } 2000 1000 _ 1000000 ⟨rfl, rfl, rfl, by kernel_rfl, by kernel_rfl, by kernel_rfl⟩ (fun _ => by kernel_rfl)⟩
            · intro h6
              refine RC.may l hL [114, 101, 97, 100] ?_ ?_ ?_
              · exact fun _ _ _ c => hcleanP_of_run okP named { hintB := tabHB Tryz.prog [(99, 21, 2464, .call 13 _ _ sgF19), (99, 21, 4172, .call 13 _ _ sgF20), (99, 21, 5880, .call 13 _ _ sgF21), (99, 38, 7344, hB Tryz.prog ((cur L s).k == 3) false h4)], calls := tabC Tryz.prog [(99, 12, 1244, cOf (nowR l)), (99, 26, 3318, cOf (mayF l [45] h1)), (99, 26, 5026, cOf (mayF l [126] h2)), (99, 26, 6734, cOf (mayF l [33] h3)), (99, 53, 7710, cOf (mayF l [116, 114, 117, 101] h5)), (99, 59, 7954, cOf (mayF l [102, 97, 108, 115, 101] h6))], pans := tabP Tryz.prog [(99, 16, 8076, ⟨1, some (pOf c), []⟩)] } 2000 1000 _ 1000000 ⟨rfl, rfl, rfl, by kernel_rfl, by kernel_rfl, by kernel_rfl⟩ (by kernel_rfl) (fun _ => by kernel_rfl)
              · intro s7 l7 c7
                refine RC.bind (wantR l7 hL [40]) ?_ ?_
                · exact fun _ _ _ c => hcleanP_of_run okP named { hintB := tabHB Tryz.prog [(99, 21, 2464, .call 13 _ _ sgF19), (99, 21, 4172, .call 13 _ _ sgF20), (99, 21, 5880, .call 13 _ _ sgF21), (99, 38, 7344, hB Tryz.prog ((cur L s).k == 3) false h4)], calls := tabC Tryz.prog [(99, 12, 1244, cOf (nowR l)), (99, 26, 3318, cOf (mayF l [45] h1)), (99, 26, 5026, cOf (mayF l [126] h2)), (99, 26, 6734, cOf (mayF l [33] h3)), (99, 53, 7710, cOf (mayF l [116, 114, 117, 101] h5)), (99, 59, 7954, cOf (mayF l [102, 97, 108, 115, 101] h6)), (99, 65, 8198, cOf c7)], pans := tabP Tryz.prog [(99, 17, 8320, ⟨1, some (pOf c), []⟩)] } 2000 1000 _ 1000000 ⟨rfl, rfl, rfl, by kernel_rfl, by kernel_rfl, by kernel_rfl⟩ (by kernel_rfl) (fun _ => by kernel_rfl)
                · intro _ s8 l8 c8
                  refine RC.bind (wantR l8 hL [41]) ?_ ?_
                  · exact fun _ _ _ c => hcleanP_of_run okP named { hintB := tabHB Tryz.prog [(99, 21, 2464, .call 13 _ _ sgF19), (99, 21, 4172, .call 13 _ _ sgF20), (99, 21, 5880, .call 13 _ _ sgF21), (99, 38, 7344, hB Tryz.prog ((cur L s).k == 3) false h4)], calls := tabC Tryz.prog [(99, 12, 1244, cOf (nowR l)), (99, 26, 3318, cOf (mayF l [45] h1)), (99, 26, 5026, cOf (mayF l [126] h2)), (99, 26, 6734, cOf (mayF l [33] h3)), (99, 53, 7710, cOf (mayF l [116, 114, 117, 101] h5)), (99, 59, 7954, cOf (mayF l [102, 97, 108, 115, 101] h6)), (99, 65, 8198, cOf c7), (99, 67, 8442, cOf c8)], pans := tabP Tryz.prog [(99, 18, 8442, ⟨1, some (pOf c), []⟩)] } 2000 1000 _ 1000000 ⟨rfl, rfl, rfl, by kernel_rfl, by kernel_rfl, by kernel_rfl⟩ (by kernel_rfl) (fun _ => by kernel_rfl)
                  · intro _ s9 l9 c9
                    exact ⟨l9, hclean_of_run okP named { hintB := tabHB Tryz.prog [(99, 21, 2464, .call 13 _ _ sgF19), (99, 21, 4172, .call 13 _ _ sgF20), (99, 21, 5880, .call 13 _ _ sgF21), (99, 38, 7344, hB Tryz.prog ((cur L s).k == 3) false h4)], calls := tabC Tryz.prog [(99, 12, 1244, cOf (nowR l)), (99, 26, 3318, cOf (mayF l [45] h1)), (99, 26, 5026, cOf (mayF l [126] h2)), (99, 26, 6734, cOf (mayF l [33] h3)), (99, 53, 7710, cOf (mayF l [116, 114, 117, 101] h5)), (99, 59, 7954, cOf (mayF l [102, 97, 108, 115, 101] h6)), (99, 65, 8198, cOf c7), (99, 67, 8442, cOf c8), (99, 69, 8564, cOf c9)] } 2000 1000 _ 1000000 ⟨rfl, rfl, rfl, by kernel_rfl, by kernel_rfl, by kernel_rfl⟩ (fun _ => by kernel_rfl)⟩
              · intro h7
                refine RC.may l hL [108, 101, 110] ?_ ?_ ?_
                · exact fun _ _ _ c => hcleanP_of_run okP named { hintB := tabHB Tryz.prog [(99, 21, 2464, .call 13 _ _ sgF19), (99, 21, 4172, .call 13 _ _ sgF20), (99, 21, 5880, .call 13 _ _ sgF21), (99, 38, 7344, hB Tryz.prog ((cur L s).k == 3) false h4)], calls := tabC Tryz.prog [(99, 12, 1244, cOf (nowR l)), (99, 26, 3318, cOf (mayF l [45] h1)), (99, 26, 5026, cOf (mayF l [126] h2)), (99, 26, 6734, cOf (mayF l [33] h3)), (99, 53, 7710, cOf (mayF l [116, 114, 117, 101] h5)), (99, 59, 7954, cOf (mayF l [102, 97, 108, 115, 101] h6)), (99, 65, 8198, cOf (mayF l [114, 101, 97, 100] h7))], pans := tabP Tryz.prog [(99, 20, 8320, ⟨1, some (pOf c), []⟩)] } 2000 1000 _ 1000000 ⟨rfl, rfl, rfl, by kernel_rfl, by kernel_rfl, by kernel_rfl⟩ (by kernel_rfl) (fun _ => by kernel_rfl)
                · intro s8 l8 c8
                  refine RC.bind (wantR l8 hL [40]) ?_ ?_
                  · exact fun _ _ _ c => hcleanP_of_run okP named { hintB := tabHB Tryz.prog [(99, 21, 2464, .call 13 _ _ sgF19), (99, 21, 4172, .call 13 _ _ sgF20), (99, 21, 5880, .call 13 _ _ sgF21), (99, 38, 7344, hB Tryz.prog ((cur L s).k == 3) false h4)], calls := tabC Tryz.prog [(99, 12, 1244, cOf (nowR l)), (99, 26, 3318, cOf (mayF l [45] h1)), (99, 26, 5026, cOf (mayF l [126] h2)), (99, 26, 6734, cOf (mayF l [33] h3)), (99, 53, 7710, cOf (mayF l [116, 114, 117, 101] h5)), (99, 59, 7954, cOf (mayF l [102, 97, 108, 115, 101] h6)), (99, 65, 8198, cOf (mayF l [114, 101, 97, 100] h7)), (99, 75, 8442, cOf c8)], pans := tabP Tryz.prog [(99, 21, 8564, ⟨1, some (pOf c), []⟩)] } 2000 1000 _ 1000000 ⟨rfl, rfl, rfl, by kernel_rfl, by kernel_rfl, by kernel_rfl⟩ (by kernel_rfl) (fun _ => by kernel_rfl)
                  · intro _ s9 l9 c9
                    refine RC.bind (takeR l9 hL 1 (by decide)) ?_ ?_
                    · exact fun _ _ _ c => hcleanP_of_run okP named { hintB := tabHB Tryz.prog [(99, 21, 2464, .call 13 _ _ sgF19), (99, 21, 4172, .call 13 _ _ sgF20), (99, 21, 5880, .call 13 _ _ sgF21), (99, 38, 7344, hB Tryz.prog ((cur L s).k == 3) false h4)], calls := tabC Tryz.prog [(99, 12, 1244, cOf (nowR l)), (99, 26, 3318, cOf (mayF l [45] h1)), (99, 26, 5026, cOf (mayF l [126] h2)), (99, 26, 6734, cOf (mayF l [33] h3)), (99, 53, 7710, cOf (mayF l [116, 114, 117, 101] h5)), (99, 59, 7954, cOf (mayF l [102, 97, 108, 115, 101] h6)), (99, 65, 8198, cOf (mayF l [114, 101, 97, 100] h7)), (99, 75, 8442, cOf c8), (99, 77, 8686, cOf c9)], pans := tabP Tryz.prog [(99, 22, 8686, ⟨1, some (pOf c), []⟩)] } 2000 1000 _ 1000000 ⟨rfl, rfl, rfl, by kernel_rfl, by kernel_rfl, by kernel_rfl⟩ (by kernel_rfl) (fun _ => by kernel_rfl)
                    · intro t s10 l10 c10
                      refine RC.bind (wantR l10 hL [41]) ?_ ?_
                      · exact fun _ _ _ c => hcleanP_of_run okP named { hintB := tabHB Tryz.prog [(99, 21, 2464, .call 13 _ _ sgF19), (99, 21, 4172, .call 13 _ _ sgF20), (99, 21, 5880, .call 13 _ _ sgF21), (99, 38, 7344, hB Tryz.prog ((cur L s).k == 3) false h4)], calls := tabC Tryz.prog [(99, 12, 1244, cOf (nowR l)), (99, 26, 3318, cOf (mayF l [45] h1)), (99, 26, 5026, cOf (mayF l [126] h2)), (99, 26, 6734, cOf (mayF l [33] h3)), (99, 53, 7710, cOf (mayF l [116, 114, 117, 101] h5)), (99, 59, 7954, cOf (mayF l [102, 97, 108, 115, 101] h6)), (99, 65, 8198, cOf (mayF l [114, 101, 97, 100] h7)), (99, 75, 8442, cOf c8), (99, 77, 8686, cOf c9), (99, 79, 8808, cOf c10)], pans := tabP Tryz.prog [(99, 23, 9052, ⟨1, some (pOf c), []⟩)] } 2000 1000 _ 1000000 ⟨rfl, rfl, rfl, by kernel_rfl, by kernel_rfl, by kernel_rfl⟩ (by kernel_rfl) (fun _ => by kernel_rfl)
                      · intro _ s11 l11 c11
                        exact ⟨l11, hclean_of_run okP named { hintB := tabHB Tryz.prog [(99, 21, 2464, .call 13 _ _ sgF19), (99, 21, 4172, .call 13 _ _ sgF20), (99, 21, 5880, .call 13 _ _ sgF21), (99, 38, 7344, hB Tryz.prog ((cur L s).k == 3) false h4)], calls := tabC Tryz.prog [(99, 12, 1244, cOf (nowR l)), (99, 26, 3318, cOf (mayF l [45] h1)), (99, 26, 5026, cOf (mayF l [126] h2)), (99, 26, 6734, cOf (mayF l [33] h3)), (99, 53, 7710, cOf (mayF l [116, 114, 117, 101] h5)), (99, 59, 7954, cOf (mayF l [102, 97, 108, 115, 101] h6)), (99, 65, 8198, cOf (mayF l [114, 101, 97, 100] h7)), (99, 75, 8442, cOf c8), (99, 77, 8686, cOf c9), (99, 79, 8808, cOf c10), (99, 82, 9174, cOf c11)] } 2000 1000 _ 1000000 ⟨rfl, rfl, rfl, by kernel_rfl, by kernel_rfl, by kernel_rfl⟩ (fun _ => by kernel_rfl)⟩
                · intro h8
                  refine RC.ite (fun h9 => ?_) (fun h9 => ?_)
                  ·
                    refine RC.bind (wantR l hL [40]) ?_ ?_
                    · exact fun _ _ _ c => hcleanP_of_run okP named { hintB := tabHB Tryz.prog [(99, 21, 2464, .call 13 _ _ sgF19), (99, 21, 4172, .call 13 _ _ sgF20), (99, 21, 5880, .call 13 _ _ sgF21), (99, 38, 7344, hB Tryz.prog ((cur L s).k == 3) false h4)], calls := tabC Tryz.prog [(99, 12, 1244, cOf (nowR l)), (99, 26, 3318, cOf (mayF l [45] h1)), (99, 26, 5026, cOf (mayF l [126] h2)), (99, 26, 6734, cOf (mayF l [33] h3)), (99, 53, 7710, cOf (mayF l [116, 114, 117, 101] h5)), (99, 59, 7954, cOf (mayF l [102, 97, 108, 115, 101] h6)), (99, 65, 8198, cOf (mayF l [114, 101, 97, 100] h7)), (99, 75, 8442, cOf (mayF l [108, 101, 110] h8)), (99, 89, 8686, cOf (isRT l [40] h9))], pans := tabP Tryz.prog [(99, 26, 8808, ⟨1, some (pOf c), []⟩)] } 2000 1000 _ 1000000 ⟨rfl, rfl, rfl, by kernel_rfl, by kernel_rfl, by kernel_rfl⟩ (by kernel_rfl) (fun _ => by kernel_rfl)
                    · intro _ s10 l10 c10
                      refine RC.bind (ihE 1 _ l10) ?_ ?_
                      · exact fun _ _ _ c => hcleanP_of_run okP named { hintB := tabHB Tryz.prog [(99, 21, 2464, .call 13 _ _ sgF19), (99, 21, 4172, .call 13 _ _ sgF20), (99, 21, 5880, .call 13 _ _ sgF21), (99, 38, 7344, hB Tryz.prog ((cur L s).k == 3) false h4)], calls := tabC Tryz.prog [(99, 12, 1244, cOf (nowR l)), (99, 26, 3318, cOf (mayF l [45] h1)), (99, 26, 5026, cOf (mayF l [126] h2)), (99, 26, 6734, cOf (mayF l [33] h3)), (99, 53, 7710, cOf (mayF l [116, 114, 117, 101] h5)), (99, 59, 7954, cOf (mayF l [102, 97, 108, 115, 101] h6)), (99, 65, 8198, cOf (mayF l [114, 101, 97, 100] h7)), (99, 75, 8442, cOf (mayF l [108, 101, 110] h8)), (99, 89, 8686, cOf (isRT l [40] h9)), (99, 91, 8930, cOf c10)], pans := tabP Tryz.prog [(99, 27, 8930, ⟨1, some (pOf c), []⟩)] } 2000 1000 _ 1000000 ⟨rfl, rfl, rfl, by kernel_rfl, by kernel_rfl, by kernel_rfl⟩ (by kernel_rfl) (fun _ => by kernel_rfl)
                      · intro x s11 l11 c11
                        obtain ⟨k0, o0, nm0, n0, p0, as0⟩ := x
                        refine RC.bind (wantR l11 hL [41]) ?_ ?_
                        · exact fun _ _ _ c => hcleanP_of_run okP named { hintB := tabHB Tryz.prog [(99, 21, 2464, .call 13 _ _ sgF19), (99, 21, 4172, .call 13 _ _ sgF20), (99, 21, 5880, .call 13 _ _ sgF21), (99, 38, 7344, hB Tryz.prog ((cur L s).k == 3) false h4)], calls := tabC Tryz.prog [(99, 12, 1244, cOf (nowR l)), (99, 26, 3318, cOf (mayF l [45] h1)), (99, 26, 5026, cOf (mayF l [126] h2)), (99, 26, 6734, cOf (mayF l [33] h3)), (99, 53, 7710, cOf (mayF l [116, 114, 117, 101] h5)), (99, 59, 7954, cOf (mayF l [102, 97, 108, 115, 101] h6)), (99, 65, 8198, cOf (mayF l [114, 101, 97, 100] h7)), (99, 75, 8442, cOf (mayF l [108, 101, 110] h8)), (99, 89, 8686, cOf (isRT l [40] h9)), (99, 91, 8930, cOf c10), (99, 93, 9052, cOf c11)], pans := tabP Tryz.prog [(99, 28, 9296, ⟨1, some (pOf c), []⟩)] } 2000 1000 _ 1000000 ⟨rfl, rfl, rfl, by kernel_rfl, by kernel_rfl, by kernel_rfl⟩ (by kernel_rfl) (fun _ => by kernel_rfl)
                        · intro _ s12 l12 c12
                          exact ⟨l12, hclean_of_run okP named { hintB := tabHB Tryz.prog [(99, 21, 2464, .call 13 _ _ sgF19), (99, 21, 4172, .call 13 _ _ sgF20), (99, 21, 5880, .call 13 _ _ sgF21), (99, 38, 7344, hB Tryz.prog ((cur L s).k == 3) false h4)], calls := tabC Tryz.prog [(99, 12, 1244, cOf (nowR l)), (99, 26, 3318, cOf (mayF l [45] h1)), (99, 26, 5026, cOf (mayF l [126] h2)), (99, 26, 6734, cOf (mayF l [33] h3)), (99, 53, 7710, cOf (mayF l [116, 114, 117, 101] h5)), (99, 59, 7954, cOf (mayF l [102, 97, 108, 115, 101] h6)), (99, 65, 8198, cOf (mayF l [114, 101, 97, 100] h7)), (99, 75, 8442, cOf (mayF l [108, 101, 110] h8)), (99, 89, 8686, cOf (isRT l [40] h9)), (99, 91, 8930, cOf c10), (99, 93, 9052, cOf c11), (99, 95, 9418, cOf c12)] } 2000 1000 _ 1000000 ⟨rfl, rfl, rfl, by kernel_rfl, by kernel_rfl, by kernel_rfl⟩ (fun _ => by kernel_rfl)⟩
                  ·
                    refine RC.bind (takeR l hL 1 (by decide)) ?_ ?_
                    · exact fun _ _ _ c => hcleanP_of_run okP named { hintB := tabHB Tryz.prog [(99, 21, 2464, .call 13 _ _ sgF19), (99, 21, 4172, .call 13 _ _ sgF20), (99, 21, 5880, .call 13 _ _ sgF21), (99, 38, 7344, hB Tryz.prog ((cur L s).k == 3) false h4)], calls := tabC Tryz.prog [(99, 12, 1244, cOf (nowR l)), (99, 26, 3318, cOf (mayF l [45] h1)), (99, 26, 5026, cOf (mayF l [126] h2)), (99, 26, 6734, cOf (mayF l [33] h3)), (99, 53, 7710, cOf (mayF l [116, 114, 117, 101] h5)), (99, 59, 7954, cOf (mayF l [102, 97, 108, 115, 101] h6)), (99, 65, 8198, cOf (mayF l [114, 101, 97, 100] h7)), (99, 75, 8442, cOf (mayF l [108, 101, 110] h8)), (99, 89, 8686, cOf (isRT l [40] h9))], pans := tabP Tryz.prog [(99, 30, 8808, ⟨1, some (pOf c), []⟩)] } 2000 1000 _ 1000000 ⟨rfl, rfl, rfl, by kernel_rfl, by kernel_rfl, by kernel_rfl⟩ (by kernel_rfl) (fun _ => by kernel_rfl)
                    · intro t s10 l10 c10
                      refine RC.ite (fun h11 => ?_) (fun h11 => ?_)
                      ·
                        refine RC.bind (ihP _ l10) ?_ ?_
                        · exact fun _ _ _ c => hcleanP_of_run okP named { hintB := tabHB Tryz.prog [(99, 21, 2464, .call 13 _ _ sgF19), (99, 21, 4172, .call 13 _ _ sgF20), (99, 21, 5880, .call 13 _ _ sgF21), (99, 38, 7344, hB Tryz.prog ((cur L s).k == 3) false h4)], calls := tabC Tryz.prog [(99, 12, 1244, cOf (nowR l)), (99, 26, 3318, cOf (mayF l [45] h1)), (99, 26, 5026, cOf (mayF l [126] h2)), (99, 26, 6734, cOf (mayF l [33] h3)), (99, 53, 7710, cOf (mayF l [116, 114, 117, 101] h5)), (99, 59, 7954, cOf (mayF l [102, 97, 108, 115, 101] h6)), (99, 65, 8198, cOf (mayF l [114, 101, 97, 100] h7)), (99, 75, 8442, cOf (mayF l [108, 101, 110] h8)), (99, 89, 8686, cOf (isRT l [40] h9)), (99, 98, 8930, cOf c10), (99, 102, 9296, cOf (isRT l10 [91] h11))], pans := tabP Tryz.prog [(99, 32, 9418, ⟨4, some (pOf c), []⟩)] } 2000 1000 _ 1000000 ⟨rfl, rfl, rfl, by kernel_rfl, by kernel_rfl, by kernel_rfl⟩ (by kernel_rfl) (fun _ => by kernel_rfl)
                        · intro x s12 l12 c12
                          obtain ⟨k0, o0, nm0, n0, p0, as0⟩ := x
                          exact ⟨l12, hclean_of_run okP named { hintB := tabHB Tryz.prog [(99, 21, 2464, .call 13 _ _ sgF19), (99, 21, 4172, .call 13 _ _ sgF20), (99, 21, 5880, .call 13 _ _ sgF21), (99, 38, 7344, hB Tryz.prog ((cur L s).k == 3) false h4)], calls := tabC Tryz.prog [(99, 12, 1244, cOf (nowR l)), (99, 26, 3318, cOf (mayF l [45] h1)), (99, 26, 5026, cOf (mayF l [126] h2)), (99, 26, 6734, cOf (mayF l [33] h3)), (99, 53, 7710, cOf (mayF l [116, 114, 117, 101] h5)), (99, 59, 7954, cOf (mayF l [102, 97, 108, 115, 101] h6)), (99, 65, 8198, cOf (mayF l [114, 101, 97, 100] h7)), (99, 75, 8442, cOf (mayF l [108, 101, 110] h8)), (99, 89, 8686, cOf (isRT l [40] h9)), (99, 98, 8930, cOf c10), (99, 102, 9296, cOf (isRT l10 [91] h11)), (99, 107, 9906, cOf c12)] } 2000 1000 _ 1000000 ⟨rfl, rfl, rfl, by kernel_rfl, by kernel_rfl, by kernel_rfl⟩ (fun _ => by kernel_rfl)⟩
                      ·
                        refine RC.ite (fun h12 => ?_) (fun h12 => ?_)
                        ·
                          refine RC.bind (ihC t.t (cur L s).p _ l10) ?_ ?_
                          · exact fun _ _ _ c => hcleanP_of_run okP named { hintB := tabHB Tryz.prog [(99, 21, 2464, .call 13 _ _ sgF19), (99, 21, 4172, .call 13 _ _ sgF20), (99, 21, 5880, .call 13 _ _ sgF21), (99, 38, 7344, hB Tryz.prog ((cur L s).k == 3) false h4)], calls := tabC Tryz.prog [(99, 12, 1244, cOf (nowR l)), (99, 26, 3318, cOf (mayF l [45] h1)), (99, 26, 5026, cOf (mayF l [126] h2)), (99, 26, 6734, cOf (mayF l [33] h3)), (99, 53, 7710, cOf (mayF l [116, 114, 117, 101] h5)), (99, 59, 7954, cOf (mayF l [102, 97, 108, 115, 101] h6)), (99, 65, 8198, cOf (mayF l [114, 101, 97, 100] h7)), (99, 75, 8442, cOf (mayF l [108, 101, 110] h8)), (99, 89, 8686, cOf (isRT l [40] h9)), (99, 98, 8930, cOf c10), (99, 102, 9296, cOf (isRT l10 [91] h11)), (99, 112, 9540, cOf (isRT l10 [40] h12))], pans := tabP Tryz.prog [(99, 34, 9662, ⟨4, some (pOf c), []⟩)] } 2000 1000 _ 1000000 ⟨rfl, rfl, rfl, by kernel_rfl, by kernel_rfl, by kernel_rfl⟩ (by kernel_rfl) (fun _ => by kernel_rfl)
                          · intro x s13 l13 c13
                            obtain ⟨k0, o0, nm0, n0, p0, as0⟩ := x
                            exact ⟨l13, hclean_of_run okP named { hintB := tabHB Tryz.prog [(99, 21, 2464, .call 13 _ _ sgF19), (99, 21, 4172, .call 13 _ _ sgF20), (99, 21, 5880, .call 13 _ _ sgF21), (99, 38, 7344, hB Tryz.prog ((cur L s).k == 3) false h4)], calls := tabC Tryz.prog [(99, 12, 1244, cOf (nowR l)), (99, 26, 3318, cOf (mayF l [45] h1)), (99, 26, 5026, cOf (mayF l [126] h2)), (99, 26, 6734, cOf (mayF l [33] h3)), (99, 53, 7710, cOf (mayF l [116, 114, 117, 101] h5)), (99, 59, 7954, cOf (mayF l [102, 97, 108, 115, 101] h6)), (99, 65, 8198, cOf (mayF l [114, 101, 97, 100] h7)), (99, 75, 8442, cOf (mayF l [108, 101, 110] h8)), (99, 89, 8686, cOf (isRT l [40] h9)), (99, 98, 8930, cOf c10), (99, 102, 9296, cOf (isRT l10 [91] h11)), (99, 112, 9540, cOf (isRT l10 [40] h12)), (99, 117, 10150, cOf c13)] } 2000 1000 _ 1000000 ⟨rfl, rfl, rfl, by kernel_rfl, by kernel_rfl, by kernel_rfl⟩ (fun _ => by kernel_rfl)⟩
                        ·
                          exact ⟨l10, hclean_of_run okP named { hintB := tabHB Tryz.prog [(99, 21, 2464, .call 13 _ _ sgF19), (99, 21, 4172, .call 13 _ _ sgF20), (99, 21, 5880, .call 13 _ _ sgF21), (99, 38, 7344, hB Tryz.prog ((cur L s).k == 3) false h4)], calls := tabC Tryz.prog [(99, 12, 1244, cOf (nowR l)), (99, 26, 3318, cOf (mayF l [45] h1)), (99, 26, 5026, cOf (mayF l [126] h2)), (99, 26, 6734, cOf (mayF l [33] h3)), (99, 53, 7710, cOf (mayF l [116, 114, 117, 101] h5)), (99, 59, 7954, cOf (mayF l [102, 97, 108, 115, 101] h6)), (99, 65, 8198, cOf (mayF l [114, 101, 97, 100] h7)), (99, 75, 8442, cOf (mayF l [108, 101, 110] h8)), (99, 89, 8686, cOf (isRT l [40] h9)), (99, 98, 8930, cOf c10), (99, 102, 9296, cOf (isRT l10 [91] h11)), (99, 112, 9540, cOf (isRT l10 [40] h12))] } 2000 1000 _ 1000000 ⟨rfl, rfl, rfl, by kernel_rfl, by kernel_rfl, by kernel_rfl⟩ (fun _ => by kernel_rfl)⟩
theorem placeStep (n : Nat) (ihE : ∀ (k : Int) (s : RS), s.i < L.length → RC L 77 [rP, dI k] (fun e => [exD e]) s (sExpr L n k s)) (s : RS) (l : s.i < L.length) : RC L 102 [rP] (fun e => [exD e]) s (sPlace L (n + 1) s) := by
  simp only [sPlace]
  refine RC.bind (wantR l hL [91]) ?_ ?_
  · exact fun _ _ _ c => hcleanP_of_run okP named { pans := tabP Tryz.prog [(102, 1, 1011, ⟨1, some (pOf c), []⟩)] } 2000 1000 _ 1000000 ⟨rfl, rfl, rfl, by kernel_rfl, by kernel_rfl, by kernel_rfl⟩ (by kernel_rfl) (fun _ => by kernel_rfl)
  · intro _ s1 l1 c1
    refine RC.bind (ihE 1 _ l1) ?_ ?_
    · exact fun _ _ _ c => hcleanP_of_run okP named { calls := tabC Tryz.prog [(102, 5, 1022, cOf c1)], pans := tabP Tryz.prog [(102, 2, 1022, ⟨1, some (pOf c), []⟩)] } 2000 1000 _ 1000000 ⟨rfl, rfl, rfl, by kernel_rfl, by kernel_rfl, by kernel_rfl⟩ (by kernel_rfl) (fun _ => by kernel_rfl)
    · intro x s2 l2 c2
      obtain ⟨k0, o0, nm0, n0, p0, as0⟩ := x
      refine RC.bind (wantR l2 hL [93]) ?_ ?_
      · exact fun _ _ _ c => hcleanP_of_run okP named { calls := tabC Tryz.prog [(102, 5, 1022, cOf c1), (102, 7, 1033, cOf c2)], pans := tabP Tryz.prog [(102, 3, 1055, ⟨1, some (pOf c), []⟩)] } 2000 1000 _ 1000000 ⟨rfl, rfl, rfl, by kernel_rfl, by kernel_rfl, by kernel_rfl⟩ (by kernel_rfl) (fun _ => by kernel_rfl)
      · intro _ s3 l3 c3
        exact ⟨l3, hclean_of_run okP named { calls := tabC Tryz.prog [(102, 5, 1022, cOf c1), (102, 7, 1033, cOf c2), (102, 9, 1066, cOf c3)] } 2000 1000 _ 1000000 ⟨rfl, rfl, rfl, by kernel_rfl, by kernel_rfl, by kernel_rfl⟩ (fun _ => by kernel_rfl)⟩
end
end Go.Avm
/-
  Texts as programs: the reader finds the sign that comes next.
-/
set_option linter.unusedSectionVars false
namespace Go.Avm
open Go.Proofs

def u8 (n : Int) : AV := .d (.int .u8 n)
def sgOut (r : Int × Int) : AExit × List (Nat × AV) := bif r.1 == 0 then (.exit 0, []) else (.ret, [(4, u8 r.1), (5, dI r.2)])
def sgSt (least o : Int) : List (Nat × AV) := [(0, rP), (1, dI least), (6, u8 o)]
/-- A round. -/
def SgS (L : List T) (s : RS) (least o : Int) (e : AExit) (l' : List (Nat × AV)) : Prop := ∀ (rest : Heap) (X : Fix), X.P = Tryz.prog → X.N = 28 → AW X (loopOf Tryz.prog 100 2) ⟨envOf (sgSt least o), ovl (rd L s) rest⟩ fun e' S' => e' = e ∧ S' = ⟨envOf l', ovl (rd L s) rest⟩
def SgAt (L : List T) (s : RS) (least : Int) (o : Int) (r : Int × Int) : Prop := ∀ (rest : Heap) (X : Fix), X.P = Tryz.prog → X.N = 28 → LW X (loopOf Tryz.prog 100 2) ⟨envOf (sgSt least o), ovl (rd L s) rest⟩ fun e' S' => e' = (sgOut r).1 ∧ S' = ⟨envOf (sgOut r).2, ovl (rd L s) rest⟩
theorem sg_step {L : List T} {s : RS} {least o o2 k : Int} {x : List UInt8} {R : List (Int × List UInt8 × Int)} (ho : (o == 0) = false) (hA : decide (k ≥ least) = false → SgS L s least o .normal (sgSt least o2))
    (hB : decide (k ≥ least) = true → isT L s x = false → SgS L s least o .normal (sgSt least o2)) (hC : decide (k ≥ least) = true → isT L s x = true → SgS L s least o .ret [(4, u8 o), (5, dI k)])
    (hn : SgAt L s least o2 (signOf L s least R)) : SgAt L s least o (signOf L s least ((o, x, k) :: R)) := fun rest X hP hN => by
  simp only [signOf]
  cases h1 : decide (k ≥ least) with
  | false => exact lw_step (hA h1 rest X hP hN) (hn rest X hP hN)
  | true => cases h2 : isT L s x with
    | false => exact lw_step (hB h1 h2 rest X hP hN) (hn rest X hP hN)
    | true =>
      have : sgOut (o, k) = (.ret, [(4, u8 o), (5, dI k)]) := by simp only [sgOut, ho, cond_false]
      simp only [Bool.and_true, cond_true, this]
      exact lw_stop (hC h1 h2 rest X hP hN) (by simp)
section
variable {L : List T} {s : RS} (hi : s.i < L.length) (least : Int)
include hi
theorem sgS19 : SgS L s least 19 (.exit 0) [] :=
  fun rest X hP hN => (segC okP named {} 2000 100 1000 28 1000000 ([]) ⟨rfl, rfl, rfl, by kernel_rfl, by kernel_rfl, by kernel_rfl⟩ (by kernel_rfl) (by kernel_rfl) (fun _ => by kernel_rfl) : ∀ (rest : Heap) (X : Fix), X.P = Tryz.prog → X.N = 28 → AW X (loopOf Tryz.prog 100 2) ⟨envOf [(0, rP), (1, dI least), (6, u8 19)], ovl (rd L s) rest⟩ fun e' S' => e' = .exit 0 ∧ S' = ⟨envOf [], ovl (rd L s) rest⟩) rest X hP hN
theorem sg19 : SgAt L s least 19 (0, 0) := fun rest X hP hN => lw_stop (sgS19 hi least rest X hP hN) (by simp [sgOut])
theorem sgA1 (h : decide ((9 : Int) ≥ least) = false) : ∀ (rest : Heap) (X : Fix), X.P = Tryz.prog → X.N = 28 → AW X (loopOf Tryz.prog 100 2) ⟨envOf [(0, rP), (1, dI least), (6, u8 1)], ovl (rd L s) rest⟩ fun e' S' => e' = .normal ∧ S' = ⟨envOf [(0, rP), (1, dI least), (6, u8 2)], ovl (rd L s) rest⟩ :=
  segC okP named { hint := tabH Tryz.prog [(100, 15, .call 13 _ _ sgF1), (100, 20, hB Tryz.prog (decide ((9 : Int) ≥ least)) false h)] } 2000 100 1000 28 1000000 ([]) ⟨rfl, rfl, rfl, by kernel_rfl, by kernel_rfl, by kernel_rfl⟩ (by kernel_rfl) (by kernel_rfl) (fun _ => by kernel_rfl)
theorem sgB1 (h : decide ((9 : Int) ≥ least) = true) (h2 : isT L s [43] = false) : ∀ (rest : Heap) (X : Fix), X.P = Tryz.prog → X.N = 28 → AW X (loopOf Tryz.prog 100 2) ⟨envOf [(0, rP), (1, dI least), (6, u8 1)], ovl (rd L s) rest⟩ fun e' S' => e' = .normal ∧ S' = ⟨envOf [(0, rP), (1, dI least), (6, u8 2)], ovl (rd L s) rest⟩ :=
  segC okP named { hint := tabH Tryz.prog [(100, 15, .call 13 _ _ sgF1), (100, 20, hB Tryz.prog (decide ((9 : Int) ≥ least)) true h)], calls := tabC Tryz.prog [(100, 24, 1392, cOf (isRT hi [43] h2))] } 2000 100 1000 28 1000000 ([]) ⟨rfl, rfl, rfl, by kernel_rfl, by kernel_rfl, by kernel_rfl⟩ (by kernel_rfl) (by kernel_rfl) (fun _ => by kernel_rfl)
theorem sgC1 (h : decide ((9 : Int) ≥ least) = true) (h2 : isT L s [43] = true) : ∀ (rest : Heap) (X : Fix), X.P = Tryz.prog → X.N = 28 → AW X (loopOf Tryz.prog 100 2) ⟨envOf [(0, rP), (1, dI least), (6, u8 1)], ovl (rd L s) rest⟩ fun e' S' => e' = .ret ∧ S' = ⟨envOf [(4, u8 1), (5, dI 9)], ovl (rd L s) rest⟩ :=
  segC okP named { hint := tabH Tryz.prog [(100, 15, .call 13 _ _ sgF1), (100, 20, hB Tryz.prog (decide ((9 : Int) ≥ least)) true h)], calls := tabC Tryz.prog [(100, 24, 1392, cOf (isRT hi [43] h2))] } 2000 100 1000 28 1000000 ([]) ⟨rfl, rfl, rfl, by kernel_rfl, by kernel_rfl, by kernel_rfl⟩ (by kernel_rfl) (by kernel_rfl) (fun _ => by kernel_rfl)
theorem sgA2 (h : decide ((9 : Int) ≥ least) = false) : ∀ (rest : Heap) (X : Fix), X.P = Tryz.prog → X.N = 28 → AW X (loopOf Tryz.prog 100 2) ⟨envOf [(0, rP), (1, dI least), (6, u8 2)], ovl (rd L s) rest⟩ fun e' S' => e' = .normal ∧ S' = ⟨envOf [(0, rP), (1, dI least), (6, u8 3)], ovl (rd L s) rest⟩ :=
  segC okP named { hint := tabH Tryz.prog [(100, 15, .call 13 _ _ sgF2), (100, 20, hB Tryz.prog (decide ((9 : Int) ≥ least)) false h)] } 2000 100 1000 28 1000000 ([]) ⟨rfl, rfl, rfl, by kernel_rfl, by kernel_rfl, by kernel_rfl⟩ (by kernel_rfl) (by kernel_rfl) (fun _ => by kernel_rfl)
theorem sgB2 (h : decide ((9 : Int) ≥ least) = true) (h2 : isT L s [45] = false) : ∀ (rest : Heap) (X : Fix), X.P = Tryz.prog → X.N = 28 → AW X (loopOf Tryz.prog 100 2) ⟨envOf [(0, rP), (1, dI least), (6, u8 2)], ovl (rd L s) rest⟩ fun e' S' => e' = .normal ∧ S' = ⟨envOf [(0, rP), (1, dI least), (6, u8 3)], ovl (rd L s) rest⟩ :=
  segC okP named { hint := tabH Tryz.prog [(100, 15, .call 13 _ _ sgF2), (100, 20, hB Tryz.prog (decide ((9 : Int) ≥ least)) true h)], calls := tabC Tryz.prog [(100, 24, 1392, cOf (isRT hi [45] h2))] } 2000 100 1000 28 1000000 ([]) ⟨rfl, rfl, rfl, by kernel_rfl, by kernel_rfl, by kernel_rfl⟩ (by kernel_rfl) (by kernel_rfl) (fun _ => by kernel_rfl)
theorem sgC2 (h : decide ((9 : Int) ≥ least) = true) (h2 : isT L s [45] = true) : ∀ (rest : Heap) (X : Fix), X.P = Tryz.prog → X.N = 28 → AW X (loopOf Tryz.prog 100 2) ⟨envOf [(0, rP), (1, dI least), (6, u8 2)], ovl (rd L s) rest⟩ fun e' S' => e' = .ret ∧ S' = ⟨envOf [(4, u8 2), (5, dI 9)], ovl (rd L s) rest⟩ :=
  segC okP named { hint := tabH Tryz.prog [(100, 15, .call 13 _ _ sgF2), (100, 20, hB Tryz.prog (decide ((9 : Int) ≥ least)) true h)], calls := tabC Tryz.prog [(100, 24, 1392, cOf (isRT hi [45] h2))] } 2000 100 1000 28 1000000 ([]) ⟨rfl, rfl, rfl, by kernel_rfl, by kernel_rfl, by kernel_rfl⟩ (by kernel_rfl) (by kernel_rfl) (fun _ => by kernel_rfl)
theorem sgA3 (h : decide ((10 : Int) ≥ least) = false) : ∀ (rest : Heap) (X : Fix), X.P = Tryz.prog → X.N = 28 → AW X (loopOf Tryz.prog 100 2) ⟨envOf [(0, rP), (1, dI least), (6, u8 3)], ovl (rd L s) rest⟩ fun e' S' => e' = .normal ∧ S' = ⟨envOf [(0, rP), (1, dI least), (6, u8 4)], ovl (rd L s) rest⟩ :=
  segC okP named { hint := tabH Tryz.prog [(100, 15, .call 13 _ _ sgF3), (100, 20, hB Tryz.prog (decide ((10 : Int) ≥ least)) false h)] } 2000 100 1000 28 1000000 ([]) ⟨rfl, rfl, rfl, by kernel_rfl, by kernel_rfl, by kernel_rfl⟩ (by kernel_rfl) (by kernel_rfl) (fun _ => by kernel_rfl)
theorem sgB3 (h : decide ((10 : Int) ≥ least) = true) (h2 : isT L s [42] = false) : ∀ (rest : Heap) (X : Fix), X.P = Tryz.prog → X.N = 28 → AW X (loopOf Tryz.prog 100 2) ⟨envOf [(0, rP), (1, dI least), (6, u8 3)], ovl (rd L s) rest⟩ fun e' S' => e' = .normal ∧ S' = ⟨envOf [(0, rP), (1, dI least), (6, u8 4)], ovl (rd L s) rest⟩ :=
  segC okP named { hint := tabH Tryz.prog [(100, 15, .call 13 _ _ sgF3), (100, 20, hB Tryz.prog (decide ((10 : Int) ≥ least)) true h)], calls := tabC Tryz.prog [(100, 24, 1392, cOf (isRT hi [42] h2))] } 2000 100 1000 28 1000000 ([]) ⟨rfl, rfl, rfl, by kernel_rfl, by kernel_rfl, by kernel_rfl⟩ (by kernel_rfl) (by kernel_rfl) (fun _ => by kernel_rfl)
theorem sgC3 (h : decide ((10 : Int) ≥ least) = true) (h2 : isT L s [42] = true) : ∀ (rest : Heap) (X : Fix), X.P = Tryz.prog → X.N = 28 → AW X (loopOf Tryz.prog 100 2) ⟨envOf [(0, rP), (1, dI least), (6, u8 3)], ovl (rd L s) rest⟩ fun e' S' => e' = .ret ∧ S' = ⟨envOf [(4, u8 3), (5, dI 10)], ovl (rd L s) rest⟩ :=
  segC okP named { hint := tabH Tryz.prog [(100, 15, .call 13 _ _ sgF3), (100, 20, hB Tryz.prog (decide ((10 : Int) ≥ least)) true h)], calls := tabC Tryz.prog [(100, 24, 1392, cOf (isRT hi [42] h2))] } 2000 100 1000 28 1000000 ([]) ⟨rfl, rfl, rfl, by kernel_rfl, by kernel_rfl, by kernel_rfl⟩ (by kernel_rfl) (by kernel_rfl) (fun _ => by kernel_rfl)
theorem sgA4 (h : decide ((10 : Int) ≥ least) = false) : ∀ (rest : Heap) (X : Fix), X.P = Tryz.prog → X.N = 28 → AW X (loopOf Tryz.prog 100 2) ⟨envOf [(0, rP), (1, dI least), (6, u8 4)], ovl (rd L s) rest⟩ fun e' S' => e' = .normal ∧ S' = ⟨envOf [(0, rP), (1, dI least), (6, u8 5)], ovl (rd L s) rest⟩ :=
  segC okP named { hint := tabH Tryz.prog [(100, 15, .call 13 _ _ sgF4), (100, 20, hB Tryz.prog (decide ((10 : Int) ≥ least)) false h)] } 2000 100 1000 28 1000000 ([]) ⟨rfl, rfl, rfl, by kernel_rfl, by kernel_rfl, by kernel_rfl⟩ (by kernel_rfl) (by kernel_rfl) (fun _ => by kernel_rfl)
theorem sgB4 (h : decide ((10 : Int) ≥ least) = true) (h2 : isT L s [47] = false) : ∀ (rest : Heap) (X : Fix), X.P = Tryz.prog → X.N = 28 → AW X (loopOf Tryz.prog 100 2) ⟨envOf [(0, rP), (1, dI least), (6, u8 4)], ovl (rd L s) rest⟩ fun e' S' => e' = .normal ∧ S' = ⟨envOf [(0, rP), (1, dI least), (6, u8 5)], ovl (rd L s) rest⟩ :=
  segC okP named { hint := tabH Tryz.prog [(100, 15, .call 13 _ _ sgF4), (100, 20, hB Tryz.prog (decide ((10 : Int) ≥ least)) true h)], calls := tabC Tryz.prog [(100, 24, 1392, cOf (isRT hi [47] h2))] } 2000 100 1000 28 1000000 ([]) ⟨rfl, rfl, rfl, by kernel_rfl, by kernel_rfl, by kernel_rfl⟩ (by kernel_rfl) (by kernel_rfl) (fun _ => by kernel_rfl)
theorem sgC4 (h : decide ((10 : Int) ≥ least) = true) (h2 : isT L s [47] = true) : ∀ (rest : Heap) (X : Fix), X.P = Tryz.prog → X.N = 28 → AW X (loopOf Tryz.prog 100 2) ⟨envOf [(0, rP), (1, dI least), (6, u8 4)], ovl (rd L s) rest⟩ fun e' S' => e' = .ret ∧ S' = ⟨envOf [(4, u8 4), (5, dI 10)], ovl (rd L s) rest⟩ :=
  segC okP named { hint := tabH Tryz.prog [(100, 15, .call 13 _ _ sgF4), (100, 20, hB Tryz.prog (decide ((10 : Int) ≥ least)) true h)], calls := tabC Tryz.prog [(100, 24, 1392, cOf (isRT hi [47] h2))] } 2000 100 1000 28 1000000 ([]) ⟨rfl, rfl, rfl, by kernel_rfl, by kernel_rfl, by kernel_rfl⟩ (by kernel_rfl) (by kernel_rfl) (fun _ => by kernel_rfl)
theorem sgA5 (h : decide ((10 : Int) ≥ least) = false) : ∀ (rest : Heap) (X : Fix), X.P = Tryz.prog → X.N = 28 → AW X (loopOf Tryz.prog 100 2) ⟨envOf [(0, rP), (1, dI least), (6, u8 5)], ovl (rd L s) rest⟩ fun e' S' => e' = .normal ∧ S' = ⟨envOf [(0, rP), (1, dI least), (6, u8 6)], ovl (rd L s) rest⟩ :=
  segC okP named { hint := tabH Tryz.prog [(100, 15, .call 13 _ _ sgF5), (100, 20, hB Tryz.prog (decide ((10 : Int) ≥ least)) false h)] } 2000 100 1000 28 1000000 ([]) ⟨rfl, rfl, rfl, by kernel_rfl, by kernel_rfl, by kernel_rfl⟩ (by kernel_rfl) (by kernel_rfl) (fun _ => by kernel_rfl)
theorem sgB5 (h : decide ((10 : Int) ≥ least) = true) (h2 : isT L s [37] = false) : ∀ (rest : Heap) (X : Fix), X.P = Tryz.prog → X.N = 28 → AW X (loopOf Tryz.prog 100 2) ⟨envOf [(0, rP), (1, dI least), (6, u8 5)], ovl (rd L s) rest⟩ fun e' S' => e' = .normal ∧ S' = ⟨envOf [(0, rP), (1, dI least), (6, u8 6)], ovl (rd L s) rest⟩ :=
  segC okP named { hint := tabH Tryz.prog [(100, 15, .call 13 _ _ sgF5), (100, 20, hB Tryz.prog (decide ((10 : Int) ≥ least)) true h)], calls := tabC Tryz.prog [(100, 24, 1392, cOf (isRT hi [37] h2))] } 2000 100 1000 28 1000000 ([]) ⟨rfl, rfl, rfl, by kernel_rfl, by kernel_rfl, by kernel_rfl⟩ (by kernel_rfl) (by kernel_rfl) (fun _ => by kernel_rfl)
theorem sgC5 (h : decide ((10 : Int) ≥ least) = true) (h2 : isT L s [37] = true) : ∀ (rest : Heap) (X : Fix), X.P = Tryz.prog → X.N = 28 → AW X (loopOf Tryz.prog 100 2) ⟨envOf [(0, rP), (1, dI least), (6, u8 5)], ovl (rd L s) rest⟩ fun e' S' => e' = .ret ∧ S' = ⟨envOf [(4, u8 5), (5, dI 10)], ovl (rd L s) rest⟩ :=
  segC okP named { hint := tabH Tryz.prog [(100, 15, .call 13 _ _ sgF5), (100, 20, hB Tryz.prog (decide ((10 : Int) ≥ least)) true h)], calls := tabC Tryz.prog [(100, 24, 1392, cOf (isRT hi [37] h2))] } 2000 100 1000 28 1000000 ([]) ⟨rfl, rfl, rfl, by kernel_rfl, by kernel_rfl, by kernel_rfl⟩ (by kernel_rfl) (by kernel_rfl) (fun _ => by kernel_rfl)
theorem sgA6 (h : decide ((7 : Int) ≥ least) = false) : ∀ (rest : Heap) (X : Fix), X.P = Tryz.prog → X.N = 28 → AW X (loopOf Tryz.prog 100 2) ⟨envOf [(0, rP), (1, dI least), (6, u8 6)], ovl (rd L s) rest⟩ fun e' S' => e' = .normal ∧ S' = ⟨envOf [(0, rP), (1, dI least), (6, u8 7)], ovl (rd L s) rest⟩ :=
  segC okP named { hint := tabH Tryz.prog [(100, 15, .call 13 _ _ sgF6), (100, 20, hB Tryz.prog (decide ((7 : Int) ≥ least)) false h)] } 2000 100 1000 28 1000000 ([]) ⟨rfl, rfl, rfl, by kernel_rfl, by kernel_rfl, by kernel_rfl⟩ (by kernel_rfl) (by kernel_rfl) (fun _ => by kernel_rfl)
theorem sgB6 (h : decide ((7 : Int) ≥ least) = true) (h2 : isT L s [38] = false) : ∀ (rest : Heap) (X : Fix), X.P = Tryz.prog → X.N = 28 → AW X (loopOf Tryz.prog 100 2) ⟨envOf [(0, rP), (1, dI least), (6, u8 6)], ovl (rd L s) rest⟩ fun e' S' => e' = .normal ∧ S' = ⟨envOf [(0, rP), (1, dI least), (6, u8 7)], ovl (rd L s) rest⟩ :=
  segC okP named { hint := tabH Tryz.prog [(100, 15, .call 13 _ _ sgF6), (100, 20, hB Tryz.prog (decide ((7 : Int) ≥ least)) true h)], calls := tabC Tryz.prog [(100, 24, 1392, cOf (isRT hi [38] h2))] } 2000 100 1000 28 1000000 ([]) ⟨rfl, rfl, rfl, by kernel_rfl, by kernel_rfl, by kernel_rfl⟩ (by kernel_rfl) (by kernel_rfl) (fun _ => by kernel_rfl)
theorem sgC6 (h : decide ((7 : Int) ≥ least) = true) (h2 : isT L s [38] = true) : ∀ (rest : Heap) (X : Fix), X.P = Tryz.prog → X.N = 28 → AW X (loopOf Tryz.prog 100 2) ⟨envOf [(0, rP), (1, dI least), (6, u8 6)], ovl (rd L s) rest⟩ fun e' S' => e' = .ret ∧ S' = ⟨envOf [(4, u8 6), (5, dI 7)], ovl (rd L s) rest⟩ :=
  segC okP named { hint := tabH Tryz.prog [(100, 15, .call 13 _ _ sgF6), (100, 20, hB Tryz.prog (decide ((7 : Int) ≥ least)) true h)], calls := tabC Tryz.prog [(100, 24, 1392, cOf (isRT hi [38] h2))] } 2000 100 1000 28 1000000 ([]) ⟨rfl, rfl, rfl, by kernel_rfl, by kernel_rfl, by kernel_rfl⟩ (by kernel_rfl) (by kernel_rfl) (fun _ => by kernel_rfl)
theorem sgA7 (h : decide ((5 : Int) ≥ least) = false) : ∀ (rest : Heap) (X : Fix), X.P = Tryz.prog → X.N = 28 → AW X (loopOf Tryz.prog 100 2) ⟨envOf [(0, rP), (1, dI least), (6, u8 7)], ovl (rd L s) rest⟩ fun e' S' => e' = .normal ∧ S' = ⟨envOf [(0, rP), (1, dI least), (6, u8 8)], ovl (rd L s) rest⟩ :=
  segC okP named { hint := tabH Tryz.prog [(100, 15, .call 13 _ _ sgF7), (100, 20, hB Tryz.prog (decide ((5 : Int) ≥ least)) false h)] } 2000 100 1000 28 1000000 ([]) ⟨rfl, rfl, rfl, by kernel_rfl, by kernel_rfl, by kernel_rfl⟩ (by kernel_rfl) (by kernel_rfl) (fun _ => by kernel_rfl)
theorem sgB7 (h : decide ((5 : Int) ≥ least) = true) (h2 : isT L s [124] = false) : ∀ (rest : Heap) (X : Fix), X.P = Tryz.prog → X.N = 28 → AW X (loopOf Tryz.prog 100 2) ⟨envOf [(0, rP), (1, dI least), (6, u8 7)], ovl (rd L s) rest⟩ fun e' S' => e' = .normal ∧ S' = ⟨envOf [(0, rP), (1, dI least), (6, u8 8)], ovl (rd L s) rest⟩ :=
  segC okP named { hint := tabH Tryz.prog [(100, 15, .call 13 _ _ sgF7), (100, 20, hB Tryz.prog (decide ((5 : Int) ≥ least)) true h)], calls := tabC Tryz.prog [(100, 24, 1392, cOf (isRT hi [124] h2))] } 2000 100 1000 28 1000000 ([]) ⟨rfl, rfl, rfl, by kernel_rfl, by kernel_rfl, by kernel_rfl⟩ (by kernel_rfl) (by kernel_rfl) (fun _ => by kernel_rfl)
theorem sgC7 (h : decide ((5 : Int) ≥ least) = true) (h2 : isT L s [124] = true) : ∀ (rest : Heap) (X : Fix), X.P = Tryz.prog → X.N = 28 → AW X (loopOf Tryz.prog 100 2) ⟨envOf [(0, rP), (1, dI least), (6, u8 7)], ovl (rd L s) rest⟩ fun e' S' => e' = .ret ∧ S' = ⟨envOf [(4, u8 7), (5, dI 5)], ovl (rd L s) rest⟩ :=
  segC okP named { hint := tabH Tryz.prog [(100, 15, .call 13 _ _ sgF7), (100, 20, hB Tryz.prog (decide ((5 : Int) ≥ least)) true h)], calls := tabC Tryz.prog [(100, 24, 1392, cOf (isRT hi [124] h2))] } 2000 100 1000 28 1000000 ([]) ⟨rfl, rfl, rfl, by kernel_rfl, by kernel_rfl, by kernel_rfl⟩ (by kernel_rfl) (by kernel_rfl) (fun _ => by kernel_rfl)
theorem sgA8 (h : decide ((6 : Int) ≥ least) = false) : ∀ (rest : Heap) (X : Fix), X.P = Tryz.prog → X.N = 28 → AW X (loopOf Tryz.prog 100 2) ⟨envOf [(0, rP), (1, dI least), (6, u8 8)], ovl (rd L s) rest⟩ fun e' S' => e' = .normal ∧ S' = ⟨envOf [(0, rP), (1, dI least), (6, u8 9)], ovl (rd L s) rest⟩ :=
  segC okP named { hint := tabH Tryz.prog [(100, 15, .call 13 _ _ sgF8), (100, 20, hB Tryz.prog (decide ((6 : Int) ≥ least)) false h)] } 2000 100 1000 28 1000000 ([]) ⟨rfl, rfl, rfl, by kernel_rfl, by kernel_rfl, by kernel_rfl⟩ (by kernel_rfl) (by kernel_rfl) (fun _ => by kernel_rfl)
theorem sgB8 (h : decide ((6 : Int) ≥ least) = true) (h2 : isT L s [94] = false) : ∀ (rest : Heap) (X : Fix), X.P = Tryz.prog → X.N = 28 → AW X (loopOf Tryz.prog 100 2) ⟨envOf [(0, rP), (1, dI least), (6, u8 8)], ovl (rd L s) rest⟩ fun e' S' => e' = .normal ∧ S' = ⟨envOf [(0, rP), (1, dI least), (6, u8 9)], ovl (rd L s) rest⟩ :=
  segC okP named { hint := tabH Tryz.prog [(100, 15, .call 13 _ _ sgF8), (100, 20, hB Tryz.prog (decide ((6 : Int) ≥ least)) true h)], calls := tabC Tryz.prog [(100, 24, 1392, cOf (isRT hi [94] h2))] } 2000 100 1000 28 1000000 ([]) ⟨rfl, rfl, rfl, by kernel_rfl, by kernel_rfl, by kernel_rfl⟩ (by kernel_rfl) (by kernel_rfl) (fun _ => by kernel_rfl)
theorem sgC8 (h : decide ((6 : Int) ≥ least) = true) (h2 : isT L s [94] = true) : ∀ (rest : Heap) (X : Fix), X.P = Tryz.prog → X.N = 28 → AW X (loopOf Tryz.prog 100 2) ⟨envOf [(0, rP), (1, dI least), (6, u8 8)], ovl (rd L s) rest⟩ fun e' S' => e' = .ret ∧ S' = ⟨envOf [(4, u8 8), (5, dI 6)], ovl (rd L s) rest⟩ :=
  segC okP named { hint := tabH Tryz.prog [(100, 15, .call 13 _ _ sgF8), (100, 20, hB Tryz.prog (decide ((6 : Int) ≥ least)) true h)], calls := tabC Tryz.prog [(100, 24, 1392, cOf (isRT hi [94] h2))] } 2000 100 1000 28 1000000 ([]) ⟨rfl, rfl, rfl, by kernel_rfl, by kernel_rfl, by kernel_rfl⟩ (by kernel_rfl) (by kernel_rfl) (fun _ => by kernel_rfl)
theorem sgA9 (h : decide ((8 : Int) ≥ least) = false) : ∀ (rest : Heap) (X : Fix), X.P = Tryz.prog → X.N = 28 → AW X (loopOf Tryz.prog 100 2) ⟨envOf [(0, rP), (1, dI least), (6, u8 9)], ovl (rd L s) rest⟩ fun e' S' => e' = .normal ∧ S' = ⟨envOf [(0, rP), (1, dI least), (6, u8 10)], ovl (rd L s) rest⟩ :=
  segC okP named { hint := tabH Tryz.prog [(100, 15, .call 13 _ _ sgF9), (100, 20, hB Tryz.prog (decide ((8 : Int) ≥ least)) false h)] } 2000 100 1000 28 1000000 ([]) ⟨rfl, rfl, rfl, by kernel_rfl, by kernel_rfl, by kernel_rfl⟩ (by kernel_rfl) (by kernel_rfl) (fun _ => by kernel_rfl)
theorem sgB9 (h : decide ((8 : Int) ≥ least) = true) (h2 : isT L s [60, 60] = false) : ∀ (rest : Heap) (X : Fix), X.P = Tryz.prog → X.N = 28 → AW X (loopOf Tryz.prog 100 2) ⟨envOf [(0, rP), (1, dI least), (6, u8 9)], ovl (rd L s) rest⟩ fun e' S' => e' = .normal ∧ S' = ⟨envOf [(0, rP), (1, dI least), (6, u8 10)], ovl (rd L s) rest⟩ :=
  segC okP named { hint := tabH Tryz.prog [(100, 15, .call 13 _ _ sgF9), (100, 20, hB Tryz.prog (decide ((8 : Int) ≥ least)) true h)], calls := tabC Tryz.prog [(100, 24, 1392, cOf (isRT hi [60, 60] h2))] } 2000 100 1000 28 1000000 ([]) ⟨rfl, rfl, rfl, by kernel_rfl, by kernel_rfl, by kernel_rfl⟩ (by kernel_rfl) (by kernel_rfl) (fun _ => by kernel_rfl)
theorem sgC9 (h : decide ((8 : Int) ≥ least) = true) (h2 : isT L s [60, 60] = true) : ∀ (rest : Heap) (X : Fix), X.P = Tryz.prog → X.N = 28 → AW X (loopOf Tryz.prog 100 2) ⟨envOf [(0, rP), (1, dI least), (6, u8 9)], ovl (rd L s) rest⟩ fun e' S' => e' = .ret ∧ S' = ⟨envOf [(4, u8 9), (5, dI 8)], ovl (rd L s) rest⟩ :=
  segC okP named { hint := tabH Tryz.prog [(100, 15, .call 13 _ _ sgF9), (100, 20, hB Tryz.prog (decide ((8 : Int) ≥ least)) true h)], calls := tabC Tryz.prog [(100, 24, 1392, cOf (isRT hi [60, 60] h2))] } 2000 100 1000 28 1000000 ([]) ⟨rfl, rfl, rfl, by kernel_rfl, by kernel_rfl, by kernel_rfl⟩ (by kernel_rfl) (by kernel_rfl) (fun _ => by kernel_rfl)
theorem sgA10 (h : decide ((8 : Int) ≥ least) = false) : ∀ (rest : Heap) (X : Fix), X.P = Tryz.prog → X.N = 28 → AW X (loopOf Tryz.prog 100 2) ⟨envOf [(0, rP), (1, dI least), (6, u8 10)], ovl (rd L s) rest⟩ fun e' S' => e' = .normal ∧ S' = ⟨envOf [(0, rP), (1, dI least), (6, u8 11)], ovl (rd L s) rest⟩ :=
  segC okP named { hint := tabH Tryz.prog [(100, 15, .call 13 _ _ sgF10), (100, 20, hB Tryz.prog (decide ((8 : Int) ≥ least)) false h)] } 2000 100 1000 28 1000000 ([]) ⟨rfl, rfl, rfl, by kernel_rfl, by kernel_rfl, by kernel_rfl⟩ (by kernel_rfl) (by kernel_rfl) (fun _ => by kernel_rfl)
theorem sgB10 (h : decide ((8 : Int) ≥ least) = true) (h2 : isT L s [62, 62] = false) : ∀ (rest : Heap) (X : Fix), X.P = Tryz.prog → X.N = 28 → AW X (loopOf Tryz.prog 100 2) ⟨envOf [(0, rP), (1, dI least), (6, u8 10)], ovl (rd L s) rest⟩ fun e' S' => e' = .normal ∧ S' = ⟨envOf [(0, rP), (1, dI least), (6, u8 11)], ovl (rd L s) rest⟩ :=
  segC okP named { hint := tabH Tryz.prog [(100, 15, .call 13 _ _ sgF10), (100, 20, hB Tryz.prog (decide ((8 : Int) ≥ least)) true h)], calls := tabC Tryz.prog [(100, 24, 1392, cOf (isRT hi [62, 62] h2))] } 2000 100 1000 28 1000000 ([]) ⟨rfl, rfl, rfl, by kernel_rfl, by kernel_rfl, by kernel_rfl⟩ (by kernel_rfl) (by kernel_rfl) (fun _ => by kernel_rfl)
theorem sgC10 (h : decide ((8 : Int) ≥ least) = true) (h2 : isT L s [62, 62] = true) : ∀ (rest : Heap) (X : Fix), X.P = Tryz.prog → X.N = 28 → AW X (loopOf Tryz.prog 100 2) ⟨envOf [(0, rP), (1, dI least), (6, u8 10)], ovl (rd L s) rest⟩ fun e' S' => e' = .ret ∧ S' = ⟨envOf [(4, u8 10), (5, dI 8)], ovl (rd L s) rest⟩ :=
  segC okP named { hint := tabH Tryz.prog [(100, 15, .call 13 _ _ sgF10), (100, 20, hB Tryz.prog (decide ((8 : Int) ≥ least)) true h)], calls := tabC Tryz.prog [(100, 24, 1392, cOf (isRT hi [62, 62] h2))] } 2000 100 1000 28 1000000 ([]) ⟨rfl, rfl, rfl, by kernel_rfl, by kernel_rfl, by kernel_rfl⟩ (by kernel_rfl) (by kernel_rfl) (fun _ => by kernel_rfl)
theorem sgA11 (h : decide ((4 : Int) ≥ least) = false) : ∀ (rest : Heap) (X : Fix), X.P = Tryz.prog → X.N = 28 → AW X (loopOf Tryz.prog 100 2) ⟨envOf [(0, rP), (1, dI least), (6, u8 11)], ovl (rd L s) rest⟩ fun e' S' => e' = .normal ∧ S' = ⟨envOf [(0, rP), (1, dI least), (6, u8 12)], ovl (rd L s) rest⟩ :=
  segC okP named { hint := tabH Tryz.prog [(100, 15, .call 13 _ _ sgF11), (100, 20, hB Tryz.prog (decide ((4 : Int) ≥ least)) false h)] } 2000 100 1000 28 1000000 ([]) ⟨rfl, rfl, rfl, by kernel_rfl, by kernel_rfl, by kernel_rfl⟩ (by kernel_rfl) (by kernel_rfl) (fun _ => by kernel_rfl)
theorem sgB11 (h : decide ((4 : Int) ≥ least) = true) (h2 : isT L s [60] = false) : ∀ (rest : Heap) (X : Fix), X.P = Tryz.prog → X.N = 28 → AW X (loopOf Tryz.prog 100 2) ⟨envOf [(0, rP), (1, dI least), (6, u8 11)], ovl (rd L s) rest⟩ fun e' S' => e' = .normal ∧ S' = ⟨envOf [(0, rP), (1, dI least), (6, u8 12)], ovl (rd L s) rest⟩ :=
  segC okP named { hint := tabH Tryz.prog [(100, 15, .call 13 _ _ sgF11), (100, 20, hB Tryz.prog (decide ((4 : Int) ≥ least)) true h)], calls := tabC Tryz.prog [(100, 24, 1392, cOf (isRT hi [60] h2))] } 2000 100 1000 28 1000000 ([]) ⟨rfl, rfl, rfl, by kernel_rfl, by kernel_rfl, by kernel_rfl⟩ (by kernel_rfl) (by kernel_rfl) (fun _ => by kernel_rfl)
theorem sgC11 (h : decide ((4 : Int) ≥ least) = true) (h2 : isT L s [60] = true) : ∀ (rest : Heap) (X : Fix), X.P = Tryz.prog → X.N = 28 → AW X (loopOf Tryz.prog 100 2) ⟨envOf [(0, rP), (1, dI least), (6, u8 11)], ovl (rd L s) rest⟩ fun e' S' => e' = .ret ∧ S' = ⟨envOf [(4, u8 11), (5, dI 4)], ovl (rd L s) rest⟩ :=
  segC okP named { hint := tabH Tryz.prog [(100, 15, .call 13 _ _ sgF11), (100, 20, hB Tryz.prog (decide ((4 : Int) ≥ least)) true h)], calls := tabC Tryz.prog [(100, 24, 1392, cOf (isRT hi [60] h2))] } 2000 100 1000 28 1000000 ([]) ⟨rfl, rfl, rfl, by kernel_rfl, by kernel_rfl, by kernel_rfl⟩ (by kernel_rfl) (by kernel_rfl) (fun _ => by kernel_rfl)
theorem sgA12 (h : decide ((4 : Int) ≥ least) = false) : ∀ (rest : Heap) (X : Fix), X.P = Tryz.prog → X.N = 28 → AW X (loopOf Tryz.prog 100 2) ⟨envOf [(0, rP), (1, dI least), (6, u8 12)], ovl (rd L s) rest⟩ fun e' S' => e' = .normal ∧ S' = ⟨envOf [(0, rP), (1, dI least), (6, u8 13)], ovl (rd L s) rest⟩ :=
  segC okP named { hint := tabH Tryz.prog [(100, 15, .call 13 _ _ sgF12), (100, 20, hB Tryz.prog (decide ((4 : Int) ≥ least)) false h)] } 2000 100 1000 28 1000000 ([]) ⟨rfl, rfl, rfl, by kernel_rfl, by kernel_rfl, by kernel_rfl⟩ (by kernel_rfl) (by kernel_rfl) (fun _ => by kernel_rfl)
theorem sgB12 (h : decide ((4 : Int) ≥ least) = true) (h2 : isT L s [60, 61] = false) : ∀ (rest : Heap) (X : Fix), X.P = Tryz.prog → X.N = 28 → AW X (loopOf Tryz.prog 100 2) ⟨envOf [(0, rP), (1, dI least), (6, u8 12)], ovl (rd L s) rest⟩ fun e' S' => e' = .normal ∧ S' = ⟨envOf [(0, rP), (1, dI least), (6, u8 13)], ovl (rd L s) rest⟩ :=
  segC okP named { hint := tabH Tryz.prog [(100, 15, .call 13 _ _ sgF12), (100, 20, hB Tryz.prog (decide ((4 : Int) ≥ least)) true h)], calls := tabC Tryz.prog [(100, 24, 1392, cOf (isRT hi [60, 61] h2))] } 2000 100 1000 28 1000000 ([]) ⟨rfl, rfl, rfl, by kernel_rfl, by kernel_rfl, by kernel_rfl⟩ (by kernel_rfl) (by kernel_rfl) (fun _ => by kernel_rfl)
theorem sgC12 (h : decide ((4 : Int) ≥ least) = true) (h2 : isT L s [60, 61] = true) : ∀ (rest : Heap) (X : Fix), X.P = Tryz.prog → X.N = 28 → AW X (loopOf Tryz.prog 100 2) ⟨envOf [(0, rP), (1, dI least), (6, u8 12)], ovl (rd L s) rest⟩ fun e' S' => e' = .ret ∧ S' = ⟨envOf [(4, u8 12), (5, dI 4)], ovl (rd L s) rest⟩ :=
  segC okP named { hint := tabH Tryz.prog [(100, 15, .call 13 _ _ sgF12), (100, 20, hB Tryz.prog (decide ((4 : Int) ≥ least)) true h)], calls := tabC Tryz.prog [(100, 24, 1392, cOf (isRT hi [60, 61] h2))] } 2000 100 1000 28 1000000 ([]) ⟨rfl, rfl, rfl, by kernel_rfl, by kernel_rfl, by kernel_rfl⟩ (by kernel_rfl) (by kernel_rfl) (fun _ => by kernel_rfl)
theorem sgA13 (h : decide ((4 : Int) ≥ least) = false) : ∀ (rest : Heap) (X : Fix), X.P = Tryz.prog → X.N = 28 → AW X (loopOf Tryz.prog 100 2) ⟨envOf [(0, rP), (1, dI least), (6, u8 13)], ovl (rd L s) rest⟩ fun e' S' => e' = .normal ∧ S' = ⟨envOf [(0, rP), (1, dI least), (6, u8 14)], ovl (rd L s) rest⟩ :=
  segC okP named { hint := tabH Tryz.prog [(100, 15, .call 13 _ _ sgF13), (100, 20, hB Tryz.prog (decide ((4 : Int) ≥ least)) false h)] } 2000 100 1000 28 1000000 ([]) ⟨rfl, rfl, rfl, by kernel_rfl, by kernel_rfl, by kernel_rfl⟩ (by kernel_rfl) (by kernel_rfl) (fun _ => by kernel_rfl)
theorem sgB13 (h : decide ((4 : Int) ≥ least) = true) (h2 : isT L s [62] = false) : ∀ (rest : Heap) (X : Fix), X.P = Tryz.prog → X.N = 28 → AW X (loopOf Tryz.prog 100 2) ⟨envOf [(0, rP), (1, dI least), (6, u8 13)], ovl (rd L s) rest⟩ fun e' S' => e' = .normal ∧ S' = ⟨envOf [(0, rP), (1, dI least), (6, u8 14)], ovl (rd L s) rest⟩ :=
  segC okP named { hint := tabH Tryz.prog [(100, 15, .call 13 _ _ sgF13), (100, 20, hB Tryz.prog (decide ((4 : Int) ≥ least)) true h)], calls := tabC Tryz.prog [(100, 24, 1392, cOf (isRT hi [62] h2))] } 2000 100 1000 28 1000000 ([]) ⟨rfl, rfl, rfl, by kernel_rfl, by kernel_rfl, by kernel_rfl⟩ (by kernel_rfl) (by kernel_rfl) (fun _ => by kernel_rfl)
theorem sgC13 (h : decide ((4 : Int) ≥ least) = true) (h2 : isT L s [62] = true) : ∀ (rest : Heap) (X : Fix), X.P = Tryz.prog → X.N = 28 → AW X (loopOf Tryz.prog 100 2) ⟨envOf [(0, rP), (1, dI least), (6, u8 13)], ovl (rd L s) rest⟩ fun e' S' => e' = .ret ∧ S' = ⟨envOf [(4, u8 13), (5, dI 4)], ovl (rd L s) rest⟩ :=
  segC okP named { hint := tabH Tryz.prog [(100, 15, .call 13 _ _ sgF13), (100, 20, hB Tryz.prog (decide ((4 : Int) ≥ least)) true h)], calls := tabC Tryz.prog [(100, 24, 1392, cOf (isRT hi [62] h2))] } 2000 100 1000 28 1000000 ([]) ⟨rfl, rfl, rfl, by kernel_rfl, by kernel_rfl, by kernel_rfl⟩ (by kernel_rfl) (by kernel_rfl) (fun _ => by kernel_rfl)
theorem sgA14 (h : decide ((4 : Int) ≥ least) = false) : ∀ (rest : Heap) (X : Fix), X.P = Tryz.prog → X.N = 28 → AW X (loopOf Tryz.prog 100 2) ⟨envOf [(0, rP), (1, dI least), (6, u8 14)], ovl (rd L s) rest⟩ fun e' S' => e' = .normal ∧ S' = ⟨envOf [(0, rP), (1, dI least), (6, u8 15)], ovl (rd L s) rest⟩ :=
  segC okP named { hint := tabH Tryz.prog [(100, 15, .call 13 _ _ sgF14), (100, 20, hB Tryz.prog (decide ((4 : Int) ≥ least)) false h)] } 2000 100 1000 28 1000000 ([]) ⟨rfl, rfl, rfl, by kernel_rfl, by kernel_rfl, by kernel_rfl⟩ (by kernel_rfl) (by kernel_rfl) (fun _ => by kernel_rfl)
theorem sgB14 (h : decide ((4 : Int) ≥ least) = true) (h2 : isT L s [62, 61] = false) : ∀ (rest : Heap) (X : Fix), X.P = Tryz.prog → X.N = 28 → AW X (loopOf Tryz.prog 100 2) ⟨envOf [(0, rP), (1, dI least), (6, u8 14)], ovl (rd L s) rest⟩ fun e' S' => e' = .normal ∧ S' = ⟨envOf [(0, rP), (1, dI least), (6, u8 15)], ovl (rd L s) rest⟩ :=
  segC okP named { hint := tabH Tryz.prog [(100, 15, .call 13 _ _ sgF14), (100, 20, hB Tryz.prog (decide ((4 : Int) ≥ least)) true h)], calls := tabC Tryz.prog [(100, 24, 1392, cOf (isRT hi [62, 61] h2))] } 2000 100 1000 28 1000000 ([]) ⟨rfl, rfl, rfl, by kernel_rfl, by kernel_rfl, by kernel_rfl⟩ (by kernel_rfl) (by kernel_rfl) (fun _ => by kernel_rfl)
theorem sgC14 (h : decide ((4 : Int) ≥ least) = true) (h2 : isT L s [62, 61] = true) : ∀ (rest : Heap) (X : Fix), X.P = Tryz.prog → X.N = 28 → AW X (loopOf Tryz.prog 100 2) ⟨envOf [(0, rP), (1, dI least), (6, u8 14)], ovl (rd L s) rest⟩ fun e' S' => e' = .ret ∧ S' = ⟨envOf [(4, u8 14), (5, dI 4)], ovl (rd L s) rest⟩ :=
  segC okP named { hint := tabH Tryz.prog [(100, 15, .call 13 _ _ sgF14), (100, 20, hB Tryz.prog (decide ((4 : Int) ≥ least)) true h)], calls := tabC Tryz.prog [(100, 24, 1392, cOf (isRT hi [62, 61] h2))] } 2000 100 1000 28 1000000 ([]) ⟨rfl, rfl, rfl, by kernel_rfl, by kernel_rfl, by kernel_rfl⟩ (by kernel_rfl) (by kernel_rfl) (fun _ => by kernel_rfl)
theorem sgA15 (h : decide ((3 : Int) ≥ least) = false) : ∀ (rest : Heap) (X : Fix), X.P = Tryz.prog → X.N = 28 → AW X (loopOf Tryz.prog 100 2) ⟨envOf [(0, rP), (1, dI least), (6, u8 15)], ovl (rd L s) rest⟩ fun e' S' => e' = .normal ∧ S' = ⟨envOf [(0, rP), (1, dI least), (6, u8 16)], ovl (rd L s) rest⟩ :=
  segC okP named { hint := tabH Tryz.prog [(100, 15, .call 13 _ _ sgF15), (100, 20, hB Tryz.prog (decide ((3 : Int) ≥ least)) false h)] } 2000 100 1000 28 1000000 ([]) ⟨rfl, rfl, rfl, by kernel_rfl, by kernel_rfl, by kernel_rfl⟩ (by kernel_rfl) (by kernel_rfl) (fun _ => by kernel_rfl)
theorem sgB15 (h : decide ((3 : Int) ≥ least) = true) (h2 : isT L s [61, 61] = false) : ∀ (rest : Heap) (X : Fix), X.P = Tryz.prog → X.N = 28 → AW X (loopOf Tryz.prog 100 2) ⟨envOf [(0, rP), (1, dI least), (6, u8 15)], ovl (rd L s) rest⟩ fun e' S' => e' = .normal ∧ S' = ⟨envOf [(0, rP), (1, dI least), (6, u8 16)], ovl (rd L s) rest⟩ :=
  segC okP named { hint := tabH Tryz.prog [(100, 15, .call 13 _ _ sgF15), (100, 20, hB Tryz.prog (decide ((3 : Int) ≥ least)) true h)], calls := tabC Tryz.prog [(100, 24, 1392, cOf (isRT hi [61, 61] h2))] } 2000 100 1000 28 1000000 ([]) ⟨rfl, rfl, rfl, by kernel_rfl, by kernel_rfl, by kernel_rfl⟩ (by kernel_rfl) (by kernel_rfl) (fun _ => by kernel_rfl)
theorem sgC15 (h : decide ((3 : Int) ≥ least) = true) (h2 : isT L s [61, 61] = true) : ∀ (rest : Heap) (X : Fix), X.P = Tryz.prog → X.N = 28 → AW X (loopOf Tryz.prog 100 2) ⟨envOf [(0, rP), (1, dI least), (6, u8 15)], ovl (rd L s) rest⟩ fun e' S' => e' = .ret ∧ S' = ⟨envOf [(4, u8 15), (5, dI 3)], ovl (rd L s) rest⟩ :=
  segC okP named { hint := tabH Tryz.prog [(100, 15, .call 13 _ _ sgF15), (100, 20, hB Tryz.prog (decide ((3 : Int) ≥ least)) true h)], calls := tabC Tryz.prog [(100, 24, 1392, cOf (isRT hi [61, 61] h2))] } 2000 100 1000 28 1000000 ([]) ⟨rfl, rfl, rfl, by kernel_rfl, by kernel_rfl, by kernel_rfl⟩ (by kernel_rfl) (by kernel_rfl) (fun _ => by kernel_rfl)
theorem sgA16 (h : decide ((3 : Int) ≥ least) = false) : ∀ (rest : Heap) (X : Fix), X.P = Tryz.prog → X.N = 28 → AW X (loopOf Tryz.prog 100 2) ⟨envOf [(0, rP), (1, dI least), (6, u8 16)], ovl (rd L s) rest⟩ fun e' S' => e' = .normal ∧ S' = ⟨envOf [(0, rP), (1, dI least), (6, u8 17)], ovl (rd L s) rest⟩ :=
  segC okP named { hint := tabH Tryz.prog [(100, 15, .call 13 _ _ sgF16), (100, 20, hB Tryz.prog (decide ((3 : Int) ≥ least)) false h)] } 2000 100 1000 28 1000000 ([]) ⟨rfl, rfl, rfl, by kernel_rfl, by kernel_rfl, by kernel_rfl⟩ (by kernel_rfl) (by kernel_rfl) (fun _ => by kernel_rfl)
theorem sgB16 (h : decide ((3 : Int) ≥ least) = true) (h2 : isT L s [33, 61] = false) : ∀ (rest : Heap) (X : Fix), X.P = Tryz.prog → X.N = 28 → AW X (loopOf Tryz.prog 100 2) ⟨envOf [(0, rP), (1, dI least), (6, u8 16)], ovl (rd L s) rest⟩ fun e' S' => e' = .normal ∧ S' = ⟨envOf [(0, rP), (1, dI least), (6, u8 17)], ovl (rd L s) rest⟩ :=
  segC okP named { hint := tabH Tryz.prog [(100, 15, .call 13 _ _ sgF16), (100, 20, hB Tryz.prog (decide ((3 : Int) ≥ least)) true h)], calls := tabC Tryz.prog [(100, 24, 1392, cOf (isRT hi [33, 61] h2))] } 2000 100 1000 28 1000000 ([]) ⟨rfl, rfl, rfl, by kernel_rfl, by kernel_rfl, by kernel_rfl⟩ (by kernel_rfl) (by kernel_rfl) (fun _ => by kernel_rfl)
theorem sgC16 (h : decide ((3 : Int) ≥ least) = true) (h2 : isT L s [33, 61] = true) : ∀ (rest : Heap) (X : Fix), X.P = Tryz.prog → X.N = 28 → AW X (loopOf Tryz.prog 100 2) ⟨envOf [(0, rP), (1, dI least), (6, u8 16)], ovl (rd L s) rest⟩ fun e' S' => e' = .ret ∧ S' = ⟨envOf [(4, u8 16), (5, dI 3)], ovl (rd L s) rest⟩ :=
  segC okP named { hint := tabH Tryz.prog [(100, 15, .call 13 _ _ sgF16), (100, 20, hB Tryz.prog (decide ((3 : Int) ≥ least)) true h)], calls := tabC Tryz.prog [(100, 24, 1392, cOf (isRT hi [33, 61] h2))] } 2000 100 1000 28 1000000 ([]) ⟨rfl, rfl, rfl, by kernel_rfl, by kernel_rfl, by kernel_rfl⟩ (by kernel_rfl) (by kernel_rfl) (fun _ => by kernel_rfl)
theorem sgA17 (h : decide ((2 : Int) ≥ least) = false) : ∀ (rest : Heap) (X : Fix), X.P = Tryz.prog → X.N = 28 → AW X (loopOf Tryz.prog 100 2) ⟨envOf [(0, rP), (1, dI least), (6, u8 17)], ovl (rd L s) rest⟩ fun e' S' => e' = .normal ∧ S' = ⟨envOf [(0, rP), (1, dI least), (6, u8 18)], ovl (rd L s) rest⟩ :=
  segC okP named { hint := tabH Tryz.prog [(100, 15, .call 13 _ _ sgF17), (100, 20, hB Tryz.prog (decide ((2 : Int) ≥ least)) false h)] } 2000 100 1000 28 1000000 ([]) ⟨rfl, rfl, rfl, by kernel_rfl, by kernel_rfl, by kernel_rfl⟩ (by kernel_rfl) (by kernel_rfl) (fun _ => by kernel_rfl)
theorem sgB17 (h : decide ((2 : Int) ≥ least) = true) (h2 : isT L s [38, 38] = false) : ∀ (rest : Heap) (X : Fix), X.P = Tryz.prog → X.N = 28 → AW X (loopOf Tryz.prog 100 2) ⟨envOf [(0, rP), (1, dI least), (6, u8 17)], ovl (rd L s) rest⟩ fun e' S' => e' = .normal ∧ S' = ⟨envOf [(0, rP), (1, dI least), (6, u8 18)], ovl (rd L s) rest⟩ :=
  segC okP named { hint := tabH Tryz.prog [(100, 15, .call 13 _ _ sgF17), (100, 20, hB Tryz.prog (decide ((2 : Int) ≥ least)) true h)], calls := tabC Tryz.prog [(100, 24, 1392, cOf (isRT hi [38, 38] h2))] } 2000 100 1000 28 1000000 ([]) ⟨rfl, rfl, rfl, by kernel_rfl, by kernel_rfl, by kernel_rfl⟩ (by kernel_rfl) (by kernel_rfl) (fun _ => by kernel_rfl)
theorem sgC17 (h : decide ((2 : Int) ≥ least) = true) (h2 : isT L s [38, 38] = true) : ∀ (rest : Heap) (X : Fix), X.P = Tryz.prog → X.N = 28 → AW X (loopOf Tryz.prog 100 2) ⟨envOf [(0, rP), (1, dI least), (6, u8 17)], ovl (rd L s) rest⟩ fun e' S' => e' = .ret ∧ S' = ⟨envOf [(4, u8 17), (5, dI 2)], ovl (rd L s) rest⟩ :=
  segC okP named { hint := tabH Tryz.prog [(100, 15, .call 13 _ _ sgF17), (100, 20, hB Tryz.prog (decide ((2 : Int) ≥ least)) true h)], calls := tabC Tryz.prog [(100, 24, 1392, cOf (isRT hi [38, 38] h2))] } 2000 100 1000 28 1000000 ([]) ⟨rfl, rfl, rfl, by kernel_rfl, by kernel_rfl, by kernel_rfl⟩ (by kernel_rfl) (by kernel_rfl) (fun _ => by kernel_rfl)
theorem sgA18 (h : decide ((1 : Int) ≥ least) = false) : ∀ (rest : Heap) (X : Fix), X.P = Tryz.prog → X.N = 28 → AW X (loopOf Tryz.prog 100 2) ⟨envOf [(0, rP), (1, dI least), (6, u8 18)], ovl (rd L s) rest⟩ fun e' S' => e' = .normal ∧ S' = ⟨envOf [(0, rP), (1, dI least), (6, u8 19)], ovl (rd L s) rest⟩ :=
  segC okP named { hint := tabH Tryz.prog [(100, 15, .call 13 _ _ sgF18), (100, 20, hB Tryz.prog (decide ((1 : Int) ≥ least)) false h)] } 2000 100 1000 28 1000000 ([]) ⟨rfl, rfl, rfl, by kernel_rfl, by kernel_rfl, by kernel_rfl⟩ (by kernel_rfl) (by kernel_rfl) (fun _ => by kernel_rfl)
theorem sgB18 (h : decide ((1 : Int) ≥ least) = true) (h2 : isT L s [124, 124] = false) : ∀ (rest : Heap) (X : Fix), X.P = Tryz.prog → X.N = 28 → AW X (loopOf Tryz.prog 100 2) ⟨envOf [(0, rP), (1, dI least), (6, u8 18)], ovl (rd L s) rest⟩ fun e' S' => e' = .normal ∧ S' = ⟨envOf [(0, rP), (1, dI least), (6, u8 19)], ovl (rd L s) rest⟩ :=
  segC okP named { hint := tabH Tryz.prog [(100, 15, .call 13 _ _ sgF18), (100, 20, hB Tryz.prog (decide ((1 : Int) ≥ least)) true h)], calls := tabC Tryz.prog [(100, 24, 1392, cOf (isRT hi [124, 124] h2))] } 2000 100 1000 28 1000000 ([]) ⟨rfl, rfl, rfl, by kernel_rfl, by kernel_rfl, by kernel_rfl⟩ (by kernel_rfl) (by kernel_rfl) (fun _ => by kernel_rfl)
theorem sgC18 (h : decide ((1 : Int) ≥ least) = true) (h2 : isT L s [124, 124] = true) : ∀ (rest : Heap) (X : Fix), X.P = Tryz.prog → X.N = 28 → AW X (loopOf Tryz.prog 100 2) ⟨envOf [(0, rP), (1, dI least), (6, u8 18)], ovl (rd L s) rest⟩ fun e' S' => e' = .ret ∧ S' = ⟨envOf [(4, u8 18), (5, dI 1)], ovl (rd L s) rest⟩ :=
  segC okP named { hint := tabH Tryz.prog [(100, 15, .call 13 _ _ sgF18), (100, 20, hB Tryz.prog (decide ((1 : Int) ≥ least)) true h)], calls := tabC Tryz.prog [(100, 24, 1392, cOf (isRT hi [124, 124] h2))] } 2000 100 1000 28 1000000 ([]) ⟨rfl, rfl, rfl, by kernel_rfl, by kernel_rfl, by kernel_rfl⟩ (by kernel_rfl) (by kernel_rfl) (fun _ => by kernel_rfl)
theorem sgn1 : SgAt L s least 1 (sSign L least s) :=
  sg_step (by decide) (sgA1 hi least) (sgB1 hi least) (sgC1 hi least) (sg_step (by decide) (sgA2 hi least) (sgB2 hi least) (sgC2 hi least) (sg_step (by decide) (sgA3 hi least) (sgB3 hi least) (sgC3 hi least) (sg_step (by decide) (sgA4 hi least) (sgB4 hi least) (sgC4 hi least) (sg_step (by decide) (sgA5 hi least) (sgB5 hi least) (sgC5 hi least) (sg_step (by decide) (sgA6 hi least) (sgB6 hi least) (sgC6 hi least) (sg_step (by decide) (sgA7 hi least) (sgB7 hi least) (sgC7 hi least) (sg_step (by decide) (sgA8 hi least) (sgB8 hi least) (sgC8 hi least) (sg_step (by decide) (sgA9 hi least) (sgB9 hi least) (sgC9 hi least) (sg_step (by decide) (sgA10 hi least) (sgB10 hi least) (sgC10 hi least) (sg_step (by decide) (sgA11 hi least) (sgB11 hi least) (sgC11 hi least) (sg_step (by decide) (sgA12 hi least) (sgB12 hi least) (sgC12 hi least) (sg_step (by decide) (sgA13 hi least) (sgB13 hi least) (sgC13 hi least) (sg_step (by decide) (sgA14 hi least) (sgB14 hi least) (sgC14 hi least) (sg_step (by decide) (sgA15 hi least) (sgB15 hi least) (sgC15 hi least) (sg_step (by decide) (sgA16 hi least) (sgB16 hi least) (sgC16 hi least) (sg_step (by decide) (sgA17 hi least) (sgB17 hi least) (sgC17 hi least) (sg_step (by decide) (sgA18 hi least) (sgB18 hi least) (sgC18 hi least) (sg19 hi least))))))))))))))))))
noncomputable def sgLH {e : AExit} {l' : List (Nat × AV)} (h : ∀ (rest : Heap) (X : Fix), X.P = Tryz.prog → X.N = 28 → LW X (loopOf Tryz.prog 100 2) ⟨envOf (sgSt least 1), ovl (rd L s) rest⟩ fun e' S' => e' = e ∧ S' = ⟨envOf l', ovl (rd L s) rest⟩) : LHint Tryz.prog :=
  ⟨28, loopOf Tryz.prog 100 2, sgSt least 1, fun _ => rd L s, e, l', fun _ => rd L s, fun rest X hP hN => (h rest X hP hN).aw⟩
theorem signN (h : ∀ (rest : Heap) (X : Fix), X.P = Tryz.prog → X.N = 28 → LW X (loopOf Tryz.prog 100 2) ⟨envOf (sgSt least 1), ovl (rd L s) rest⟩ fun e' S' => e' = .exit 0 ∧ S' = ⟨envOf [], ovl (rd L s) rest⟩) : ∀ rest : Heap, HCall Tryz.prog 100 [rP, dI least] (ovl (rd L s) rest) ([.int .u8 0, .int .i64 0].map .d) (ovl (rd L s) rest) :=
  hclean_of_run okP named ({ loops := fun f q => if f = 100 then (if q = 2 then some (sgLH least h) else none) else none }) 2000 1000 _ 1000000 ⟨rfl, rfl, rfl, by kernel_rfl, by kernel_rfl, by kernel_rfl⟩ (fun _ => by kernel_rfl)
theorem signY (o k : Int) (h : ∀ (rest : Heap) (X : Fix), X.P = Tryz.prog → X.N = 28 → LW X (loopOf Tryz.prog 100 2) ⟨envOf (sgSt least 1), ovl (rd L s) rest⟩ fun e' S' => e' = .ret ∧ S' = ⟨envOf [(4, u8 o), (5, dI k)], ovl (rd L s) rest⟩) : ∀ rest : Heap, HCall Tryz.prog 100 [rP, dI least] (ovl (rd L s) rest) ([.int .u8 o, .int .i64 k].map .d) (ovl (rd L s) rest) :=
  hclean_of_run okP named ({ loops := fun f q => if f = 100 then (if q = 2 then some (sgLH least h) else none) else none }) 2000 1000 _ 1000000 ⟨rfl, rfl, rfl, by kernel_rfl, by kernel_rfl, by kernel_rfl⟩ (fun _ => by kernel_rfl)
theorem signOf_zero : ∀ l : List (Int × List UInt8 × Int), (signOf L s least l).1 = 0 → (∀ p ∈ l, p.1 ≠ 0) → signOf L s least l = (0, 0)
  | [], _, _ => rfl
  | (o, x, k) :: r, h, hl => by
    simp only [signOf] at h ⊢
    cases hc : (decide (least ≤ k) && isT L s x) with
    | true => rw [hc] at h; exact absurd h (hl (o, x, k) (by simp))
    | false => rw [hc] at h; exact signOf_zero r h fun p hp => hl p (by simp [hp])
theorem signR : ∀ rest : Heap, HCall Tryz.prog 100 [rP, dI least] (ovl (rd L s) rest) ([.int .u8 (sSign L least s).1, .int .i64 (sSign L least s).2].map .d) (ovl (rd L s) rest) := by
  have h := sgn1 hi least
  unfold SgAt sgOut at h
  cases h0 : ((sSign L least s).1 == 0) with
  | true =>
    rw [h0] at h
    have hz : sSign L least s = (0, 0) := signOf_zero hi least signs (eq_of_beq h0) (by decide)
    rw [hz]
    exact signN hi least h
  | false =>
    rw [h0] at h
    exact signY hi least _ _ h
/-- A sign is there: a token more is. -/
theorem sign_some (hL : Toks L) : ∀ l : List (Int × List UInt8 × Int), (signOf L s least l).1 ≠ 0 → s.i + 1 < L.length
  | [], h => by simp [signOf] at h
  | (o, x, k) :: r, h => by
    simp only [signOf] at h
    cases hc : (decide (least ≤ k) && isT L s x) with
    | true => exact isT_nx hL hi (Bool.and_eq_true .. ▸ hc).2
    | false => rw [hc] at h; exact sign_some hL r h
end
end Go.Avm
/-
  Texts xs programs: the reader's expressions of signs.
-/
set_option linter.unusedSectionVars false
namespace Go.Avm
open Go.Proofs

/-- An expression's cells. -/
def exC : Ex → List AV
  | .mk k o nm n p xs => [u8 k, u8 o, .d (.str nm), dI n, dI p, .d (.ro (exL xs))]
def ex0 : Ex := .mk 0 0 [] 0 0 []
def exE (K : Nat) (e : Ex) : Nat × Ent := (K, ⟨1, some (.arr 1 (exC e))⟩)
def z0E (K : Nat) : Nat × Ent := (K, ⟨1, some (.arr 1 [u8 0, u8 0, .d (.str []), dI 0, dI 0, .nils])⟩)
def pC (K : Nat) : AV := .ptr K 1 0 0 1
/-! ### expr's loop -/
def tlL (least : Int) : List (Nat × AV) := [(0, rP), (1, dI least), (4, pC 1004), (5, pC 1083)]
def tlH (L : List T) (s : RS) (e : Ex) : List (Nat × Ent) := rd L s ++ [z0E 1004, exE 1083 e]
def tlR (L : List T) (s : RS) (e : Ex) : List (Nat × Ent) := rd L s ++ [exE 1004 e, (1083, ⟨1, none⟩)]
def tlB (L : List T) (s : RS) : List (Nat × Ent) := rd L s ++ [(1004, ⟨1, none⟩), (1083, ⟨1, none⟩)]
def TlAt (L : List T) (least : Int) (s : RS) (e : Ex) : Res Ex → Prop
  | .ok a s' => s'.i < L.length ∧ ∀ (rest : Heap) (X : Fix), X.P = Tryz.prog → X.N = 39 → LW X (loopOf Tryz.prog 77 2) ⟨envOf (tlL least), ovl (tlH L s e) rest⟩ fun e' S' => e' = .ret ∧ S' = ⟨envOf [(4, pC 1004)], ovl (tlR L s' a) rest⟩
  | .bad p q s' => ∀ (rest : Heap) (X : Fix), X.P = Tryz.prog → X.N = 39 → LW X (loopOf Tryz.prog 77 2) ⟨envOf (tlL least), ovl (tlH L s e) rest⟩ fun e' S' => e' = .panic (flt p q) ∧ S' = ⟨envOf [], ovl (tlB L s') rest⟩
  | .out => True
section
variable {L : List T} (hL : Toks L) {s : RS} (l : s.i < L.length) (least : Int) (k o : Int) (nm : List UInt8) (n p : Int) (xs : List Ex)
include l hL
theorem tlStop (h : ((sSign L least s).1 == 0) = true) : ∀ (rest : Heap) (X : Fix), X.P = Tryz.prog → X.N = 39 → AW X (loopOf Tryz.prog 77 2) ⟨envOf (tlL least), ovl (tlH L s (.mk k o nm n p xs)) rest⟩ fun e' S' => e' = .ret ∧ S' = ⟨envOf [(4, pC 1004)], ovl (tlR L s (.mk k o nm n p xs)) rest⟩ :=
  segC okP named { hint := tabH Tryz.prog [(77, 18, hB Tryz.prog ((sSign L least s).1 == 0) true h)], calls := tabC Tryz.prog [(77, 14, 2078, cOf (signR l least))] } 2000 77 2000 39 1000000 ([]) ⟨rfl, rfl, rfl, by kernel_rfl, by kernel_rfl, by kernel_rfl⟩ (by kernel_rfl) (by kernel_rfl) (fun _ => by kernel_rfl)
theorem tlBad (h : ((sSign L least s).1 == 0) = false) (q r : Int) (s2 : RS) (c : ∀ rest : Heap, HPan Tryz.prog 77 [rP, dI (w64 ((sSign L least s).2 + 1))] (ovl (rd L s.nx) rest) (flt q r) (ovl (rd L s2) rest)) :
    ∀ (rest : Heap) (X : Fix), X.P = Tryz.prog → X.N = 39 → AW X (loopOf Tryz.prog 77 2) ⟨envOf (tlL least), ovl (tlH L s (.mk k o nm n p xs)) rest⟩ fun e' S' => e' = .panic (flt q r) ∧ S' = ⟨envOf [], ovl (tlB L s2) rest⟩ :=
  segC okP named { hint := tabH Tryz.prog [(77, 18, hB Tryz.prog ((sSign L least s).1 == 0) false h), (77, 27, hSucc Tryz.prog s.i (by have := hL.len; omega))], calls := tabC Tryz.prog [(77, 14, 2078, cOf (signR l least)), (77, 21, 2390, cOf (nowR l))], pans := tabP Tryz.prog [(77, 7, 2780, ⟨6, some (pOf c), []⟩)] } 2000 77 2000 39 1000000 ([]) ⟨rfl, rfl, rfl, by kernel_rfl, by kernel_rfl, by kernel_rfl⟩ (by kernel_rfl) (by kernel_rfl) (fun _ => by kernel_rfl)
theorem tlGo (h : ((sSign L least s).1 == 0) = false) (k2 o2 : Int) (nm2 : List UInt8) (n2 p2 : Int) (xs2 : List Ex) (s2 : RS) (c : ∀ rest : Heap, HCall Tryz.prog 77 [rP, dI (w64 ((sSign L least s).2 + 1))] (ovl (rd L s.nx) rest) ([exD (.mk k2 o2 nm2 n2 p2 xs2)].map .d) (ovl (rd L s2) rest)) :
    ∀ (rest : Heap) (X : Fix), X.P = Tryz.prog → X.N = 39 → AW X (loopOf Tryz.prog 77 2) ⟨envOf (tlL least), ovl (tlH L s (.mk k o nm n p xs)) rest⟩ fun e' S' => e' = .normal ∧ S' = ⟨envOf (tlL least), ovl (tlH L s2 (.mk 9 (sSign L least s).1 [] 0 (cur L s).p [.mk k o nm n p xs, .mk k2 o2 nm2 n2 p2 xs2])) rest⟩ :=
  segC okP named { hint := tabH Tryz.prog [(77, 18, hB Tryz.prog ((sSign L least s).1 == 0) false h), (77, 27, hSucc Tryz.prog s.i (by have := hL.len; omega))], calls := tabC Tryz.prog [(77, 14, 2078, cOf (signR l least)), (77, 21, 2390, cOf (nowR l)), (77, 36, 3014, cOf c)] } 2000 77 2000 39 1000000 ([(1083, 5)]) ⟨rfl, rfl, rfl, by kernel_rfl, by kernel_rfl, by kernel_rfl⟩ (by kernel_rfl) (by kernel_rfl) (fun _ => by kernel_rfl)
end
noncomputable def tlLH {L : List T} {least : Int} {s : RS} {e : Ex} {hp' : List (Nat × Ent)} {x : AExit} {l' : List (Nat × AV)} (h : ∀ (rest : Heap) (X : Fix), X.P = Tryz.prog → X.N = 39 → LW X (loopOf Tryz.prog 77 2) ⟨envOf (tlL least), ovl (tlH L s e) rest⟩ fun e' S' => e' = x ∧ S' = ⟨envOf l', ovl hp' rest⟩) : LHint Tryz.prog :=
  ⟨39, loopOf Tryz.prog 77 2, tlL least, fun _ => tlH L s e, x, l', fun _ => hp', fun rest X hP hN => (h rest X hP hN).aw⟩
theorem exprOk {L : List T} {least : Int} {s s1 s2 : RS} {k o : Int} {nm : List UInt8} {n p : Int} {xs : List Ex} {k2 o2 : Int} {nm2 : List UInt8} {n2 p2 : Int} {xs2 : List Ex}
    (c : ∀ rest : Heap, HCall Tryz.prog 99 [rP] (ovl (rd L s) rest) ([exD (.mk k o nm n p xs)].map .d) (ovl (rd L s1) rest))
    (h : ∀ (rest : Heap) (X : Fix), X.P = Tryz.prog → X.N = 39 → LW X (loopOf Tryz.prog 77 2) ⟨envOf (tlL least), ovl (tlH L s1 (.mk k o nm n p xs)) rest⟩ fun e' S' => e' = .ret ∧ S' = ⟨envOf [(4, pC 1004)], ovl (tlR L s2 (.mk k2 o2 nm2 n2 p2 xs2)) rest⟩) :
    ∀ rest : Heap, HCall Tryz.prog 77 [rP, dI least] (ovl (rd L s) rest) ([exD (.mk k2 o2 nm2 n2 p2 xs2)].map .d) (ovl (rd L s2) rest) :=
  hclean_of_run okP named { loops := fun f q => if f = 77 then (if q = 2 then some (tlLH h) else none) else none, calls := tabC Tryz.prog [(77, 10, 1078, cOf c)] } 2000 1000 _ 1000000 ⟨rfl, rfl, rfl, by kernel_rfl, by kernel_rfl, by kernel_rfl⟩ (fun _ => by kernel_rfl)
theorem exprBad {L : List T} {least : Int} {s s1 s2 : RS} {k o : Int} {nm : List UInt8} {n p : Int} {xs : List Ex} {q r : Int}
    (c : ∀ rest : Heap, HCall Tryz.prog 99 [rP] (ovl (rd L s) rest) ([exD (.mk k o nm n p xs)].map .d) (ovl (rd L s1) rest))
    (h : ∀ (rest : Heap) (X : Fix), X.P = Tryz.prog → X.N = 39 → LW X (loopOf Tryz.prog 77 2) ⟨envOf (tlL least), ovl (tlH L s1 (.mk k o nm n p xs)) rest⟩ fun e' S' => e' = .panic (flt q r) ∧ S' = ⟨envOf [], ovl (tlB L s2) rest⟩) :
    ∀ rest : Heap, HPan Tryz.prog 77 [rP, dI least] (ovl (rd L s) rest) (flt q r) (ovl (rd L s2) rest) :=
  hcleanP_of_run okP named { loops := fun f q => if f = 77 then (if q = 2 then some (tlLH h) else none) else none, calls := tabC Tryz.prog [(77, 10, 1078, cOf c)] } 2000 1000 _ 1000000 ⟨rfl, rfl, rfl, by kernel_rfl, by kernel_rfl, by kernel_rfl⟩ (by kernel_rfl) (fun _ => by kernel_rfl)
theorem exprOne {L : List T} {least : Int} {s s1 : RS} {q r : Int} (c : ∀ rest : Heap, HPan Tryz.prog 99 [rP] (ovl (rd L s) rest) (flt q r) (ovl (rd L s1) rest)) :
    ∀ rest : Heap, HPan Tryz.prog 77 [rP, dI least] (ovl (rd L s) rest) (flt q r) (ovl (rd L s1) rest) :=
  hcleanP_of_run okP named { pans := tabP Tryz.prog [(77, 1, 1039, ⟨1, some (pOf c), []⟩)] } 2000 1000 _ 1000000 ⟨rfl, rfl, rfl, by kernel_rfl, by kernel_rfl, by kernel_rfl⟩ (by kernel_rfl) (fun _ => by kernel_rfl)
section
variable {L : List T} (hL : Toks L)
include hL
theorem tailStep (n : Nat) (ihE : ∀ (k : Int) (s : RS), s.i < L.length → RC L 77 [rP, dI k] (fun e => [exD e]) s (sExpr L n k s)) (ihT : ∀ (k : Int) (e : Ex) (s : RS), s.i < L.length → TlAt L k s e (sTail L n k e s))
    (least : Int) (e : Ex) (s : RS) (l : s.i < L.length) : TlAt L least s e (sTail L (n + 1) least e s) := by
  obtain ⟨k, o, nm, m, p, xs⟩ := e
  simp only [sTail]
  cases h : ((sSign L least s).1 == 0) with
  | true => exact ⟨l, fun rest X hP hN => lw_stop (tlStop hL l least k o nm m p xs h rest X hP hN) (by simp)⟩
  | false =>
    have ln : s.nx.i < L.length := sign_some l least hL signs (by simpa [sSign] using h)
    have c := ihE (w64 ((sSign L least s).2 + 1)) s.nx ln
    simp only [cond_false]
    revert c
    cases sExpr L n (w64 ((sSign L least s).2 + 1)) s.nx with
    | out => exact fun _ => trivial
    | bad q r s2 => exact fun c rest X hP hN => lw_stop (tlBad hL l least k o nm m p xs h q r s2 c rest X hP hN) (by simp)
    | ok e2 s2 =>
      obtain ⟨k2, o2, nm2, n2, p2, xs2⟩ := e2
      intro c
      have c2 := ihT least (.mk 9 (sSign L least s).1 [] 0 (cur L s).p [.mk k o nm m p xs, .mk k2 o2 nm2 n2 p2 xs2]) s2 c.1
      simp only [Res.bind]
      revert c2
      cases sTail L n least (.mk 9 (sSign L least s).1 [] 0 (cur L s).p [.mk k o nm m p xs, .mk k2 o2 nm2 n2 p2 xs2]) s2 with
      | out => exact fun _ => trivial
      | bad q r s3 => exact fun c2 rest X hP hN => lw_step (tlGo hL l least k o nm m p xs h k2 o2 nm2 n2 p2 xs2 s2 c.2 rest X hP hN) (c2 rest X hP hN)
      | ok a s3 => exact fun c2 => ⟨c2.1, fun rest X hP hN => lw_step (tlGo hL l least k o nm m p xs h k2 o2 nm2 n2 p2 xs2 s2 c.2 rest X hP hN) (c2.2 rest X hP hN)⟩
theorem exprStep (n : Nat) (ih1 : ∀ s : RS, s.i < L.length → RC L 99 [rP] (fun e => [exD e]) s (sOne L n s)) (ihT : ∀ (k : Int) (e : Ex) (s : RS), s.i < L.length → TlAt L k s e (sTail L n k e s))
    (least : Int) (s : RS) (l : s.i < L.length) : RC L 77 [rP, dI least] (fun e => [exD e]) s (sExpr L (n + 1) least s) := by
  simp only [sExpr]
  refine RC.bind (ih1 s l) (fun q r s1 c => exprOne c) (fun e s1 l1 c => ?_)
  have c2 := ihT least e s1 l1
  obtain ⟨k, o, nm, m, p, xs⟩ := e
  revert c2
  cases sTail L n least (.mk k o nm m p xs) s1 with
  | out => exact fun _ => trivial
  | bad q r s3 => exact fun c2 => exprBad c c2
  | ok a s3 =>
    obtain ⟨k2, o2, nm2, n2, p2, xs2⟩ := a
    exact fun c2 => ⟨c2.1, exprOk c c2.2⟩
end
end Go.Avm
/-
  Texts as programs: the reader's calls: what stands between brackets.
-/
set_option linter.unusedSectionVars false
namespace Go.Avm
open Go.Proofs

def boxE : Nat × Ent := (1003, ⟨1, some (.arr 1 [rP])⟩)
def elA (l : List Ex) : List AV := l.map fun e => .d (exD e)
/-- The call that is built, with its arguments so far. -/
def caE (nm : List UInt8) (p : Int) (a : AV) : Nat × Ent := (1082, ⟨1, some (.arr 1 [u8 5, u8 0, .d (.str nm), dI 0, dI p, a])⟩)
def clo : AV := .fn 124 [pC 1082, pC 1003]
/-- Data alone. -/
theorem renL_data (ρ : Nat → Nat) : ∀ {l : List AV}, (∀ x ∈ l, ∃ d, x = .d d) → renL ρ l = l
  | [], _ => rfl
  | x :: l, h => by
    obtain ⟨d, rfl⟩ := h x (by simp)
    have ih := renL_data ρ (l := l) fun y hy => h y (by simp [hy])
    simp only [renL, renA, ih]
theorem elA_data (r : List Ex) : ∀ x ∈ elA r, ∃ d, x = .d d := fun x hx => by
  obtain ⟨e, _, rfl⟩ := List.mem_map.1 hx
  exact ⟨_, rfl⟩
def zD : D := .agg [.int .u8 0, .int .u8 0, .str [], .int .i64 0, .int .i64 0, .ro []]
section
variable {L : List T} (hL : Toks L) {s : RS} (l : s.i < L.length) (nm : List UInt8) (p : Int)
theorem cloA (k2 o2 : Int) (nm2 : List UInt8) (n2 p2 : Int) (xs2 : List Ex) (s2 : RS) (c : ∀ rest : Heap, HCall Tryz.prog 77 [rP, dI 1] (ovl (rd L s) rest) ([exD (.mk k2 o2 nm2 n2 p2 xs2)].map .d) (ovl (rd L s2) rest)) :
    ∀ rest : Heap, HCall Tryz.prog 124 [pC 1082, pC 1003] (ovl (rd L s ++ [caE nm p .nils, boxE, (400000, ⟨0, none⟩)]) rest) ([].map .d) (ovl (rd L s2 ++ [caE nm p (.sl 400000 2 0 1 6), boxE, (400000, ⟨2, some (.arr 6 (elA [.mk k2 o2 nm2 n2 p2 xs2]))⟩)]) rest) :=
  hclean_of_run okP named { nils := fun f r => if f = 124 then (if r = 0 then some ⟨1082, 5, 400000, 6, false, true⟩ else none) else none, calls := tabC Tryz.prog [(124, 5, 2033, cOf c)] } 2000 2000 _ 1000000 ⟨rfl, rfl, rfl, by kernel_rfl, by kernel_rfl, by kernel_rfl⟩ (fun _ => by kernel_rfl)
theorem cloData (r0 : List Ex) (n : Nat) (e : D) : ∀ x ∈ ((elA r0).take r0.length ++ [AV.d zD]).set n (AV.d e), ∃ d, x = .d d := fun x hx => by
  rcases List.mem_or_eq_of_mem_set hx with hx | rfl
  · rcases List.mem_append.1 hx with hx | hx
    · exact elA_data r0 x (List.mem_of_mem_take hx)
    · simp only [List.mem_singleton] at hx; exact ⟨_, hx⟩
  · exact ⟨_, rfl⟩
theorem cloB (v : Nat) (r0 : List Ex) (hr : r0.length < 1000000) (k2 o2 : Int) (nm2 : List UInt8) (n2 p2 : Int) (xs2 : List Ex) (s2 : RS) (c : ∀ rest : Heap, HCall Tryz.prog 77 [rP, dI 1] (ovl (rd L s) rest) ([exD (.mk k2 o2 nm2 n2 p2 xs2)].map .d) (ovl (rd L s2) rest)) :
    ∀ rest : Heap, HCall Tryz.prog 124 [pC 1082, pC 1003] (ovl (rd L s ++ [caE nm p (.sl 400000 v 0 r0.length 6), boxE, (400000, ⟨v, some (.arr 6 (elA r0))⟩)]) rest) ([].map .d) (ovl (rd L s2 ++ [caE nm p (.sl 400000 (v + 1) 0 (r0.length + 1) 6), boxE, (400000, ⟨v + 1, some (.arr 6 (((elA r0).take r0.length ++ [AV.d zD]).set (0 + r0.length) (AV.d (exD (.mk k2 o2 nm2 n2 p2 xs2)))))⟩)]) rest) :=
  hclean_of_run okP named { hint := tabH Tryz.prog [(124, 8, .apps (elA r0) r0.length 1 ⟨by simp [elA], by omega⟩), (124, 9, .inb (r0.length : Int) (r0.length + 1) (by omega) (by simp)), (124, 100008, .elt ((elA r0).take r0.length ++ [AV.d zD]) (0 + r0.length) (AV.d zD) (by simp [elA]))], calls := tabC Tryz.prog [(124, 5, 2033, cOf c)] } 2000 2000 _ 1000000 ⟨rfl, rfl, rfl, by kernel_rfl, by simp [renE, renO, renL, renA, rnK, caE, boxE, pC, rd, rP, rdC, u8, renL_data _ (elA_data r0)], by simp [renE, renO, renL, renA, rnK, caE, boxE, pC, rd, rP, rdC, u8, renL_data _ (cloData r0 _ _)]⟩ (fun _ => by kernel_rfl)
end
def acc0 (nm : List UInt8) (p : Int) : List (Nat × Ent) := [caE nm p .nils, boxE, (400000, ⟨0, none⟩)]
def accN (nm : List UInt8) (p : Int) (r : List Ex) : List (Nat × Ent) := [caE nm p (.sl 400000 (r.length + 1) 0 r.length 6), boxE, (400000, ⟨r.length + 1, some (.arr 6 (elA r))⟩)]
def accB (v : Nat) : List (Nat × Ent) := [(1082, ⟨1, none⟩), (1003, ⟨1, none⟩), (400000, ⟨v, none⟩)]
def accE (nm : List UInt8) (p : Int) : List Ex → List (Nat × Ent)
  | [] => acc0 nm p
  | r => accN nm p r
section
variable {L : List T} (hL : Toks L) {s : RS} (l : s.i < L.length) (nm : List UInt8) (p : Int)
theorem clo0 (e : Ex) (s2 : RS) (c : ∀ rest : Heap, HCall Tryz.prog 77 [rP, dI 1] (ovl (rd L s) rest) ([exD e].map .d) (ovl (rd L s2) rest)) :
    ∀ rest : Heap, HCall Tryz.prog 124 [pC 1082, pC 1003] (ovl (rd L s ++ acc0 nm p) rest) ([].map .d) (ovl (rd L s2 ++ accN nm p [e]) rest) := by
  obtain ⟨k2, o2, nm2, n2, p2, xs2⟩ := e
  exact cloA nm p k2 o2 nm2 n2 p2 xs2 s2 c
theorem cloN (r : List Ex) (hr : r.length < 1000000) (e : Ex) (s2 : RS) (c : ∀ rest : Heap, HCall Tryz.prog 77 [rP, dI 1] (ovl (rd L s) rest) ([exD e].map .d) (ovl (rd L s2) rest)) :
    ∀ rest : Heap, HCall Tryz.prog 124 [pC 1082, pC 1003] (ovl (rd L s ++ accN nm p r) rest) ([].map .d) (ovl (rd L s2 ++ accN nm p (r ++ [e])) rest) := by
  obtain ⟨k2, o2, nm2, n2, p2, xs2⟩ := e
  have h := cloB nm p (r.length + 1) r hr k2 o2 nm2 n2 p2 xs2 s2 c
  have e1 : ((elA r).take r.length ++ [AV.d zD]).set (0 + r.length) (AV.d (exD (.mk k2 o2 nm2 n2 p2 xs2))) = elA (r ++ [.mk k2 o2 nm2 n2 p2 xs2]) := by
    have hl : r.length = (elA r).length := by simp [elA]
    rw [Nat.zero_add, hl, List.take_length]
    simp [elA]
  rw [e1] at h
  have e2 : r.length + 1 = (r ++ [Ex.mk k2 o2 nm2 n2 p2 xs2]).length := by simp
  simp only [accN, ← e2]
  exact h
theorem cloP0 (q t : Int) (s2 : RS) (c : ∀ rest : Heap, HPan Tryz.prog 77 [rP, dI 1] (ovl (rd L s) rest) (flt q t) (ovl (rd L s2) rest)) :
    ∀ rest : Heap, HPan Tryz.prog 124 [pC 1082, pC 1003] (ovl (rd L s ++ acc0 nm p) rest) (flt q t) (ovl (rd L s2 ++ accB 0) rest) :=
  hcleanP_of_run okP named { pans := tabP Tryz.prog [(124, 0, 2000, ⟨3, some (pOf c), [4, 5]⟩)] } 2000 2000 _ 1000000 ⟨rfl, rfl, rfl, by kernel_rfl, by kernel_rfl, by kernel_rfl⟩ (by kernel_rfl) (fun _ => by kernel_rfl)
theorem cloPN (r : List Ex) (q t : Int) (s2 : RS) (c : ∀ rest : Heap, HPan Tryz.prog 77 [rP, dI 1] (ovl (rd L s) rest) (flt q t) (ovl (rd L s2) rest)) :
    ∀ rest : Heap, HPan Tryz.prog 124 [pC 1082, pC 1003] (ovl (rd L s ++ accN nm p r) rest) (flt q t) (ovl (rd L s2 ++ accB (r.length + 1)) rest) :=
  hcleanP_of_run okP named { pans := tabP Tryz.prog [(124, 0, 2000, ⟨3, some (pOf c), [4, 5]⟩)] } 2000 2000 _ 1000000 ⟨rfl, rfl, rfl, by kernel_rfl, by simp [renE, renO, renL, renA, rnK, acc0, accN, caE, boxE, pC, rd, rP, rdC, u8, renL_data _ (elA_data _)], by simp [renE, renO, renL, renA, rnK, acc0, accN, accB, caE, boxE, pC, rd, rP, rdC, u8, renL_data _ (elA_data _)]⟩ (by kernel_rfl) (fun _ => by kernel_rfl)
/-! ### The loop in list -/
def liL : List (Nat × AV) := [(0, rP), (1, clo)]
abbrev LiS (L : List T) (s : RS) (nm : List UInt8) (p : Int) (r : List Ex) (e : AExit) (l' : List (Nat × AV)) (post : List (Nat × Ent)) : Prop :=
  ∀ (rest : Heap) (X : Fix), X.P = Tryz.prog → X.N = 17 → AW X (loopOf Tryz.prog 36 3) ⟨envOf liL, ovl (rd L s ++ accN nm p r) rest⟩ fun e' S' => e' = e ∧ S' = ⟨envOf l', ovl post rest⟩
include l
theorem liStop (r : List Ex) (h : isT L s [44] = false) : ∀ (rest : Heap) (X : Fix), X.P = Tryz.prog → X.N = 17 → AW X (loopOf Tryz.prog 36 3) ⟨envOf liL, ovl (rd L s ++ accN nm p r) rest⟩ fun e' S' => e' = .exit 0 ∧ S' = ⟨envOf [(0, rP)], ovl (rd L s ++ accN nm p r) rest⟩ :=
  segC okP named { calls := tabC Tryz.prog [(36, 12, 3017, cOf (mayF l [44] h))] } 2000 36 3000 17 1000000 ([]) ⟨rfl, rfl, rfl, by kernel_rfl, by simp [renE, renO, renL, renA, rnK, acc0, accN, caE, boxE, pC, rd, rP, rdC, u8, renL_data _ (elA_data _)], by simp [renE, renO, renL, renA, rnK, acc0, accN, accB, caE, boxE, pC, rd, rP, rdC, u8, renL_data _ (elA_data _)]⟩ (by kernel_rfl) (by kernel_rfl) (fun _ => by kernel_rfl)
theorem liBad (r : List Ex) (q t : Int) (s2 : RS) (c : ∀ rest : Heap, HPan Tryz.prog 39 [rP, .d (.str [44])] (ovl (rd L s) rest) (flt q t) (ovl (rd L s2) rest)) : ∀ (rest : Heap) (X : Fix), X.P = Tryz.prog → X.N = 17 → AW X (loopOf Tryz.prog 36 3) ⟨envOf liL, ovl (rd L s ++ accN nm p r) rest⟩ fun e' S' => e' = .panic (flt q t) ∧ S' = ⟨envOf [], ovl (rd L s2 ++ accB (r.length + 1)) rest⟩ :=
  segC okP named { pans := tabP Tryz.prog [(36, 3, 3000, ⟨1, some (pOf c), []⟩)] } 2000 36 3000 17 1000000 ([]) ⟨rfl, rfl, rfl, by kernel_rfl, by simp [renE, renO, renL, renA, rnK, acc0, accN, caE, boxE, pC, rd, rP, rdC, u8, renL_data _ (elA_data _)], by simp [renE, renO, renL, renA, rnK, acc0, accN, accB, caE, boxE, pC, rd, rP, rdC, u8, renL_data _ (elA_data _)]⟩ (by kernel_rfl) (by kernel_rfl) (fun _ => by kernel_rfl)
theorem liBad2 (r : List Ex) (s1 : RS) (c1 : ∀ rest : Heap, HCall Tryz.prog 39 [rP, .d (.str [44])] (ovl (rd L s) rest) ([.bool true].map .d) (ovl (rd L s1) rest)) (q t : Int) (s2 : RS)
    (c : ∀ rest : Heap, HPan Tryz.prog 124 [pC 1082, pC 1003] (ovl (rd L s1 ++ accN nm p r) rest) (flt q t) (ovl (rd L s2 ++ accB (r.length + 1)) rest)) : ∀ (rest : Heap) (X : Fix), X.P = Tryz.prog → X.N = 17 → AW X (loopOf Tryz.prog 36 3) ⟨envOf liL, ovl (rd L s ++ accN nm p r) rest⟩ fun e' S' => e' = .panic (flt q t) ∧ S' = ⟨envOf [], ovl (rd L s2 ++ accB (r.length + 1)) rest⟩ :=
  segC okP named { calls := tabC Tryz.prog [(36, 12, 3017, cOf c1)], pans := tabP Tryz.prog [(36, 4, 3017, ⟨1, some (pOf c), []⟩)] } 2000 36 3000 17 1000000 ([]) ⟨rfl, rfl, rfl, by kernel_rfl, by simp [renE, renO, renL, renA, rnK, acc0, accN, caE, boxE, pC, rd, rP, rdC, u8, renL_data _ (elA_data _)], by simp [renE, renO, renL, renA, rnK, acc0, accN, accB, caE, boxE, pC, rd, rP, rdC, u8, renL_data _ (elA_data _)]⟩ (by kernel_rfl) (by kernel_rfl) (fun _ => by kernel_rfl)
theorem liGo (r : List Ex) (s1 : RS) (c1 : ∀ rest : Heap, HCall Tryz.prog 39 [rP, .d (.str [44])] (ovl (rd L s) rest) ([.bool true].map .d) (ovl (rd L s1) rest)) (e : Ex) (s2 : RS)
    (c : ∀ rest : Heap, HCall Tryz.prog 124 [pC 1082, pC 1003] (ovl (rd L s1 ++ accN nm p r) rest) ([].map .d) (ovl (rd L s2 ++ accN nm p (r ++ [e])) rest)) : ∀ (rest : Heap) (X : Fix), X.P = Tryz.prog → X.N = 17 → AW X (loopOf Tryz.prog 36 3) ⟨envOf liL, ovl (rd L s ++ accN nm p r) rest⟩ fun e' S' => e' = .normal ∧ S' = ⟨envOf liL, ovl (rd L s2 ++ accN nm p (r ++ [e])) rest⟩ :=
  segC okP named { calls := tabC Tryz.prog [(36, 12, 3017, cOf c1), (36, 14, 3034, cOf c)] } 2000 36 3000 17 1000000 ([]) ⟨rfl, rfl, rfl, by kernel_rfl, by simp [renE, renO, renL, renA, rnK, acc0, accN, caE, boxE, pC, rd, rP, rdC, u8, renL_data _ (elA_data _)], by simp [renE, renO, renL, renA, rnK, acc0, accN, accB, caE, boxE, pC, rd, rP, rdC, u8, renL_data _ (elA_data _)]⟩ (by kernel_rfl) (by kernel_rfl) (fun _ => by kernel_rfl)
end
/-- What the loop comes to. -/
def LiAt (L : List T) (nm : List UInt8) (p : Int) (s : RS) (r : List Ex) : Res (List Ex) → Prop
  | .ok r2 s' => s'.i < L.length ∧ r2 ≠ [] ∧ ∀ (rest : Heap) (X : Fix), X.P = Tryz.prog → X.N = 17 → LW X (loopOf Tryz.prog 36 3) ⟨envOf liL, ovl (rd L s ++ accN nm p r) rest⟩ fun e' S' => e' = .exit 0 ∧ S' = ⟨envOf [(0, rP)], ovl (rd L s' ++ accN nm p r2) rest⟩
  | .bad q t s' => ∃ v, ∀ (rest : Heap) (X : Fix), X.P = Tryz.prog → X.N = 17 → LW X (loopOf Tryz.prog 36 3) ⟨envOf liL, ovl (rd L s ++ accN nm p r) rest⟩ fun e' S' => e' = .panic (flt q t) ∧ S' = ⟨envOf [], ovl (rd L s' ++ accB v) rest⟩
  | .out => True
noncomputable def liLH {L : List T} {nm : List UInt8} {p : Int} {s : RS} {r : List Ex} {hp' : List (Nat × Ent)} {x : AExit} {l' : List (Nat × AV)} (h : ∀ (rest : Heap) (X : Fix), X.P = Tryz.prog → X.N = 17 → LW X (loopOf Tryz.prog 36 3) ⟨envOf liL, ovl (rd L s ++ accN nm p r) rest⟩ fun e' S' => e' = x ∧ S' = ⟨envOf l', ovl hp' rest⟩) : LHint Tryz.prog :=
  ⟨17, loopOf Tryz.prog 36 3, liL, fun _ => rd L s ++ accN nm p r, x, l', fun _ => hp', fun rest X hP hN => (h rest X hP hN).aw⟩
section
variable {L : List T} (hL : Toks L) (nm : List UInt8) (p : Int)
include hL
theorem moreStep (n : Nat) (ihE : ∀ (k : Int) (s : RS), s.i < L.length → RC L 77 [rP, dI k] (fun e => [exD e]) s (sExpr L n k s)) (ihM : ∀ (r : List Ex) (s : RS), s.i < L.length → r.length ≤ s.i → r ≠ [] → LiAt L nm p s r (sMore L n r s))
    (r : List Ex) (s : RS) (l : s.i < L.length) (hr : r.length ≤ s.i) (hne : r ≠ []) : LiAt L nm p s r (sMore L (n + 1) r s) := by
  have hlen : r.length < 1000000 := by have := hL.len; omega
  simp only [sMore, sMay]
  cases h : isT L s [44] with
  | false => exact ⟨l, hne, fun rest X hP hN => lw_stop (liStop l nm p r h rest X hP hN) (by simp)⟩
  | true =>
    have hw : sWant L [44] s = .ok (cur L s) s.nx := by simp only [sWant, h]; rfl
    have hn := isT_nx hL l h
    have c1 := mayT l [44] h (cur L s) s.nx (want0 l hL [44] h rfl rfl rfl rfl rfl rfl)
    simp only [cond_true, hw, Res.bind]
    have c := ihE 1 s.nx hn
    revert c
    have hi2 : ∀ a s2, sExpr L n 1 s.nx = .ok a s2 → s.nx.i < s2.i := fun a s2 he => exprGrows L n 1 s.nx a s2 he
    cases he : sExpr L n 1 s.nx with
    | out => exact fun _ => trivial
    | bad q t s2 => exact fun c => ⟨_, fun rest X hP hN => lw_stop (liBad2 l nm p r s.nx c1 q t s2 (cloPN nm p r q t s2 c) rest X hP hN) (by simp)⟩
    | ok e s2 =>
      intro c
      have h3 := hi2 e s2 he
      have c2 := ihM (r ++ [e]) s2 c.1 (by simp only [List.length_append, List.length_cons, List.length_nil, RS.nx] at *; omega) (by simp)
      have hgo := liGo l nm p r s.nx c1 e s2 (cloN nm p r hlen e s2 c.2)
      simp only
      revert c2
      cases sMore L n (r ++ [e]) s2 with
      | out => exact fun _ => trivial
      | bad q t s3 => exact fun ⟨v, c2⟩ => ⟨v, fun rest X hP hN => lw_step (hgo rest X hP hN) (c2 rest X hP hN)⟩
      | ok a s3 => exact fun c2 => ⟨c2.1, c2.2.1, fun rest X hP hN => lw_step (hgo rest X hP hN) (c2.2.2 rest X hP hN)⟩
end
/-! ### list, and call -/
section
variable {L : List T} (nm : List UInt8) (p : Int) {s s1 s2 s3 s4 : RS} {t1 t2 : T} {q t : Int}
theorem liP1 (c : ∀ rest : Heap, HPan Tryz.prog 34 [rP, .d (.str [40])] (ovl (rd L s) rest) (flt q t) (ovl (rd L s1) rest)) :
    ∀ rest : Heap, HPan Tryz.prog 36 [rP, clo] (ovl (rd L s ++ acc0 nm p) rest) (flt q t) (ovl (rd L s1 ++ accB 0) rest) :=
  hcleanP_of_run okP named { pans := tabP Tryz.prog [(36, 0, 1000, ⟨1, some (pOf c), []⟩)] } 2000 1000 _ 1000000 ⟨rfl, rfl, rfl, by kernel_rfl, by kernel_rfl, by kernel_rfl⟩ (by kernel_rfl) (fun _ => by kernel_rfl)
theorem liE0 (l1 : s1.i < L.length) (c1 : ∀ rest : Heap, HCall Tryz.prog 34 [rP, .d (.str [40])] (ovl (rd L s) rest) ([tD t1].map .d) (ovl (rd L s1) rest)) (h : isT L s1 [41] = true) (c2 : ∀ rest : Heap, HCall Tryz.prog 34 [rP, .d (.str [41])] (ovl (rd L s1) rest) ([tD t2].map .d) (ovl (rd L s2) rest)) :
    ∀ rest : Heap, HCall Tryz.prog 36 [rP, clo] (ovl (rd L s ++ acc0 nm p) rest) ([].map .d) (ovl (rd L s2 ++ acc0 nm p) rest) :=
  hclean_of_run okP named { calls := tabC Tryz.prog [(36, 5, 1017, cOf c1), (36, 7, 1034, cOf (isRT l1 [41] h)), (36, 16, 1068, cOf c2)] } 2000 1000 _ 1000000 ⟨rfl, rfl, rfl, by kernel_rfl, by kernel_rfl, by kernel_rfl⟩ (fun _ => by kernel_rfl)
theorem liE1 (l1 : s1.i < L.length) (c1 : ∀ rest : Heap, HCall Tryz.prog 34 [rP, .d (.str [40])] (ovl (rd L s) rest) ([tD t1].map .d) (ovl (rd L s1) rest)) (h : isT L s1 [41] = true) (c2 : ∀ rest : Heap, HPan Tryz.prog 34 [rP, .d (.str [41])] (ovl (rd L s1) rest) (flt q t) (ovl (rd L s2) rest)) :
    ∀ rest : Heap, HPan Tryz.prog 36 [rP, clo] (ovl (rd L s ++ acc0 nm p) rest) (flt q t) (ovl (rd L s2 ++ accB 0) rest) :=
  hcleanP_of_run okP named { calls := tabC Tryz.prog [(36, 5, 1017, cOf c1), (36, 7, 1034, cOf (isRT l1 [41] h))], pans := tabP Tryz.prog [(36, 5, 1051, ⟨1, some (pOf c2), []⟩)] } 2000 1000 _ 1000000 ⟨rfl, rfl, rfl, by kernel_rfl, by kernel_rfl, by kernel_rfl⟩ (by kernel_rfl) (fun _ => by kernel_rfl)
theorem liB1 (l1 : s1.i < L.length) (c1 : ∀ rest : Heap, HCall Tryz.prog 34 [rP, .d (.str [40])] (ovl (rd L s) rest) ([tD t1].map .d) (ovl (rd L s1) rest)) (h : isT L s1 [41] = false) (c2 : ∀ rest : Heap, HPan Tryz.prog 124 [pC 1082, pC 1003] (ovl (rd L s1 ++ acc0 nm p) rest) (flt q t) (ovl (rd L s2 ++ accB 0) rest)) :
    ∀ rest : Heap, HPan Tryz.prog 36 [rP, clo] (ovl (rd L s ++ acc0 nm p) rest) (flt q t) (ovl (rd L s2 ++ accB 0) rest) :=
  hcleanP_of_run okP named { calls := tabC Tryz.prog [(36, 5, 1017, cOf c1), (36, 7, 1034, cOf (isRT l1 [41] h))], pans := tabP Tryz.prog [(36, 2, 1051, ⟨1, some (pOf c2), []⟩)] } 2000 1000 _ 1000000 ⟨rfl, rfl, rfl, by kernel_rfl, by kernel_rfl, by kernel_rfl⟩ (by kernel_rfl) (fun _ => by kernel_rfl)
theorem liB2 (l1 : s1.i < L.length) (c1 : ∀ rest : Heap, HCall Tryz.prog 34 [rP, .d (.str [40])] (ovl (rd L s) rest) ([tD t1].map .d) (ovl (rd L s1) rest)) (h0 : isT L s1 [41] = false) (e : Ex) (c2 : ∀ rest : Heap, HCall Tryz.prog 124 [pC 1082, pC 1003] (ovl (rd L s1 ++ acc0 nm p) rest) ([].map .d) (ovl (rd L s2 ++ accN nm p [e]) rest)) (v : Nat) (h : ∀ (rest : Heap) (X : Fix), X.P = Tryz.prog → X.N = 17 → LW X (loopOf Tryz.prog 36 3) ⟨envOf liL, ovl (rd L s2 ++ accN nm p [e]) rest⟩ fun e' S' => e' = .panic (flt q t) ∧ S' = ⟨envOf [], ovl (rd L s3 ++ accB v) rest⟩) :
    ∀ rest : Heap, HPan Tryz.prog 36 [rP, clo] (ovl (rd L s ++ acc0 nm p) rest) (flt q t) (ovl (rd L s3 ++ accB v) rest) :=
  hcleanP_of_run okP named { loops := fun f q => if f = 36 then (if q = 3 then some (liLH h) else none) else none, calls := tabC Tryz.prog [(36, 5, 1017, cOf c1), (36, 7, 1034, cOf (isRT l1 [41] h0)), (36, 10, 1068, cOf c2)] } 2000 1000 _ 1000000 ⟨rfl, rfl, rfl, by kernel_rfl, by kernel_rfl, by kernel_rfl⟩ (by kernel_rfl) (fun _ => by kernel_rfl)
theorem liB3 (l1 : s1.i < L.length) (c1 : ∀ rest : Heap, HCall Tryz.prog 34 [rP, .d (.str [40])] (ovl (rd L s) rest) ([tD t1].map .d) (ovl (rd L s1) rest)) (h0 : isT L s1 [41] = false) (e : Ex) (c2 : ∀ rest : Heap, HCall Tryz.prog 124 [pC 1082, pC 1003] (ovl (rd L s1 ++ acc0 nm p) rest) ([].map .d) (ovl (rd L s2 ++ accN nm p [e]) rest)) (r : List Ex) (h : ∀ (rest : Heap) (X : Fix), X.P = Tryz.prog → X.N = 17 → LW X (loopOf Tryz.prog 36 3) ⟨envOf liL, ovl (rd L s2 ++ accN nm p [e]) rest⟩ fun e' S' => e' = .exit 0 ∧ S' = ⟨envOf [(0, rP)], ovl (rd L s3 ++ accN nm p r) rest⟩) (c3 : ∀ rest : Heap, HPan Tryz.prog 34 [rP, .d (.str [41])] (ovl (rd L s3) rest) (flt q t) (ovl (rd L s4) rest)) :
    ∀ rest : Heap, HPan Tryz.prog 36 [rP, clo] (ovl (rd L s ++ acc0 nm p) rest) (flt q t) (ovl (rd L s4 ++ accB (r.length + 1)) rest) :=
  hcleanP_of_run okP named { loops := fun f q => if f = 36 then (if q = 3 then some (liLH h) else none) else none, calls := tabC Tryz.prog [(36, 5, 1017, cOf c1), (36, 7, 1034, cOf (isRT l1 [41] h0)), (36, 10, 1068, cOf c2)], pans := tabP Tryz.prog [(36, 5, 1068, ⟨1, some (pOf c3), []⟩)] } 2000 1000 _ 1000000 ⟨rfl, rfl, rfl, by kernel_rfl, by kernel_rfl, by kernel_rfl⟩ (by kernel_rfl) (fun _ => by kernel_rfl)
theorem liOk (l1 : s1.i < L.length) (c1 : ∀ rest : Heap, HCall Tryz.prog 34 [rP, .d (.str [40])] (ovl (rd L s) rest) ([tD t1].map .d) (ovl (rd L s1) rest)) (h0 : isT L s1 [41] = false) (e : Ex) (c2 : ∀ rest : Heap, HCall Tryz.prog 124 [pC 1082, pC 1003] (ovl (rd L s1 ++ acc0 nm p) rest) ([].map .d) (ovl (rd L s2 ++ accN nm p [e]) rest)) (r : List Ex) (h : ∀ (rest : Heap) (X : Fix), X.P = Tryz.prog → X.N = 17 → LW X (loopOf Tryz.prog 36 3) ⟨envOf liL, ovl (rd L s2 ++ accN nm p [e]) rest⟩ fun e' S' => e' = .exit 0 ∧ S' = ⟨envOf [(0, rP)], ovl (rd L s3 ++ accN nm p r) rest⟩) (c3 : ∀ rest : Heap, HCall Tryz.prog 34 [rP, .d (.str [41])] (ovl (rd L s3) rest) ([tD t2].map .d) (ovl (rd L s4) rest)) :
    ∀ rest : Heap, HCall Tryz.prog 36 [rP, clo] (ovl (rd L s ++ acc0 nm p) rest) ([].map .d) (ovl (rd L s4 ++ accN nm p r) rest) :=
  hclean_of_run okP named { loops := fun f q => if f = 36 then (if q = 3 then some (liLH h) else none) else none, calls := tabC Tryz.prog [(36, 5, 1017, cOf c1), (36, 7, 1034, cOf (isRT l1 [41] h0)), (36, 10, 1068, cOf c2), (36, 16, 1085, cOf c3)] } 2000 1000 _ 1000000 ⟨rfl, rfl, rfl, by kernel_rfl, by simp [renE, renO, renL, renA, rnK, acc0, accN, caE, boxE, pC, rd, rP, rdC, u8, renL_data _ (elA_data _)], by simp [renE, renO, renL, renA, rnK, acc0, accN, accB, caE, boxE, pC, rd, rP, rdC, u8, renL_data _ (elA_data _)]⟩ (fun _ => by kernel_rfl)
theorem caOk0 (c : ∀ rest : Heap, HCall Tryz.prog 36 [rP, clo] (ovl (rd L s ++ acc0 nm p) rest) ([].map .d) (ovl (rd L s1 ++ acc0 nm p) rest)) :
    ∀ rest : Heap, HCall Tryz.prog 101 [rP, .d (.str nm), dI p] (ovl (rd L s) rest) ([exD (.mk 5 0 nm 0 p [])].map .d) (ovl (rd L s1) rest) :=
  hclean_of_run okP named { calls := tabC Tryz.prog [(101, 13, 1135, cOf c)] } 2000 1000 _ 1000000 ⟨rfl, rfl, rfl, by kernel_rfl, by kernel_rfl, by kernel_rfl⟩ (fun _ => by kernel_rfl)
theorem elA_view (h : Heap) : ∀ r : List Ex, viewL (view 3 h) (elA r) = some (exL r, [])
  | [] => rfl
  | x :: r => by
    have ih := elA_view h r
    simp only [elA] at ih
    simp only [elA, List.map_cons, viewL, ih, exL]
    rfl
def caZ (r : List Ex) : ZHint := ⟨1082, 5, 400000, r.length, elA r, exL r, by simp [elA], fun h => elA_view h r⟩
theorem caOkN (r : List Ex) (c : ∀ rest : Heap, HCall Tryz.prog 36 [rP, clo] (ovl (rd L s ++ acc0 nm p) rest) ([].map .d) (ovl (rd L s1 ++ accN nm p r) rest)) :
    ∀ rest : Heap, HCall Tryz.prog 101 [rP, .d (.str nm), dI p] (ovl (rd L s) rest) ([exD (.mk 5 0 nm 0 p r)].map .d) (ovl (rd L s1) rest) :=
  hclean_of_run okP named { frz := fun f q => if f = 101 then (if q = 3 then some (caZ r) else none) else none, calls := tabC Tryz.prog [(101, 13, 1135, cOf c)] } 2000 1000 _ 1000000 ⟨rfl, rfl, rfl, by kernel_rfl, by kernel_rfl, by kernel_rfl⟩ (fun _ => by kernel_rfl)
theorem caBad (v : Nat) (c : ∀ rest : Heap, HPan Tryz.prog 36 [rP, clo] (ovl (rd L s ++ acc0 nm p) rest) (flt q t) (ovl (rd L s1 ++ accB v) rest)) :
    ∀ rest : Heap, HPan Tryz.prog 101 [rP, .d (.str nm), dI p] (ovl (rd L s) rest) (flt q t) (ovl (rd L s1) rest) :=
  hcleanP_of_run okP named { pans := tabP Tryz.prog [(101, 2, 1105, ⟨2, some (pOf c), []⟩)] } 2000 1000 _ 1000000 ⟨rfl, rfl, rfl, by kernel_rfl, by kernel_rfl, by kernel_rfl⟩ (by kernel_rfl) (fun _ => by kernel_rfl)
end
end Go.Avm
/-
  Texts as programs: what the reader makes of expressions, whatever the tokens.
-/
set_option linter.unusedSectionVars false
namespace Go.Avm
open Go.Proofs

def ArC (L : List T) (nm : List UInt8) (p : Int) (s : RS) : Res (List Ex) → Prop
  | .ok r s' => s'.i < L.length ∧ ∀ rest : Heap, HCall Tryz.prog 36 [rP, clo] (ovl (rd L s ++ acc0 nm p) rest) ([].map .d) (ovl (rd L s' ++ accE nm p r) rest)
  | .bad q t s' => ∃ v, ∀ rest : Heap, HPan Tryz.prog 36 [rP, clo] (ovl (rd L s ++ acc0 nm p) rest) (flt q t) (ovl (rd L s' ++ accB v) rest)
  | .out => True
abbrev eR : Ex → List D := fun e => [exD e]
structure ExAll (L : List T) (n : Nat) : Prop where
  one : ∀ s : RS, s.i < L.length → RC L 99 [rP] eR s (sOne L n s)
  place : ∀ s : RS, s.i < L.length → RC L 102 [rP] eR s (sPlace L n s)
  call : ∀ (nm : List UInt8) (p : Int) (s : RS), s.i < L.length → RC L 101 [rP, .d (.str nm), dI p] eR s (sCall L n nm p s)
  expr : ∀ (k : Int) (s : RS), s.i < L.length → RC L 77 [rP, dI k] eR s (sExpr L n k s)
  tail : ∀ (k : Int) (e : Ex) (s : RS), s.i < L.length → TlAt L k s e (sTail L n k e s)
  args : ∀ (nm : List UInt8) (p : Int) (s : RS), s.i < L.length → ArC L nm p s (sArgs L n s)
  more : ∀ (nm : List UInt8) (p : Int) (r : List Ex) (s : RS), s.i < L.length → r.length ≤ s.i → r ≠ [] → LiAt L nm p s r (sMore L n r s)
theorem argsStep {L : List T} (hL : Toks L) {n : Nat} (h : ExAll L n) (nm : List UInt8) (p : Int) (s : RS) (l : s.i < L.length) : ArC L nm p s (sArgs L (n + 1) s) := by
  simp only [sArgs]
  have c1 := wantR l hL [40]
  have g1 := want_gr L [40] s
  revert c1 g1
  cases sWant L [40] s with
  | out => exact fun _ _ => trivial
  | bad q t s1 => exact fun c1 _ => ⟨0, liP1 nm p c1⟩
  | ok t1 s1 =>
    intro c1 g1
    have g1 := g1 t1 s1 rfl
    have l1 := c1.1
    simp only [Res.bind]
    cases h41 : isT L s1 [41] with
    | true =>
      have c2 := wantR l1 hL [41]
      simp only [cond_true]
      revert c2
      cases sWant L [41] s1 with
      | out => exact fun _ => trivial
      | bad q t s2 => exact fun c2 => ⟨0, liE1 nm p l1 c1.2 h41 c2⟩
      | ok t2 s2 => exact fun c2 => ⟨c2.1, liE0 nm p l1 c1.2 h41 c2.2⟩
    | false =>
      have c2 := h.expr 1 s1 l1
      have g2 := exprGrows L n 1 s1
      simp only [cond_false]
      revert c2 g2
      cases sExpr L n 1 s1 with
      | out => exact fun _ _ => trivial
      | bad q t s2 => exact fun c2 _ => ⟨0, liB1 nm p l1 c1.2 h41 (cloP0 nm p q t s2 c2)⟩
      | ok e s2 =>
        intro c2 g2
        have g2 := g2 e s2 rfl
        have k2 := clo0 nm p e s2 c2.2
        have c3 := h.more nm p [e] s2 c2.1 (by simp only [List.length_cons, List.length_nil]; omega) (by simp)
        simp only
        revert c3
        cases sMore L n [e] s2 with
        | out => exact fun _ => trivial
        | bad q t s3 => exact fun ⟨v, c3⟩ => ⟨v, liB2 nm p l1 c1.2 h41 e k2 v c3⟩
        | ok r s3 =>
          rintro ⟨l3, hne, c3⟩
          have c4 := wantR l3 hL [41]
          simp only
          revert c4
          cases sWant L [41] s3 with
          | out => exact fun _ => trivial
          | bad q t s4 => exact fun c4 => ⟨_, liB3 nm p l1 c1.2 h41 e k2 r c3 c4⟩
          | ok t4 s4 =>
            intro c4
            have hr : accE nm p r = accN nm p r := by
              cases r with
              | nil => exact absurd rfl hne
              | cons a b => rfl
            refine ⟨c4.1, ?_⟩
            rw [hr]
            exact liOk nm p l1 c1.2 h41 e k2 r c3 c4.2
theorem callStep {L : List T} {n : Nat} (h : ExAll L n) (nm : List UInt8) (p : Int) (s : RS) (l : s.i < L.length) : RC L 101 [rP, .d (.str nm), dI p] eR s (sCall L (n + 1) nm p s) := by
  simp only [sCall]
  have c := h.args nm p s l
  revert c
  cases sArgs L n s with
  | out => exact fun _ => trivial
  | bad q t s1 => exact fun ⟨v, c⟩ => caBad nm p v c
  | ok r s1 =>
    intro c
    refine ⟨c.1, ?_⟩
    cases r with
    | nil => exact caOk0 nm p c.2
    | cons a b => exact caOkN nm p (a :: b) c.2
theorem exAll {L : List T} (hL : Toks L) : ∀ n, ExAll L n
  | 0 => ⟨fun _ _ => trivial, fun _ _ => trivial, fun _ _ _ _ => trivial, fun _ _ _ => trivial, fun _ _ _ _ => trivial, fun _ _ _ _ => trivial, fun _ _ _ _ _ _ _ => trivial⟩
  | n + 1 => by
    have h := exAll hL n
    exact ⟨oneStep hL n h.one h.expr h.place h.call, placeStep hL n h.expr, callStep h, exprStep hL n h.one h.tail, tailStep hL n h.expr h.tail, argsStep hL h, fun nm p => moreStep hL nm p n h.expr (h.more nm p)⟩
end Go.Avm
/-
  Texts as programs: the reader's types, variables, and statements that begin with a name.
-/
set_option linter.unusedSectionVars false
namespace Go.Avm
open Go.Proofs

/-- What a call does that turns other objects beside the reader. -/
def RCp {α : Type} (L : List T) (f : Nat) (args : List AV) (pre : List (Nat × Ent)) (post : α → List (Nat × Ent)) (bd : List (Nat × Ent)) (g : α → List D) (s : RS) : Res α → Prop
  | .ok a s' => s'.i < L.length ∧ ∀ rest : Heap, HCall Tryz.prog f args (ovl (rd L s ++ pre) rest) ((g a).map .d) (ovl (rd L s' ++ post a) rest)
  | .bad p e s' => ∀ rest : Heap, HPan Tryz.prog f args (ovl (rd L s ++ pre) rest) (flt p e) (ovl (rd L s' ++ bd) rest)
  | .out => True
section
variable {L : List T} {F : Nat} {args : List AV} {s0 : RS} {α β : Type} {g : α → List D} {pre : List (Nat × Ent)} {post : α → List (Nat × Ent)} {bd : List (Nat × Ent)}
theorem RCp.bind {f' : Nat} {args' : List AV} {g' : β → List D} {s : RS} {r : Res β} {k : β → RS → Res α} (h : RC L f' args' g' s r)
    (hb : ∀ p e s', (∀ rest : Heap, HPan Tryz.prog f' args' (ovl (rd L s) rest) (flt p e) (ovl (rd L s') rest)) → ∀ rest : Heap, HPan Tryz.prog F args (ovl (rd L s0 ++ pre) rest) (flt p e) (ovl (rd L s' ++ bd) rest))
    (hk : ∀ a s', s'.i < L.length → (∀ rest : Heap, HCall Tryz.prog f' args' (ovl (rd L s) rest) ((g' a).map .d) (ovl (rd L s') rest)) → RCp L F args pre post bd g s0 (k a s')) : RCp L F args pre post bd g s0 (r.bind k) := by
  cases r with
  | ok a s' => exact hk a s' h.1 h.2
  | bad p e s' => exact hb p e s' h
  | out => trivial
theorem RCp.bindp {f' : Nat} {args' : List AV} {pre' : List (Nat × Ent)} {post' : β → List (Nat × Ent)} {bd' : List (Nat × Ent)} {g' : β → List D} {s : RS} {r : Res β} {k : β → RS → Res α} (h : RCp L f' args' pre' post' bd' g' s r)
    (hb : ∀ p e s', (∀ rest : Heap, HPan Tryz.prog f' args' (ovl (rd L s ++ pre') rest) (flt p e) (ovl (rd L s' ++ bd') rest)) → ∀ rest : Heap, HPan Tryz.prog F args (ovl (rd L s0 ++ pre) rest) (flt p e) (ovl (rd L s' ++ bd) rest))
    (hk : ∀ a s', s'.i < L.length → (∀ rest : Heap, HCall Tryz.prog f' args' (ovl (rd L s ++ pre') rest) ((g' a).map .d) (ovl (rd L s' ++ post' a) rest)) → RCp L F args pre post bd g s0 (k a s')) : RCp L F args pre post bd g s0 (r.bind k) := by
  cases r with
  | ok a s' => exact hk a s' h.1 h.2
  | bad p e s' => exact hb p e s' h
  | out => trivial
theorem RCp.may {s : RS} (hi : s.i < L.length) (hL : Toks L) (x : List UInt8) {X Y : RS → Res α}
    (hb : ∀ p e s', (∀ rest : Heap, HPan Tryz.prog 39 [rP, .d (.str x)] (ovl (rd L s) rest) (flt p e) (ovl (rd L s') rest)) → ∀ rest : Heap, HPan Tryz.prog F args (ovl (rd L s0 ++ pre) rest) (flt p e) (ovl (rd L s' ++ bd) rest))
    (hT : ∀ s', s'.i < L.length → (∀ rest : Heap, HCall Tryz.prog 39 [rP, .d (.str x)] (ovl (rd L s) rest) ([.bool true].map .d) (ovl (rd L s') rest)) → RCp L F args pre post bd g s0 (X s'))
    (hF : isT L s x = false → RCp L F args pre post bd g s0 (Y s)) : RCp L F args pre post bd g s0 ((sMay L x s).bind fun b s1 => bif b then X s1 else Y s1) := by
  have h := mayR hi hL x
  revert h
  unfold sMay
  cases hx : isT L s x with
  | false => exact fun _ => hF hx
  | true =>
    simp only [cond_true]
    cases sWant L x s with
    | ok t s' => exact fun h => hT s' h.1 h.2
    | bad p e s' => exact fun h => hb p e s' h
    | out => exact fun _ => trivial
theorem RCp.ite {c : Bool} {X Y : Res α} (hT : c = true → RCp L F args pre post bd g s0 X) (hF : c = false → RCp L F args pre post bd g s0 Y) : RCp L F args pre post bd g s0 (bif c then X else Y) := by
  cases h : c with
  | true => exact hT h
  | false => exact hF h
end
/-! ### kind -/
abbrev kE : List (Nat × Ent) := [(300000, ⟨1, none⟩)]
abbrev kV (l : List Int) : AV := .vec 300000 1 1 (l.map fun k => .int .u8 k)
abbrev kG : Int → List D := fun k => [.int .u8 k]
section
variable {L : List T} (hL : Toks L)
include hL
theorem kind3 (s : RS) (l : s.i < L.length) : RCp L 38 [rP, kV [1, 2, 3]] kE (fun _ => kE) kE kG s (sKind L [1, 2, 3] s) := by
  simp only [sKind]
  refine RCp.may l hL (tName 1) ?_ ?_ ?_
  · exact fun _ _ _ c => hcleanP_of_run okP named { pans := tabP Tryz.prog [(38, 4, 310168, ⟨3, some (pOf c), []⟩)] } 2000 310000 _ 1000000 ⟨rfl, rfl, rfl, by kernel_rfl, by kernel_rfl, by kernel_rfl⟩ (by kernel_rfl) (fun _ => by kernel_rfl)
  · intro s1 l1 c1
    exact ⟨l1, hclean_of_run okP named { calls := tabC Tryz.prog [(38, 16, 310210, cOf c1)] } 2000 310000 _ 1000000 ⟨rfl, rfl, rfl, by kernel_rfl, by kernel_rfl, by kernel_rfl⟩ (fun _ => by kernel_rfl)⟩
  · intro h1
    refine RCp.may l hL (tName 2) ?_ ?_ ?_
    · exact fun _ _ _ c => hcleanP_of_run okP named { calls := tabC Tryz.prog [(38, 16, 310210, cOf (mayF l (tName 1) h1))], pans := tabP Tryz.prog [(38, 4, 310336, ⟨3, some (pOf c), []⟩)] } 2000 310000 _ 1000000 ⟨rfl, rfl, rfl, by kernel_rfl, by kernel_rfl, by kernel_rfl⟩ (by kernel_rfl) (fun _ => by kernel_rfl)
    · intro s2 l2 c2
      exact ⟨l2, hclean_of_run okP named { calls := tabC Tryz.prog [(38, 16, 310210, cOf (mayF l (tName 1) h1)), (38, 16, 310378, cOf c2)] } 2000 310000 _ 1000000 ⟨rfl, rfl, rfl, by kernel_rfl, by kernel_rfl, by kernel_rfl⟩ (fun _ => by kernel_rfl)⟩
    · intro h2
      refine RCp.may l hL (tName 3) ?_ ?_ ?_
      · exact fun _ _ _ c => hcleanP_of_run okP named { calls := tabC Tryz.prog [(38, 16, 310210, cOf (mayF l (tName 1) h1)), (38, 16, 310378, cOf (mayF l (tName 2) h2))], pans := tabP Tryz.prog [(38, 4, 310504, ⟨3, some (pOf c), []⟩)] } 2000 310000 _ 1000000 ⟨rfl, rfl, rfl, by kernel_rfl, by kernel_rfl, by kernel_rfl⟩ (by kernel_rfl) (fun _ => by kernel_rfl)
      · intro s3 l3 c3
        exact ⟨l3, hclean_of_run okP named { calls := tabC Tryz.prog [(38, 16, 310210, cOf (mayF l (tName 1) h1)), (38, 16, 310378, cOf (mayF l (tName 2) h2)), (38, 16, 310546, cOf c3)] } 2000 310000 _ 1000000 ⟨rfl, rfl, rfl, by kernel_rfl, by kernel_rfl, by kernel_rfl⟩ (fun _ => by kernel_rfl)⟩
      · intro h3
        exact (hcleanP_of_run okP named { calls := tabC Tryz.prog [(38, 16, 310210, cOf (mayF l (tName 1) h1)), (38, 16, 310378, cOf (mayF l (tName 2) h2)), (38, 16, 310546, cOf (mayF l (tName 3) h3))], pans := tabP Tryz.prog [(38, 7, 310609, ⟨1, some (pOf (badR l)), []⟩)] } 2000 310000 _ 1000000 ⟨rfl, rfl, rfl, by kernel_rfl, by kernel_rfl, by kernel_rfl⟩ (by kernel_rfl) (fun _ => by kernel_rfl) : ∀ rest : Heap, HPan Tryz.prog 38 [rP, kV [1, 2, 3]] (ovl (rd L s ++ kE) rest) (flt (cur L s).p 4) (ovl (rd L s ++ kE) rest))
theorem kind2 (s : RS) (l : s.i < L.length) : RCp L 38 [rP, kV [1, 2]] kE (fun _ => kE) kE kG s (sKind L [1, 2] s) := by
  simp only [sKind]
  refine RCp.may l hL (tName 1) ?_ ?_ ?_
  · exact fun _ _ _ c => hcleanP_of_run okP named { pans := tabP Tryz.prog [(38, 4, 310168, ⟨3, some (pOf c), []⟩)] } 2000 310000 _ 1000000 ⟨rfl, rfl, rfl, by kernel_rfl, by kernel_rfl, by kernel_rfl⟩ (by kernel_rfl) (fun _ => by kernel_rfl)
  · intro s1 l1 c1
    exact ⟨l1, hclean_of_run okP named { calls := tabC Tryz.prog [(38, 16, 310210, cOf c1)] } 2000 310000 _ 1000000 ⟨rfl, rfl, rfl, by kernel_rfl, by kernel_rfl, by kernel_rfl⟩ (fun _ => by kernel_rfl)⟩
  · intro h1
    refine RCp.may l hL (tName 2) ?_ ?_ ?_
    · exact fun _ _ _ c => hcleanP_of_run okP named { calls := tabC Tryz.prog [(38, 16, 310210, cOf (mayF l (tName 1) h1))], pans := tabP Tryz.prog [(38, 4, 310336, ⟨3, some (pOf c), []⟩)] } 2000 310000 _ 1000000 ⟨rfl, rfl, rfl, by kernel_rfl, by kernel_rfl, by kernel_rfl⟩ (by kernel_rfl) (fun _ => by kernel_rfl)
    · intro s2 l2 c2
      exact ⟨l2, hclean_of_run okP named { calls := tabC Tryz.prog [(38, 16, 310210, cOf (mayF l (tName 1) h1)), (38, 16, 310378, cOf c2)] } 2000 310000 _ 1000000 ⟨rfl, rfl, rfl, by kernel_rfl, by kernel_rfl, by kernel_rfl⟩ (fun _ => by kernel_rfl)⟩
    · intro h2
      exact (hcleanP_of_run okP named { calls := tabC Tryz.prog [(38, 16, 310210, cOf (mayF l (tName 1) h1)), (38, 16, 310378, cOf (mayF l (tName 2) h2))], pans := tabP Tryz.prog [(38, 7, 310441, ⟨1, some (pOf (badR l)), []⟩)] } 2000 310000 _ 1000000 ⟨rfl, rfl, rfl, by kernel_rfl, by kernel_rfl, by kernel_rfl⟩ (by kernel_rfl) (fun _ => by kernel_rfl) : ∀ rest : Heap, HPan Tryz.prog 38 [rP, kV [1, 2]] (ovl (rd L s ++ kE) rest) (flt (cur L s).p 4) (ovl (rd L s ++ kE) rest))
end
/-! ### let, named -/
def stmC : St' → List AV
  | .mk k id nm ty n p es bd el => [u8 k, dI id, .d (.str nm), u8 ty, dI n, dI p, .d (.ro (exL es)), .d (.ro (stL bd)), .d (.ro (stL el))]
abbrev smE (a : St') : List (Nat × Ent) := [(2235, ⟨1, some (.arr 1 (stmC a))⟩)]
abbrev smZ (id p : Int) : List (Nat × Ent) := [(2235, ⟨1, some (.arr 1 [u8 0, dI id, .d (.str []), u8 0, dI 0, dI p, .nils, .nils, .nils])⟩)]
abbrev smX : List (Nat × Ent) := [(2235, ⟨1, none⟩)]
section
variable {L : List T} (hL : Toks L)
include hL
theorem letR (n : Nat) (id p : Int) (s : RS) (l : s.i < L.length) : RCp L 76 [rP, pC 2235] (smZ id p) smE smX (fun _ => []) s (sLet L n id p s) := by
  unfold sLet
  refine RCp.bind (takeR l hL 1 (by decide)) ?_ ?_
  · exact fun _ _ _ c => hcleanP_of_run okP named { pans := tabP Tryz.prog [(76, 0, 299385, ⟨3, some (pOf c), []⟩)] } 2000 299385 _ 1000000 ⟨rfl, rfl, rfl, by kernel_rfl, by kernel_rfl, by kernel_rfl⟩ (by kernel_rfl) (fun _ => by kernel_rfl)
  · intro t s1 l1 c1
    refine RCp.bind (wantR l1 hL [58]) ?_ ?_
    · exact fun _ _ _ c => hcleanP_of_run okP named { calls := tabC Tryz.prog [(76, 7, 299523, cOf c1)], pans := tabP Tryz.prog [(76, 1, 299845, ⟨1, some (pOf c), []⟩)] } 2000 299385 _ 1000000 ⟨rfl, rfl, rfl, by kernel_rfl, by kernel_rfl, by kernel_rfl⟩ (by kernel_rfl) (fun _ => by kernel_rfl)
    · intro _ s2 l2 c2
      refine RCp.bindp (kind3 hL _ l2) ?_ ?_
      · exact fun _ _ _ c => hcleanP_of_run okP named { calls := tabC Tryz.prog [(76, 7, 299523, cOf c1), (76, 14, 299891, cOf c2)], pans := tabP Tryz.prog [(76, 2, 299891, ⟨3, some (pOf c), []⟩)] } 2000 299385 _ 1000000 ⟨rfl, rfl, rfl, by kernel_rfl, by kernel_rfl, by kernel_rfl⟩ (by kernel_rfl) (fun _ => by kernel_rfl)
      · intro ty s3 l3 c3
        refine RCp.ite (fun h4 => ?_) (fun h4 => ?_)
        ·
          refine RCp.bind (wantR l3 hL [91]) ?_ ?_
          · exact fun _ _ _ c => hcleanP_of_run okP named { hint := tabH Tryz.prog [(76, 25, hB Tryz.prog (ty == 3) true h4)], calls := tabC Tryz.prog [(76, 7, 299523, cOf c1), (76, 14, 299891, cOf c2), (76, 18, 300029, cOf c3)], pans := tabP Tryz.prog [(76, 4, 300397, ⟨1, some (pOf c), []⟩)] } 2000 299385 _ 1000000 ⟨rfl, rfl, rfl, by kernel_rfl, by kernel_rfl, by kernel_rfl⟩ (by kernel_rfl) (fun _ => by kernel_rfl)
          · intro _ s5 l5 c5
            refine RCp.bind (takeR l5 hL 3 (by decide)) ?_ ?_
            · exact fun _ _ _ c => hcleanP_of_run okP named { hint := tabH Tryz.prog [(76, 25, hB Tryz.prog (ty == 3) true h4)], calls := tabC Tryz.prog [(76, 7, 299523, cOf c1), (76, 14, 299891, cOf c2), (76, 18, 300029, cOf c3), (76, 27, 300443, cOf c5)], pans := tabP Tryz.prog [(76, 5, 300443, ⟨2, some (pOf c), []⟩)] } 2000 299385 _ 1000000 ⟨rfl, rfl, rfl, by kernel_rfl, by kernel_rfl, by kernel_rfl⟩ (by kernel_rfl) (fun _ => by kernel_rfl)
            · intro m s6 l6 c6
              refine RCp.bind (wantR l6 hL [93]) ?_ ?_
              · exact fun _ _ _ c => hcleanP_of_run okP named { hint := tabH Tryz.prog [(76, 25, hB Tryz.prog (ty == 3) true h4)], calls := tabC Tryz.prog [(76, 7, 299523, cOf c1), (76, 14, 299891, cOf c2), (76, 18, 300029, cOf c3), (76, 27, 300443, cOf c5), (76, 30, 300535, cOf c6)], pans := tabP Tryz.prog [(76, 6, 300719, ⟨1, some (pOf c), []⟩)] } 2000 299385 _ 1000000 ⟨rfl, rfl, rfl, by kernel_rfl, by kernel_rfl, by kernel_rfl⟩ (by kernel_rfl) (fun _ => by kernel_rfl)
              · intro _ s7 l7 c7
                refine RCp.bind (wantR l7 hL [59]) ?_ ?_
                · exact fun _ _ _ c => hcleanP_of_run okP named { hint := tabH Tryz.prog [(76, 25, hB Tryz.prog (ty == 3) true h4)], calls := tabC Tryz.prog [(76, 7, 299523, cOf c1), (76, 14, 299891, cOf c2), (76, 18, 300029, cOf c3), (76, 27, 300443, cOf c5), (76, 30, 300535, cOf c6), (76, 35, 300765, cOf c7)], pans := tabP Tryz.prog [(76, 9, 300765, ⟨1, some (pOf c), []⟩)] } 2000 299385 _ 1000000 ⟨rfl, rfl, rfl, by kernel_rfl, by kernel_rfl, by kernel_rfl⟩ (by kernel_rfl) (fun _ => by kernel_rfl)
                · intro _ s8 l8 c8
                  exact ⟨l8, hcleanF_of_run okP named { hint := tabH Tryz.prog [(76, 25, hB Tryz.prog (ty == 3) true h4)], calls := tabC Tryz.prog [(76, 7, 299523, cOf c1), (76, 14, 299891, cOf c2), (76, 18, 300029, cOf c3), (76, 27, 300443, cOf c5), (76, 30, 300535, cOf c6), (76, 35, 300765, cOf c7), (76, 45, 300811, cOf c8)] } 2000 299385 _ 1000000 ([(2235, 6), (2235, 7), (2235, 8)]) ⟨rfl, rfl, rfl, by kernel_rfl, by kernel_rfl, by kernel_rfl⟩ (fun _ => by kernel_rfl)⟩
        ·
          refine RCp.may l3 hL [61] ?_ ?_ ?_
          · exact fun _ _ _ c => hcleanP_of_run okP named { hint := tabH Tryz.prog [(76, 25, hB Tryz.prog (ty == 3) false h4)], calls := tabC Tryz.prog [(76, 7, 299523, cOf c1), (76, 14, 299891, cOf c2), (76, 18, 300029, cOf c3)], pans := tabP Tryz.prog [(76, 7, 300397, ⟨1, some (pOf c), []⟩)] } 2000 299385 _ 1000000 ⟨rfl, rfl, rfl, by kernel_rfl, by kernel_rfl, by kernel_rfl⟩ (by kernel_rfl) (fun _ => by kernel_rfl)
          · intro s5 l5 c5
            refine RCp.bind ((exAll hL n).expr 1 _ l5) ?_ ?_
            · exact fun _ _ _ c => hcleanP_of_run okP named { hint := tabH Tryz.prog [(76, 25, hB Tryz.prog (ty == 3) false h4)], calls := tabC Tryz.prog [(76, 7, 299523, cOf c1), (76, 14, 299891, cOf c2), (76, 18, 300029, cOf c3), (76, 37, 300443, cOf c5)], pans := tabP Tryz.prog [(76, 8, 300443, ⟨2, some (pOf c), []⟩)] } 2000 299385 _ 1000000 ⟨rfl, rfl, rfl, by kernel_rfl, by kernel_rfl, by kernel_rfl⟩ (by kernel_rfl) (fun _ => by kernel_rfl)
            · intro x s6 l6 c6
              obtain ⟨kx, ox, nmx, nx, px, xsx⟩ := x
              refine RCp.bind (wantR l6 hL [59]) ?_ ?_
              · exact fun _ _ _ c => hcleanP_of_run okP named { hint := tabH Tryz.prog [(76, 25, hB Tryz.prog (ty == 3) false h4)], calls := tabC Tryz.prog [(76, 7, 299523, cOf c1), (76, 14, 299891, cOf c2), (76, 18, 300029, cOf c3), (76, 37, 300443, cOf c5), (76, 40, 300535, cOf c6)], pans := tabP Tryz.prog [(76, 9, 300719, ⟨1, some (pOf c), []⟩)] } 2000 299385 _ 1000000 ⟨rfl, rfl, rfl, by kernel_rfl, by kernel_rfl, by kernel_rfl⟩ (by kernel_rfl) (fun _ => by kernel_rfl)
              · intro _ s7 l7 c7
                exact ⟨l7, hcleanF_of_run okP named { hint := tabH Tryz.prog [(76, 25, hB Tryz.prog (ty == 3) false h4)], calls := tabC Tryz.prog [(76, 7, 299523, cOf c1), (76, 14, 299891, cOf c2), (76, 18, 300029, cOf c3), (76, 37, 300443, cOf c5), (76, 40, 300535, cOf c6), (76, 45, 300765, cOf c7)] } 2000 299385 _ 1000000 ([(2235, 6), (2235, 7), (2235, 8)]) ⟨rfl, rfl, rfl, by kernel_rfl, by kernel_rfl, by kernel_rfl⟩ (fun _ => by kernel_rfl)⟩
          · intro h5
            refine RCp.bind (wantR l3 hL [59]) ?_ ?_
            · exact fun _ _ _ c => hcleanP_of_run okP named { hint := tabH Tryz.prog [(76, 25, hB Tryz.prog (ty == 3) false h4)], calls := tabC Tryz.prog [(76, 7, 299523, cOf c1), (76, 14, 299891, cOf c2), (76, 18, 300029, cOf c3), (76, 37, 300443, cOf (mayF l3 [61] h5))], pans := tabP Tryz.prog [(76, 9, 300443, ⟨1, some (pOf c), []⟩)] } 2000 299385 _ 1000000 ⟨rfl, rfl, rfl, by kernel_rfl, by kernel_rfl, by kernel_rfl⟩ (by kernel_rfl) (fun _ => by kernel_rfl)
            · intro _ s6 l6 c6
              exact ⟨l6, hcleanF_of_run okP named { hint := tabH Tryz.prog [(76, 25, hB Tryz.prog (ty == 3) false h4)], calls := tabC Tryz.prog [(76, 7, 299523, cOf c1), (76, 14, 299891, cOf c2), (76, 18, 300029, cOf c3), (76, 37, 300443, cOf (mayF l3 [61] h5)), (76, 45, 300489, cOf c6)] } 2000 299385 _ 1000000 ([(2235, 6), (2235, 7), (2235, 8)]) ⟨rfl, rfl, rfl, by kernel_rfl, by kernel_rfl, by kernel_rfl⟩ (fun _ => by kernel_rfl)⟩
theorem namedR (n : Nat) (id p : Int) (s : RS) (l : s.i < L.length) : RCp L 78 [rP, pC 2235] (smZ id p) smE smX (fun _ => []) s (sNamed L n id p s) := by
  unfold sNamed
  refine RCp.bind (takeR l hL 1 (by decide)) ?_ ?_
  · exact fun _ _ _ c => hcleanP_of_run okP named { pans := tabP Tryz.prog [(78, 0, 10000, ⟨1, some (pOf c), []⟩)] } 2000 10000 _ 1000000 ⟨rfl, rfl, rfl, by kernel_rfl, by kernel_rfl, by kernel_rfl⟩ (by kernel_rfl) (fun _ => by kernel_rfl)
  · intro t s1 l1 c1
    refine RCp.ite (fun h2 => ?_) (fun h2 => ?_)
    ·
      refine RCp.bind ((exAll hL n).call t.t p _ l1) ?_ ?_
      · exact fun _ _ _ c => hcleanP_of_run okP named { calls := tabC Tryz.prog [(78, 7, 10064, cOf c1), (78, 26, 10256, cOf (isRT l1 [40] h2))], pans := tabP Tryz.prog [(78, 5, 10320, ⟨8, some (pOf c), []⟩)] } 2000 10000 _ 1000000 ⟨rfl, rfl, rfl, by kernel_rfl, by kernel_rfl, by kernel_rfl⟩ (by kernel_rfl) (fun _ => by kernel_rfl)
      · intro x s3 l3 c3
        obtain ⟨kx, ox, nmx, nx, px, xsx⟩ := x
        refine RCp.bind (wantR l3 hL [59]) ?_ ?_
        · exact fun _ _ _ c => hcleanP_of_run okP named { calls := tabC Tryz.prog [(78, 7, 10064, cOf c1), (78, 26, 10256, cOf (isRT l1 [40] h2)), (78, 35, 10832, cOf c3)], pans := tabP Tryz.prog [(78, 11, 11280, ⟨1, some (pOf c), []⟩)] } 2000 10000 _ 1000000 ⟨rfl, rfl, rfl, by kernel_rfl, by kernel_rfl, by kernel_rfl⟩ (by kernel_rfl) (fun _ => by kernel_rfl)
        · intro _ s4 l4 c4
          exact ⟨l4, hcleanF_of_run okP named { calls := tabC Tryz.prog [(78, 7, 10064, cOf c1), (78, 26, 10256, cOf (isRT l1 [40] h2)), (78, 35, 10832, cOf c3), (78, 63, 11344, cOf c4)] } 2000 10000 _ 1000000 ([(2235, 6), (2235, 7), (2235, 8)]) ⟨rfl, rfl, rfl, by kernel_rfl, by kernel_rfl, by kernel_rfl⟩ (fun _ => by kernel_rfl)⟩
    ·
      refine RCp.ite (fun h3 => ?_) (fun h3 => ?_)
      ·
        refine RCp.bind ((exAll hL n).place _ l1) ?_ ?_
        · exact fun _ _ _ c => hcleanP_of_run okP named { calls := tabC Tryz.prog [(78, 7, 10064, cOf c1), (78, 26, 10256, cOf (isRT l1 [40] h2)), (78, 43, 10384, cOf (isRT l1 [91] h3))], pans := tabP Tryz.prog [(78, 8, 11024, ⟨1, some (pOf c), []⟩)] } 2000 10000 _ 1000000 ⟨rfl, rfl, rfl, by kernel_rfl, by kernel_rfl, by kernel_rfl⟩ (by kernel_rfl) (fun _ => by kernel_rfl)
        · intro x s4 l4 c4
          obtain ⟨kx, ox, nmx, nx, px, xsx⟩ := x
          refine RCp.bind (wantR l4 hL [61]) ?_ ?_
          · exact fun _ _ _ c => hcleanP_of_run okP named { calls := tabC Tryz.prog [(78, 7, 10064, cOf c1), (78, 26, 10256, cOf (isRT l1 [40] h2)), (78, 43, 10384, cOf (isRT l1 [91] h3)), (78, 52, 11088, cOf c4)], pans := tabP Tryz.prog [(78, 9, 11216, ⟨1, some (pOf c), []⟩)] } 2000 10000 _ 1000000 ⟨rfl, rfl, rfl, by kernel_rfl, by kernel_rfl, by kernel_rfl⟩ (by kernel_rfl) (fun _ => by kernel_rfl)
          · intro _ s5 l5 c5
            refine RCp.bind ((exAll hL n).expr 1 _ l5) ?_ ?_
            · exact fun _ _ _ c => hcleanP_of_run okP named { calls := tabC Tryz.prog [(78, 7, 10064, cOf c1), (78, 26, 10256, cOf (isRT l1 [40] h2)), (78, 43, 10384, cOf (isRT l1 [91] h3)), (78, 52, 11088, cOf c4), (78, 54, 11280, cOf c5)], pans := tabP Tryz.prog [(78, 10, 11280, ⟨3, some (pOf c), []⟩)] } 2000 10000 _ 1000000 ⟨rfl, rfl, rfl, by kernel_rfl, by kernel_rfl, by kernel_rfl⟩ (by kernel_rfl) (fun _ => by kernel_rfl)
            · intro y s6 l6 c6
              obtain ⟨ky, oy, nmy, ny, py, xsy⟩ := y
              refine RCp.bind (wantR l6 hL [59]) ?_ ?_
              · exact fun _ _ _ c => hcleanP_of_run okP named { calls := tabC Tryz.prog [(78, 7, 10064, cOf c1), (78, 26, 10256, cOf (isRT l1 [40] h2)), (78, 43, 10384, cOf (isRT l1 [91] h3)), (78, 52, 11088, cOf c4), (78, 54, 11280, cOf c5), (78, 58, 11472, cOf c6)], pans := tabP Tryz.prog [(78, 11, 11728, ⟨1, some (pOf c), []⟩)] } 2000 10000 _ 1000000 ⟨rfl, rfl, rfl, by kernel_rfl, by kernel_rfl, by kernel_rfl⟩ (by kernel_rfl) (fun _ => by kernel_rfl)
              · intro _ s7 l7 c7
                exact ⟨l7, hcleanF_of_run okP named { calls := tabC Tryz.prog [(78, 7, 10064, cOf c1), (78, 26, 10256, cOf (isRT l1 [40] h2)), (78, 43, 10384, cOf (isRT l1 [91] h3)), (78, 52, 11088, cOf c4), (78, 54, 11280, cOf c5), (78, 58, 11472, cOf c6), (78, 63, 11792, cOf c7)] } 2000 10000 _ 1000000 ([(2235, 6), (2235, 7), (2235, 8)]) ⟨rfl, rfl, rfl, by kernel_rfl, by kernel_rfl, by kernel_rfl⟩ (fun _ => by kernel_rfl)⟩
      ·
        refine RCp.bind (wantR l1 hL [61]) ?_ ?_
        · exact fun _ _ _ c => hcleanP_of_run okP named { calls := tabC Tryz.prog [(78, 7, 10064, cOf c1), (78, 26, 10256, cOf (isRT l1 [40] h2)), (78, 43, 10384, cOf (isRT l1 [91] h3))], pans := tabP Tryz.prog [(78, 2, 11024, ⟨1, some (pOf c), []⟩)] } 2000 10000 _ 1000000 ⟨rfl, rfl, rfl, by kernel_rfl, by kernel_rfl, by kernel_rfl⟩ (by kernel_rfl) (fun _ => by kernel_rfl)
        · intro _ s4 l4 c4
          refine RCp.bind ((exAll hL n).expr 1 _ l4) ?_ ?_
          · exact fun _ _ _ c => hcleanP_of_run okP named { calls := tabC Tryz.prog [(78, 7, 10064, cOf c1), (78, 26, 10256, cOf (isRT l1 [40] h2)), (78, 43, 10384, cOf (isRT l1 [91] h3)), (78, 17, 11088, cOf c4)], pans := tabP Tryz.prog [(78, 3, 11088, ⟨2, some (pOf c), []⟩)] } 2000 10000 _ 1000000 ⟨rfl, rfl, rfl, by kernel_rfl, by kernel_rfl, by kernel_rfl⟩ (by kernel_rfl) (fun _ => by kernel_rfl)
          · intro x s5 l5 c5
            obtain ⟨kx, ox, nmx, nx, px, xsx⟩ := x
            refine RCp.bind (wantR l5 hL [59]) ?_ ?_
            · exact fun _ _ _ c => hcleanP_of_run okP named { calls := tabC Tryz.prog [(78, 7, 10064, cOf c1), (78, 26, 10256, cOf (isRT l1 [40] h2)), (78, 43, 10384, cOf (isRT l1 [91] h3)), (78, 17, 11088, cOf c4), (78, 20, 11216, cOf c5)], pans := tabP Tryz.prog [(78, 11, 11472, ⟨1, some (pOf c), []⟩)] } 2000 10000 _ 1000000 ⟨rfl, rfl, rfl, by kernel_rfl, by kernel_rfl, by kernel_rfl⟩ (by kernel_rfl) (fun _ => by kernel_rfl)
            · intro _ s6 l6 c6
              exact ⟨l6, hcleanF_of_run okP named { calls := tabC Tryz.prog [(78, 7, 10064, cOf c1), (78, 26, 10256, cOf (isRT l1 [40] h2)), (78, 43, 10384, cOf (isRT l1 [91] h3)), (78, 17, 11088, cOf c4), (78, 20, 11216, cOf c5), (78, 63, 11536, cOf c6)] } 2000 10000 _ 1000000 ([(2235, 6), (2235, 7), (2235, 8)]) ⟨rfl, rfl, rfl, by kernel_rfl, by kernel_rfl, by kernel_rfl⟩ (fun _ => by kernel_rfl)⟩
end
end Go.Avm
/-
  Texts as programs: the reader's statements.
-/
set_option linter.unusedSectionVars false
namespace Go.Avm
open Go.Proofs

abbrev sR : St' → List D := fun x => [stD x]
abbrev bR : List St' → List D := fun l => [.ro (stL l)]
theorem RC.bindp {L : List T} {F : Nat} {args : List AV} {s0 : RS} {α β : Type} {g : α → List D} {f' : Nat} {args' : List AV} {pre' : List (Nat × Ent)} {post' : β → List (Nat × Ent)} {bd' : List (Nat × Ent)} {g' : β → List D} {s : RS} {r : Res β} {k : β → RS → Res α} (h : RCp L f' args' pre' post' bd' g' s r)
    (hb : ∀ p e s', (∀ rest : Heap, HPan Tryz.prog f' args' (ovl (rd L s ++ pre') rest) (flt p e) (ovl (rd L s' ++ bd') rest)) → ∀ rest : Heap, HPan Tryz.prog F args (ovl (rd L s0) rest) (flt p e) (ovl (rd L s') rest))
    (hk : ∀ a s', s'.i < L.length → (∀ rest : Heap, HCall Tryz.prog f' args' (ovl (rd L s ++ pre') rest) ((g' a).map .d) (ovl (rd L s' ++ post' a) rest)) → RC L F args g s0 (k a s')) : RC L F args g s0 (r.bind k) := by
  cases r with
  | ok a s' => exact hk a s' h.1 h.2
  | bad p e s' => exact hb p e s' h
  | out => trivial
section
variable {L : List T} (hL : Toks L)
include hL
theorem stmtStep (n : Nat) (ihB : ∀ s : RS, s.i < L.length → RC L 40 [rP] bR s (sBlock L n s)) (s0 : RS) (l0 : s0.i < L.length) : RC L 62 [rP] sR s0 (sStmt L (n + 1) s0) := by
  have l : s0.st.i < L.length := l0
  simp only [sStmt]
  refine RC.may l hL [108, 101, 116] ?_ ?_ ?_
  · exact fun _ _ _ c => hcleanP_of_run okP named { calls := tabC Tryz.prog [(62, 16, 2078, cRo rfl (nowR l))], pans := tabP Tryz.prog [(62, 4, 2386, ⟨1, some (pOf c), []⟩)] } 2000 1000 _ 1000000 ⟨rfl, rfl, rfl, by kernel_rfl, by kernel_rfl, by kernel_rfl⟩ (by kernel_rfl) (fun _ => by kernel_rfl)
  · intro s1 l1 c1
    refine RC.bindp (letR hL n s0.st.n (cur L s0.st).p _ l1) ?_ ?_
    · exact fun _ _ _ c => hcleanP_of_run okP named { calls := tabC Tryz.prog [(62, 16, 2078, cRo rfl (nowR l)), (62, 23, 2463, cOf c1)], pans := tabP Tryz.prog [(62, 5, 2540, ⟨1, some (pOf c), []⟩)] } 2000 1000 _ 1000000 ⟨rfl, rfl, rfl, by kernel_rfl, by kernel_rfl, by kernel_rfl⟩ (by kernel_rfl) (fun _ => by kernel_rfl)
    · intro x s2 l2 c2
      obtain ⟨xk, xid, xnm, xty, xn, xp, xes, xbd, xel⟩ := x
      exact ⟨l2, hclean_of_run okP named { calls := tabC Tryz.prog [(62, 16, 2078, cRo rfl (nowR l)), (62, 23, 2463, cOf c1), (62, 25, 2617, cOf c2)] } 2000 1000 _ 1000000 ⟨rfl, rfl, rfl, by kernel_rfl, by kernel_rfl, by kernel_rfl⟩ (fun _ => by kernel_rfl)⟩
  · intro h1
    refine RC.may l hL [105, 102] ?_ ?_ ?_
    · exact fun _ _ _ c => hcleanP_of_run okP named { calls := tabC Tryz.prog [(62, 16, 2078, cRo rfl (nowR l)), (62, 23, 2463, cOf (mayF l [108, 101, 116] h1))], pans := tabP Tryz.prog [(62, 6, 2540, ⟨1, some (pOf c), []⟩)] } 2000 1000 _ 1000000 ⟨rfl, rfl, rfl, by kernel_rfl, by kernel_rfl, by kernel_rfl⟩ (by kernel_rfl) (fun _ => by kernel_rfl)
    · intro s2 l2 c2
      refine RC.bind ((exAll hL n).expr 1 _ l2) ?_ ?_
      · exact fun _ _ _ c => hcleanP_of_run okP named { calls := tabC Tryz.prog [(62, 16, 2078, cRo rfl (nowR l)), (62, 23, 2463, cOf (mayF l [108, 101, 116] h1)), (62, 28, 2617, cOf c2)], pans := tabP Tryz.prog [(62, 7, 2694, ⟨1, some (pOf c), []⟩)] } 2000 1000 _ 1000000 ⟨rfl, rfl, rfl, by kernel_rfl, by kernel_rfl, by kernel_rfl⟩ (by kernel_rfl) (fun _ => by kernel_rfl)
      · intro x s3 l3 c3
        obtain ⟨kx, ox, nmx, nx, px, xsx⟩ := x
        refine RC.bind (ihB _ l3) ?_ ?_
        · exact fun _ _ _ c => hcleanP_of_run okP named { calls := tabC Tryz.prog [(62, 16, 2078, cRo rfl (nowR l)), (62, 23, 2463, cOf (mayF l [108, 101, 116] h1)), (62, 28, 2617, cOf c2), (62, 30, 2771, cOf c3)], pans := tabP Tryz.prog [(62, 8, 3156, ⟨1, some (pOf c), []⟩)] } 2000 1000 _ 1000000 ⟨rfl, rfl, rfl, by kernel_rfl, by kernel_rfl, by kernel_rfl⟩ (by kernel_rfl) (fun _ => by kernel_rfl)
        · intro b1 s4 l4 c4
          refine RC.may l4 hL [101, 108, 115, 101] ?_ ?_ ?_
          · exact fun _ _ _ c => hcleanP_of_run okP named { calls := tabC Tryz.prog [(62, 16, 2078, cRo rfl (nowR l)), (62, 23, 2463, cOf (mayF l [108, 101, 116] h1)), (62, 28, 2617, cOf c2), (62, 30, 2771, cOf c3), (62, 35, 3233, cOf c4)], pans := tabP Tryz.prog [(62, 9, 3387, ⟨1, some (pOf c), []⟩)] } 2000 1000 _ 1000000 ⟨rfl, rfl, rfl, by kernel_rfl, by kernel_rfl, by kernel_rfl⟩ (by kernel_rfl) (fun _ => by kernel_rfl)
          · intro s5 l5 c5
            refine RC.bind (ihB _ l5) ?_ ?_
            · exact fun _ _ _ c => hcleanP_of_run okP named { calls := tabC Tryz.prog [(62, 16, 2078, cRo rfl (nowR l)), (62, 23, 2463, cOf (mayF l [108, 101, 116] h1)), (62, 28, 2617, cOf c2), (62, 30, 2771, cOf c3), (62, 35, 3233, cOf c4), (62, 38, 3464, cOf c5)], pans := tabP Tryz.prog [(62, 10, 3464, ⟨1, some (pOf c), []⟩)] } 2000 1000 _ 1000000 ⟨rfl, rfl, rfl, by kernel_rfl, by kernel_rfl, by kernel_rfl⟩ (by kernel_rfl) (fun _ => by kernel_rfl)
            · intro b2 s6 l6 c6
              exact ⟨l6, hclean_of_run okP named { calls := tabC Tryz.prog [(62, 16, 2078, cRo rfl (nowR l)), (62, 23, 2463, cOf (mayF l [108, 101, 116] h1)), (62, 28, 2617, cOf c2), (62, 30, 2771, cOf c3), (62, 35, 3233, cOf c4), (62, 38, 3464, cOf c5), (62, 40, 3541, cOf c6)] } 2000 1000 _ 1000000 ⟨rfl, rfl, rfl, by kernel_rfl, by kernel_rfl, by kernel_rfl⟩ (fun _ => by kernel_rfl)⟩
          · intro h5
            exact ⟨l4, hclean_of_run okP named { calls := tabC Tryz.prog [(62, 16, 2078, cRo rfl (nowR l)), (62, 23, 2463, cOf (mayF l [108, 101, 116] h1)), (62, 28, 2617, cOf c2), (62, 30, 2771, cOf c3), (62, 35, 3233, cOf c4), (62, 38, 3464, cOf (mayF l4 [101, 108, 115, 101] h5))] } 2000 1000 _ 1000000 ⟨rfl, rfl, rfl, by kernel_rfl, by kernel_rfl, by kernel_rfl⟩ (fun _ => by kernel_rfl)⟩
    · intro h2
      refine RC.may l hL [119, 104, 105, 108, 101] ?_ ?_ ?_
      · exact fun _ _ _ c => hcleanP_of_run okP named { calls := tabC Tryz.prog [(62, 16, 2078, cRo rfl (nowR l)), (62, 23, 2463, cOf (mayF l [108, 101, 116] h1)), (62, 28, 2617, cOf (mayF l [105, 102] h2))], pans := tabP Tryz.prog [(62, 11, 2694, ⟨1, some (pOf c), []⟩)] } 2000 1000 _ 1000000 ⟨rfl, rfl, rfl, by kernel_rfl, by kernel_rfl, by kernel_rfl⟩ (by kernel_rfl) (fun _ => by kernel_rfl)
      · intro s3 l3 c3
        refine RC.bind ((exAll hL n).expr 1 _ l3) ?_ ?_
        · exact fun _ _ _ c => hcleanP_of_run okP named { calls := tabC Tryz.prog [(62, 16, 2078, cRo rfl (nowR l)), (62, 23, 2463, cOf (mayF l [108, 101, 116] h1)), (62, 28, 2617, cOf (mayF l [105, 102] h2)), (62, 44, 2771, cOf c3)], pans := tabP Tryz.prog [(62, 12, 2848, ⟨1, some (pOf c), []⟩)] } 2000 1000 _ 1000000 ⟨rfl, rfl, rfl, by kernel_rfl, by kernel_rfl, by kernel_rfl⟩ (by kernel_rfl) (fun _ => by kernel_rfl)
        · intro x s4 l4 c4
          obtain ⟨kx, ox, nmx, nx, px, xsx⟩ := x
          refine RC.bind (ihB _ l4) ?_ ?_
          · exact fun _ _ _ c => hcleanP_of_run okP named { calls := tabC Tryz.prog [(62, 16, 2078, cRo rfl (nowR l)), (62, 23, 2463, cOf (mayF l [108, 101, 116] h1)), (62, 28, 2617, cOf (mayF l [105, 102] h2)), (62, 44, 2771, cOf c3), (62, 46, 2925, cOf c4)], pans := tabP Tryz.prog [(62, 13, 3310, ⟨1, some (pOf c), []⟩)] } 2000 1000 _ 1000000 ⟨rfl, rfl, rfl, by kernel_rfl, by kernel_rfl, by kernel_rfl⟩ (by kernel_rfl) (fun _ => by kernel_rfl)
          · intro b1 s5 l5 c5
            exact ⟨l5, hclean_of_run okP named { calls := tabC Tryz.prog [(62, 16, 2078, cRo rfl (nowR l)), (62, 23, 2463, cOf (mayF l [108, 101, 116] h1)), (62, 28, 2617, cOf (mayF l [105, 102] h2)), (62, 44, 2771, cOf c3), (62, 46, 2925, cOf c4), (62, 51, 3387, cOf c5)] } 2000 1000 _ 1000000 ⟨rfl, rfl, rfl, by kernel_rfl, by kernel_rfl, by kernel_rfl⟩ (fun _ => by kernel_rfl)⟩
      · intro h3
        refine RC.may l hL [114, 101, 116, 117, 114, 110] ?_ ?_ ?_
        · exact fun _ _ _ c => hcleanP_of_run okP named { calls := tabC Tryz.prog [(62, 16, 2078, cRo rfl (nowR l)), (62, 23, 2463, cOf (mayF l [108, 101, 116] h1)), (62, 28, 2617, cOf (mayF l [105, 102] h2)), (62, 44, 2771, cOf (mayF l [119, 104, 105, 108, 101] h3))], pans := tabP Tryz.prog [(62, 14, 2848, ⟨1, some (pOf c), []⟩)] } 2000 1000 _ 1000000 ⟨rfl, rfl, rfl, by kernel_rfl, by kernel_rfl, by kernel_rfl⟩ (by kernel_rfl) (fun _ => by kernel_rfl)
        · intro s4 l4 c4
          refine RC.ite (fun h5 => ?_) (fun h5 => ?_)
          ·
            refine RC.bind (wantR l4 hL [59]) ?_ ?_
            · exact fun _ _ _ c => hcleanP_of_run okP named { calls := tabC Tryz.prog [(62, 16, 2078, cRo rfl (nowR l)), (62, 23, 2463, cOf (mayF l [108, 101, 116] h1)), (62, 28, 2617, cOf (mayF l [105, 102] h2)), (62, 44, 2771, cOf (mayF l [119, 104, 105, 108, 101] h3)), (62, 55, 2925, cOf c4), (62, 58, 3233, cOf (isRT l4 [59] h5))], pans := tabP Tryz.prog [(62, 18, 3310, ⟨1, some (pOf c), []⟩)] } 2000 1000 _ 1000000 ⟨rfl, rfl, rfl, by kernel_rfl, by kernel_rfl, by kernel_rfl⟩ (by kernel_rfl) (fun _ => by kernel_rfl)
            · intro _ s6 l6 c6
              exact ⟨l6, hclean_of_run okP named { calls := tabC Tryz.prog [(62, 16, 2078, cRo rfl (nowR l)), (62, 23, 2463, cOf (mayF l [108, 101, 116] h1)), (62, 28, 2617, cOf (mayF l [105, 102] h2)), (62, 44, 2771, cOf (mayF l [119, 104, 105, 108, 101] h3)), (62, 55, 2925, cOf c4), (62, 58, 3233, cOf (isRT l4 [59] h5)), (62, 65, 3387, cOf c6)] } 2000 1000 _ 1000000 ⟨rfl, rfl, rfl, by kernel_rfl, by kernel_rfl, by kernel_rfl⟩ (fun _ => by kernel_rfl)⟩
          ·
            refine RC.bind ((exAll hL n).expr 1 _ l4) ?_ ?_
            · exact fun _ _ _ c => hcleanP_of_run okP named { calls := tabC Tryz.prog [(62, 16, 2078, cRo rfl (nowR l)), (62, 23, 2463, cOf (mayF l [108, 101, 116] h1)), (62, 28, 2617, cOf (mayF l [105, 102] h2)), (62, 44, 2771, cOf (mayF l [119, 104, 105, 108, 101] h3)), (62, 55, 2925, cOf c4), (62, 58, 3233, cOf (isRT l4 [59] h5))], pans := tabP Tryz.prog [(62, 17, 3310, ⟨1, some (pOf c), []⟩)] } 2000 1000 _ 1000000 ⟨rfl, rfl, rfl, by kernel_rfl, by kernel_rfl, by kernel_rfl⟩ (by kernel_rfl) (fun _ => by kernel_rfl)
            · intro x s6 l6 c6
              obtain ⟨kx, ox, nmx, nx, px, xsx⟩ := x
              refine RC.bind (wantR l6 hL [59]) ?_ ?_
              · exact fun _ _ _ c => hcleanP_of_run okP named { calls := tabC Tryz.prog [(62, 16, 2078, cRo rfl (nowR l)), (62, 23, 2463, cOf (mayF l [108, 101, 116] h1)), (62, 28, 2617, cOf (mayF l [105, 102] h2)), (62, 44, 2771, cOf (mayF l [119, 104, 105, 108, 101] h3)), (62, 55, 2925, cOf c4), (62, 58, 3233, cOf (isRT l4 [59] h5)), (62, 61, 3387, cOf c6)], pans := tabP Tryz.prog [(62, 18, 3618, ⟨1, some (pOf c), []⟩)] } 2000 1000 _ 1000000 ⟨rfl, rfl, rfl, by kernel_rfl, by kernel_rfl, by kernel_rfl⟩ (by kernel_rfl) (fun _ => by kernel_rfl)
              · intro _ s7 l7 c7
                exact ⟨l7, hclean_of_run okP named { calls := tabC Tryz.prog [(62, 16, 2078, cRo rfl (nowR l)), (62, 23, 2463, cOf (mayF l [108, 101, 116] h1)), (62, 28, 2617, cOf (mayF l [105, 102] h2)), (62, 44, 2771, cOf (mayF l [119, 104, 105, 108, 101] h3)), (62, 55, 2925, cOf c4), (62, 58, 3233, cOf (isRT l4 [59] h5)), (62, 61, 3387, cOf c6), (62, 65, 3695, cOf c7)] } 2000 1000 _ 1000000 ⟨rfl, rfl, rfl, by kernel_rfl, by kernel_rfl, by kernel_rfl⟩ (fun _ => by kernel_rfl)⟩
        · intro h4
          refine RC.may l hL [112, 114, 105, 110, 116] ?_ ?_ ?_
          · exact fun _ _ _ c => hcleanP_of_run okP named { calls := tabC Tryz.prog [(62, 16, 2078, cRo rfl (nowR l)), (62, 23, 2463, cOf (mayF l [108, 101, 116] h1)), (62, 28, 2617, cOf (mayF l [105, 102] h2)), (62, 44, 2771, cOf (mayF l [119, 104, 105, 108, 101] h3)), (62, 55, 2925, cOf (mayF l [114, 101, 116, 117, 114, 110] h4))], pans := tabP Tryz.prog [(62, 19, 3002, ⟨1, some (pOf c), []⟩)] } 2000 1000 _ 1000000 ⟨rfl, rfl, rfl, by kernel_rfl, by kernel_rfl, by kernel_rfl⟩ (by kernel_rfl) (fun _ => by kernel_rfl)
          · intro s5 l5 c5
            refine RC.bind ((exAll hL n).expr 1 _ l5) ?_ ?_
            · exact fun _ _ _ c => hcleanP_of_run okP named { calls := tabC Tryz.prog [(62, 16, 2078, cRo rfl (nowR l)), (62, 23, 2463, cOf (mayF l [108, 101, 116] h1)), (62, 28, 2617, cOf (mayF l [105, 102] h2)), (62, 44, 2771, cOf (mayF l [119, 104, 105, 108, 101] h3)), (62, 55, 2925, cOf (mayF l [114, 101, 116, 117, 114, 110] h4)), (62, 68, 3079, cOf c5)], pans := tabP Tryz.prog [(62, 20, 3156, ⟨1, some (pOf c), []⟩)] } 2000 1000 _ 1000000 ⟨rfl, rfl, rfl, by kernel_rfl, by kernel_rfl, by kernel_rfl⟩ (by kernel_rfl) (fun _ => by kernel_rfl)
            · intro x s6 l6 c6
              obtain ⟨kx, ox, nmx, nx, px, xsx⟩ := x
              refine RC.bind (wantR l6 hL [59]) ?_ ?_
              · exact fun _ _ _ c => hcleanP_of_run okP named { calls := tabC Tryz.prog [(62, 16, 2078, cRo rfl (nowR l)), (62, 23, 2463, cOf (mayF l [108, 101, 116] h1)), (62, 28, 2617, cOf (mayF l [105, 102] h2)), (62, 44, 2771, cOf (mayF l [119, 104, 105, 108, 101] h3)), (62, 55, 2925, cOf (mayF l [114, 101, 116, 117, 114, 110] h4)), (62, 68, 3079, cOf c5), (62, 70, 3233, cOf c6)], pans := tabP Tryz.prog [(62, 21, 3618, ⟨1, some (pOf c), []⟩)] } 2000 1000 _ 1000000 ⟨rfl, rfl, rfl, by kernel_rfl, by kernel_rfl, by kernel_rfl⟩ (by kernel_rfl) (fun _ => by kernel_rfl)
              · intro _ s7 l7 c7
                exact ⟨l7, hclean_of_run okP named { calls := tabC Tryz.prog [(62, 16, 2078, cRo rfl (nowR l)), (62, 23, 2463, cOf (mayF l [108, 101, 116] h1)), (62, 28, 2617, cOf (mayF l [105, 102] h2)), (62, 44, 2771, cOf (mayF l [119, 104, 105, 108, 101] h3)), (62, 55, 2925, cOf (mayF l [114, 101, 116, 117, 114, 110] h4)), (62, 68, 3079, cOf c5), (62, 70, 3233, cOf c6), (62, 75, 3695, cOf c7)] } 2000 1000 _ 1000000 ⟨rfl, rfl, rfl, by kernel_rfl, by kernel_rfl, by kernel_rfl⟩ (fun _ => by kernel_rfl)⟩
          · intro h5
            refine RC.bindp (namedR hL n s0.st.n (cur L s0.st).p _ l) ?_ ?_
            · exact fun _ _ _ c => hcleanP_of_run okP named { calls := tabC Tryz.prog [(62, 16, 2078, cRo rfl (nowR l)), (62, 23, 2463, cOf (mayF l [108, 101, 116] h1)), (62, 28, 2617, cOf (mayF l [105, 102] h2)), (62, 44, 2771, cOf (mayF l [119, 104, 105, 108, 101] h3)), (62, 55, 2925, cOf (mayF l [114, 101, 116, 117, 114, 110] h4)), (62, 68, 3079, cOf (mayF l [112, 114, 105, 110, 116] h5))], pans := tabP Tryz.prog [(62, 3, 3156, ⟨1, some (pOf c), []⟩)] } 2000 1000 _ 1000000 ⟨rfl, rfl, rfl, by kernel_rfl, by kernel_rfl, by kernel_rfl⟩ (by kernel_rfl) (fun _ => by kernel_rfl)
            · intro x s6 l6 c6
              obtain ⟨xk, xid, xnm, xty, xn, xp, xes, xbd, xel⟩ := x
              exact ⟨l6, hclean_of_run okP named { calls := tabC Tryz.prog [(62, 16, 2078, cRo rfl (nowR l)), (62, 23, 2463, cOf (mayF l [108, 101, 116] h1)), (62, 28, 2617, cOf (mayF l [105, 102] h2)), (62, 44, 2771, cOf (mayF l [119, 104, 105, 108, 101] h3)), (62, 55, 2925, cOf (mayF l [114, 101, 116, 117, 114, 110] h4)), (62, 68, 3079, cOf (mayF l [112, 114, 105, 110, 116] h5)), (62, 20, 3233, cOf c6)] } 2000 1000 _ 1000000 ⟨rfl, rfl, rfl, by kernel_rfl, by kernel_rfl, by kernel_rfl⟩ (fun _ => by kernel_rfl)⟩
end
/-! ### Blocks -/
def blL (l : List St') : List (Nat × AV) := [(0, rP), (3, .vec 200000 l.length 9 (stL l))]
abbrev blE (v : Nat) : List (Nat × Ent) := [(200000, ⟨v, none⟩)]
def BlAt (L : List T) (s : RS) (r : List St') : Res (List St') → Prop
  | .ok r2 s' => s'.i < L.length ∧ ∀ (rest : Heap) (X : Fix), X.P = Tryz.prog → X.N = 17 → LW X (loopOf Tryz.prog 40 3) ⟨envOf (blL r), ovl (rd L s ++ blE r.length) rest⟩ fun e' S' => e' = .exit 0 ∧ S' = ⟨envOf (blL r2), ovl (rd L s' ++ blE r2.length) rest⟩
  | .bad q t s' => ∃ v, ∀ (rest : Heap) (X : Fix), X.P = Tryz.prog → X.N = 17 → LW X (loopOf Tryz.prog 40 3) ⟨envOf (blL r), ovl (rd L s ++ blE r.length) rest⟩ fun e' S' => e' = .panic (flt q t) ∧ S' = ⟨envOf [], ovl (rd L s' ++ blE v) rest⟩
  | .out => True
noncomputable def blLH {L : List T} {s : RS} {r : List St'} {hp' : List (Nat × Ent)} {x : AExit} {l' : List (Nat × AV)} (h : ∀ (rest : Heap) (X : Fix), X.P = Tryz.prog → X.N = 17 → LW X (loopOf Tryz.prog 40 3) ⟨envOf (blL r), ovl (rd L s ++ blE r.length) rest⟩ fun e' S' => e' = x ∧ S' = ⟨envOf l', ovl hp' rest⟩) : LHint Tryz.prog :=
  ⟨17, loopOf Tryz.prog 40 3, blL r, fun _ => rd L s ++ blE r.length, x, l', fun _ => hp', fun rest X hP hN => (h rest X hP hN).aw⟩
section
variable {L : List T} {s : RS} (l : s.i < L.length) (r : List St')
include l
theorem blStop (h : isT L s [125] = true) : ∀ (rest : Heap) (X : Fix), X.P = Tryz.prog → X.N = 17 → AW X (loopOf Tryz.prog 40 3) ⟨envOf (blL r), ovl (rd L s ++ blE r.length) rest⟩ fun e' S' => e' = .exit 0 ∧ S' = ⟨envOf (blL r), ovl (rd L s ++ blE r.length) rest⟩ :=
  segC okP named { calls := tabC Tryz.prog [(40, 7, 3017, cOf (isRT l [125] h))] } 2000 40 3000 17 1000000 ([]) ⟨rfl, rfl, rfl, by kernel_rfl, by kernel_rfl, by kernel_rfl⟩ (by kernel_rfl) (by kernel_rfl) (fun _ => by kernel_rfl)
theorem blBad (h : isT L s [125] = false) {q t : Int} {s2 : RS} (c : ∀ rest : Heap, HPan Tryz.prog 62 [rP] (ovl (rd L s) rest) (flt q t) (ovl (rd L s2) rest)) : ∀ (rest : Heap) (X : Fix), X.P = Tryz.prog → X.N = 17 → AW X (loopOf Tryz.prog 40 3) ⟨envOf (blL r), ovl (rd L s ++ blE r.length) rest⟩ fun e' S' => e' = .panic (flt q t) ∧ S' = ⟨envOf [], ovl (rd L s2 ++ blE r.length) rest⟩ :=
  segC okP named { calls := tabC Tryz.prog [(40, 7, 3017, cOf (isRT l [125] h))], pans := tabP Tryz.prog [(40, 4, 3034, ⟨2, some (pOf c), []⟩)] } 2000 40 3000 17 1000000 ([]) ⟨rfl, rfl, rfl, by kernel_rfl, by kernel_rfl, by kernel_rfl⟩ (by kernel_rfl) (by kernel_rfl) (fun _ => by kernel_rfl)
theorem blGo0 (h : isT L s [125] = false) (hr : r.length < 1000000) (k id : Int) (nm : List UInt8) (ty n p : Int) (es : List Ex) (bd el : List St') {s2 : RS} (c : ∀ rest : Heap, HCall Tryz.prog 62 [rP] (ovl (rd L s) rest) ([stD (.mk k id nm ty n p es bd el)].map .d) (ovl (rd L s2) rest)) : ∀ (rest : Heap) (X : Fix), X.P = Tryz.prog → X.N = 17 → AW X (loopOf Tryz.prog 40 3) ⟨envOf (blL r), ovl (rd L s ++ blE r.length) rest⟩ fun e' S' => e' = .normal ∧ S' = ⟨envOf [(0, rP), (3, .vec 200000 (r.length + 1) 9 (stL r ++ [stD (.mk k id nm ty n p es bd el)]))], ovl (rd L s2 ++ blE (r.length + 1)) rest⟩ :=
  segC okP named { hint := tabH Tryz.prog [(40, 13, .app (stL r) 1 (by rw [stL_len]; omega))], calls := tabC Tryz.prog [(40, 7, 3017, cOf (isRT l [125] h)), (40, 11, 3068, cOf c)] } 2000 40 3000 17 1000000 ([]) ⟨rfl, rfl, rfl, by kernel_rfl, by kernel_rfl, by kernel_rfl⟩ (by kernel_rfl) (by kernel_rfl) (fun _ => by kernel_rfl)
theorem blGo (h : isT L s [125] = false) (hr : r.length < 1000000) (x : St') {s2 : RS} (c : ∀ rest : Heap, HCall Tryz.prog 62 [rP] (ovl (rd L s) rest) ([stD x].map .d) (ovl (rd L s2) rest)) : ∀ (rest : Heap) (X : Fix), X.P = Tryz.prog → X.N = 17 → AW X (loopOf Tryz.prog 40 3) ⟨envOf (blL r), ovl (rd L s ++ blE r.length) rest⟩ fun e' S' => e' = .normal ∧ S' = ⟨envOf (blL (r ++ [x])), ovl (rd L s2 ++ blE (r ++ [x]).length) rest⟩ := by
  obtain ⟨k, id, nm, ty, n, p, es, bd, el⟩ := x
  have e1 : (r ++ [St'.mk k id nm ty n p es bd el]).length = r.length + 1 := by simp
  have e2 : stL (r ++ [St'.mk k id nm ty n p es bd el]) = stL r ++ [stD (.mk k id nm ty n p es bd el)] := by rw [stL_app]; rfl
  simp only [blL, e1, e2]
  exact blGo0 l r h hr k id nm ty n p es bd el c
end
section
variable {L : List T} {s s1 s2 s3 : RS} {t1 t2 : T} {q t : Int} (c1 : ∀ rest : Heap, HCall Tryz.prog 34 [rP, .d (.str [123])] (ovl (rd L s) rest) ([tD t1].map .d) (ovl (rd L s1) rest))
theorem bkP1 (c : ∀ rest : Heap, HPan Tryz.prog 34 [rP, .d (.str [123])] (ovl (rd L s) rest) (flt q t) (ovl (rd L s1) rest)) : ∀ rest : Heap, HPan Tryz.prog 40 [rP] (ovl (rd L s) rest) (flt q t) (ovl (rd L s1) rest) :=
  hcleanP_of_run okP named { pans := tabP Tryz.prog [(40, 2, 1034, ⟨1, some (pOf c), []⟩)] } 2000 1000 _ 1000000 ⟨rfl, rfl, rfl, by kernel_rfl, by kernel_rfl, by kernel_rfl⟩ (by kernel_rfl) (fun _ => by kernel_rfl)
include c1
theorem bkP2 (v : Nat) (h : ∀ (rest : Heap) (X : Fix), X.P = Tryz.prog → X.N = 17 → LW X (loopOf Tryz.prog 40 3) ⟨envOf (blL []), ovl (rd L s1 ++ blE ([] : List St').length) rest⟩ fun e' S' => e' = .panic (flt q t) ∧ S' = ⟨envOf [], ovl (rd L s2 ++ blE v) rest⟩) : ∀ rest : Heap, HPan Tryz.prog 40 [rP] (ovl (rd L s) rest) (flt q t) (ovl (rd L s2) rest) :=
  hcleanP_of_run okP named { nils := fun f r => if f = 40 then (if r = 2 then some ⟨0, 3, 200000, 9, true, false⟩ else none) else none, loops := fun f q => if f = 40 then (if q = 3 then some (blLH h) else none) else none, calls := tabC Tryz.prog [(40, 5, 1051, cOf c1)] } 2000 1000 _ 1000000 ⟨rfl, rfl, rfl, by kernel_rfl, by kernel_rfl, by kernel_rfl⟩ (by kernel_rfl) (fun _ => by kernel_rfl)
theorem bkP3 (r : List St') (h : ∀ (rest : Heap) (X : Fix), X.P = Tryz.prog → X.N = 17 → LW X (loopOf Tryz.prog 40 3) ⟨envOf (blL []), ovl (rd L s1 ++ blE ([] : List St').length) rest⟩ fun e' S' => e' = .exit 0 ∧ S' = ⟨envOf (blL r), ovl (rd L s2 ++ blE r.length) rest⟩) (c : ∀ rest : Heap, HPan Tryz.prog 34 [rP, .d (.str [125])] (ovl (rd L s2) rest) (flt q t) (ovl (rd L s3) rest)) : ∀ rest : Heap, HPan Tryz.prog 40 [rP] (ovl (rd L s) rest) (flt q t) (ovl (rd L s3) rest) :=
  hcleanP_of_run okP named { nils := fun f r => if f = 40 then (if r = 2 then some ⟨0, 3, 200000, 9, true, false⟩ else none) else none, loops := fun f q => if f = 40 then (if q = 3 then some (blLH h) else none) else none, calls := tabC Tryz.prog [(40, 5, 1051, cOf c1)], pans := tabP Tryz.prog [(40, 5, 1051, ⟨1, some (pOf c), []⟩)] } 2000 1000 _ 1000000 ⟨rfl, rfl, rfl, by kernel_rfl, by kernel_rfl, by kernel_rfl⟩ (by kernel_rfl) (fun _ => by kernel_rfl)
theorem bkOk (r : List St') (h : ∀ (rest : Heap) (X : Fix), X.P = Tryz.prog → X.N = 17 → LW X (loopOf Tryz.prog 40 3) ⟨envOf (blL []), ovl (rd L s1 ++ blE ([] : List St').length) rest⟩ fun e' S' => e' = .exit 0 ∧ S' = ⟨envOf (blL r), ovl (rd L s2 ++ blE r.length) rest⟩) (c : ∀ rest : Heap, HCall Tryz.prog 34 [rP, .d (.str [125])] (ovl (rd L s2) rest) ([tD t2].map .d) (ovl (rd L s3) rest)) : ∀ rest : Heap, HCall Tryz.prog 40 [rP] (ovl (rd L s) rest) ([.ro (stL r)].map .d) (ovl (rd L s3) rest) :=
  hclean_of_run okP named { nils := fun f r => if f = 40 then (if r = 2 then some ⟨0, 3, 200000, 9, true, false⟩ else none) else none, loops := fun f q => if f = 40 then (if q = 3 then some (blLH h) else none) else none, calls := tabC Tryz.prog [(40, 5, 1051, cOf c1), (40, 15, 1068, cOf c)] } 2000 1000 _ 1000000 ⟨rfl, rfl, rfl, by kernel_rfl, by kernel_rfl, by kernel_rfl⟩ (fun _ => by kernel_rfl)
end
structure StAll (L : List T) (n : Nat) : Prop where
  block : ∀ s : RS, s.i < L.length → RC L 40 [rP] bR s (sBlock L n s)
  stmts : ∀ (r : List St') (s : RS), s.i < L.length → r.length ≤ s.i → BlAt L s r (sStmts L n r s)
  stmt : ∀ s : RS, s.i < L.length → RC L 62 [rP] sR s (sStmt L n s)
theorem stAll {L : List T} (hL : Toks L) : ∀ n, StAll L n
  | 0 => ⟨fun _ _ => trivial, fun _ _ _ _ => trivial, fun _ _ => trivial⟩
  | n + 1 => by
    obtain ⟨ihB, ihS, ihT⟩ := stAll hL n
    refine ⟨fun s l => ?_, fun r s l hr => ?_, stmtStep hL n ihB⟩
    · simp only [sBlock]
      have c1 := wantR l hL [123]
      revert c1
      cases sWant L [123] s with
      | out => exact fun _ => trivial
      | bad q t s1 => exact fun c1 => bkP1 c1
      | ok t1 s1 =>
        intro c1
        have c2 := ihS [] s1 c1.1 (Nat.zero_le _)
        simp only [Res.bind]
        revert c2
        cases sStmts L n [] s1 with
        | out => exact fun _ => trivial
        | bad q t s2 => exact fun ⟨v, c2⟩ => bkP2 c1.2 v c2
        | ok r s2 =>
          intro c2
          have c3 := wantR c2.1 hL [125]
          simp only
          revert c3
          cases sWant L [125] s2 with
          | out => exact fun _ => trivial
          | bad q t s3 => exact fun c3 => bkP3 c1.2 r c2.2 c3
          | ok t2 s3 => exact fun c3 => ⟨c3.1, bkOk c1.2 r c2.2 c3.2⟩
    · simp only [sStmts]
      have hlen : r.length < 1000000 := by have := hL.len; omega
      cases h : isT L s [125] with
      | true => exact ⟨l, fun rest X hP hN => lw_stop (blStop l r h rest X hP hN) (by simp)⟩
      | false =>
        have c1 := ihT s l
        have g1 := (stmt_gr L n).2.2 s
        simp only [cond_false]
        revert c1 g1
        cases sStmt L n s with
        | out => exact fun _ _ => trivial
        | bad q t s1 => exact fun c1 _ => ⟨_, fun rest X hP hN => lw_stop (blBad l r h c1 rest X hP hN) (by simp)⟩
        | ok x s1 =>
          intro c1 g1
          have g1 := g1 x s1 rfl
          have c2 := ihS (r ++ [x]) s1 c1.1 (by simp only [List.length_append, List.length_cons, List.length_nil]; omega)
          have hgo := blGo l r h hlen x c1.2
          simp only [Res.bind]
          revert c2
          cases sStmts L n (r ++ [x]) s1 with
          | out => exact fun _ => trivial
          | bad q t s2 => exact fun ⟨v, c2⟩ => ⟨v, fun rest X hP hN => lw_step (hgo rest X hP hN) (c2 rest X hP hN)⟩
          | ok r2 s2 => exact fun c2 => ⟨c2.1, fun rest X hP hN => lw_step (hgo rest X hP hN) (c2.2 rest X hP hN)⟩
end Go.Avm
/-
  Texts as programs: the reader's functions.
-/
set_option linter.unusedSectionVars false
namespace Go.Avm
open Go.Proofs

abbrev pmL (r : List Pm) : List D := r.map pmD
/-- The function that is built: its parameters so far; the box that holds the reader. -/
abbrev fuE (nm : List UInt8) (p : Int) (v : Nat) (l : List D) : List (Nat × Ent) := [(299842, ⟨1, some (.arr 1 [.d (.str nm), .vec 400000 v 3 l, u8 0, .nils, dI p])⟩), (299672, ⟨1, some (.arr 1 [rP])⟩), (400000, ⟨v, none⟩)]
abbrev fuB (v : Nat) : List (Nat × Ent) := [(299842, ⟨1, none⟩), (299672, ⟨1, none⟩), (400000, ⟨v, none⟩)]
abbrev pclo : AV := .fn 37 [pC 299672, pC 299842]
section
variable {L : List T} (hL : Toks L)
include hL
theorem paramR (nm : List UInt8) (p : Int) (r : List Pm) (hr : r.length < 1000000) (s : RS) (l : s.i < L.length) : RCp L 37 [pC 299672, pC 299842] (fuE nm p r.length (pmL r)) (fun x => fuE nm p (r.length + 1) (pmL r ++ [pmD x])) (fuB r.length) (fun _ => []) s (sParam L s) := by
  unfold sParam
  refine RCp.bind (takeR l hL 1 (by decide)) ?_ ?_
  · exact fun _ _ _ c => hcleanP_of_run okP named { pans := tabP Tryz.prog [(37, 0, 299808, ⟨1, some (pOf c), []⟩)] } 2000 299808 _ 1000000 ⟨rfl, rfl, rfl, by kernel_rfl, by kernel_rfl, by kernel_rfl⟩ (by kernel_rfl) (fun _ => by kernel_rfl)
  · intro t s1 l1 c1
    refine RCp.bind (wantR l1 hL [58]) ?_ ?_
    · exact fun _ _ _ c => hcleanP_of_run okP named { calls := tabC Tryz.prog [(37, 4, 299828, cOf c1)], pans := tabP Tryz.prog [(37, 1, 299868, ⟨1, some (pOf c), []⟩)] } 2000 299808 _ 1000000 ⟨rfl, rfl, rfl, by kernel_rfl, by kernel_rfl, by kernel_rfl⟩ (by kernel_rfl) (fun _ => by kernel_rfl)
    · intro _ s2 l2 c2
      refine RCp.bindp (kind3 hL _ l2) ?_ ?_
      · exact fun _ _ _ c => hcleanP_of_run okP named { calls := tabC Tryz.prog [(37, 4, 299828, cOf c1), (37, 6, 299888, cOf c2)], pans := tabP Tryz.prog [(37, 2, 299888, ⟨6, some (pOf c), [7, 8]⟩)] } 2000 299808 _ 1000000 ⟨rfl, rfl, rfl, by kernel_rfl, by kernel_rfl, by kernel_rfl⟩ (by kernel_rfl) (fun _ => by kernel_rfl)
      · intro ty s3 l3 c3
        exact ⟨l3, hclean_of_run okP named { hint := tabH Tryz.prog [(37, 18, .app (pmL r) 1 (by simp only [List.length_map]; omega))], calls := tabC Tryz.prog [(37, 4, 299828, cOf c1), (37, 6, 299888, cOf c2), (37, 13, 300008, cOf c3)] } 2000 299808 _ 1000000 ⟨rfl, rfl, rfl, by kernel_rfl, by kernel_rfl, by kernel_rfl⟩ (fun _ => by kernel_rfl)⟩
end
def ppL : List (Nat × AV) := [(0, rP), (1, pclo)]
def PpAt (L : List T) (nm : List UInt8) (p : Int) (s : RS) (r : List Pm) : Res (List Pm) → Prop
  | .ok r2 s' => s'.i < L.length ∧ ∀ (rest : Heap) (X : Fix), X.P = Tryz.prog → X.N = 17 → LW X (loopOf Tryz.prog 36 3) ⟨envOf ppL, ovl (rd L s ++ fuE nm p r.length (pmL r)) rest⟩ fun e' S' => e' = .exit 0 ∧ S' = ⟨envOf [(0, rP)], ovl (rd L s' ++ fuE nm p r2.length (pmL r2)) rest⟩
  | .bad q t s' => ∃ v, ∀ (rest : Heap) (X : Fix), X.P = Tryz.prog → X.N = 17 → LW X (loopOf Tryz.prog 36 3) ⟨envOf ppL, ovl (rd L s ++ fuE nm p r.length (pmL r)) rest⟩ fun e' S' => e' = .panic (flt q t) ∧ S' = ⟨envOf [], ovl (rd L s' ++ fuB v) rest⟩
  | .out => True
noncomputable def ppLH {L : List T} {nm : List UInt8} {p : Int} {s : RS} {r : List Pm} {hp' : List (Nat × Ent)} {x : AExit} {l' : List (Nat × AV)} (h : ∀ (rest : Heap) (X : Fix), X.P = Tryz.prog → X.N = 17 → LW X (loopOf Tryz.prog 36 3) ⟨envOf ppL, ovl (rd L s ++ fuE nm p r.length (pmL r)) rest⟩ fun e' S' => e' = x ∧ S' = ⟨envOf l', ovl (hp') rest⟩) : LHint Tryz.prog :=
  ⟨17, loopOf Tryz.prog 36 3, ppL, fun _ => rd L s ++ fuE nm p r.length (pmL r), x, l', fun _ => hp', fun rest X hP hN => (h rest X hP hN).aw⟩
section
variable {L : List T} {s : RS} (l : s.i < L.length) (nm : List UInt8) (p : Int) (r : List Pm)
include l
theorem ppStop (h : isT L s [44] = false) :
    ∀ (rest : Heap) (X : Fix), X.P = Tryz.prog → X.N = 17 → AW X (loopOf Tryz.prog 36 3) ⟨envOf ppL, ovl (rd L s ++ fuE nm p r.length (pmL r)) rest⟩ fun e' S' => e' = .exit 0 ∧ S' = ⟨envOf [(0, rP)], ovl (rd L s ++ fuE nm p r.length (pmL r)) rest⟩ :=
  segC okP named { calls := tabC Tryz.prog [(36, 12, 3017, cOf (mayF l [44] h))] } 2000 36 3000 17 1000000 ([]) ⟨rfl, rfl, rfl, by kernel_rfl, by kernel_rfl, by kernel_rfl⟩ (by kernel_rfl) (by kernel_rfl) (fun _ => by kernel_rfl)
theorem ppBad2 (s1 : RS) (c1 : ∀ rest : Heap, HCall Tryz.prog 39 [rP, .d (.str [44])] (ovl (rd L s) rest) ([.bool true].map .d) (ovl (rd L s1) rest)) (q t : Int) (s2 : RS) (c : ∀ rest : Heap, HPan Tryz.prog 37 [pC 299672, pC 299842] (ovl (rd L s1 ++ fuE nm p r.length (pmL r)) rest) (flt q t) (ovl (rd L s2 ++ fuB r.length) rest)) :
    ∀ (rest : Heap) (X : Fix), X.P = Tryz.prog → X.N = 17 → AW X (loopOf Tryz.prog 36 3) ⟨envOf ppL, ovl (rd L s ++ fuE nm p r.length (pmL r)) rest⟩ fun e' S' => e' = .panic (flt q t) ∧ S' = ⟨envOf [], ovl (rd L s2 ++ fuB r.length) rest⟩ :=
  segC okP named { calls := tabC Tryz.prog [(36, 12, 3017, cOf c1)], pans := tabP Tryz.prog [(36, 4, 3017, ⟨1, some (pOf c), []⟩)] } 2000 36 3000 17 1000000 ([]) ⟨rfl, rfl, rfl, by kernel_rfl, by kernel_rfl, by kernel_rfl⟩ (by kernel_rfl) (by kernel_rfl) (fun _ => by kernel_rfl)
theorem ppGo (s1 : RS) (c1 : ∀ rest : Heap, HCall Tryz.prog 39 [rP, .d (.str [44])] (ovl (rd L s) rest) ([.bool true].map .d) (ovl (rd L s1) rest)) (x : Pm) (s2 : RS) (c : ∀ rest : Heap, HCall Tryz.prog 37 [pC 299672, pC 299842] (ovl (rd L s1 ++ fuE nm p r.length (pmL r)) rest) ([].map .d) (ovl (rd L s2 ++ fuE nm p (r.length + 1) (pmL r ++ [pmD x])) rest)) :
    ∀ (rest : Heap) (X : Fix), X.P = Tryz.prog → X.N = 17 → AW X (loopOf Tryz.prog 36 3) ⟨envOf ppL, ovl (rd L s ++ fuE nm p r.length (pmL r)) rest⟩ fun e' S' => e' = .normal ∧ S' = ⟨envOf ppL, ovl (rd L s2 ++ fuE nm p (r.length + 1) (pmL r ++ [pmD x])) rest⟩ :=
  segC okP named { calls := tabC Tryz.prog [(36, 12, 3017, cOf c1), (36, 14, 3034, cOf c)] } 2000 36 3000 17 1000000 ([]) ⟨rfl, rfl, rfl, by kernel_rfl, by kernel_rfl, by kernel_rfl⟩ (by kernel_rfl) (by kernel_rfl) (fun _ => by kernel_rfl)
end
theorem pm_gr (L : List T) (s : RS) : Gr s (sParam L s) := (take_gr L _ s).bind fun _ s1 _ => ((want_gr L _ s1).bind fun _ s2 _ => ((kind_gr L _ s2).bind fun _ _ _ => Gq.ok _ _).le).le
section
variable {L : List T} (hL : Toks L) (nm : List UInt8) (p : Int)
include hL
theorem ppAll : ∀ (n : Nat) (r : List Pm) (s : RS), s.i < L.length → r.length ≤ s.i → PpAt L nm p s r (sPMore L n r s)
  | 0, _, _, _, _ => trivial
  | n + 1, r, s, l, hr => by
    have hlen : r.length < 1000000 := by have := hL.len; omega
    simp only [sPMore, sMay]
    cases h : isT L s [44] with
    | false => exact ⟨l, fun rest X hP hN => lw_stop (ppStop l nm p r h rest X hP hN) (by simp)⟩
    | true =>
      have hw : sWant L [44] s = .ok (cur L s) s.nx := by simp only [sWant, h]; rfl
      have hn := isT_nx hL l h
      have c1 := mayT l [44] h (cur L s) s.nx (want0 l hL [44] h rfl rfl rfl rfl rfl rfl)
      simp only [cond_true, hw, Res.bind]
      have c := paramR hL nm p r hlen s.nx hn
      have g := pm_gr L s.nx
      revert c g
      cases sParam L s.nx with
      | out => exact fun _ _ => trivial
      | bad q t s2 => exact fun c _ => ⟨_, fun rest X hP hN => lw_stop (ppBad2 l nm p r s.nx c1 q t s2 c rest X hP hN) (by simp)⟩
      | ok x s2 =>
        intro c g
        have g := g x s2 rfl
        have e1 : (r ++ [x]).length = r.length + 1 := by simp
        have c2 := ppAll n (r ++ [x]) s2 c.1 (by simp only [RS.nx] at g; omega)
        have hgo := ppGo l nm p r s.nx c1 x s2 c.2
        have e2 : pmL (r ++ [x]) = pmL r ++ [pmD x] := by simp [pmL]
        simp only
        unfold PpAt at c2 ⊢
        simp only [e1, e2] at c2
        revert c2
        cases sPMore L n (r ++ [x]) s2 with
        | out => exact fun _ => trivial
        | bad q t s3 => exact fun ⟨v, c2⟩ => ⟨v, fun rest X hP hN => lw_step (hgo rest X hP hN) (c2 rest X hP hN)⟩
        | ok a s3 => exact fun c2 => ⟨c2.1, fun rest X hP hN => lw_step (hgo rest X hP hN) (c2.2 rest X hP hN)⟩
end
/-! ### list -/
section
variable {L : List T} (nm : List UInt8) (p : Int) {s s1 s2 s3 s4 : RS} {t1 t2 : T} {q t : Int}
theorem plP1 (c : ∀ rest : Heap, HPan Tryz.prog 34 [rP, .d (.str [40])] (ovl (rd L s) rest) (flt q t) (ovl (rd L s1) rest)) :
    ∀ rest : Heap, HPan Tryz.prog 36 [rP, pclo] (ovl (rd L s ++ fuE nm p 0 []) rest) (flt q t) (ovl (rd L s1 ++ fuB 0) rest) :=
  hcleanP_of_run okP named { pans := tabP Tryz.prog [(36, 0, 1000, ⟨1, some (pOf c), []⟩)] } 2000 1000 _ 1000000 ⟨rfl, rfl, rfl, by kernel_rfl, by kernel_rfl, by kernel_rfl⟩ (by kernel_rfl) (fun _ => by kernel_rfl)
theorem plE0 (l1 : s1.i < L.length) (c1 : ∀ rest : Heap, HCall Tryz.prog 34 [rP, .d (.str [40])] (ovl (rd L s) rest) ([tD t1].map .d) (ovl (rd L s1) rest)) (h : isT L s1 [41] = true) (c2 : ∀ rest : Heap, HCall Tryz.prog 34 [rP, .d (.str [41])] (ovl (rd L s1) rest) ([tD t2].map .d) (ovl (rd L s2) rest)) :
    ∀ rest : Heap, HCall Tryz.prog 36 [rP, pclo] (ovl (rd L s ++ fuE nm p 0 []) rest) ([].map .d) (ovl (rd L s2 ++ fuE nm p 0 []) rest) :=
  hclean_of_run okP named { calls := tabC Tryz.prog [(36, 5, 1017, cOf c1), (36, 7, 1034, cOf (isRT l1 [41] h)), (36, 16, 1068, cOf c2)] } 2000 1000 _ 1000000 ⟨rfl, rfl, rfl, by kernel_rfl, by kernel_rfl, by kernel_rfl⟩ (fun _ => by kernel_rfl)
theorem plE1 (l1 : s1.i < L.length) (c1 : ∀ rest : Heap, HCall Tryz.prog 34 [rP, .d (.str [40])] (ovl (rd L s) rest) ([tD t1].map .d) (ovl (rd L s1) rest)) (h : isT L s1 [41] = true) (c2 : ∀ rest : Heap, HPan Tryz.prog 34 [rP, .d (.str [41])] (ovl (rd L s1) rest) (flt q t) (ovl (rd L s2) rest)) :
    ∀ rest : Heap, HPan Tryz.prog 36 [rP, pclo] (ovl (rd L s ++ fuE nm p 0 []) rest) (flt q t) (ovl (rd L s2 ++ fuB 0) rest) :=
  hcleanP_of_run okP named { calls := tabC Tryz.prog [(36, 5, 1017, cOf c1), (36, 7, 1034, cOf (isRT l1 [41] h))], pans := tabP Tryz.prog [(36, 5, 1051, ⟨1, some (pOf c2), []⟩)] } 2000 1000 _ 1000000 ⟨rfl, rfl, rfl, by kernel_rfl, by kernel_rfl, by kernel_rfl⟩ (by kernel_rfl) (fun _ => by kernel_rfl)
theorem plB1 (l1 : s1.i < L.length) (c1 : ∀ rest : Heap, HCall Tryz.prog 34 [rP, .d (.str [40])] (ovl (rd L s) rest) ([tD t1].map .d) (ovl (rd L s1) rest)) (h : isT L s1 [41] = false) (c2 : ∀ rest : Heap, HPan Tryz.prog 37 [pC 299672, pC 299842] (ovl (rd L s1 ++ fuE nm p 0 []) rest) (flt q t) (ovl (rd L s2 ++ fuB 0) rest)) :
    ∀ rest : Heap, HPan Tryz.prog 36 [rP, pclo] (ovl (rd L s ++ fuE nm p 0 []) rest) (flt q t) (ovl (rd L s2 ++ fuB 0) rest) :=
  hcleanP_of_run okP named { calls := tabC Tryz.prog [(36, 5, 1017, cOf c1), (36, 7, 1034, cOf (isRT l1 [41] h))], pans := tabP Tryz.prog [(36, 2, 1051, ⟨1, some (pOf c2), []⟩)] } 2000 1000 _ 1000000 ⟨rfl, rfl, rfl, by kernel_rfl, by kernel_rfl, by kernel_rfl⟩ (by kernel_rfl) (fun _ => by kernel_rfl)
theorem plB2 (l1 : s1.i < L.length) (c1 : ∀ rest : Heap, HCall Tryz.prog 34 [rP, .d (.str [40])] (ovl (rd L s) rest) ([tD t1].map .d) (ovl (rd L s1) rest)) (h0 : isT L s1 [41] = false) (x : Pm) (c2 : ∀ rest : Heap, HCall Tryz.prog 37 [pC 299672, pC 299842] (ovl (rd L s1 ++ fuE nm p 0 []) rest) ([].map .d) (ovl (rd L s2 ++ fuE nm p 1 [pmD x]) rest)) (v : Nat) (h : ∀ (rest : Heap) (X : Fix), X.P = Tryz.prog → X.N = 17 → LW X (loopOf Tryz.prog 36 3) ⟨envOf ppL, ovl (rd L s2 ++ fuE nm p [x].length (pmL [x])) rest⟩ fun e' S' => e' = .panic (flt q t) ∧ S' = ⟨envOf [], ovl (rd L s3 ++ fuB v) rest⟩) :
    ∀ rest : Heap, HPan Tryz.prog 36 [rP, pclo] (ovl (rd L s ++ fuE nm p 0 []) rest) (flt q t) (ovl (rd L s3 ++ fuB v) rest) :=
  hcleanP_of_run okP named { loops := fun f q => if f = 36 then (if q = 3 then some (ppLH (r := [x]) h) else none) else none, calls := tabC Tryz.prog [(36, 5, 1017, cOf c1), (36, 7, 1034, cOf (isRT l1 [41] h0)), (36, 10, 1068, cOf c2)] } 2000 1000 _ 1000000 ⟨rfl, rfl, rfl, by kernel_rfl, by kernel_rfl, by kernel_rfl⟩ (by kernel_rfl) (fun _ => by kernel_rfl)
theorem plB3 (l1 : s1.i < L.length) (c1 : ∀ rest : Heap, HCall Tryz.prog 34 [rP, .d (.str [40])] (ovl (rd L s) rest) ([tD t1].map .d) (ovl (rd L s1) rest)) (h0 : isT L s1 [41] = false) (x : Pm) (c2 : ∀ rest : Heap, HCall Tryz.prog 37 [pC 299672, pC 299842] (ovl (rd L s1 ++ fuE nm p 0 []) rest) ([].map .d) (ovl (rd L s2 ++ fuE nm p 1 [pmD x]) rest)) (r : List Pm) (h : ∀ (rest : Heap) (X : Fix), X.P = Tryz.prog → X.N = 17 → LW X (loopOf Tryz.prog 36 3) ⟨envOf ppL, ovl (rd L s2 ++ fuE nm p [x].length (pmL [x])) rest⟩ fun e' S' => e' = .exit 0 ∧ S' = ⟨envOf [(0, rP)], ovl (rd L s3 ++ fuE nm p r.length (pmL r)) rest⟩) (c3 : ∀ rest : Heap, HPan Tryz.prog 34 [rP, .d (.str [41])] (ovl (rd L s3) rest) (flt q t) (ovl (rd L s4) rest)) :
    ∀ rest : Heap, HPan Tryz.prog 36 [rP, pclo] (ovl (rd L s ++ fuE nm p 0 []) rest) (flt q t) (ovl (rd L s4 ++ fuB r.length) rest) :=
  hcleanP_of_run okP named { loops := fun f q => if f = 36 then (if q = 3 then some (ppLH (r := [x]) h) else none) else none, calls := tabC Tryz.prog [(36, 5, 1017, cOf c1), (36, 7, 1034, cOf (isRT l1 [41] h0)), (36, 10, 1068, cOf c2)], pans := tabP Tryz.prog [(36, 5, 1068, ⟨1, some (pOf c3), []⟩)] } 2000 1000 _ 1000000 ⟨rfl, rfl, rfl, by kernel_rfl, by kernel_rfl, by kernel_rfl⟩ (by kernel_rfl) (fun _ => by kernel_rfl)
theorem plOk (l1 : s1.i < L.length) (c1 : ∀ rest : Heap, HCall Tryz.prog 34 [rP, .d (.str [40])] (ovl (rd L s) rest) ([tD t1].map .d) (ovl (rd L s1) rest)) (h0 : isT L s1 [41] = false) (x : Pm) (c2 : ∀ rest : Heap, HCall Tryz.prog 37 [pC 299672, pC 299842] (ovl (rd L s1 ++ fuE nm p 0 []) rest) ([].map .d) (ovl (rd L s2 ++ fuE nm p 1 [pmD x]) rest)) (r : List Pm) (h : ∀ (rest : Heap) (X : Fix), X.P = Tryz.prog → X.N = 17 → LW X (loopOf Tryz.prog 36 3) ⟨envOf ppL, ovl (rd L s2 ++ fuE nm p [x].length (pmL [x])) rest⟩ fun e' S' => e' = .exit 0 ∧ S' = ⟨envOf [(0, rP)], ovl (rd L s3 ++ fuE nm p r.length (pmL r)) rest⟩) (c3 : ∀ rest : Heap, HCall Tryz.prog 34 [rP, .d (.str [41])] (ovl (rd L s3) rest) ([tD t2].map .d) (ovl (rd L s4) rest)) :
    ∀ rest : Heap, HCall Tryz.prog 36 [rP, pclo] (ovl (rd L s ++ fuE nm p 0 []) rest) ([].map .d) (ovl (rd L s4 ++ fuE nm p r.length (pmL r)) rest) :=
  hclean_of_run okP named { loops := fun f q => if f = 36 then (if q = 3 then some (ppLH (r := [x]) h) else none) else none, calls := tabC Tryz.prog [(36, 5, 1017, cOf c1), (36, 7, 1034, cOf (isRT l1 [41] h0)), (36, 10, 1068, cOf c2), (36, 16, 1085, cOf c3)] } 2000 1000 _ 1000000 ⟨rfl, rfl, rfl, by kernel_rfl, by kernel_rfl, by kernel_rfl⟩ (fun _ => by kernel_rfl)
end
def PaC (L : List T) (nm : List UInt8) (p : Int) (s : RS) : Res (List Pm) → Prop
  | .ok r s' => s'.i < L.length ∧ ∀ rest : Heap, HCall Tryz.prog 36 [rP, pclo] (ovl (rd L s ++ fuE nm p 0 []) rest) ([].map .d) (ovl (rd L s' ++ fuE nm p r.length (pmL r)) rest)
  | .bad q t s' => ∃ v, ∀ rest : Heap, HPan Tryz.prog 36 [rP, pclo] (ovl (rd L s ++ fuE nm p 0 []) rest) (flt q t) (ovl (rd L s' ++ fuB v) rest)
  | .out => True
theorem paramsR {L : List T} (hL : Toks L) (n : Nat) (nm : List UInt8) (p : Int) (s : RS) (l : s.i < L.length) : PaC L nm p s (sParams L n s) := by
  unfold sParams
  have c1 := wantR l hL [40]
  have g1 := want_gr L [40] s
  revert c1 g1
  cases sWant L [40] s with
  | out => exact fun _ _ => trivial
  | bad q t s1 => exact fun c1 _ => ⟨0, plP1 nm p c1⟩
  | ok t1 s1 =>
    intro c1 g1
    have g1 := g1 t1 s1 rfl
    have l1 := c1.1
    simp only [Res.bind]
    cases h41 : isT L s1 [41] with
    | true =>
      have c2 := wantR l1 hL [41]
      simp only [cond_true]
      revert c2
      cases sWant L [41] s1 with
      | out => exact fun _ => trivial
      | bad q t s2 => exact fun c2 => ⟨0, plE1 nm p l1 c1.2 h41 c2⟩
      | ok t2 s2 => exact fun c2 => ⟨c2.1, plE0 nm p l1 c1.2 h41 c2.2⟩
    | false =>
      have c2 := paramR hL nm p [] (by decide) s1 l1
      have g2 := pm_gr L s1
      simp only [cond_false]
      revert c2 g2
      cases sParam L s1 with
      | out => exact fun _ _ => trivial
      | bad q t s2 => exact fun c2 _ => ⟨0, plB1 nm p l1 c1.2 h41 c2⟩
      | ok x s2 =>
        intro c2 g2
        have g2 := g2 x s2 rfl
        have c3 := ppAll hL nm p n [x] s2 c2.1 (by simp only [List.length_cons, List.length_nil]; omega)
        simp only
        revert c3
        cases sPMore L n [x] s2 with
        | out => exact fun _ => trivial
        | bad q t s3 => exact fun ⟨v, c3⟩ => ⟨v, plB2 nm p l1 c1.2 h41 x c2.2 v c3⟩
        | ok r s3 =>
          rintro ⟨l3, c3⟩
          have c4 := wantR l3 hL [41]
          simp only
          revert c4
          cases sWant L [41] s3 with
          | out => exact fun _ => trivial
          | bad q t s4 => exact fun c4 => ⟨_, plB3 nm p l1 c1.2 h41 x c2.2 r c3 c4⟩
          | ok t4 s4 => exact fun c4 => ⟨c4.1, plOk nm p l1 c1.2 h41 x c2.2 r c3 c4.2⟩
end Go.Avm
/-
  Texts as programs: the reader reads a function.
-/
set_option linter.unusedSectionVars false
namespace Go.Avm
open Go.Proofs

theorem RC.bindv {L : List T} {F : Nat} {args : List AV} {s0 : RS} {α : Type} {g : α → List D} {nm : List UInt8} {p : Int} {s : RS} {r : Res (List Pm)} {k : List Pm → RS → Res α} (h : PaC L nm p s r)
    (hb : ∀ q e s' v, (∀ rest : Heap, HPan Tryz.prog 36 [rP, pclo] (ovl (rd L s ++ fuE nm p 0 []) rest) (flt q e) (ovl (rd L s' ++ fuB v) rest)) → ∀ rest : Heap, HPan Tryz.prog F args (ovl (rd L s0) rest) (flt q e) (ovl (rd L s') rest))
    (hk : ∀ a s', s'.i < L.length → (∀ rest : Heap, HCall Tryz.prog 36 [rP, pclo] (ovl (rd L s ++ fuE nm p 0 []) rest) ([].map .d) (ovl (rd L s' ++ fuE nm p a.length (pmL a)) rest)) → RC L F args g s0 (k a s')) : RC L F args g s0 (r.bind k) := by
  cases r with
  | ok a s' => exact hk a s' h.1 h.2
  | bad q e s' => obtain ⟨v, h⟩ := h; exact hb q e s' v h
  | out => trivial
abbrev fR : Fn → List D := fun f => [fnD f]
section
variable {L : List T} (hL : Toks L)
include hL
theorem fnR (n : Nat) (s : RS) (l : s.i < L.length) : RC L 21 [rP] fR s (sFn L n s) := by
  unfold sFn
  refine RC.bind (wantR l hL [102, 110]) ?_ ?_
  · exact fun _ _ _ c => hcleanP_of_run okP named { nils := fun f r => if f = 21 then (if r = 2 then some ⟨299842, 1, 400000, 3, false, false⟩ else none) else none, pans := tabP Tryz.prog [(21, 1, 299719, ⟨1, some (pOf c), [3, 7]⟩)] } 2000 299671 _ 1000000 ⟨rfl, rfl, rfl, by kernel_rfl, by kernel_rfl, by kernel_rfl⟩ (by kernel_rfl) (fun _ => by kernel_rfl)
  · intro t s1 l1 c1
    refine RC.bind (takeR l1 hL 1 (by decide)) ?_ ?_
    · exact fun _ _ _ c => hcleanP_of_run okP named { nils := fun f r => if f = 21 then (if r = 2 then some ⟨299842, 1, 400000, 3, false, false⟩ else none) else none, calls := tabC Tryz.prog [(21, 5, 299743, cOf c1)], pans := tabP Tryz.prog [(21, 1, 299719, ⟨4, some (pOf c), [7]⟩)] } 2000 299671 _ 1000000 ⟨rfl, rfl, rfl, by kernel_rfl, by kernel_rfl, by kernel_rfl⟩ (by kernel_rfl) (fun _ => by kernel_rfl)
    · intro u s2 l2 c2
      refine RC.bindv (paramsR hL n u.t t.p _ l2) ?_ ?_
      · exact fun _ _ _ _ c => hcleanP_of_run okP named { nils := fun f r => if f = 21 then (if r = 2 then some ⟨299842, 1, 400000, 3, false, false⟩ else none) else none, calls := tabC Tryz.prog [(21, 5, 299743, cOf c1), (21, 8, 299791, cOf c2)], pans := tabP Tryz.prog [(21, 2, 299887, ⟨2, some (pOf c), []⟩)] } 2000 299671 _ 1000000 ⟨rfl, rfl, rfl, by kernel_rfl, by kernel_rfl, by kernel_rfl⟩ (by kernel_rfl) (fun _ => by kernel_rfl)
      · intro ps s3 l3 c3
        refine RC.may l3 hL [58] ?_ ?_ ?_
        · exact fun _ _ _ c => hcleanP_of_run okP named { nils := fun f r => if f = 21 then (if r = 2 then some ⟨299842, 1, 400000, 3, false, false⟩ else none) else none, calls := tabC Tryz.prog [(21, 5, 299743, cOf c1), (21, 8, 299791, cOf c2), (21, 13, 299935, cOf c3)], pans := tabP Tryz.prog [(21, 3, 299935, ⟨1, some (pOf c), []⟩)] } 2000 299671 _ 1000000 ⟨rfl, rfl, rfl, by kernel_rfl, by kernel_rfl, by kernel_rfl⟩ (by kernel_rfl) (fun _ => by kernel_rfl)
        · intro s4 l4 c4
          refine RC.bindp (kind2 hL _ l4) ?_ ?_
          · exact fun _ _ _ c => hcleanP_of_run okP named { nils := fun f r => if f = 21 then (if r = 2 then some ⟨299842, 1, 400000, 3, false, false⟩ else none) else none, calls := tabC Tryz.prog [(21, 5, 299743, cOf c1), (21, 8, 299791, cOf c2), (21, 13, 299935, cOf c3), (21, 15, 299959, cOf c4)], pans := tabP Tryz.prog [(21, 4, 299959, ⟨2, some (pOf c), []⟩)] } 2000 299671 _ 1000000 ⟨rfl, rfl, rfl, by kernel_rfl, by kernel_rfl, by kernel_rfl⟩ (by kernel_rfl) (fun _ => by kernel_rfl)
          · intro k s5 l5 c5
            refine RC.bind ((stAll hL n).block _ l5) ?_ ?_
            · exact fun _ _ _ c => hcleanP_of_run okP named { nils := fun f r => if f = 21 then (if r = 2 then some ⟨299842, 1, 400000, 3, false, false⟩ else none) else none, calls := tabC Tryz.prog [(21, 5, 299743, cOf c1), (21, 8, 299791, cOf c2), (21, 13, 299935, cOf c3), (21, 15, 299959, cOf c4), (21, 18, 300007, cOf c5)], pans := tabP Tryz.prog [(21, 5, 300055, ⟨1, some (pOf c), []⟩)] } 2000 299671 _ 1000000 ⟨rfl, rfl, rfl, by kernel_rfl, by kernel_rfl, by kernel_rfl⟩ (by kernel_rfl) (fun _ => by kernel_rfl)
            · intro b s6 l6 c6
              exact ⟨l6, hclean_of_run okP named { nils := fun f r => if f = 21 then (if r = 2 then some ⟨299842, 1, 400000, 3, false, false⟩ else none) else none, calls := tabC Tryz.prog [(21, 5, 299743, cOf c1), (21, 8, 299791, cOf c2), (21, 13, 299935, cOf c3), (21, 15, 299959, cOf c4), (21, 18, 300007, cOf c5), (21, 21, 300079, cOf c6)] } 2000 299671 _ 1000000 ⟨rfl, rfl, rfl, by kernel_rfl, by kernel_rfl, by kernel_rfl⟩ (fun _ => by kernel_rfl)⟩
        · intro h4
          refine RC.bind ((stAll hL n).block _ l3) ?_ ?_
          · exact fun _ _ _ c => hcleanP_of_run okP named { nils := fun f r => if f = 21 then (if r = 2 then some ⟨299842, 1, 400000, 3, false, false⟩ else none) else none, calls := tabC Tryz.prog [(21, 5, 299743, cOf c1), (21, 8, 299791, cOf c2), (21, 13, 299935, cOf c3), (21, 15, 299959, cOf (mayF l3 [58] h4))], pans := tabP Tryz.prog [(21, 5, 299959, ⟨1, some (pOf c), []⟩)] } 2000 299671 _ 1000000 ⟨rfl, rfl, rfl, by kernel_rfl, by kernel_rfl, by kernel_rfl⟩ (by kernel_rfl) (fun _ => by kernel_rfl)
          · intro b s5 l5 c5
            exact ⟨l5, hclean_of_run okP named { nils := fun f r => if f = 21 then (if r = 2 then some ⟨299842, 1, 400000, 3, false, false⟩ else none) else none, calls := tabC Tryz.prog [(21, 5, 299743, cOf c1), (21, 8, 299791, cOf c2), (21, 13, 299935, cOf c3), (21, 15, 299959, cOf (mayF l3 [58] h4)), (21, 21, 299983, cOf c5)] } 2000 299671 _ 1000000 ⟨rfl, rfl, rfl, by kernel_rfl, by kernel_rfl, by kernel_rfl⟩ (fun _ => by kernel_rfl)⟩
end
end Go.Avm
/-
  Texts as programs: what Parse answers, whatever the text.
-/
set_option linter.unusedSectionVars false
namespace Go.Avm
open Go.Proofs

abbrev pgE (r : List Fn) : List (Nat × Ent) := [(499382, ⟨1, some (.arr 1 [.vec 600000 r.length 5 (r.map fnD)])⟩), (600000, ⟨r.length, none⟩), (499423, ⟨1, some (.arr 1 [dI 0])⟩), (499464, ⟨1, some (.arr 1 [dI 0])⟩)]
abbrev pgS : List (Nat × AV) := [(2, pC 499382), (3, pC 499423), (4, pC 499464)]
abbrev pgL : List (Nat × AV) := [(2, pC 499382), (3, pC 499423), (4, pC 499464), (6, rP)]
def PgAt (L : List T) (s : RS) (r : List Fn) : Res (List Fn) → Prop
  | .ok r2 s' => ∀ (rest : Heap) (X : Fix), X.P = Tryz.prog → X.N = 40 → LW X (loopOf Tryz.prog 9 7) ⟨envOf pgL, ovl (rd L s ++ pgE r) rest⟩ fun e' S' => e' = .exit 0 ∧ S' = ⟨envOf pgS, ovl (rd L s' ++ pgE r2) rest⟩
  | .bad q t s' => ∃ r2 : List Fn, ∀ (rest : Heap) (X : Fix), X.P = Tryz.prog → X.N = 40 → LW X (loopOf Tryz.prog 9 7) ⟨envOf pgL, ovl (rd L s ++ pgE r) rest⟩ fun e' S' => e' = .panic (flt q t) ∧ S' = ⟨envOf pgS, ovl (rd L s' ++ pgE r2) rest⟩
  | .out => True
section
variable {L : List T} {s : RS} (l : s.i < L.length) (r : List Fn)
include l
theorem pgStop (h : ((cur L s).k == 0) = true) : ∀ (rest : Heap) (X : Fix), X.P = Tryz.prog → X.N = 40 → AW X (loopOf Tryz.prog 9 7) ⟨envOf pgL, ovl (rd L s ++ pgE r) rest⟩ fun e' S' => e' = .exit 0 ∧ S' = ⟨envOf pgS, ovl (rd L s ++ pgE r) rest⟩ :=
  segC okP named { hint := tabH Tryz.prog [(9, 31, hB Tryz.prog ((cur L s).k != 0) false (by simpa using h))], calls := tabC Tryz.prog [(9, 29, 3040, cOf (nowR l))] } 2000 9 3000 40 1000000 ([]) ⟨rfl, rfl, rfl, by kernel_rfl, by kernel_rfl, by kernel_rfl⟩ (by kernel_rfl) (by kernel_rfl) (fun _ => by kernel_rfl)
theorem pgBad (h : ((cur L s).k == 0) = false) {q t : Int} {s2 : RS} (c : ∀ rest : Heap, HPan Tryz.prog 21 [rP] (ovl (rd L s) rest) (flt q t) (ovl (rd L s2) rest)) : ∀ (rest : Heap) (X : Fix), X.P = Tryz.prog → X.N = 40 → AW X (loopOf Tryz.prog 9 7) ⟨envOf pgL, ovl (rd L s ++ pgE r) rest⟩ fun e' S' => e' = .panic (flt q t) ∧ S' = ⟨envOf pgS, ovl (rd L s2 ++ pgE r) rest⟩ :=
  segC okP named { hint := tabH Tryz.prog [(9, 31, hB Tryz.prog ((cur L s).k != 0) true (by simpa using h))], calls := tabC Tryz.prog [(9, 29, 3040, cOf (nowR l))], pans := tabP Tryz.prog [(9, 8, 3120, ⟨3, some (pOf c), []⟩)] } 2000 9 3000 40 1000000 ([]) ⟨rfl, rfl, rfl, by kernel_rfl, by kernel_rfl, by kernel_rfl⟩ (by kernel_rfl) (by kernel_rfl) (fun _ => by kernel_rfl)
theorem pgGo0 (h : ((cur L s).k == 0) = false) (hr : r.length < 1000000) (nm : List UInt8) (ps : List Pm) (k : Int) (bd : List St') (p : Int) {s2 : RS} (c : ∀ rest : Heap, HCall Tryz.prog 21 [rP] (ovl (rd L s) rest) ([fnD ⟨nm, ps, k, bd, p⟩].map .d) (ovl (rd L s2) rest)) : ∀ (rest : Heap) (X : Fix), X.P = Tryz.prog → X.N = 40 → AW X (loopOf Tryz.prog 9 7) ⟨envOf pgL, ovl (rd L s ++ pgE r) rest⟩ fun e' S' => e' = .normal ∧ S' = ⟨envOf pgL, ovl (rd L s2 ++ [(499382, ⟨1, some (.arr 1 [.vec 600000 (r.length + 1) 5 (r.map fnD ++ [fnD ⟨nm, ps, k, bd, p⟩])])⟩), (600000, ⟨r.length + 1, none⟩), (499423, ⟨1, some (.arr 1 [dI 0])⟩), (499464, ⟨1, some (.arr 1 [dI 0])⟩)]) rest⟩ :=
  segC okP named { hint := tabH Tryz.prog [(9, 31, hB Tryz.prog ((cur L s).k != 0) true (by simpa using h)), (9, 37, .app (r.map fnD) 1 (by simp only [List.length_map]; omega))], calls := tabC Tryz.prog [(9, 29, 3040, cOf (nowR l)), (9, 35, 3240, cOf c)] } 2000 9 3000 40 1000000 ([]) ⟨rfl, rfl, rfl, by kernel_rfl, by kernel_rfl, by kernel_rfl⟩ (by kernel_rfl) (by kernel_rfl) (fun _ => by kernel_rfl)
end
theorem pgGo {L : List T} {s : RS} (l : s.i < L.length) (r : List Fn) (h : ((cur L s).k == 0) = false) (hr : r.length < 1000000) (x : Fn) {s2 : RS} (c : ∀ rest : Heap, HCall Tryz.prog 21 [rP] (ovl (rd L s) rest) ([fnD x].map .d) (ovl (rd L s2) rest)) : ∀ (rest : Heap) (X : Fix), X.P = Tryz.prog → X.N = 40 → AW X (loopOf Tryz.prog 9 7) ⟨envOf pgL, ovl (rd L s ++ pgE r) rest⟩ fun e' S' => e' = .normal ∧ S' = ⟨envOf pgL, ovl (rd L s2 ++ pgE (r ++ [x])) rest⟩ := by
  obtain ⟨nm, ps, k, bd, p⟩ := x
  have e1 : (r ++ [Fn.mk nm ps k bd p]).length = r.length + 1 := by simp
  have e2 : (r ++ [Fn.mk nm ps k bd p]).map fnD = r.map fnD ++ [fnD ⟨nm, ps, k, bd, p⟩] := by simp
  have := pgGo0 l r h hr nm ps k bd p c
  simp only [pgE, e1, e2]
  exact this
theorem fn_gr (L : List T) (n : Nat) (s : RS) : Gr s (sFn L n s) := by
  unfold sFn
  have pp : ∀ (n : Nat) (r : List Pm) (s : RS), Gq s (sPMore L n r s) := fun n => by
    induction n with
    | zero => exact fun _ s => Gq.out s
    | succ n ih =>
      intro r s
      simp only [sPMore]
      intro a s' e
      unfold sMay at e
      cases h : isT L s [44] <;> rw [h] at e
      · cases e; exact Nat.le_refl _
      · simp only [cond_true] at e
        cases hw : sWant L [44] s <;> rw [hw] at e
        · rename_i t s1
          exact Nat.le_trans (Nat.le_of_lt (want_gr L _ s t s1 hw)) (((pm_gr L s1).bind fun _ s2 _ => ih _ s2).le a s' e)
        · cases e
        · cases e
  refine (want_gr L _ s).bind fun t s1 _ => ((take_gr L _ s1).bind fun u s2 _ => Gq.bindq (?_ : Gq s2 (sParams L n s2)) fun ps s3 _ => (may_gq L _ s3).bindq fun b s4 _ => Gq.ite ((kind_gr L _ s4).bind fun _ s5 _ => (((stmt_gr L n).1 s5).bind fun _ _ _ => Gq.ok _ _).le).le (((stmt_gr L n).1 s4).bind fun _ _ _ => Gq.ok _ _).le).le
  unfold sParams
  exact ((want_gr L _ s2).bind fun _ s3 _ => Gq.ite ((want_gr L _ s3).bind fun _ _ _ => Gq.ok _ _).le ((pm_gr L s3).bind fun _ s4 _ => (pp n _ s4).bindq fun _ s5 _ => ((want_gr L _ s5).bind fun _ _ _ => Gq.ok _ _).le).le).le
section
variable {L : List T} (hL : Toks L)
include hL
theorem pgAll (N : Nat) : ∀ (n : Nat) (r : List Fn) (s : RS), s.i < L.length → r.length ≤ s.i → PgAt L s r (sFns L N n r s)
  | 0, _, _, _, _ => trivial
  | n + 1, r, s, l, hr => by
    have hlen : r.length < 1000000 := by have := hL.len; omega
    simp only [sFns]
    cases h : ((cur L s).k == 0) with
    | true => exact fun rest X hP hN => lw_stop (pgStop l r h rest X hP hN) (by simp)
    | false =>
      have c := fnR hL N s l
      have g := fn_gr L N s
      simp only [cond_false]
      revert c g
      cases sFn L N s with
      | out => exact fun _ _ => trivial
      | bad q t s2 => exact fun c _ => ⟨r, fun rest X hP hN => lw_stop (pgBad l r h c rest X hP hN) (by simp)⟩
      | ok x s2 =>
        intro c g
        have g := g x s2 rfl
        have c2 := pgAll N n (r ++ [x]) s2 c.1 (by simp only [List.length_append, List.length_cons, List.length_nil]; omega)
        have hgo := pgGo l r h hlen x c.2
        simp only [Res.bind]
        revert c2
        cases sFns L N n (r ++ [x]) s2 with
        | out => exact fun _ => trivial
        | bad q t s3 => exact fun ⟨v, c2⟩ => ⟨v, fun rest X hP hN => lw_step (hgo rest X hP hN) (c2 rest X hP hN)⟩
        | ok a s3 => exact fun c2 rest X hP hN => lw_step (hgo rest X hP hN) (c2 rest X hP hN)
end
noncomputable def pgLH {L : List T} {s : RS} {r : List Fn} {hp' : List (Nat × Ent)} {x : AExit} {l' : List (Nat × AV)} (h : ∀ (rest : Heap) (X : Fix), X.P = Tryz.prog → X.N = 40 → LW X (loopOf Tryz.prog 9 7) ⟨envOf pgL, ovl (rd L s ++ pgE r) rest⟩ fun e' S' => e' = x ∧ S' = ⟨envOf l', ovl hp' rest⟩) : LHint Tryz.prog :=
  ⟨40, loopOf Tryz.prog 9 7, pgL, fun _ => rd L s ++ pgE r, x, l', fun _ => hp', fun rest X hP hN => (h rest X hP hN).aw⟩
/-! ### Parse -/
section
variable {x : List UInt8} {L : List T}
theorem parseE {a e : Int} (he : (e != 0) = true) (hs : Pure Tryz.prog 19 [.str x] [.ro [], .int .i64 a, .int .i64 e]) : Pure Tryz.prog 9 [.str x] [.agg [.ro []], .int .i64 a, .int .i64 e] :=
  pure_of_runB okP named { hint := tabH Tryz.prog [(9, 9, .call 19 _ _ hs), (9, 14, hB Tryz.prog (e != 0) true he)] } 2000 499380 (by kernel_rfl)
theorem parseB {q t : Int} {s2 : RS} (hs : Pure Tryz.prog 19 [.str x] [toksD L, .int .i64 0, .int .i64 0]) (c : ∀ rest : Heap, HPan Tryz.prog 21 [rP] (ovl (rd L ⟨0, 0, 0⟩) rest) (flt q t) (ovl (rd L s2) rest)) : Pure Tryz.prog 9 [.str x] [.agg [.ro []], .int .i64 q, .int .i64 t] :=
  pure_of_runB okP named { hint := tabH Tryz.prog [(9, 9, .call 19 _ _ hs)], pans := tabP Tryz.prog [(9, 6, 500060, ⟨3, some (pOf c), []⟩)] } 2000 499380 (by kernel_rfl)
theorem parseL {nm : List UInt8} {ps : List Pm} {k : Int} {bd : List St'} {p : Int} {q t : Int} {s1 s2 : RS} {r2 : List Fn} (hs : Pure Tryz.prog 19 [.str x] [toksD L, .int .i64 0, .int .i64 0]) (c : ∀ rest : Heap, HCall Tryz.prog 21 [rP] (ovl (rd L ⟨0, 0, 0⟩) rest) ([fnD ⟨nm, ps, k, bd, p⟩].map .d) (ovl (rd L s1) rest))
    (h : ∀ (rest : Heap) (X : Fix), X.P = Tryz.prog → X.N = 40 → LW X (loopOf Tryz.prog 9 7) ⟨envOf pgL, ovl (rd L s1 ++ pgE [⟨nm, ps, k, bd, p⟩]) rest⟩ fun e' S' => e' = .panic (flt q t) ∧ S' = ⟨envOf pgS, ovl (rd L s2 ++ pgE r2) rest⟩) : Pure Tryz.prog 9 [.str x] [.agg [.ro []], .int .i64 q, .int .i64 t] :=
  pure_of_runB okP named { nils := fun f r => if f = 9 then (if r = 6 then some ⟨499382, 0, 600000, 5, false, false⟩ else none) else none, loops := fun f q => if f = 9 then (if q = 7 then some (pgLH h) else none) else none, hint := tabH Tryz.prog [(9, 9, .call 19 _ _ hs)], calls := tabC Tryz.prog [(9, 24, 500180, cOf c)] } 2000 499380 (by kernel_rfl)
theorem parseO {nm : List UInt8} {ps : List Pm} {k : Int} {bd : List St'} {p : Int} {s1 s2 : RS} {r2 : List Fn} (hs : Pure Tryz.prog 19 [.str x] [toksD L, .int .i64 0, .int .i64 0]) (c : ∀ rest : Heap, HCall Tryz.prog 21 [rP] (ovl (rd L ⟨0, 0, 0⟩) rest) ([fnD ⟨nm, ps, k, bd, p⟩].map .d) (ovl (rd L s1) rest))
    (h : ∀ (rest : Heap) (X : Fix), X.P = Tryz.prog → X.N = 40 → LW X (loopOf Tryz.prog 9 7) ⟨envOf pgL, ovl (rd L s1 ++ pgE [⟨nm, ps, k, bd, p⟩]) rest⟩ fun e' S' => e' = .exit 0 ∧ S' = ⟨envOf pgS, ovl (rd L s2 ++ pgE r2) rest⟩) : Pure Tryz.prog 9 [.str x] [.agg [.ro (r2.map fnD)], .int .i64 0, .int .i64 0] :=
  pure_of_runB okP named { nils := fun f r => if f = 9 then (if r = 6 then some ⟨499382, 0, 600000, 5, false, false⟩ else none) else none, loops := fun f q => if f = 9 then (if q = 7 then some (pgLH h) else none) else none, hint := tabH Tryz.prog [(9, 9, .call 19 _ _ hs)], calls := tabC Tryz.prog [(9, 24, 500180, cOf c)] } 2000 499380 (by kernel_rfl)
end
/-- What Parse answers of tokens. -/
def prOut : Res (List Fn) → List D
  | .ok l _ => [.agg [.ro (l.map fnD)], .int .i64 0, .int .i64 0]
  | .bad p e _ => [.agg [.ro []], .int .i64 p, .int .i64 e]
  | .out => []
theorem parseC {x : List UInt8} {L : List T} (hL : Toks L) (h0 : 0 < L.length) (hs : Pure Tryz.prog 19 [.str x] [toksD L, .int .i64 0, .int .i64 0]) (n : Nat) (hn : sProg L n ≠ .out) : Pure Tryz.prog 9 [.str x] (prOut (sProg L n)) := by
  unfold sProg at hn ⊢
  have c := fnR hL n ⟨0, 0, 0⟩ h0
  have g := fn_gr L n ⟨0, 0, 0⟩
  revert c g hn
  cases sFn L n ⟨0, 0, 0⟩ with
  | out => exact fun hn _ _ => absurd rfl hn
  | bad q t s1 => exact fun _ c _ => parseB hs c
  | ok f s1 =>
    intro hn c g
    have g := g f s1 rfl
    have c2 := pgAll hL n n [f] s1 c.1 (by simp only [List.length_cons, List.length_nil]; omega)
    obtain ⟨nm, ps, k, bd, p⟩ := f
    simp only [Res.bind] at hn ⊢
    revert c2 hn
    cases sFns L n n [⟨nm, ps, k, bd, p⟩] s1 with
    | out => exact fun hn _ => absurd rfl hn
    | bad q t s2 => exact fun _ ⟨r2, c2⟩ => parseL hs c.2 c2
    | ok r2 s2 => exact fun _ c2 => parseO hs c.2 c2
end Go.Avm
/-
  Texts as programs: the reader comes to an end.
-/
set_option linter.unusedSectionVars false
namespace Go.Avm
open Go.Proofs

/-- A reader that goes on, and comes to an end. -/
def G1 {α : Type} (L : List T) (s : RS) (r : Res α) : Prop := r ≠ .out ∧ ∀ a s', r = .ok a s' → s.i < s'.i ∧ s'.i < L.length
def G0 {α : Type} (L : List T) (s : RS) (r : Res α) : Prop := r ≠ .out ∧ ∀ a s', r = .ok a s' → s.i ≤ s'.i ∧ s'.i < L.length
section
variable {L : List T} {α β : Type} {s : RS}
theorem G1.le {r : Res α} (h : G1 L s r) : G0 L s r := ⟨h.1, fun a s' e => ⟨Nat.le_of_lt (h.2 a s' e).1, (h.2 a s' e).2⟩⟩
theorem G0.ok (a : α) (l : s.i < L.length) : G0 L s (.ok a s) := ⟨fun e => (by cases e), fun _ _ e => by cases e; exact ⟨Nat.le_refl _, l⟩⟩
theorem G1.bind {r : Res α} {f : α → RS → Res β} (h : G1 L s r) (hf : ∀ a s', s.i < s'.i → s'.i < L.length → G0 L s' (f a s')) : G1 L s (r.bind f) := by
  cases r with
  | ok a s' =>
    obtain ⟨h1, h2⟩ := h.2 a s' rfl
    obtain ⟨h3, h4⟩ := hf a s' h1 h2
    exact ⟨h3, fun b s2 e => ⟨Nat.lt_of_lt_of_le h1 (h4 b s2 e).1, (h4 b s2 e).2⟩⟩
  | bad p q s' => exact ⟨fun e => (by cases e), fun _ _ e => by cases e⟩
  | out => exact absurd rfl h.1
theorem G0.bind1 {r : Res α} {f : α → RS → Res β} (h : G0 L s r) (hf : ∀ a s', s.i ≤ s'.i → s'.i < L.length → G1 L s' (f a s')) : G1 L s (r.bind f) := by
  cases r with
  | ok a s' =>
    obtain ⟨h1, h2⟩ := h.2 a s' rfl
    obtain ⟨h3, h4⟩ := hf a s' h1 h2
    exact ⟨h3, fun b s2 e => ⟨Nat.lt_of_le_of_lt h1 (h4 b s2 e).1, (h4 b s2 e).2⟩⟩
  | bad p q s' => exact ⟨fun e => (by cases e), fun _ _ e => by cases e⟩
  | out => exact absurd rfl h.1
theorem G0.bind {r : Res α} {f : α → RS → Res β} (h : G0 L s r) (hf : ∀ a s', s.i ≤ s'.i → s'.i < L.length → G0 L s' (f a s')) : G0 L s (r.bind f) := by
  cases r with
  | ok a s' =>
    obtain ⟨h1, h2⟩ := h.2 a s' rfl
    obtain ⟨h3, h4⟩ := hf a s' h1 h2
    exact ⟨h3, fun b s2 e => ⟨Nat.le_trans h1 (h4 b s2 e).1, (h4 b s2 e).2⟩⟩
  | bad p q s' => exact ⟨fun e => (by cases e), fun _ _ e => by cases e⟩
  | out => exact absurd rfl h.1
theorem G1.ite {c : Bool} {X Y : Res α} (hX : G1 L s X) (hY : G1 L s Y) : G1 L s (bif c then X else Y) := by cases c <;> assumption
theorem G0.ite {c : Bool} {X Y : Res α} (hX : G0 L s X) (hY : G0 L s Y) : G0 L s (bif c then X else Y) := by cases c <;> assumption
theorem G1.fail (l : s.i < L.length) : G1 L s (fail L s : Res α) := ⟨fun e => (by cases e), fun _ _ e => by cases e⟩
end
section
variable {L : List T} (hL : Toks L)
include hL
theorem g_want (x : List UInt8) (s : RS) (l : s.i < L.length) : G1 L s (sWant L x s) := by
  have h := wantR l hL x
  have g := want_gr L x s
  revert h g
  cases hw : sWant L x s with
  | ok a s' => exact fun h g => ⟨fun e => (by cases e), fun b s2 e => by cases e; exact ⟨g _ _ rfl, h.1⟩⟩
  | bad p q s' => exact fun _ _ => ⟨fun e => (by cases e), fun _ _ e => by cases e⟩
  | out =>
    unfold sWant at hw
    cases h1 : isT L s x <;> rw [h1] at hw
    · cases hw
    · simp only [cond_true] at hw
      cases h2 : (x == [40] || x == [91] || x == [123]) <;> rw [h2] at hw
      · simp only [cond_false] at hw
        cases h3 : (x == [41] || x == [93] || x == [125]) <;> rw [h3] at hw <;> cases hw
      · simp only [cond_true] at hw
        cases h3 : decide (200 < w64 (s.op + 1)) <;> rw [h3] at hw <;> cases hw
theorem g_take (k : Int) (hk : k ≠ 0) (s : RS) (l : s.i < L.length) : G1 L s (sTake L k s) := by
  have h := takeR l hL k hk
  have g := take_gr L k s
  revert h g
  cases hw : sTake L k s with
  | ok a s' => exact fun h g => ⟨fun e => (by cases e), fun b s2 e => by cases e; exact ⟨g _ _ rfl, h.1⟩⟩
  | bad p q s' => exact fun _ _ => ⟨fun e => (by cases e), fun _ _ e => by cases e⟩
  | out =>
    unfold sTake at hw
    cases h1 : ((cur L s).k == k) <;> rw [h1] at hw <;> cases hw
theorem G1.mayT {α : Type} {x : List UInt8} {s : RS} (l : s.i < L.length) {X Y : RS → Res α} (hX : ∀ s', s.i < s'.i → s'.i < L.length → G0 L s' (X s')) (hY : G1 L s (Y s)) : G1 L s ((sMay L x s).bind fun b s1 => bif b then X s1 else Y s1) := by
  unfold sMay
  cases h : isT L s x with
  | false => exact hY
  | true =>
    simp only [cond_true]
    have := (g_want hL x s l).bind (f := fun _ s1 => X s1) fun _ s' h1 h2 => hX s' h1 h2
    revert this
    cases sWant L x s <;> exact fun h => h
theorem G0.mayT {α : Type} {x : List UInt8} {s : RS} (l : s.i < L.length) {X Y : RS → Res α} (hX : ∀ s', s.i < s'.i → s'.i < L.length → G0 L s' (X s')) (hY : G0 L s (Y s)) : G0 L s ((sMay L x s).bind fun b s1 => bif b then X s1 else Y s1) := by
  unfold sMay
  cases h : isT L s x with
  | false => exact hY
  | true =>
    simp only [cond_true]
    have := ((g_want hL x s l).bind (f := fun _ s1 => X s1) fun _ s' h1 h2 => hX s' h1 h2).le
    revert this
    cases sWant L x s <;> exact fun h => h
theorem g_kind : ∀ (k : List Int) (s : RS), s.i < L.length → G1 L s (sKind L k s)
  | [], s, l => G1.fail l
  | k :: r, s, l => by
    simp only [sKind]
    exact G1.mayT hL l (fun s' h1 h2 => G0.ok _ h2) (g_kind r s l)
structure GA (L : List T) (n : Nat) : Prop where
  one : ∀ s : RS, s.i < L.length → 4 * (L.length - s.i) + 1 ≤ n → G1 L s (sOne L n s)
  place : ∀ s : RS, s.i < L.length → 4 * (L.length - s.i) + 1 ≤ n → G1 L s (sPlace L n s)
  call : ∀ nm p (s : RS), s.i < L.length → 4 * (L.length - s.i) + 2 ≤ n → G1 L s (sCall L n nm p s)
  args : ∀ s : RS, s.i < L.length → 4 * (L.length - s.i) + 1 ≤ n → G1 L s (sArgs L n s)
  more : ∀ l (s : RS), s.i < L.length → 4 * (L.length - s.i) + 1 ≤ n → G0 L s (sMore L n l s)
  expr : ∀ k (s : RS), s.i < L.length → 4 * (L.length - s.i) + 2 ≤ n → G1 L s (sExpr L n k s)
  tail : ∀ k e (s : RS), s.i < L.length → 4 * (L.length - s.i) + 1 ≤ n → G0 L s (sTail L n k e s)
theorem gAll : ∀ n, GA L n
  | 0 => ⟨fun _ _ h => by omega, fun _ _ h => by omega, fun _ _ _ _ h => by omega, fun _ _ h => by omega, fun _ _ _ h => by omega, fun _ _ _ h => by omega, fun _ _ _ _ h => by omega⟩
  | n + 1 => by
    have ih := gAll n
    have W := fun x s l => g_want hL x s l
    refine ⟨fun s l h => ?_, fun s l h => ?_, fun nm p s l h => ?_, fun s l h => ?_, fun r s l h => ?_, fun k s l h => ?_, fun k e s l h => ?_⟩
    · simp only [sOne]
      have un : ∀ (f : Ex → Ex) s', s.i < s'.i → s'.i < L.length → G0 L s' ((sOne L n s').bind fun e s2 => .ok (f e) s2) := fun f s' h1 h2 => ((ih.one s' h2 (by omega)).bind fun _ _ _ h4 => G0.ok _ h4).le
      refine G1.mayT hL l (fun s' => un _ s') (G1.mayT hL l (fun s' => un _ s') (G1.mayT hL l (fun s' => un _ s') ?_))
      cases hk : ((cur L s).k == 3) with
      | true => exact ⟨fun e => (by cases e), fun _ _ e => by cases e; exact ⟨Nat.lt_succ_self _, nx_lt hL l (by rw [eq_of_beq hk]; decide)⟩⟩
      | false =>
        simp only [cond_false]
        refine G1.mayT hL l (fun s' _ h2 => G0.ok _ h2) (G1.mayT hL l (fun s' _ h2 => G0.ok _ h2) ?_)
        refine G1.mayT hL l (fun s' _ h2 => ((W _ s' h2).bind fun _ s2 _ h4 => ((W _ s2 h4).bind fun _ _ _ h6 => G0.ok _ h6).le).le) ?_
        refine G1.mayT hL l (fun s' _ h2 => ((W _ s' h2).bind fun _ s2 _ h4 => ((g_take hL 1 (by decide) s2 h4).bind fun _ s3 _ h6 => ((W _ s3 h6).bind fun _ _ _ h8 => G0.ok _ h8).le).le).le) ?_
        refine G1.ite ((W _ s l).bind fun _ s2 h3 h4 => ((ih.expr _ s2 h4 (by omega)).bind fun _ s3 _ h6 => ((W _ s3 h6).bind fun _ _ _ h8 => G0.ok _ h8).le).le) ?_
        exact (g_take hL 1 (by decide) s l).bind fun _ s2 h3 h4 => G0.ite ((ih.place s2 h4 (by omega)).bind fun _ _ _ h6 => G0.ok _ h6).le (G0.ite ((ih.call _ _ s2 h4 (by omega)).bind fun _ _ _ h6 => G0.ok _ h6).le (G0.ok _ h4))
    · simp only [sPlace]
      exact (W _ s l).bind fun _ s2 h3 h4 => ((ih.expr _ s2 h4 (by omega)).bind fun _ s3 _ h6 => ((W _ s3 h6).bind fun _ _ _ h8 => G0.ok _ h8).le).le
    · simp only [sCall]
      exact (ih.args s l (by omega)).bind fun _ _ _ h4 => G0.ok _ h4
    · simp only [sArgs]
      exact (W _ s l).bind fun _ s2 h3 h4 => G0.ite ((W _ s2 h4).bind fun _ _ _ h6 => G0.ok _ h6).le (((ih.expr _ s2 h4 (by omega)).bind fun _ s3 h5 h6 => (ih.more _ s3 h6 (by omega)).bind fun _ s4 _ h8 => ((W _ s4 h8).bind fun _ _ _ h9 => G0.ok _ h9).le).le)
    · simp only [sMore]
      exact G0.mayT hL l (fun s' h1 h2 => ((ih.expr _ s' h2 (by omega)).bind fun _ s3 h5 h6 => ih.more _ s3 h6 (by omega)).le) (G0.ok _ l)
    · simp only [sExpr]
      exact (ih.one s l (by omega)).bind fun _ s2 h3 h4 => ih.tail _ _ s2 h4 (by omega)
    · simp only [sTail]
      cases hz : ((sSign L k s).1 == 0) with
      | true => exact G0.ok _ l
      | false =>
        simp only [cond_false]
        have ln : s.nx.i < L.length := sign_some l k hL signs (by simpa [sSign] using hz)
        have hx : s.nx.i = s.i + 1 := rfl
        have h2 := ((ih.expr (w64 ((sSign L k s).2 + 1)) s.nx ln (by omega)).bind (f := fun r s2 => sTail L n k (.mk 9 (sSign L k s).1 [] 0 (cur L s).p [e, r]) s2) fun _ s3 h5 h6 => ih.tail _ _ s3 h6 (by omega))
        exact ⟨h2.1, fun a s' e => ⟨by have := (h2.2 a s' e).1; omega, (h2.2 a s' e).2⟩⟩
theorem g_let (n : Nat) (id p : Int) (s : RS) (l : s.i < L.length) (h : 4 * (L.length - s.i) + 1 ≤ n) : G1 L s (sLet L n id p s) := by
  have W := fun x s l => g_want hL x s l
  unfold sLet
  refine (g_take hL 1 (by decide) s l).bind fun _ s2 h3 h4 => ((W _ s2 h4).bind fun _ s3 h5 h6 => ((g_kind hL _ s3 h6).bind fun _ s4 h7 h8 => G0.ite ?_ ?_).le).le
  · exact ((W _ s4 h8).bind fun _ s5 _ h9 => ((g_take hL 3 (by decide) s5 h9).bind fun _ s6 _ h10 => ((W _ s6 h10).bind fun _ s7 _ h11 => ((W _ s7 h11).bind fun _ _ _ h12 => G0.ok _ h12).le).le).le).le
  · exact (G1.mayT hL h8 (fun s' h9 h10 => (((gAll hL n).expr 1 s' h10 (by omega)).bind fun _ s6 _ h11 => ((W _ s6 h11).bind fun _ _ _ h12 => G0.ok _ h12).le).le) ((W _ s4 h8).bind fun _ _ _ h12 => G0.ok _ h12)).le
theorem g_named (n : Nat) (id p : Int) (s : RS) (l : s.i < L.length) (h : 4 * (L.length - s.i) + 1 ≤ n) : G1 L s (sNamed L n id p s) := by
  have W := fun x s l => g_want hL x s l
  have A := gAll hL n
  unfold sNamed
  refine (g_take hL 1 (by decide) s l).bind fun _ s2 h3 h4 => G0.ite ((A.call _ _ s2 h4 (by omega)).bind fun _ s3 _ h6 => ((W _ s3 h6).bind fun _ _ _ h8 => G0.ok _ h8).le).le (G0.ite ?_ ?_)
  · exact ((A.place s2 h4 (by omega)).bind fun _ s3 h5 h6 => ((W _ s3 h6).bind fun _ s4 h7 h8 => ((A.expr 1 s4 h8 (by omega)).bind fun _ s5 _ h10 => ((W _ s5 h10).bind fun _ _ _ h12 => G0.ok _ h12).le).le).le).le
  · exact ((W _ s2 h4).bind fun _ s3 h5 h6 => ((A.expr 1 s3 h6 (by omega)).bind fun _ s4 _ h8 => ((W _ s4 h8).bind fun _ _ _ h12 => G0.ok _ h12).le).le).le
theorem g_stmt : ∀ n, (∀ s : RS, s.i < L.length → 4 * (L.length - s.i) + 1 ≤ n → G1 L s (sBlock L n s)) ∧ (∀ r (s : RS), s.i < L.length → 4 * (L.length - s.i) + 3 ≤ n → G0 L s (sStmts L n r s)) ∧ (∀ s : RS, s.i < L.length → 4 * (L.length - s.i) + 2 ≤ n → G1 L s (sStmt L n s))
  | 0 => ⟨fun _ _ h => by omega, fun _ _ _ h => by omega, fun _ _ h => by omega⟩
  | n + 1 => by
    obtain ⟨h1, h2, h3⟩ := g_stmt n
    have W := fun x s l => g_want hL x s l
    have A := gAll hL n
    refine ⟨fun s l h => ?_, fun r s l h => ?_, fun s l h => ?_⟩
    · simp only [sBlock]
      exact (W _ s l).bind fun _ s1 g1 g2 => (h2 _ s1 g2 (by omega)).bind fun _ s2 _ g4 => ((W _ s2 g4).bind fun _ _ _ g6 => G0.ok _ g6).le
    · simp only [sStmts]
      exact G0.ite (G0.ok _ l) ((h3 s l (by omega)).bind fun _ s1 g1 g2 => h2 _ s1 g2 (by omega)).le
    · simp only [sStmt]
      have l' : s.st.i < L.length := l
      have hi : s.st.i = s.i := rfl
      have key := G1.mayT hL l' (x := [108, 101, 116]) (X := fun s1 => (sLet L n s.st.n (cur L s.st).p s1).bind fun x s2 => .ok x s2) (Y := fun s1 => (sMay L [105, 102] s1).bind fun b s1 => bif b then
      (sExpr L n 1 s1).bind fun e s2 => (sBlock L n s2).bind fun l s3 => (sMay L [101, 108, 115, 101] s3).bind fun b s4 =>
        bif b then (sBlock L n s4).bind fun m s5 => .ok (.mk 4 s.st.n [] 0 0 (cur L s.st).p [e] l m) s5 else .ok (.mk 4 s.st.n [] 0 0 (cur L s.st).p [e] l []) s4
    else (sMay L [119, 104, 105, 108, 101] s1).bind fun b s1 => bif b then
      (sExpr L n 1 s1).bind fun e s2 => (sBlock L n s2).bind fun l s3 => .ok (.mk 5 s.st.n [] 0 0 (cur L s.st).p [e] l []) s3
    else (sMay L [114, 101, 116, 117, 114, 110] s1).bind fun b s1 => bif b then
      bif isT L s1 [59] then (sWant L [59] s1).bind fun _ s2 => .ok (.mk 6 s.st.n [] 0 0 (cur L s.st).p [] [] []) s2
      else (sExpr L n 1 s1).bind fun e s2 => (sWant L [59] s2).bind fun _ s3 => .ok (.mk 6 s.st.n [] 0 0 (cur L s.st).p [e] [] []) s3
    else (sMay L [112, 114, 105, 110, 116] s1).bind fun b s1 => bif b then
      (sExpr L n 1 s1).bind fun e s2 => (sWant L [59] s2).bind fun _ s3 => .ok (.mk 7 s.st.n [] 0 0 (cur L s.st).p [e] [] []) s3
    else (sNamed L n s.st.n (cur L s.st).p s1).bind fun x s2 => .ok x s2)
        (fun s' g1 g2 => ((g_let hL n _ _ s' g2 (by omega)).bind fun _ _ _ g4 => G0.ok _ g4).le) ?_
      · exact ⟨key.1, fun a s' e => key.2 a s' e⟩
      refine G1.mayT hL l' (fun s' g1 g2 => ?_) (G1.mayT hL l' (fun s' g1 g2 => ?_) (G1.mayT hL l' (fun s' g1 g2 => ?_) (G1.mayT hL l' (fun s' g1 g2 => ?_) ?_)))
      · exact ((A.expr 1 s' g2 (by omega)).bind fun _ s2 g3 g4 => ((h1 s2 g4 (by omega)).bind fun _ s3 g5 g6 => G0.mayT hL g6 (fun s4 g7 g8 => ((h1 s4 g8 (by omega)).bind fun _ _ _ g10 => G0.ok _ g10).le) (G0.ok _ g6)).le).le
      · exact ((A.expr 1 s' g2 (by omega)).bind fun _ s2 g3 g4 => ((h1 s2 g4 (by omega)).bind fun _ _ _ g6 => G0.ok _ g6).le).le
      · exact G0.ite ((W _ s' g2).bind fun _ _ _ g4 => G0.ok _ g4).le ((A.expr 1 s' g2 (by omega)).bind fun _ s2 _ g4 => ((W _ s2 g4).bind fun _ _ _ g6 => G0.ok _ g6).le).le
      · exact ((A.expr 1 s' g2 (by omega)).bind fun _ s2 _ g4 => ((W _ s2 g4).bind fun _ _ _ g6 => G0.ok _ g6).le).le
      · exact (g_named hL n _ _ s.st l' (by omega)).bind fun _ _ _ g4 => G0.ok _ g4
theorem g_param (s : RS) (l : s.i < L.length) : G1 L s (sParam L s) := (g_take hL 1 (by decide) s l).bind fun _ s1 _ h2 => ((g_want hL _ s1 h2).bind fun _ s2 _ h4 => ((g_kind hL _ s2 h4).bind fun _ _ _ h6 => G0.ok _ h6).le).le
theorem g_pmore : ∀ (n : Nat) (r : List Pm) (s : RS), s.i < L.length → L.length - s.i + 1 ≤ n → G0 L s (sPMore L n r s)
  | 0, _, _, _, h => by omega
  | n + 1, r, s, l, h => by
    simp only [sPMore]
    exact G0.mayT hL l (fun s' h1 h2 => ((g_param hL s' h2).bind fun _ s2 h3 h4 => g_pmore n _ s2 h4 (by omega)).le) (G0.ok _ l)
theorem g_fn (n : Nat) (s : RS) (l : s.i < L.length) (h : 4 * (L.length - s.i) + 1 ≤ n) : G1 L s (sFn L n s) := by
  have W := fun x s l => g_want hL x s l
  have B := (g_stmt hL n).1
  unfold sFn
  refine (W _ s l).bind fun t s1 h1 h2 => ((g_take hL 1 (by decide) s1 h2).bind fun u s2 h3 h4 => (G1.bind (?_ : G1 L s2 (sParams L n s2)) fun ps s3 h5 h6 => G0.mayT hL h6 (fun s4 h7 h8 => ((g_kind hL _ s4 h8).bind fun _ s5 h9 h10 => ((B s5 h10 (by omega)).bind fun _ _ _ h12 => G0.ok _ h12).le).le) ((B s3 h6 (by omega)).bind fun _ _ _ h12 => G0.ok _ h12).le).le).le
  unfold sParams
  exact (W _ s2 h4).bind fun _ s3 h5 h6 => G0.ite ((W _ s3 h6).bind fun _ _ _ h8 => G0.ok _ h8).le ((g_param hL s3 h6).bind fun _ s4 h7 h8 => (g_pmore hL n _ s4 h8 (by omega)).bind fun _ s5 _ h10 => ((W _ s5 h10).bind fun _ _ _ h12 => G0.ok _ h12).le).le
theorem g_fns (N : Nat) (hN : 4 * L.length + 1 ≤ N) : ∀ (n : Nat) (r : List Fn) (s : RS), s.i < L.length → L.length - s.i + 1 ≤ n → G0 L s (sFns L N n r s)
  | 0, _, _, _, h => by omega
  | n + 1, r, s, l, h => by
    simp only [sFns]
    exact G0.ite (G0.ok _ l) ((g_fn hL N s l (by omega)).bind fun _ s2 h3 h4 => g_fns N hN n _ s2 h4 (by omega)).le
/-- How much fuel is enough. -/
abbrev fuel (L : List T) : Nat := 4 * L.length + 1
theorem prog_no (h0 : 0 < L.length) : sProg L (fuel L) ≠ .out :=
  ((g_fn hL (fuel L) ⟨0, 0, 0⟩ h0 (by simp only [fuel]; omega)).bind fun f s1 h1 h2 => g_fns hL (fuel L) (Nat.le_refl _) (fuel L) [f] s1 h2 (by simp only [fuel]; omega)).1
end
end Go.Avm
