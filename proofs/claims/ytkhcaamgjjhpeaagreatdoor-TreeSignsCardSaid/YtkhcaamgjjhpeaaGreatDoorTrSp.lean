/-
  Texts as programs: what a reader of tokens answers, in plain words.
-/
import Derived.Test.YtkhcaamgjjhpeaaGreatDoorAvmRo
set_option linter.unusedSectionVars false
namespace Go.Avm

/-- A token. -/
structure T where
  k : Int
  p : Int
  t : List UInt8
  n : Int
  deriving Inhabited
def tD (x : T) : D := .agg [.int .u8 x.k, .int .i64 x.p, .str x.t, .int .i64 x.n]
/-- An expression. -/
inductive Ex where
  | mk (k o : Int) (nm : List UInt8) (n p : Int) (as : List Ex)
/-- A statement. -/
inductive St' where
  | mk (k id : Int) (nm : List UInt8) (ty n p : Int) (es : List Ex) (bd el : List St')
mutual
def exD : Ex → D
  | .mk k o nm n p as => .agg [.int .u8 k, .int .u8 o, .str nm, .int .i64 n, .int .i64 p, .ro (exL as)]
def exL : List Ex → List D
  | [] => []
  | x :: l => exD x :: exL l
end
mutual
def stD : St' → D
  | .mk k id nm ty n p es bd el => .agg [.int .u8 k, .int .i64 id, .str nm, .int .u8 ty, .int .i64 n, .int .i64 p, .ro (exL es), .ro (stL bd), .ro (stL el)]
def stL : List St' → List D
  | [] => []
  | x :: l => stD x :: stL l
end
structure Pm where
  nm : List UInt8
  ty : Int
  p : Int
def pmD (x : Pm) : D := .agg [.str x.nm, .int .u8 x.ty, .int .i64 x.p]
structure Fn where
  nm : List UInt8
  ps : List Pm
  res : Int
  bd : List St'
  p : Int
def fnD (x : Fn) : D := .agg [.str x.nm, .ro (x.ps.map pmD), .int .u8 x.res, .ro (stL x.bd), .int .i64 x.p]
theorem exL_map : ∀ l, exL l = l.map exD
  | [] => rfl
  | x :: l => by simp [exL, exL_map l]
theorem stL_map : ∀ l, stL l = l.map stD
  | [] => rfl
  | x :: l => by simp [stL, stL_map l]
theorem exL_app (l m : List Ex) : exL (l ++ m) = exL l ++ exL m := by simp [exL_map]
theorem stL_app (l m : List St') : stL (l ++ m) = stL l ++ stL m := by simp [stL_map]
theorem exL_len (l : List Ex) : (exL l).length = l.length := by simp [exL_map]
theorem stL_len (l : List St') : (stL l).length = l.length := by simp [stL_map]

/-- How far a reader is: the token, the brackets that are open, the statements. -/
structure RS where
  i : Nat
  op : Int
  n : Int
inductive Res (α : Type) where
  | ok (a : α) (s : RS)
  | bad (p e : Int) (s : RS)
  | out
def Res.bind {α β : Type} (r : Res α) (f : α → RS → Res β) : Res β := match r with
  | .ok a s => f a s
  | .bad p e s => .bad p e s
  | .out => .out
def w64 (x : Int) : Int := IntKind.wrap .i64 x

section
variable (L : List T)
def cur (s : RS) : T := L.getD s.i default
def isT (s : RS) (x : List UInt8) : Bool := ((cur L s).k == 2 || (cur L s).k == 4) && (cur L s).t == x
def RS.nx (s : RS) : RS := { s with i := s.i + 1 }
def fail {α : Type} (s : RS) : Res α := .bad (cur L s).p 4 s
/-- That must come. -/
def sWant (x : List UInt8) (s : RS) : Res T :=
  bif isT L s x then
    bif x == [40] || x == [91] || x == [123] then
      bif decide (200 < w64 (s.op + 1)) then .bad (cur L s).p 5 { s with op := w64 (s.op + 1) } else .ok (cur L s) ⟨s.i + 1, w64 (s.op + 1), s.n⟩
    else bif x == [41] || x == [93] || x == [125] then .ok (cur L s) ⟨s.i + 1, w64 (s.op - 1), s.n⟩
    else .ok (cur L s) s.nx
  else fail L s
def sTake (k : Int) (s : RS) : Res T := bif (cur L s).k == k then .ok (cur L s) s.nx else fail L s
def sMay (x : List UInt8) (s : RS) : Res Bool := bif isT L s x then (sWant L x s).bind fun _ s => .ok true s else .ok false s
def tName : Int → List UInt8
  | 1 => [105, 110, 116]
  | 2 => [98, 111, 111, 108]
  | 3 => [97, 114, 114]
  | _ => []
def sKind : List Int → RS → Res Int
  | [], s => fail L s
  | k :: r, s => (sMay L (tName k) s).bind fun b s => bif b then .ok k s else sKind r s
/-- The signs of two: how strongly they bind. -/
def signs : List (Int × List UInt8 × Int) := [(1, [43], 9), (2, [45], 9), (3, [42], 10), (4, [47], 10), (5, [37], 10), (6, [38], 7), (7, [124], 5), (8, [94], 6), (9, [60, 60], 8), (10, [62, 62], 8), (11, [60], 4), (12, [60, 61], 4), (13, [62], 4), (14, [62, 61], 4), (15, [61, 61], 3), (16, [33, 61], 3), (17, [38, 38], 2), (18, [124, 124], 1)]
def signOf (s : RS) (least : Int) : List (Int × List UInt8 × Int) → Int × Int
  | [] => (0, 0)
  | (o, x, k) :: r => bif decide (least ≤ k) && isT L s x then (o, k) else signOf s least r
def sSign (least : Int) (s : RS) : Int × Int := signOf L s least signs
mutual
def sOne : Nat → RS → Res Ex
  | 0, _ => .out
  | n + 1, s => (sMay L [45] s).bind fun b s1 => bif b then (sOne n s1).bind fun e s2 => .ok (.mk 8 19 [] 0 (cur L s).p [e]) s2 else
    (sMay L [126] s1).bind fun b s1 => bif b then (sOne n s1).bind fun e s2 => .ok (.mk 8 20 [] 0 (cur L s).p [e]) s2 else
    (sMay L [33] s1).bind fun b s1 => bif b then (sOne n s1).bind fun e s2 => .ok (.mk 8 21 [] 0 (cur L s).p [e]) s2 else
    bif (cur L s).k == 3 then .ok (.mk 1 0 [] (cur L s).n (cur L s).p []) s1.nx else
    (sMay L [116, 114, 117, 101] s1).bind fun b s1 => bif b then .ok (.mk 2 0 [] 1 (cur L s).p []) s1 else
    (sMay L [102, 97, 108, 115, 101] s1).bind fun b s1 => bif b then .ok (.mk 2 0 [] 0 (cur L s).p []) s1 else
    (sMay L [114, 101, 97, 100] s1).bind fun b s1 => bif b then (sWant L [40] s1).bind fun _ s2 => (sWant L [41] s2).bind fun _ s3 => .ok (.mk 6 0 [] 0 (cur L s).p []) s3 else
    (sMay L [108, 101, 110] s1).bind fun b s1 => bif b then (sWant L [40] s1).bind fun _ s2 => (sTake L 1 s2).bind fun t s3 => (sWant L [41] s3).bind fun _ s4 => .ok (.mk 7 0 t.t 0 (cur L s).p []) s4 else
    bif isT L s1 [40] then (sWant L [40] s1).bind fun _ s2 => (sExpr n 1 s2).bind fun e s3 => (sWant L [41] s3).bind fun _ s4 => .ok e s4 else
    (sTake L 1 s1).bind fun t s2 => bif isT L s2 [91] then (sPlace n s2).bind fun e s3 => .ok (.mk 4 0 t.t 0 (cur L s).p [e]) s3 else
    bif isT L s2 [40] then (sCall n t.t (cur L s).p s2).bind fun e s3 => .ok e s3 else .ok (.mk 3 0 t.t 0 (cur L s).p []) s2
def sPlace : Nat → RS → Res Ex
  | 0, _ => .out
  | n + 1, s => (sWant L [91] s).bind fun _ s1 => (sExpr n 1 s1).bind fun e s2 => (sWant L [93] s2).bind fun _ s3 => .ok e s3
def sCall : Nat → List UInt8 → Int → RS → Res Ex
  | 0, _, _, _ => .out
  | n + 1, nm, p, s => (sArgs n s).bind fun l s1 => .ok (.mk 5 0 nm 0 p l) s1
def sArgs : Nat → RS → Res (List Ex)
  | 0, _ => .out
  | n + 1, s => (sWant L [40] s).bind fun _ s1 => bif isT L s1 [41] then (sWant L [41] s1).bind fun _ s2 => .ok [] s2 else
    (sExpr n 1 s1).bind fun e s2 => (sMore n [e] s2).bind fun l s3 => (sWant L [41] s3).bind fun _ s4 => .ok l s4
def sMore : Nat → List Ex → RS → Res (List Ex)
  | 0, _, _ => .out
  | n + 1, l, s => (sMay L [44] s).bind fun b s1 => bif b then (sExpr n 1 s1).bind fun e s2 => sMore n (l ++ [e]) s2 else .ok l s1
def sExpr : Nat → Int → RS → Res Ex
  | 0, _, _ => .out
  | n + 1, least, s => (sOne n s).bind fun e s1 => sTail n least e s1
def sTail : Nat → Int → Ex → RS → Res Ex
  | 0, _, _, _ => .out
  | n + 1, least, e, s => bif (sSign L least s).1 == 0 then .ok e s else
    (sExpr n (w64 ((sSign L least s).2 + 1)) s.nx).bind fun r s2 => sTail n least (.mk 9 (sSign L least s).1 [] 0 (cur L s).p [e, r]) s2
end
def sLet (n : Nat) (id p : Int) (s1 : RS) : Res St' :=
  (sTake L 1 s1).bind fun t s2 => (sWant L [58] s2).bind fun _ s3 => (sKind L [1, 2, 3] s3).bind fun ty s4 =>
    bif ty == 3 then (sWant L [91] s4).bind fun _ s5 => (sTake L 3 s5).bind fun m s6 => (sWant L [93] s6).bind fun _ s7 => (sWant L [59] s7).bind fun _ s8 => .ok (.mk 1 id t.t ty m.n p [] [] []) s8
    else (sMay L [61] s4).bind fun b s5 => bif b then (sExpr L n 1 s5).bind fun e s6 => (sWant L [59] s6).bind fun _ s7 => .ok (.mk 1 id t.t ty 0 p [e] [] []) s7
    else (sWant L [59] s5).bind fun _ s6 => .ok (.mk 1 id t.t ty 0 p [] [] []) s6
def sNamed (n : Nat) (id p : Int) (s1 : RS) : Res St' :=
  (sTake L 1 s1).bind fun t s2 => bif isT L s2 [40] then
    (sCall L n t.t p s2).bind fun e s3 => (sWant L [59] s3).bind fun _ s4 => .ok (.mk 8 id [] 0 0 p [e] [] []) s4
  else bif isT L s2 [91] then
    (sPlace L n s2).bind fun e s3 => (sWant L [61] s3).bind fun _ s4 => (sExpr L n 1 s4).bind fun f s5 => (sWant L [59] s5).bind fun _ s6 => .ok (.mk 3 id t.t 0 0 p [e, f] [] []) s6
  else (sWant L [61] s2).bind fun _ s3 => (sExpr L n 1 s3).bind fun e s4 => (sWant L [59] s4).bind fun _ s5 => .ok (.mk 2 id t.t 0 0 p [e] [] []) s5
/-- A statement begins: it has a number. -/
def RS.st (s : RS) : RS := { s with n := w64 (s.n + 1) }
mutual
def sBlock : Nat → RS → Res (List St')
  | 0, _ => .out
  | n + 1, s => (sWant L [123] s).bind fun _ s1 => (sStmts n [] s1).bind fun l s2 => (sWant L [125] s2).bind fun _ s3 => .ok l s3
def sStmts : Nat → List St' → RS → Res (List St')
  | 0, _, _ => .out
  | n + 1, l, s => bif isT L s [125] then .ok l s else (sStmt n s).bind fun x s1 => sStmts n (l ++ [x]) s1
def sStmt : Nat → RS → Res St'
  | 0, _ => .out
  | n + 1, s0 =>
    (sMay L [108, 101, 116] s0.st).bind fun b s1 => bif b then (sLet L n s0.st.n (cur L s0.st).p s1).bind fun x s2 => .ok x s2
    else (sMay L [105, 102] s1).bind fun b s1 => bif b then
      (sExpr L n 1 s1).bind fun e s2 => (sBlock n s2).bind fun l s3 => (sMay L [101, 108, 115, 101] s3).bind fun b s4 =>
        bif b then (sBlock n s4).bind fun m s5 => .ok (.mk 4 s0.st.n [] 0 0 (cur L s0.st).p [e] l m) s5 else .ok (.mk 4 s0.st.n [] 0 0 (cur L s0.st).p [e] l []) s4
    else (sMay L [119, 104, 105, 108, 101] s1).bind fun b s1 => bif b then
      (sExpr L n 1 s1).bind fun e s2 => (sBlock n s2).bind fun l s3 => .ok (.mk 5 s0.st.n [] 0 0 (cur L s0.st).p [e] l []) s3
    else (sMay L [114, 101, 116, 117, 114, 110] s1).bind fun b s1 => bif b then
      bif isT L s1 [59] then (sWant L [59] s1).bind fun _ s2 => .ok (.mk 6 s0.st.n [] 0 0 (cur L s0.st).p [] [] []) s2
      else (sExpr L n 1 s1).bind fun e s2 => (sWant L [59] s2).bind fun _ s3 => .ok (.mk 6 s0.st.n [] 0 0 (cur L s0.st).p [e] [] []) s3
    else (sMay L [112, 114, 105, 110, 116] s1).bind fun b s1 => bif b then
      (sExpr L n 1 s1).bind fun e s2 => (sWant L [59] s2).bind fun _ s3 => .ok (.mk 7 s0.st.n [] 0 0 (cur L s0.st).p [e] [] []) s3
    else (sNamed L n s0.st.n (cur L s0.st).p s1).bind fun x s2 => .ok x s2
end
def sParam (s : RS) : Res Pm := (sTake L 1 s).bind fun t s1 => (sWant L [58] s1).bind fun _ s2 => (sKind L [1, 2, 3] s2).bind fun k s3 => .ok ⟨t.t, k, t.p⟩ s3
def sPMore : Nat → List Pm → RS → Res (List Pm)
  | 0, _, _ => .out
  | n + 1, l, s => (sMay L [44] s).bind fun b s1 => bif b then (sParam L s1).bind fun e s2 => sPMore n (l ++ [e]) s2 else .ok l s1
def sParams (n : Nat) (s : RS) : Res (List Pm) := (sWant L [40] s).bind fun _ s1 => bif isT L s1 [41] then (sWant L [41] s1).bind fun _ s2 => .ok [] s2 else
    (sParam L s1).bind fun e s2 => (sPMore L n [e] s2).bind fun l s3 => (sWant L [41] s3).bind fun _ s4 => .ok l s4
def sFn (n : Nat) (s : RS) : Res Fn := (sWant L [102, 110] s).bind fun t s1 => (sTake L 1 s1).bind fun u s2 => (sParams L n s2).bind fun ps s3 => (sMay L [58] s3).bind fun b s4 =>
  bif b then (sKind L [1, 2] s4).bind fun k s5 => (sBlock L n s5).bind fun l s6 => .ok ⟨u.t, ps, k, l, t.p⟩ s6
  else (sBlock L n s4).bind fun l s5 => .ok ⟨u.t, ps, 0, l, t.p⟩ s5
def sFns (N : Nat) : Nat → List Fn → RS → Res (List Fn)
  | 0, _, _ => .out
  | n + 1, l, s => bif (cur L s).k == 0 then .ok l s else (sFn L N s).bind fun f s1 => sFns N n (l ++ [f]) s1
def sProg (n : Nat) : Res (List Fn) := (sFn L n ⟨0, 0, 0⟩).bind fun f s1 => sFns L n n [f] s1
end
/-! ### Readers go on -/
def Gr {α : Type} (s : RS) (r : Res α) : Prop := ∀ a s', r = .ok a s' → s.i < s'.i
def Gq {α : Type} (s : RS) (r : Res α) : Prop := ∀ a s', r = .ok a s' → s.i ≤ s'.i
theorem Gr.le {α : Type} {s : RS} {r : Res α} (h : Gr s r) : Gq s r := fun a s' e => Nat.le_of_lt (h a s' e)
theorem Gr.bind {α β : Type} {s : RS} {r : Res α} {f : α → RS → Res β} (h : Gr s r) (hf : ∀ a s', r = .ok a s' → Gq s' (f a s')) : Gr s (r.bind f) := fun b s2 e => by
  cases r with
  | ok a s1 => exact Nat.lt_of_lt_of_le (h a s1 rfl) (hf a s1 rfl b s2 e)
  | bad p q s1 => cases e
  | out => cases e
theorem Gq.bind {α β : Type} {s : RS} {r : Res α} {f : α → RS → Res β} (h : Gq s r) (hf : ∀ a s', r = .ok a s' → Gr s' (f a s')) : Gr s (r.bind f) := fun b s2 e => by
  cases r with
  | ok a s1 => exact Nat.lt_of_le_of_lt (h a s1 rfl) (hf a s1 rfl b s2 e)
  | bad p q s1 => cases e
  | out => cases e
theorem Gq.bindq {α β : Type} {s : RS} {r : Res α} {f : α → RS → Res β} (h : Gq s r) (hf : ∀ a s', r = .ok a s' → Gq s' (f a s')) : Gq s (r.bind f) := fun b s2 e => by
  cases r with
  | ok a s1 => exact Nat.le_trans (h a s1 rfl) (hf a s1 rfl b s2 e)
  | bad p q s1 => cases e
  | out => cases e
theorem Gq.ok {α : Type} (a : α) (s : RS) : Gq s (.ok a s) := fun _ _ e => by cases e; exact Nat.le_refl _
theorem Gq.out {α : Type} (s : RS) : Gq s (Res.out : Res α) := fun _ _ e => by cases e
theorem Gr.out {α : Type} (s : RS) : Gr s (Res.out : Res α) := fun _ _ e => by cases e
theorem want_gr (L : List T) (x : List UInt8) (s : RS) : Gr s (sWant L x s) := fun a s' e => by
  unfold sWant at e
  cases h : isT L s x <;> rw [h] at e
  · cases e
  · simp only [cond_true] at e
    cases h1 : (x == [40] || x == [91] || x == [123]) <;> rw [h1] at e
    · simp only [cond_false] at e
      cases h2 : (x == [41] || x == [93] || x == [125]) <;> rw [h2] at e <;> cases e <;> exact Nat.lt_succ_self _
    · simp only [cond_true] at e
      cases h2 : decide (200 < w64 (s.op + 1)) <;> rw [h2] at e <;> cases e
      exact Nat.lt_succ_self _
theorem take_gr (L : List T) (k : Int) (s : RS) : Gr s (sTake L k s) := fun a s' e => by
  unfold sTake at e
  cases h : ((cur L s).k == k) <;> rw [h] at e <;> cases e
  exact Nat.lt_succ_self _
theorem may_gq (L : List T) (x : List UInt8) (s : RS) : Gq s (sMay L x s) := fun a s' e => by
  unfold sMay at e
  cases h : isT L s x <;> rw [h] at e
  · cases e; exact Nat.le_refl _
  · exact ((want_gr L x s).bind fun _ _ _ => Gq.ok _ _) a s' e |> Nat.le_of_lt
theorem Gr.mayT {α : Type} {L : List T} {x : List UInt8} {s : RS} {X Y : RS → Res α} (hX : ∀ s', s.i < s'.i → Gq s' (X s')) (hY : Gr s (Y s)) : Gr s ((sMay L x s).bind fun b s1 => bif b then X s1 else Y s1) := fun a s' e => by
  unfold sMay at e
  cases h : isT L s x <;> rw [h] at e
  · exact hY a s' e
  · simp only [cond_true] at e
    cases hw : sWant L x s <;> rw [hw] at e
    · rename_i t s1
      have := want_gr L x s t s1 hw
      exact Nat.lt_of_lt_of_le this (hX s1 this a s' e)
    · cases e
    · cases e
theorem Gr.ite {α : Type} {c : Bool} {s : RS} {X Y : Res α} (hX : Gr s X) (hY : Gr s Y) : Gr s (bif c then X else Y) := by cases c <;> assumption
theorem Gq.ite {α : Type} {c : Bool} {s : RS} {X Y : Res α} (hX : Gq s X) (hY : Gq s Y) : Gq s (bif c then X else Y) := by cases c <;> assumption
theorem tree_gr (L : List T) : ∀ n, (∀ s, Gr s (sOne L n s)) ∧ (∀ s, Gr s (sPlace L n s)) ∧ (∀ nm p s, Gr s (sCall L n nm p s)) ∧ (∀ s, Gr s (sArgs L n s)) ∧ (∀ l s, Gq s (sMore L n l s)) ∧ (∀ k s, Gr s (sExpr L n k s)) ∧ (∀ k e s, Gq s (sTail L n k e s))
  | 0 => ⟨fun s => Gr.out s, fun s => Gr.out s, fun _ _ s => Gr.out s, fun s => Gr.out s, fun _ s => Gq.out s, fun _ s => Gr.out s, fun _ _ s => Gq.out s⟩
  | n + 1 => by
    obtain ⟨h1, h2, h3, h4, h5, h6, h7⟩ := tree_gr L n
    refine ⟨fun s => ?_, fun s => ?_, fun nm p s => ?_, fun s => ?_, fun l s => ?_, fun k s => ?_, fun k e s => ?_⟩
    · simp only [sOne]
      have un : ∀ (f : Ex → Ex) s', Gq s' ((sOne L n s').bind fun e s2 => .ok (f e) s2) := fun f s' => ((h1 s').bind fun _ _ _ => Gq.ok _ _).le
      refine Gr.mayT (fun s' _ => un _ s') (Gr.mayT (fun s' _ => un _ s') (Gr.mayT (fun s' _ => un _ s') (Gr.ite (fun _ _ e => by cases e; exact Nat.lt_succ_self _) ?_)))
      refine Gr.mayT (fun s' _ => Gq.ok _ _) (Gr.mayT (fun s' _ => Gq.ok _ _) ?_)
      refine Gr.mayT (fun s' _ => ((want_gr L _ s').bind fun _ _ _ => ((want_gr L _ _).bind fun _ _ _ => Gq.ok _ _).le).le) ?_
      refine Gr.mayT (fun s' _ => ((want_gr L _ s').bind fun _ _ _ => ((take_gr L _ _).bind fun _ _ _ => ((want_gr L _ _).bind fun _ _ _ => Gq.ok _ _).le).le).le) ?_
      refine Gr.ite ((want_gr L _ s).bind fun _ _ _ => ((h6 _ _).bind fun _ _ _ => ((want_gr L _ _).bind fun _ _ _ => Gq.ok _ _).le).le) ?_
      refine (take_gr L _ s).bind fun _ s' _ => Gq.ite ((h2 s').bind fun _ _ _ => Gq.ok _ _).le (Gq.ite ((h3 _ _ s').bind fun _ _ _ => Gq.ok _ _).le (Gq.ok _ _))
    · simp only [sPlace]
      exact (want_gr L _ s).bind fun _ _ _ => ((h6 _ _).bind fun _ _ _ => ((want_gr L _ _).bind fun _ _ _ => Gq.ok _ _).le).le
    · simp only [sCall]
      exact (h4 s).bind fun _ _ _ => Gq.ok _ _
    · simp only [sArgs]
      exact (want_gr L _ s).bind fun _ s1 _ => Gq.ite ((want_gr L _ s1).bind fun _ _ _ => Gq.ok _ _).le ((h6 _ s1).bind fun _ s2 _ => (h5 _ s2).bindq fun _ s3 _ => ((want_gr L _ s3).bind fun _ _ _ => Gq.ok _ _).le).le
    · simp only [sMore]
      intro a s' e
      unfold sMay at e
      cases h : isT L s [44] <;> rw [h] at e
      · cases e; exact Nat.le_refl _
      · simp only [cond_true] at e
        cases hw : sWant L [44] s <;> rw [hw] at e
        · rename_i t s1
          have g1 := want_gr L _ s t s1 hw
          exact Nat.le_trans (Nat.le_of_lt g1) (((h6 1 s1).bind fun _ s2 _ => h5 _ s2).le a s' e)
        · cases e
        · cases e
    · simp only [sExpr]
      exact (h1 s).bind fun _ s1 _ => h7 _ _ s1
    · simp only [sTail]
      refine Gq.ite (Gq.ok _ _) (fun a s' e2 => ?_)
      have := ((h6 (w64 ((sSign L k s).2 + 1)) s.nx).bind fun _ s2 _ => h7 _ _ s2) a s' e2
      simp only [RS.nx] at this
      omega
theorem exprGrows (L : List T) (n : Nat) (k : Int) (s : RS) (a : Ex) (s2 : RS) (h : sExpr L n k s = .ok a s2) : s.i < s2.i := (tree_gr L n).2.2.2.2.2.1 k s a s2 h
theorem expr_gr (L : List T) (n : Nat) (k : Int) (s : RS) : Gr s (sExpr L n k s) := (tree_gr L n).2.2.2.2.2.1 k s
theorem kind_gr (L : List T) : ∀ (l : List Int) (s : RS), Gr s (sKind L l s)
  | [], s => fun _ _ e => by cases e
  | k :: r, s => by
    simp only [sKind]
    exact Gr.mayT (fun s' _ => Gq.ok _ _) (kind_gr L r s)
theorem let_gr (L : List T) (n : Nat) (id p : Int) (s : RS) : Gr s (sLet L n id p s) := by
  unfold sLet
  refine (take_gr L _ s).bind fun _ s2 _ => ((want_gr L _ s2).bind fun _ s3 _ => ((kind_gr L _ s3).bind fun _ s4 _ => Gq.ite ?_ ?_).le).le
  · exact ((want_gr L _ s4).bind fun _ s5 _ => ((take_gr L _ s5).bind fun _ s6 _ => ((want_gr L _ s6).bind fun _ s7 _ => ((want_gr L _ s7).bind fun _ _ _ => Gq.ok _ _).le).le).le).le
  · exact (Gr.mayT (fun s' _ => ((expr_gr L n 1 s').bind fun _ s6 _ => ((want_gr L _ s6).bind fun _ _ _ => Gq.ok _ _).le).le) ((want_gr L _ s4).bind fun _ _ _ => Gq.ok _ _)).le
theorem named_gr (L : List T) (n : Nat) (id p : Int) (s : RS) : Gr s (sNamed L n id p s) := by
  unfold sNamed
  obtain ⟨_, h2, h3, _⟩ := tree_gr L n
  refine (take_gr L _ s).bind fun _ s2 _ => Gq.ite ((h3 _ _ s2).bind fun _ s3 _ => ((want_gr L _ s3).bind fun _ _ _ => Gq.ok _ _).le).le (Gq.ite ?_ ?_)
  · exact ((h2 s2).bind fun _ s3 _ => ((want_gr L _ s3).bind fun _ s4 _ => ((expr_gr L n 1 s4).bind fun _ s5 _ => ((want_gr L _ s5).bind fun _ _ _ => Gq.ok _ _).le).le).le).le
  · exact ((want_gr L _ s2).bind fun _ s3 _ => ((expr_gr L n 1 s3).bind fun _ s4 _ => ((want_gr L _ s4).bind fun _ _ _ => Gq.ok _ _).le).le).le
theorem Gr.st {α : Type} {s : RS} {r : Res α} (h : Gr s.st r) : Gr s r := fun a s' e => h a s' e
theorem stmt_gr (L : List T) : ∀ n, (∀ s, Gr s (sBlock L n s)) ∧ (∀ l s, Gq s (sStmts L n l s)) ∧ (∀ s, Gr s (sStmt L n s))
  | 0 => ⟨fun s => Gr.out s, fun _ s => Gq.out s, fun s => Gr.out s⟩
  | n + 1 => by
    obtain ⟨h1, h2, h3⟩ := stmt_gr L n
    refine ⟨fun s => ?_, fun l s => ?_, fun s => ?_⟩
    · simp only [sBlock]
      exact (want_gr L _ s).bind fun _ s1 _ => (h2 _ s1).bindq fun _ s2 _ => ((want_gr L _ s2).bind fun _ _ _ => Gq.ok _ _).le
    · simp only [sStmts]
      exact Gq.ite (Gq.ok _ _) ((h3 s).bind fun _ s1 _ => h2 _ s1).le
    · simp only [sStmt]
      refine Gr.st (Gr.mayT (fun s' _ => ((let_gr L n _ _ s').bind fun _ _ _ => Gq.ok _ _).le) (Gr.mayT (fun s' _ => ?_) (Gr.mayT (fun s' _ => ?_) (Gr.mayT (fun s' _ => ?_) (Gr.mayT (fun s' _ => ?_) ?_)))))
      · exact ((expr_gr L n 1 s').bind fun _ s2 _ => ((h1 s2).bind fun _ s3 _ => (may_gq L _ s3).bindq fun b s4 _ => Gq.ite ((h1 s4).bind fun _ _ _ => Gq.ok _ _).le (Gq.ok _ _)).le).le
      · exact ((expr_gr L n 1 s').bind fun _ s2 _ => ((h1 s2).bind fun _ _ _ => Gq.ok _ _).le).le
      · exact Gq.ite ((want_gr L _ s').bind fun _ _ _ => Gq.ok _ _).le ((expr_gr L n 1 s').bind fun _ s2 _ => ((want_gr L _ s2).bind fun _ _ _ => Gq.ok _ _).le).le
      · exact ((expr_gr L n 1 s').bind fun _ s2 _ => ((want_gr L _ s2).bind fun _ _ _ => Gq.ok _ _).le).le
      · exact (named_gr L n _ _ _).bind fun _ _ _ => Gq.ok _ _
end Go.Avm
