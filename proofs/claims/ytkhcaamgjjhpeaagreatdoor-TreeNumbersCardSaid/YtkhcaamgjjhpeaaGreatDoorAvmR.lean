/-
  The abstract machine, part R: operations on open data. Where a value isn't known the prover says what it is, with a proof ('Hint'); what the run meets and what the prover named are handed out as pairs of sides, which the kernel compares.
-/
import Derived.Test.YtkhcaamgjjhpeaaGreatDoorAvmQ
set_option linter.unusedSectionVars false
namespace Go.Avm
variable [GlobTab]

inductive Side where
  | av (x : AV)
  | nat (n : Nat)
  | ds (l : List D)
  | code (c : Code)
  | mp (es : List (D × D × Nat))
  | ob (o : Ob)
  | hp (h : Heap)
abbrev Pairs := List (Side × Side)
def Alike (ps : Pairs) : Prop := ∀ p ∈ ps, p.1 = p.2
theorem Alike.head {p : Side × Side} {ps : Pairs} (h : Alike (p :: ps)) : p.1 = p.2 := h p (by simp)
theorem Alike.tail {p : Side × Side} {ps : Pairs} (h : Alike (p :: ps)) : Alike ps := fun q hq => h q (by simp [hq])
theorem Alike.left {ps qs : Pairs} (h : Alike (ps ++ qs)) : Alike ps := fun q hq => h q (by simp [hq])
theorem Alike.right {ps qs : Pairs} (h : Alike (ps ++ qs)) : Alike qs := fun q hq => h q (by simp [hq])

/-- What the prover says of an operation. -/
inductive Hint (P : Program) where
  | val (a b : AV) (h : a = b)
  | idx (l : List D) (i : Int) (y : D) (h0 : 0 ≤ i) (h : l[i.toNat]? = some y)
  | inb (i : Int) (n : Nat) (h0 : 0 ≤ i) (h : i.toNat < n)
  | elt (es : List AV) (i : Nat) (e : AV) (h : es[i]? = some e)
  | look (x : D) (es : List (D × D × Nat)) (r : Option (Nat × D)) (h : findD x es 0 = some r)
  | sidx (s : List UInt8) (i : Int) (b : UInt8) (h0 : 0 ≤ i) (h : s[i.toNat]? = some b)
  | sub (s : List UInt8) (a b : Nat) (h : a ≤ b ∧ b ≤ s.length)
  | cat (a b : List UInt8) (h : a.length + b.length ≤ 9223372036854775807)
  | cutl (l : List D) (b : Nat) (h : b ≤ l.length)
  | cuts (ln b : Nat) (h : b ≤ ln)
  | cutr (l : List D) (a b cs : Nat) (h : a ≤ b ∧ b ≤ l.length ∧ (l.all fun y => y.cells.length == cs) = true)
  | mk (l : Int) (h0 : 0 ≤ l) (h1 : l ≤ 1099511627776)
  | app (l : List D) (n : Nat) (h : l.length + n ≤ 549755813888)
  | apps (es : List AV) (ln n : Nat) (h : ln ≤ es.length ∧ ln + n ≤ 549755813888)
  | appl (l news : List D) (c : Nat) (h : l.length + news.length ≤ 549755813888 ∧ news.all (fun y => y.cells.length == c) = true)
  | appsl (es : List AV) (ln : Nat) (nw : List D) (cs : Nat) (h : ln ≤ es.length ∧ ln + nw.length ≤ 549755813888 ∧ nw.all (fun y => y.cells.length == cs) = true ∧ nw.all D.one = true)
  | call (g : Nat) (ds rs : List D) (h : Pure P g ds rs)

def eltOf {P : Program} (hint : Option (Hint P)) (es : List AV) (j : Nat) : Option (AV × Pairs) :=
  match hint with
  | some (.elt es' j' e _) => some (e, [(.av (.tup es), .av (.tup es')), (.nat j, .nat j')])
  | _ => (es[j]?).map fun e => (e, [])
theorem eltOf_spec {P : Program} {hint : Option (Hint P)} {es : List AV} {j : Nat} {r : AV × Pairs} (h : eltOf hint es j = some r) (hs : Alike r.2) : es[j]? = some r.1 := by
  unfold eltOf at h
  split at h
  · rename_i es' j' e he
    simp only [Option.some.injEq] at h
    subst h
    have h1 := hs.head
    have h2 := hs.tail.head
    simp only [Side.av.injEq, AV.tup.injEq, Side.nat.injEq] at h1 h2
    subst h1; subst h2
    exact he
  · simp only [Option.map_eq_some_iff] at h
    obtain ⟨e, he, rfl⟩ := h
    exact he

def loadL (P : Program) (hint : Option (Hint P)) (t : TypeId) (k v j off : Nat) (h : Heap) : Option (Out × Pairs) :=
  match (h k).ob with
  | some (.arr sz es) =>
    if sz = 1 then
      if off = 0 then
        match aggT P t with
        | some true => if j + P.cellsOf t ≤ es.length then some ({ val := mkAgg ((es.drop j).take (P.cellsOf t)), rd := [k] }, [(.nat (h k).ver, .nat v)]) else none
        | some false => (eltOf hint es j).map fun r => ({ val := r.1, rd := [k] }, (.nat (h k).ver, .nat v) :: r.2)
        | none => none
      else none
    else match eltOf hint es j with
      | some r => match aggT P t with
        | some true => if off + P.cellsOf t ≤ sz then some ({ val := mkAgg ((r.1.cells.drop off).take (P.cellsOf t)), rd := [k] }, (.nat (h k).ver, .nat v) :: r.2) else none
        | some false => (r.1.cells[off]?).map fun x => ({ val := x, rd := [k] }, (.nat (h k).ver, .nat v) :: r.2)
        | none => none
      | none => none
  | _ => none
theorem loadL_spec {P : Program} {hint : Option (Hint P)} {t : TypeId} {k v j off z : Nat} {h : Heap} {r : Out × Pairs} (hl : loadL P hint t k v j off h = some r) (hs : Alike r.2) : opLoad P t (.ptr k v j off z) h = some r.1 := by
  unfold loadL at hl
  split at hl
  · rename_i sz es hob
    split at hl
    · rename_i h1
      split at hl
      · rename_i h0
        split at hl
        · rename_i hag
          split at hl
          · rename_i hle
            simp only [Option.some.injEq] at hl
            subst hl
            have hv := hs.head
            simp only [Side.nat.injEq] at hv
            simp [opLoad, hag, cellsAt, hob, hv, h1, h0, hle]
          · cases hl
        · rename_i hag
          simp only [Option.map_eq_some_iff] at hl
          obtain ⟨q, hq, rfl⟩ := hl
          have hv := hs.head
          simp only [Side.nat.injEq] at hv
          have he := eltOf_spec hq hs.tail
          simp [opLoad, hag, hob, hv, h1, h0, he]
        · cases hl
      · cases hl
    · rename_i h1
      split at hl
      · rename_i q hq
        split at hl
        · rename_i hag
          split at hl
          · rename_i hle
            simp only [Option.some.injEq] at hl
            subst hl
            have hv := hs.head
            simp only [Side.nat.injEq] at hv
            have he := eltOf_spec hq hs.tail
            simp [opLoad, hag, cellsAt, hob, hv, h1, he, hle]
          · cases hl
        · rename_i hag
          simp only [Option.map_eq_some_iff] at hl
          obtain ⟨x, hx, rfl⟩ := hl
          have hv := hs.head
          simp only [Side.nat.injEq] at hv
          have he := eltOf_spec hq hs.tail
          simp [opLoad, hag, hob, hv, h1, he, hx]
        · cases hl
      · cases hl
  · cases hl

def storeL (P : Program) (hint : Option (Hint P)) (t : TypeId) (k v j off : Nat) (x : AV) (h : Heap) : Option (Out × Pairs) :=
  match (h k).ob with
  | some (.arr sz es) =>
    if x.stor = true ∧ x.cells.length = P.cellsOf t ∧ knownT P t = true then
      if sz = 1 then
        if off = 0 then
          (if x.one then match eltOf hint es j with
            | some r => some ({ val := .junk, rd := [k], wr := [(k, ⟨v, some (.arr sz (es.set j x))⟩)] }, (.nat (h k).ver, .nat v) :: r.2)
            | none => none
           else if j + x.cells.length ≤ es.length then some ({ val := .junk, rd := [k], wr := [(k, ⟨v, some (.arr sz (es.take j ++ x.cells ++ es.drop (j + x.cells.length)))⟩)] }, [(.nat (h k).ver, .nat v)]) else none)
        else none
      else match eltOf hint es j with
        | some r =>
          if off = 0 ∧ x.cells.length = sz then some ({ val := .junk, rd := [k], wr := [(k, ⟨v, some (.arr sz (es.set j x))⟩)] }, (.nat (h k).ver, .nat v) :: r.2)
          else if off + x.cells.length ≤ sz then some ({ val := .junk, rd := [k], wr := [(k, ⟨v, some (.arr sz (es.set j (mkAgg (r.1.cells.take off ++ x.cells ++ r.1.cells.drop (off + x.cells.length)))))⟩)] }, (.nat (h k).ver, .nat v) :: r.2) else none
        | none => none
    else none
  | _ => none
theorem storeL_spec {P : Program} {hint : Option (Hint P)} {t : TypeId} {k v j off z : Nat} {x : AV} {h : Heap} {r : Out × Pairs} (hl : storeL P hint t k v j off x h = some r) (hs : Alike r.2) : opStore P t (.ptr k v j off z) x h = some r.1 := by
  unfold storeL at hl
  split at hl
  · rename_i sz es hob
    split at hl
    · rename_i hc
      obtain ⟨c1, c2, c3⟩ := hc
      split at hl
      · rename_i h1
        split at hl
        · rename_i h0
          split at hl
          · rename_i hone
            split at hl
            · rename_i q hq
              simp only [Option.some.injEq] at hl
              subst hl
              have hv := hs.head
              simp only [Side.nat.injEq] at hv
              have he := eltOf_spec hq hs.tail
              have hlt : j < es.length := (List.getElem?_eq_some_iff.1 he).1
              simp [opStore, hob, hv, c1, c2, c3, h1, h0, hone, hlt]
            · cases hl
          · rename_i hone
            split at hl
            · rename_i hle
              simp only [Option.some.injEq] at hl
              subst hl
              have hv := hs.head
              simp only [Side.nat.injEq] at hv
              rw [c2] at hle
              simp [opStore, hob, hv, c1, c2, c3, h1, h0, hone, hle]
            · cases hl
        · cases hl
      · rename_i h1
        split at hl
        · rename_i q hq
          split at hl
          · rename_i hcc
            simp only [Option.some.injEq] at hl
            subst hl
            have hv := hs.head
            simp only [Side.nat.injEq] at hv
            have he := eltOf_spec hq hs.tail
            rw [c2] at hcc
            simp [opStore, hob, hv, c1, c2, c3, h1, he, hcc]
          · rename_i hcc
            split at hl
            · rename_i hle
              simp only [Option.some.injEq] at hl
              subst hl
              have hv := hs.head
              simp only [Side.nat.injEq] at hv
              have he := eltOf_spec hq hs.tail
              rw [c2] at hcc hle
              simp only [opStore, hob, hv, c1, c2, c3, h1, he]
              simp [hcc, hle]
            · cases hl
        · cases hl
    · cases hl
  · cases hl

theorem appT_self (P : Program) (t : TypeId) : appT P t t = true := by simp [appT]
theorem opAppendT_plain {P : Program} {obm : Bool} {t : TypeId} {s x : AV} {k : Nat} {h : Heap} (hb : byteSl P t = false) : opAppendT P obm t s x k h = opAppend P obm t s x k h := by
  unfold opAppendT
  cases opAppend P obm t s x k h with
  | none => rfl
  | some o => simp [hb]
/-- A growing list is appended to: how long it is the prover says. -/
def appL (P : Program) (c : Call) (ρ : Operand → AV) (h : Heap) (l : List D) (n : Nat) : Option (Out × Pairs) :=
  match c.callee, c.args.toList, c.argTypes.toList with
  | .builtin .append, [s, x], [t, t'] =>
    if t = t' ∧ byteSl P t = false then match P.underlying t with
      | some (.slice e) => match srcOf h (ρ x), zeroOf P e, ρ s with
        | some (news, rs), some z, .vec k v sz l' =>
          if news.all (fun y => y.cells.length == P.cellsOf e) = true ∧ 0 < P.cellsOf e ∧ P.bytesOf e ≤ 256 ∧ z.cells.size = P.cellsOf e then
            if (h k).ob.isNone = true ∧ k ∉ rs ∧ sz = P.cellsOf e then
              some ({ val := .vec k (v + 1) sz (l' ++ news), rd := k :: rs, wr := [(k, ⟨v + 1, none⟩)] }, [(.nat (h k).ver, .nat v), (.ds l', .ds l), (.nat news.length, .nat n)])
            else none
          else none
        | _, _, _ => none
      | _ => none
    else none
  | _, _, _ => none
theorem appL_spec {P : Program} {cfg : Cfg} {i : Nat} {c : Call} {ρ : Operand → AV} {h : Heap} {l : List D} {n k : Nat} {r : Out × Pairs} (hl : appL P c ρ h l n = some r) (hs : Alike r.2) (hn : l.length + n ≤ 549755813888) : coreCall P cfg i c ρ h k = some r.1 := by
  unfold appL at hl
  split at hl
  case h_2 => cases hl
  rename_i s x t t' hcal hargs hty
  split at hl
  case isFalse => cases hl
  rename_i htt
  obtain ⟨htt, hby⟩ := htt
  subst htt
  split at hl
  case h_2 => cases hl
  rename_i e hu
  split at hl
  case h_2 => cases hl
  rename_i news rs z k' v sz l' hsrc hz hv
  split at hl
  case isFalse => cases hl
  rename_i hc
  split at hl
  case isFalse => cases hl
  rename_i hc2
  simp only [Option.some.injEq] at hl
  subst hl
  have g1 := hs.head
  have g2 := hs.tail.head
  have g3 := hs.tail.tail.head
  simp only [Side.nat.injEq, Side.ds.injEq] at g1 g2 g3
  subst g2; subst g3
  simp only [coreCall, hcal, hargs, hty, appT_self, opAppendT_plain hby, opAppend, hu, hsrc, hz, hv, if_true]
  rw [if_pos hc, if_pos ⟨g1, hc2.1, hc2.2.1, hc2.2.2, hn⟩]

/-- A growing list is appended to, a list that the prover names. -/
def appLL (P : Program) (c : Call) (ρ : Operand → AV) (h : Heap) (l nw : List D) (cs : Nat) : Option (Out × Pairs) :=
  match c.callee, c.args.toList, c.argTypes.toList with
  | .builtin .append, [s, x], [t, t'] =>
    if t = t' ∧ byteSl P t = false then match P.underlying t with
      | some (.slice e) => match srcOf h (ρ x), zeroOf P e, ρ s with
        | some (news, rs), some z, .vec k v sz l' =>
          if 0 < P.cellsOf e ∧ P.bytesOf e ≤ 256 ∧ z.cells.size = P.cellsOf e then
            if (h k).ob.isNone = true ∧ k ∉ rs ∧ sz = P.cellsOf e then
              some ({ val := .vec k (v + 1) sz (l' ++ nw), rd := k :: rs, wr := [(k, ⟨v + 1, none⟩)] }, [(.nat (h k).ver, .nat v), (.ds l', .ds l), (.ds news, .ds nw), (.nat (P.cellsOf e), .nat cs)])
            else none
          else none
        | _, _, _ => none
      | _ => none
    else none
  | _, _, _ => none
theorem appLL_spec {P : Program} {cfg : Cfg} {i : Nat} {c : Call} {ρ : Operand → AV} {h : Heap} {l nw : List D} {cs k : Nat} {r : Out × Pairs} (hl : appLL P c ρ h l nw cs = some r) (hs : Alike r.2) (hn : l.length + nw.length ≤ 549755813888 ∧ nw.all (fun y => y.cells.length == cs) = true) : coreCall P cfg i c ρ h k = some r.1 := by
  unfold appLL at hl
  split at hl
  case h_2 => cases hl
  rename_i s x t t' hcal hargs hty
  split at hl
  case isFalse => cases hl
  rename_i htt
  obtain ⟨htt, hby⟩ := htt
  subst htt
  split at hl
  case h_2 => cases hl
  rename_i e hu
  split at hl
  case h_2 => cases hl
  rename_i news rs z k' v sz l' hsrc hz hv
  split at hl
  case isFalse => cases hl
  rename_i hc
  split at hl
  case isFalse => cases hl
  rename_i hc2
  simp only [Option.some.injEq] at hl
  subst hl
  have g1 := hs.head
  have g2 := hs.tail.head
  have g3 := hs.tail.tail.head
  have g4 := hs.tail.tail.tail.head
  simp only [Side.nat.injEq, Side.ds.injEq] at g1 g2 g3 g4
  subst g2; subst g3
  have hall : news.all (fun y => y.cells.length == P.cellsOf e) = true := by rw [g4]; exact hn.2
  simp only [coreCall, hcal, hargs, hty, appT_self, opAppendT_plain hby, opAppend, hu, hsrc, hz, hv, if_true]
  rw [if_pos ⟨hall, hc⟩, if_pos ⟨g1, hc2.1, hc2.2.1, hc2.2.2, hn.1⟩]

/-- A mutable list is appended to. -/
def appS (P : Program) (c : Call) (ρ : Operand → AV) (h : Heap) (es : List AV) (ln n : Nat) : Option (Out × Pairs) :=
  match c.callee, c.args.toList, c.argTypes.toList with
  | .builtin .append, [s, x], [t, t'] =>
    if t = t' ∧ byteSl P t = false then match P.underlying t with
      | some (.slice e) => match srcOf h (ρ x), zeroOf P e, ρ s with
        | some (news, rs), some z, .sl k v off len _ => match (h k).ob with
          | some (.arr sz es') =>
            if news.all (fun y => y.cells.length == P.cellsOf e) = true ∧ 0 < P.cellsOf e ∧ P.bytesOf e ≤ 256 ∧ z.cells.size = P.cellsOf e then
              if off = 0 ∧ sz = P.cellsOf e ∧ (sz = 1 → news.all D.one = true) then
                some ({ val := .sl k (v + 1) 0 (len + news.length) sz, rd := k :: rs, wr := [(k, ⟨v + 1, some (.arr sz (es'.take len ++ news.map .d))⟩)] }, [(.nat (h k).ver, .nat v), (.av (.tup es'), .av (.tup es)), (.nat len, .nat ln), (.nat news.length, .nat n)])
              else none
            else none
          | _ => none
        | _, _, _ => none
      | _ => none
    else none
  | _, _, _ => none
theorem appS_spec {P : Program} {cfg : Cfg} {i : Nat} {c : Call} {ρ : Operand → AV} {h : Heap} {es : List AV} {ln n k : Nat} {r : Out × Pairs} (hl : appS P c ρ h es ln n = some r) (hs : Alike r.2) (hn : ln ≤ es.length ∧ ln + n ≤ 549755813888) : coreCall P cfg i c ρ h k = some r.1 := by
  unfold appS at hl
  split at hl
  case h_2 => cases hl
  rename_i s x t t' hcal hargs hty
  split at hl
  case isFalse => cases hl
  rename_i htt
  obtain ⟨htt, hby⟩ := htt
  subst htt
  split at hl
  case h_2 => cases hl
  rename_i e hu
  split at hl
  case h_2 => cases hl
  rename_i news rs z k' v off len z2 hsrc hz hv
  split at hl
  case h_2 => cases hl
  rename_i sz es' hob
  split at hl
  case isFalse => cases hl
  rename_i hc
  split at hl
  case isFalse => cases hl
  rename_i hc2
  simp only [Option.some.injEq] at hl
  subst hl
  have g1 := hs.head
  have g2 := hs.tail.head
  have g3 := hs.tail.tail.head
  have g4 := hs.tail.tail.tail.head
  simp only [Side.nat.injEq, Side.av.injEq, AV.tup.injEq] at g1 g2 g3 g4
  subst g2; subst g3; subst g4
  simp only [coreCall, hcal, hargs, hty, appT_self, opAppendT_plain hby, opAppend, hu, hsrc, hz, hv, if_true, hob]
  rw [if_pos hc, if_pos ⟨g1, hc2.1, hn.1, hc2.2.1, hn.2, hc2.2.2⟩]

/-- A mutable list is appended to, a list that the prover names. -/
def appSL (P : Program) (c : Call) (ρ : Operand → AV) (h : Heap) (es : List AV) (ln : Nat) (nw : List D) (cs : Nat) : Option (Out × Pairs) :=
  match c.callee, c.args.toList, c.argTypes.toList with
  | .builtin .append, [s, x], [t, t'] =>
    if t = t' ∧ byteSl P t = false then match P.underlying t with
      | some (.slice e) => match srcOf h (ρ x), zeroOf P e, ρ s with
        | some (news, rs), some z, .sl k v off len _ => match (h k).ob with
          | some (.arr sz es') =>
            if 0 < P.cellsOf e ∧ P.bytesOf e ≤ 256 ∧ z.cells.size = P.cellsOf e then
              if off = 0 ∧ sz = P.cellsOf e then
                some ({ val := .sl k (v + 1) 0 (len + nw.length) sz, rd := k :: rs, wr := [(k, ⟨v + 1, some (.arr sz (es'.take len ++ nw.map .d))⟩)] }, [(.nat (h k).ver, .nat v), (.av (.tup es'), .av (.tup es)), (.nat len, .nat ln), (.ds news, .ds nw), (.nat (P.cellsOf e), .nat cs)])
              else none
            else none
          | _ => none
        | _, _, _ => none
      | _ => none
    else none
  | _, _, _ => none
theorem appSL_spec {P : Program} {cfg : Cfg} {i : Nat} {c : Call} {ρ : Operand → AV} {h : Heap} {es : List AV} {ln cs k : Nat} {nw : List D} {r : Out × Pairs} (hl : appSL P c ρ h es ln nw cs = some r) (hs : Alike r.2) (hn : ln ≤ es.length ∧ ln + nw.length ≤ 549755813888 ∧ nw.all (fun y => y.cells.length == cs) = true ∧ nw.all D.one = true) : coreCall P cfg i c ρ h k = some r.1 := by
  unfold appSL at hl
  split at hl
  case h_2 => cases hl
  rename_i s x t t' hcal hargs hty
  split at hl
  case isFalse => cases hl
  rename_i htt
  obtain ⟨htt, hby⟩ := htt
  subst htt
  split at hl
  case h_2 => cases hl
  rename_i e hu
  split at hl
  case h_2 => cases hl
  rename_i news rs z k' v off len z2 hsrc hz hv
  split at hl
  case h_2 => cases hl
  rename_i sz es' hob
  split at hl
  case isFalse => cases hl
  rename_i hc
  split at hl
  case isFalse => cases hl
  rename_i hc2
  simp only [Option.some.injEq] at hl
  subst hl
  have g1 := hs.head
  have g2 := hs.tail.head
  have g3 := hs.tail.tail.head
  have g4 := hs.tail.tail.tail.head
  have g5 := hs.tail.tail.tail.tail.head
  simp only [Side.nat.injEq, Side.av.injEq, AV.tup.injEq, Side.ds.injEq] at g1 g2 g3 g4 g5
  subst g2; subst g3; subst g4
  simp only [coreCall, hcal, hargs, hty, appT_self, opAppendT_plain hby, opAppend, hu, hsrc, hz, hv, if_true, hob]
  rw [if_pos ⟨by rw [g5]; exact hn.2.2.1, hc⟩, if_pos ⟨g1, hc2.1, hn.1, hc2.2, hn.2.1, fun _ => hn.2.2.2⟩]

/-- How many entries a map has. -/
def lenL (P : Program) (c : Call) (ρ : Operand → AV) (h : Heap) : Option (Out × Pairs) :=
  match c.callee, c.args.toList, c.argTypes.toList with
  | .builtin .len, [x], [t] => match ρ x with
    | .mp k v => match P.underlying t with
      | some (.map _ _) => match (h k).ob with
        | some (.map es _) => some ({ val := .d (.int .i64 (es.length : Int)), rd := [k] }, [(.nat (h k).ver, .nat v)])
        | _ => none
      | _ => none
    | _ => none
  | _, _, _ => none
theorem lenL_spec {P : Program} {cfg : Cfg} {i : Nat} {c : Call} {ρ : Operand → AV} {h : Heap} {k : Nat} {r : Out × Pairs} (hl : lenL P c ρ h = some r) (hs : Alike r.2) : coreCall P cfg i c ρ h k = some r.1 := by
  unfold lenL at hl
  split at hl
  case h_2 => cases hl
  rename_i x t hcal hargs hty
  split at hl
  case h_2 => cases hl
  rename_i k' v hx
  split at hl
  case h_2 => cases hl
  rename_i a b hu
  split at hl
  case h_2 => cases hl
  rename_i es n hob
  simp only [Option.some.injEq] at hl
  subst hl
  have g1 := hs.head
  simp only [Side.nat.injEq] at g1
  simp only [coreCall, hcal, hargs, hty, hx, opLenMap, hu, hob]
  rw [if_pos g1]

def roOf : AV → Option (List D)
  | .d (.ro l) | .vec _ _ _ l => some l
  | _ => none
/-- An operation, where the prover says something of it. -/
def coreL (P : Program) (hint : Option (Hint P)) (cfg : Cfg) (i : Nat) (o : Oper) (ρ : Operand → AV) (h : Heap) : Option (Out × Pairs) :=
  match o.op with
  | .load t a => match ρ a with
    | .ptr k v j off _ => loadL P hint t k v j off h
    | _ => (core P cfg i o ρ h).map fun r => (r, [])
  | .store t a x => match ρ a with
    | .ptr k v j off _ => storeL P hint t k v j off (ρ x) h
    | _ => (core P cfg i o ρ h).map fun r => (r, [])
  | .indexAddr t x ix => match hint with
    | some (.idx l i y _ _) => match P.underlying t, ρ ix, roOf (ρ x) with
      | some (.slice e), .d (.int _ i'), some l' => if y.cells.length = P.cellsOf e ∧ knownT P e = true then some ({ val := .d (.rp y.cells) }, [(.ds l', .ds l), (.av (.d (.int .i64 i')), .av (.d (.int .i64 i)))]) else none
      | _, _, _ => none
    | some (.inb i n _ _) => match P.underlying t, ρ ix, ρ x with
      | some (.slice e), .d (.int _ i'), .sl k v off len sz => if sz = P.cellsOf e ∧ knownT P e = true then some ({ val := .ptr k v (off + i'.toNat) 0 sz }, [(.av (.d (.int .i64 i')), .av (.d (.int .i64 i))), (.nat len, .nat n)]) else none
      | some (.array n' e), .d (.int _ i'), .ptr k v j off sz => if sz = 1 ∧ off = 0 ∧ knownT P e = true then some ({ val := .ptr k v (j + i'.toNat * P.cellsOf e) 0 sz }, [(.av (.d (.int .i64 i')), .av (.d (.int .i64 i))), (.nat n', .nat n)]) else none
      | _, _, _ => none
    | _ => (core P cfg i o ρ h).map fun r => (r, [])
  | .call c => match hint with
    | some (.app l n _) => appL P c ρ h l n
    | some (.apps es ln n _) => appS P c ρ h es ln n
    | some (.appl l nw cs _) => appLL P c ρ h l nw cs
    | some (.appsl es ln nw cs _) => appSL P c ρ h es ln nw cs
    | _ => match lenL P c ρ h with
      | some r => some r
      | none => (core P cfg i o ρ h).map fun r => (r, [])
  | .lookup t m key ok => match hint with
    | some (.look x es r _) => match P.underlying t, ρ m, ρ key with
      | some (.map kt et), .mp k v, .d kd => match (h k).ob with
        | some (.map es' _) =>
          if keyT P kt kd = true then
            match r with
            | some (_, y) => some ({ val := if ok = true then .tup [.d y, .d (.bool true)] else .d y, rd := [k] }, [(.nat (h k).ver, .nat v), (.mp es', .mp es), (.ds [kd], .ds [x])])
            | none => match zeroOf P et with
              | some z => some ({ val := if ok = true then .tup [cst z, .d (.bool false)] else cst z, rd := [k] }, [(.nat (h k).ver, .nat v), (.mp es', .mp es), (.ds [kd], .ds [x])])
              | none => none
          else none
        | _ => none
      | _, _, _ => none
    | _ => (core P cfg i o ρ h).map fun r => (r, [])
  | .mapUpdate t m key x => match hint with
    | some (.look lx les none _) => match P.underlying t, ρ m, ρ key, ρ x with
      | some (.map kt _), .mp k v, .d kd, .d xd => match (h k).ob with
        | some (.map es' c) =>
          if keyT P kt kd = true then some ({ val := .junk, rd := [k], wr := [(k, ⟨v, some (.map (es' ++ [(kd, xd, c)]) (c + 1))⟩)] }, [(.nat (h k).ver, .nat v), (.mp es', .mp les), (.ds [kd], .ds [lx])])
          else none
        | _ => none
      | _, _, _, _ => none
    | some (.look lx les (some (ix, _)) _) => match P.underlying t, ρ m, ρ key, ρ x with
      | some (.map kt _), .mp k v, .d kd, .d xd => match (h k).ob with
        | some (.map es' c) =>
          if keyT P kt kd = true then some ({ val := .junk, rd := [k], wr := [(k, ⟨v, some (.map (setAtD kd xd ix es') c)⟩)] }, [(.nat (h k).ver, .nat v), (.mp es', .mp les), (.ds [kd], .ds [lx])])
          else none
        | _ => none
      | _, _, _, _ => none
    | _ => (core P cfg i o ρ h).map fun r => (r, [])
  | .insert t m key x => match hint with
    | some (.look lx les none _) => match P.underlying t, ρ m, ρ key, ρ x with
      | some (.map kt _), .mp k v, .d kd, .d xd => match (h k).ob with
        | some (.map es' c) =>
          if keyT P kt kd = true then some ({ val := .junk, rd := [k], wr := [(k, ⟨v, some (.map (es' ++ [(kd, xd, c)]) (c + 1))⟩)] }, [(.nat (h k).ver, .nat v), (.mp es', .mp les), (.ds [kd], .ds [lx])])
          else none
        | _ => none
      | _, _, _, _ => none
    | some (.look lx les (some (ix, _)) _) => match P.underlying t, ρ m, ρ key, ρ x with
      | some (.map kt _), .mp k v, .d kd, .d xd => match (h k).ob with
        | some (.map es' c) =>
          if keyT P kt kd = true then some ({ val := .junk, rd := [k], wr := [(k, ⟨v, some (.map (setAtD kd xd ix es') c)⟩)] }, [(.nat (h k).ver, .nat v), (.mp es', .mp les), (.ds [kd], .ds [lx])])
          else none
        | _ => none
      | _, _, _, _ => none
    | _ => (core P cfg i o ρ h).map fun r => (r, [])
  | .index t x ix => match hint with
    | some (.sidx s i b _ _) => match P.underlying t, ρ x, ρ ix with
      | some .string, .d (.str s'), .d (.int _ i') => some ({ val := .d (.int .u8 (b.toNat : Int)) }, [(.av (.d (.str s')), .av (.d (.str s))), (.av (.d (.int .i64 i')), .av (.d (.int .i64 i)))])
      | _, _, _ => none
    | _ => (core P cfg i o ρ h).map fun r => (r, [])
  | .slice t x lo hi mx => match hint, mx with
    | some (.sub s a b _), none => match P.underlying t, ρ x, bound (lo.map ρ) 0 with
      | some .string, .d (.str s'), some a' => match bound (hi.map ρ) s'.length with
        | some b' => some ({ val := .d (.str ((s'.take b').drop a')) }, [(.av (.d (.str s')), .av (.d (.str s))), (.nat a', .nat a), (.nat b', .nat b)])
        | none => none
      | _, _, _ => none
    | some (.cutl l b _), none => match P.underlying t, ρ x, bound (lo.map ρ) 0 with
      | some (.slice e), .d (.ro l'), some 0 => if knownT P e = false then none else match bound (hi.map ρ) l'.length with
        | some b' => some ({ val := .d (.ro ((l'.take b').drop 0)) }, [(.ds l', .ds l), (.nat b', .nat b)])
        | none => none
      | _, _, _ => none
    | some (.cutr l a b cs _), none => match P.underlying t, ρ x, bound (lo.map ρ) 0 with
      | some (.slice e), .d (.ro l'), some a' => if knownT P e = false then none else match bound (hi.map ρ) l'.length with
        | some b' => some ({ val := .d (.ro ((l'.take b').drop a')) }, [(.ds l', .ds l), (.nat a', .nat a), (.nat b', .nat b), (.nat (P.cellsOf e), .nat cs)])
        | none => none
      | _, _, _ => none
    | some (.cuts ln b _), none => match P.underlying t, ρ x, bound (lo.map ρ) 0 with
      | some (.slice e), .sl k v off len sz, some 0 => if knownT P e = false then none else match bound (hi.map ρ) len with
        | some b' => some ({ val := .sl k v off b' sz }, [(.nat len, .nat ln), (.nat b', .nat b)])
        | none => none
      | _, _, _ => none
    | _, _ => (core P cfg i o ρ h).map fun r => (r, [])
  | .binOp .add t x y _ => match hint with
    | some (.cat a b _) => match ρ x, ρ y with
      | .d (.str a'), .d (.str b') => some ({ val := .d (.str (a' ++ b')) }, [(.av (.d (.str a')), .av (.d (.str a))), (.av (.d (.str b')), .av (.d (.str b)))])
      | _, _ => none
    | _ => (core P cfg i o ρ h).map fun r => (r, [])
  | .makeSlice t l c => match hint with
    | some (.mk n _ _) => match P.underlying t, ρ l, ρ c with
      | some (.slice e), .d (.int .i64 l'), .d (.int .i64 c') => match zeroEl P e with
        | some z =>
          if P.bytesOf e ≤ 256 ∧ z.cells.length = P.cellsOf e ∧ 0 < P.cellsOf e ∧ (P.cellsOf e = 1 → z.lone = true) then
            some ({ val := .sl (cfg.base i + o.dst.getD 0) ((h (cfg.base i + o.dst.getD 0)).ver + 1) 0 l'.toNat (P.cellsOf e), rd := [cfg.base i + o.dst.getD 0], wr := [newOb h (cfg.base i + o.dst.getD 0) (P.cellsOf e) (List.replicate l'.toNat z)] }, [(.av (.d (.int .i64 l')), .av (.d (.int .i64 n))), (.av (.d (.int .i64 c')), .av (.d (.int .i64 n)))])
          else none
        | none => none
      | _, _, _ => none
    | _ => (core P cfg i o ρ h).map fun r => (r, [])
  | _ => (core P cfg i o ρ h).map fun r => (r, [])
theorem coreL_spec {P : Program} {hint : Option (Hint P)} {cfg : Cfg} {i : Nat} {o : Oper} {ρ : Operand → AV} {h : Heap} {r : Out × Pairs} (hl : coreL P hint cfg i o ρ h = some r) (hs : Alike r.2) : core P cfg i o ρ h = some r.1 := by
  have plain : (core P cfg i o ρ h).map (fun r => ((r, []) : Out × Pairs)) = some r → core P cfg i o ρ h = some r.1 := fun hh => by
    simp only [Option.map_eq_some_iff] at hh
    obtain ⟨q, hq, rfl⟩ := hh
    exact hq
  unfold coreL at hl
  split at hl
  · rename_i t a hop
    split at hl
    · rename_i k v j off z ha
      have := loadL_spec (z := z) hl hs
      simp only [core, hop, ha, this]
    · exact plain hl
  · rename_i t a x hop
    split at hl
    · rename_i k v j off z ha
      have := storeL_spec (z := z) hl hs
      simp only [core, hop, ha, this]
    · exact plain hl
  · rename_i t x ix hop
    split at hl
    · rename_i l i' y h0 hy
      split at hl
      · rename_i e kd i2 l2 hu hix hro
        split at hl
        · rename_i hc
          simp only [Option.some.injEq] at hl
          subst hl
          have h1 := hs.head
          have h2 := hs.tail.head
          simp only [Side.ds.injEq, Side.av.injEq, AV.d.injEq, D.int.injEq, true_and] at h1 h2
          subst h1; subst h2
          simp only [core, hop, opIndexAddr, hu, hix]
          unfold roOf at hro
          split at hro
          · rename_i l3 hx
            simp only [Option.some.injEq] at hro
            subst hro
            simp only [hx, h0, hy, if_true]
            rw [if_pos hc]
          · rename_i l3 hx
            simp only [Option.some.injEq] at hro
            subst hro
            simp only [hx, h0, hy, if_true]
            rw [if_pos hc]
          · cases hro
        · cases hl
      · cases hl
    · rename_i i' n h0 hy
      split at hl
      · rename_i e kd i2 k v off len sz hu hix hx
        split at hl
        · rename_i hc
          simp only [Option.some.injEq] at hl
          subst hl
          have h1 := hs.head
          have h2 := hs.tail.head
          simp only [Side.nat.injEq, Side.av.injEq, AV.d.injEq, D.int.injEq, true_and] at h1 h2
          subst h1; subst h2
          simp only [core, hop, opIndexAddr, hu, hix, hx]
          rw [if_pos ⟨hc.1, hc.2, h0, hy⟩]
        · cases hl
      · rename_i n' e kd i2 k v j off sz hu hix hx
        split at hl
        · rename_i hc
          simp only [Option.some.injEq] at hl
          subst hl
          have h1 := hs.head
          have h2 := hs.tail.head
          simp only [Side.nat.injEq, Side.av.injEq, AV.d.injEq, D.int.injEq, true_and] at h1 h2
          subst h1; subst h2
          simp only [core, hop, opIndexAddr, hu, hix, hx]
          rw [if_pos ⟨hc.1, hc.2.1, hc.2.2, h0, hy⟩]
        · cases hl
      · cases hl
    · exact plain hl
  · rename_i c hop
    split at hl
    · rename_i l n hln
      have := appL_spec (cfg := cfg) (i := i) (k := cfg.base i + o.dst.getD 0) hl hs hln
      simp only [core, hop, this]
    · rename_i es ln n hln
      have := appS_spec (cfg := cfg) (i := i) (k := cfg.base i + o.dst.getD 0) hl hs hln
      simp only [core, hop, this]
    · rename_i l nw cs hln
      have := appLL_spec (cfg := cfg) (i := i) (k := cfg.base i + o.dst.getD 0) hl hs hln
      simp only [core, hop, this]
    · rename_i es ln nw cs hln
      have := appSL_spec (cfg := cfg) (i := i) (k := cfg.base i + o.dst.getD 0) hl hs hln
      simp only [core, hop, this]
    · split at hl
      · rename_i r' hr'
        simp only [Option.some.injEq] at hl
        subst hl
        have := lenL_spec (cfg := cfg) (i := i) (k := cfg.base i + o.dst.getD 0) hr' hs
        simp only [core, hop, this]
      · exact plain hl
  · rename_i t m key ok hop
    split at hl
    · rename_i x es r0 hf
      split at hl
      · rename_i kt et k v kd hu hm hk
        split at hl
        · rename_i es' c hob
          split at hl
          · rename_i hkt
            cases r0 with
            | some jy =>
              obtain ⟨j, y⟩ := jy
              simp only [Option.some.injEq] at hl
              subst hl
              have g1 := hs.head
              have g2 := hs.tail.head
              have g3 := hs.tail.tail.head
              simp only [Side.nat.injEq, Side.mp.injEq, Side.ds.injEq, List.cons.injEq, and_true] at g1 g2 g3
              subst g2; subst g3
              simp only [core, hop, opLookup, hu, hm, hk, hob, g1, hkt, hf, and_self, if_true]
            | none =>
              simp only at hl
              split at hl
              · rename_i z hz
                simp only [Option.some.injEq] at hl
                subst hl
                have g1 := hs.head
                have g2 := hs.tail.head
                have g3 := hs.tail.tail.head
                simp only [Side.nat.injEq, Side.mp.injEq, Side.ds.injEq, List.cons.injEq, and_true] at g1 g2 g3
                subst g2; subst g3
                simp only [core, hop, opLookup, hu, hm, hk, hob, g1, hkt, hf, and_self, if_true, hz]
              · cases hl
          · cases hl
        · cases hl
      · cases hl
    · exact plain hl
  · rename_i t m key x hop
    split at hl
    · rename_i lx les hf
      split at hl
      · rename_i kt et k v kd xd hu hm hk hx
        split at hl
        · rename_i es' c hob
          split at hl
          · rename_i hkt
            simp only [Option.some.injEq] at hl
            subst hl
            have g1 := hs.head
            have g2 := hs.tail.head
            have g3 := hs.tail.tail.head
            simp only [Side.nat.injEq, Side.mp.injEq, Side.ds.injEq, List.cons.injEq, and_true] at g1 g2 g3
            subst g2; subst g3
            simp only [core, hop, opMapUpdate, hu, hm, hk, hx, hob, g1, hkt, hf, and_self, if_true]
          · cases hl
        · cases hl
      · cases hl
    · rename_i lx les jx jy hf
      split at hl
      · rename_i kt et k v kd xd hu hm hk hx
        split at hl
        · rename_i es' c hob
          split at hl
          · rename_i hkt
            simp only [Option.some.injEq] at hl
            subst hl
            have g1 := hs.head
            have g2 := hs.tail.head
            have g3 := hs.tail.tail.head
            simp only [Side.nat.injEq, Side.mp.injEq, Side.ds.injEq, List.cons.injEq, and_true] at g1 g2 g3
            subst g2; subst g3
            simp only [core, hop, opMapUpdate, hu, hm, hk, hx, hob, g1, hkt, hf, and_self, if_true]
          · cases hl
        · cases hl
      · cases hl
    · exact plain hl
  · rename_i t m key x hop
    split at hl
    · rename_i lx les hf
      split at hl
      · rename_i kt et k v kd xd hu hm hk hx
        split at hl
        · rename_i es' c hob
          split at hl
          · rename_i hkt
            simp only [Option.some.injEq] at hl
            subst hl
            have g1 := hs.head
            have g2 := hs.tail.head
            have g3 := hs.tail.tail.head
            simp only [Side.nat.injEq, Side.mp.injEq, Side.ds.injEq, List.cons.injEq, and_true] at g1 g2 g3
            subst g2; subst g3
            simp only [core, hop, opMapUpdate, hu, hm, hk, hx, hob, g1, hkt, hf, and_self, if_true]
          · cases hl
        · cases hl
      · cases hl
    · rename_i lx les jx jy hf
      split at hl
      · rename_i kt et k v kd xd hu hm hk hx
        split at hl
        · rename_i es' c hob
          split at hl
          · rename_i hkt
            simp only [Option.some.injEq] at hl
            subst hl
            have g1 := hs.head
            have g2 := hs.tail.head
            have g3 := hs.tail.tail.head
            simp only [Side.nat.injEq, Side.mp.injEq, Side.ds.injEq, List.cons.injEq, and_true] at g1 g2 g3
            subst g2; subst g3
            simp only [core, hop, opMapUpdate, hu, hm, hk, hx, hob, g1, hkt, hf, and_self, if_true]
          · cases hl
        · cases hl
      · cases hl
    · exact plain hl
  · rename_i t x ix hop
    split at hl
    · rename_i s i0 b h0 hb
      split at hl
      · rename_i s' kd i' hu hx hix
        simp only [Option.some.injEq] at hl
        subst hl
        have g1 := hs.head
        have g2 := hs.tail.head
        simp only [Side.av.injEq, AV.d.injEq, D.str.injEq, D.int.injEq, true_and] at g1 g2
        subst g1; subst g2
        simp only [core, hop, opIndex, hu, hx, hix, h0, if_true, hb, Option.map_some]
      · cases hl
    · exact plain hl
  · rename_i t x lo hi mx hop
    split at hl
    · rename_i s a b hab
      split at hl
      · rename_i s' a' hu hx hlo
        split at hl
        · rename_i b' hhi
          simp only [Option.some.injEq] at hl
          subst hl
          have g1 := hs.head
          have g2 := hs.tail.head
          have g3 := hs.tail.tail.head
          simp only [Side.av.injEq, AV.d.injEq, D.str.injEq, Side.nat.injEq] at g1 g2 g3
          subst g1; subst g2; subst g3
          simp only [core, hop, opSlice, hu, hx, hlo, hhi, Option.map_none]
          rw [if_pos hab]
        · cases hl
      · cases hl
    · rename_i l0 b hb
      split at hl
      · rename_i e l' hu hx hlo
        split at hl
        · cases hl
        · rename_i hkn
          split at hl
          · rename_i b' hhi
            simp only [Option.some.injEq] at hl
            subst hl
            have g1 := hs.head
            have g2 := hs.tail.head
            simp only [Side.ds.injEq, Side.nat.injEq] at g1 g2
            subst g1; subst g2
            simp only [core, hop, opSlice, hu, hx, hlo, hhi, Option.map_none]
            rw [if_neg hkn, if_pos ⟨Nat.zero_le _, hb, .inl trivial⟩]
          · cases hl
      · cases hl
    · rename_i l0 a b cs hb
      split at hl
      · rename_i e l' a' hu hx hlo
        split at hl
        · cases hl
        · rename_i hkn
          split at hl
          · rename_i b' hhi
            simp only [Option.some.injEq] at hl
            subst hl
            have g1 := hs.head
            have g2 := hs.tail.head
            have g3 := hs.tail.tail.head
            have g4 := hs.tail.tail.tail.head
            simp only [Side.ds.injEq, Side.nat.injEq] at g1 g2 g3 g4
            subst g1; subst g2; subst g3; subst g4
            simp only [core, hop, opSlice, hu, hx, hlo, hhi, Option.map_none]
            rw [if_neg hkn, if_pos ⟨hb.1, hb.2.1, .inr hb.2.2⟩]
          · cases hl
      · cases hl
    · rename_i ln b hb
      split at hl
      · rename_i e k v off len sz hu hx hlo
        split at hl
        · cases hl
        · rename_i hkn
          split at hl
          · rename_i b' hhi
            simp only [Option.some.injEq] at hl
            subst hl
            have g1 := hs.head
            have g2 := hs.tail.head
            simp only [Side.nat.injEq] at g1 g2
            subst g1; subst g2
            simp only [core, hop, opSlice, hu, hx, hlo, hhi, Option.map_none]
            rw [if_neg hkn, if_pos ⟨trivial, hb⟩]
          · cases hl
      · cases hl
    · exact plain hl
  · rename_i t x y yt hop
    split at hl
    · rename_i a b hab
      split at hl
      · rename_i a' b' hx hy
        simp only [Option.some.injEq] at hl
        subst hl
        have g1 := hs.head
        have g2 := hs.tail.head
        simp only [Side.av.injEq, AV.d.injEq, D.str.injEq] at g1 g2
        subst g1; subst g2
        simp only [core, hop, hx, hy, opBin]
        rw [if_pos hab]
      · cases hl
    · exact plain hl
  · rename_i t l c hop
    split at hl
    · rename_i n h0 h1
      split at hl
      · rename_i e l' c' hu hll hcc
        split at hl
        · rename_i z hz
          split at hl
          · rename_i hc
            simp only [Option.some.injEq] at hl
            subst hl
            have g1 := hs.head
            have g2 := hs.tail.head
            simp only [Side.av.injEq, AV.d.injEq, D.int.injEq, true_and] at g1 g2
            subst g1; subst g2
            simp only [core, hop, opMakeSlice, hu, hll, hcc, hz]
            rw [if_pos ⟨h0, Int.le_refl _, h1, hc.1, hc.2.1, hc.2.2.1, hc.2.2.2⟩]
          · cases hl
        · cases hl
      · cases hl
    · exact plain hl
  · exact plain hl

def coreH (P : Program) (hint : Option (Hint P)) (cfg : Cfg) (i : Nat) (o : Oper) (ρ : Operand → AV) (h : Heap) : Option (Out × Pairs) :=
  match hint with
  | some (.val a b _) => (coreL P none cfg i o ρ h).map fun r => ({ r.1 with val := b }, (.av r.1.val, .av a) :: r.2)
  | _ => coreL P hint cfg i o ρ h
theorem coreH_spec {P : Program} {hint : Option (Hint P)} {cfg : Cfg} {i : Nat} {o : Oper} {ρ : Operand → AV} {h : Heap} {r : Out × Pairs} (hl : coreH P hint cfg i o ρ h = some r) (hs : Alike r.2) : core P cfg i o ρ h = some r.1 := by
  unfold coreH at hl
  split at hl
  · rename_i a b hab
    simp only [Option.map_eq_some_iff] at hl
    obtain ⟨q, hq, rfl⟩ := hl
    have h1 := hs.head
    simp only [Side.av.injEq] at h1
    have := coreL_spec hq hs.tail
    rw [this]
    subst hab
    rw [← h1]
  · exact coreL_spec hl hs
end Go.Avm
