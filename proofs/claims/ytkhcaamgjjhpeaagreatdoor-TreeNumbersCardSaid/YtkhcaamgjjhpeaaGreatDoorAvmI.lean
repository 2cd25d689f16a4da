/-
  The abstract machine, part I: fields, numbers, make, cuts, lengths, appends.
-/
import Derived.Test.YtkhcaamgjjhpeaaGreatDoorAvmH
import Derived.Laws.StructEq
import Derived.ChangeKeysEq
set_option linter.unusedSectionVars false
namespace Go.Avm
open Go.RowKit
variable [GlobTab]

section
variable {P : Program} {G : Gh} {B : Nat} {w0 w : World} {I0 : Nat → Nat → Prop} {h : Heap}

theorem placeOf_spec {t : TypeId} {f fo fs : Nat} (hp : placeOf P t f = some (fo, fs)) : ∃ (fields : Array Field) (fd : Field), fieldsOf P t = some fields ∧ P.underlying t = some (.struct fields) ∧ fields[f]? = some fd ∧ fd.offset = fo ∧ P.cellsOf fd.type = fs := by
  simp only [placeOf, Option.bind_eq_some_iff, Option.map_eq_some_iff, Prod.mk.injEq] at hp
  obtain ⟨fields, hf, fd, hfd, h1, h2⟩ := hp
  exact ⟨fields, fd, hf, fieldsOf_und hf, hfd, h1, h2⟩
theorem structOk_known {t : TypeId} {fields : Array Field} (ho : structOk P t = true) (hf : fieldsOf P t = some fields) {f : Nat} {fd : Field} (hfd : fields[f]? = some fd) : knownT P fd.type = true := by
  unfold structOk at ho
  rw [hf] at ho
  exact List.all_eq_true.1 ho fd (by rw [Array.mem_toList_iff]; exact Array.mem_of_getElem? hfd)

theorem opFieldAddr_sound (hr : HR G B w0 I0 h w) {t : TypeId} {x : AV} {vx : Value} (hx : Rep G w x vx) {f : Nat} {out : Out} (ho : opFieldAddr P t x f h = some out) :
    out.ob = [] ∧ out.wr = [] ∧ ∃ v, (Instr.fieldAt t vx f).run P w = .ok v w ∧ Rep G w out.val v := by
  unfold opFieldAddr at ho
  split at ho
  · rename_i fo fs hp hok
    obtain ⟨fields, fd, hf, hu, hfd, h1, h2⟩ := placeOf_spec hp
    have hkn := structOk_known hok hf hfd
    split at ho
    · cases ho
    · rename_i hfs
      have hrun : ∀ (b o : Nat), vx = .pointer (some ⟨b, o, none⟩) → (Instr.fieldAt t vx f).run P w = .ok (.pointer (some ⟨b, o + fo, none⟩)) w := by
        rintro b o rfl
        simp [Instr.fieldAt, run_underlying hu, hfd, Instr.sureAddr, fieldPlace, known_info hkn, h2, hfs, add_lit, h1]
      split at ho
      · rename_i cs
        simp only [Option.some.injEq] at ho
        subst ho
        cases hx with
        | d hd =>
          cases hd with
          | rp _ b o U h1 hi hc hr' =>
            refine ⟨rfl, rfl, _, hrun b o rfl, .d (.rp _ b _ (fun s => U (fo + s)) (fun c hc' => h1 c (List.mem_of_mem_drop hc')) ?_ ?_ ?_)⟩
            all_goals
              intro s c hs
              rw [List.getElem?_drop] at hs
            · have := hi _ c hs; rwa [← Nat.add_assoc] at this
            · have := hc _ c hs; rwa [← Nat.add_assoc] at this
            · exact hr' _ c hs
      · rename_i k v i off sz
        cases hx with
        | ptr _ _ _ _ L hL =>
          split at ho
          · rename_i hs1
            split at ho
            · rename_i hc
              subst hc
              simp only [Option.some.injEq] at ho
              subst ho
              refine ⟨rfl, rfl, _, hrun L.b _ rfl, ?_⟩
              have := Rep.ptr (w := w) k v (i + fo) 0 L hL
              rw [hs1] at this ⊢
              simpa [Nat.add_assoc] using this
            · cases ho
          · simp only [Option.some.injEq] at ho
            subst ho
            refine ⟨rfl, rfl, _, hrun L.b _ rfl, ?_⟩
            have := Rep.ptr (w := w) k v i (off + fo) L hL
            rwa [← Nat.add_assoc] at this
      · cases ho
  · cases ho

theorem part_agg {t : TypeId} (ha : aggT P t = some true) (cs : Array Value) (o : Nat) (w : World) : (part t cs o).run P w = .ok (.agg (cs.extract o (o + P.cellsOf t))) w := by
  obtain ⟨d, hd⟩ := aggT_und ha
  simp [part, run_isAgg' ha, run_sizeOf' hd]
theorem part_one {t : TypeId} (ha : aggT P t = some false) (cs : Array Value) (o : Nat) (v : Value) (hv : cs[o]? = some v) (w : World) : (part t cs o).run P w = .ok v w := by
  simp [part, run_isAgg' ha, hv]

theorem opField_sound {t : TypeId} {x : AV} {vx : Value} (hx : Rep G w x vx) {f : Nat} {out : Out} (ho : opField P t x f = some out) :
    out.ob = [] ∧ out.wr = [] ∧ ∃ v, (Instr.field t vx f).run P w = .ok v w ∧ Rep G w out.val v := by
  have fa : ∀ {fo fs : Nat} {b : Bool}, placeOf P t f = some (fo, fs) → fieldAgg P t f = some b → ∃ (fields : Array Field) (fd : Field), P.underlying t = some (.struct fields) ∧ fields[f]? = some fd ∧ fd.offset = fo ∧ P.cellsOf fd.type = fs ∧ aggT P fd.type = some b := by
    intro fo fs b hp ha
    obtain ⟨fields, fd, hf, hu, hfd, h1, h2⟩ := placeOf_spec hp
    simp only [fieldAgg, hf, Option.bind_some, hfd] at ha
    exact ⟨fields, fd, hu, hfd, h1, h2, ha⟩
  have ext : ∀ (vs : Array Value) (o n i : Nat), (vs.extract o (o + n))[i]? = if i < n then vs[o + i]? else none := by
    intro vs o n i
    rw [Array.getElem?_extract]
    by_cases h1 : i < n
    · by_cases h2 : o + i < vs.size
      · rw [if_pos (by omega), if_pos h1]
      · rw [if_neg (by omega), if_pos h1, Array.getElem?_eq_none (by omega)]
    · rw [if_neg (by omega), if_neg h1]
  unfold opField at ho
  split at ho
  · rename_i fo fs cs hp ha
    obtain ⟨fields, fd, hu, hfd, h1, h2, h3⟩ := fa hp ha
    split at ho
    · rename_i hle
      simp only [Option.some.injEq] at ho
      subst ho
      cases hx with
      | d hd =>
        cases hd with
        | agg _ vs hl ho1 hr' =>
          refine ⟨rfl, rfl, .agg (vs.extract fo (fo + fs)), by simp [Instr.field, run_underlying hu, hfd, asAgg, part_agg h3, h1, h2], .d (.agg _ _ (by simp; omega) (fun c hc => ho1 c (List.mem_of_mem_drop (List.mem_of_mem_take hc))) (fun i c u hc hu' => ?_))⟩
          rw [List.getElem?_take] at hc
          rw [ext] at hu'
          split at hc
          · rename_i hi
            rw [if_pos hi] at hu'
            rw [List.getElem?_drop] at hc
            exact hr' _ c u hc hu'
          · cases hc
    · cases ho
  · rename_i fo fs cs hp ha
    obtain ⟨fields, fd, hu, hfd, h1, h2, h3⟩ := fa hp ha
    simp only [Option.map_eq_some_iff] at ho
    obtain ⟨c, hc, rfl⟩ := ho
    cases hx with
    | d hd =>
      cases hd with
      | agg _ vs hl ho1 hr' =>
        have hlt : fo < vs.size := by rw [hl]; exact (List.getElem?_eq_some_iff.1 hc).1
        have hv : vs[fo]? = some vs[fo] := Array.getElem?_eq_getElem hlt
        exact ⟨rfl, rfl, _, by simp [Instr.field, run_underlying hu, hfd, asAgg, part_one h3 vs fd.offset _ (by rw [h1]; exact hv)], .d (hr' fo c _ hc hv)⟩
  · rename_i fo fs cs hp ha
    obtain ⟨fields, fd, hu, hfd, h1, h2, h3⟩ := fa hp ha
    split at ho
    · rename_i hle
      simp only [Option.some.injEq] at ho
      subst ho
      cases hx with
      | agg _ vs hl ho1 hr' =>
        refine ⟨rfl, rfl, .agg (vs.extract fo (fo + fs)), by simp [Instr.field, run_underlying hu, hfd, asAgg, part_agg h3, h1, h2], mkAgg_rep (by simp; omega) (fun i u hu' => ?_) (fun i c u hc hu' => ?_)⟩
        · rw [ext] at hu'
          split at hu'
          · exact ho1 _ u hu'
          · cases hu'
        · rw [List.getElem?_take] at hc
          rw [ext] at hu'
          split at hc
          · rename_i hi
            rw [if_pos hi] at hu'
            rw [List.getElem?_drop] at hc
            exact hr' _ c u hc hu'
          · cases hc
    · cases ho
  · rename_i fo fs cs hp ha
    obtain ⟨fields, fd, hu, hfd, h1, h2, h3⟩ := fa hp ha
    simp only [Option.map_eq_some_iff] at ho
    obtain ⟨c, hc, rfl⟩ := ho
    cases hx with
    | agg _ vs hl ho1 hr' =>
      have hlt : fo < vs.size := by rw [hl]; exact (List.getElem?_eq_some_iff.1 hc).1
      have hv : vs[fo]? = some vs[fo] := Array.getElem?_eq_getElem hlt
      exact ⟨rfl, rfl, _, by simp [Instr.field, run_underlying hu, hfd, asAgg, part_one h3 vs fd.offset _ (by rw [h1]; exact hv)], hr' fo c _ hc hv⟩
  · cases ho

/-! ### Numbers -/
theorem opBin_sound {op : BinOp} {x y r : AV} {vx vy : Value} {t : TypeId} (hx : Rep G w x vx) (hy : Rep G w y vy) (ho : opBin op x y = some r) :
    ∃ v, (∀ ox oy, (eqGuard op t ox oy vx vy).run P w = .ok () w) ∧ (binOp op t vx vy).run P w = .ok v w ∧ Rep G w r v := by
  unfold opBin at ho
  split at ho
  · rename_i k a k' b
    cases hx with
    | d hx =>
      cases hx
      cases hy with
      | d hy =>
        cases hy
        have hg : ∀ ox oy, (eqGuard op t ox oy (.int k a) (.int k' b)).run P w = .ok () w := by
          intro ox oy
          cases op <;> simp [eqGuard]
        split at ho
        · split at ho
          · rename_i hb
            simp only [Option.some.injEq] at ho
            subst ho
            exact ⟨_, hg, by simp [binOp, Op.shift, Int.not_lt.2 hb], .d (.int _ _)⟩
          · cases ho
        · split at ho
          · rename_i hb
            simp only [Option.some.injEq] at ho
            subst ho
            exact ⟨_, hg, by simp [binOp, Op.shift, Int.not_lt.2 hb], .d (.int _ _)⟩
          · cases ho
        · rename_i hn1 hn2
          split at ho
          · rename_i hk
            subst hk
            split at ho
            · simp only [Option.some.injEq] at ho; subst ho; exact ⟨_, hg, by simp [binOp, Op.intArith], .d (.int _ _)⟩
            · simp only [Option.some.injEq] at ho; subst ho; exact ⟨_, hg, by simp [binOp, Op.intArith], .d (.int _ _)⟩
            · simp only [Option.some.injEq] at ho; subst ho; exact ⟨_, hg, by simp [binOp, Op.intArith], .d (.int _ _)⟩
            · split at ho
              · cases ho
              · rename_i hb0
                simp only [Option.some.injEq] at ho; subst ho; exact ⟨_, hg, by simp [binOp, Op.intDiv, hb0], .d (.int _ _)⟩
            · split at ho
              · cases ho
              · rename_i hb0
                simp only [Option.some.injEq] at ho; subst ho; exact ⟨_, hg, by simp [binOp, Op.intDiv, hb0], .d (.int _ _)⟩
            · simp only [Option.some.injEq] at ho; subst ho; exact ⟨_, hg, by simp only [binOp, Op.intBits, ne_eq, not_true_eq_false, if_false, Sem.run_pure], .d (.int _ _)⟩
            · simp only [Option.some.injEq] at ho; subst ho; exact ⟨_, hg, by simp only [binOp, Op.intBits, ne_eq, not_true_eq_false, if_false, Sem.run_pure], .d (.int _ _)⟩
            · simp only [Option.some.injEq] at ho; subst ho; exact ⟨_, hg, by simp only [binOp, Op.intBits, ne_eq, not_true_eq_false, if_false, Sem.run_pure], .d (.int _ _)⟩
            · simp only [Option.some.injEq] at ho; subst ho; exact ⟨_, hg, by simp [binOp, Op.intCmp], .d (.bool _)⟩
            · simp only [Option.some.injEq] at ho; subst ho; exact ⟨_, hg, by simp [binOp, Op.intCmp], .d (.bool _)⟩
            · simp only [Option.some.injEq] at ho; subst ho; exact ⟨_, hg, by simp [binOp, Op.intCmp], .d (.bool _)⟩
            · simp only [Option.some.injEq] at ho; subst ho; exact ⟨_, hg, by simp [binOp, Op.intCmp], .d (.bool _)⟩
            · simp only [Option.some.injEq] at ho; subst ho; exact ⟨_, hg, by simp [binOp, Op.intCmp], .d (.bool _)⟩
            · simp only [Option.some.injEq] at ho; subst ho; exact ⟨_, hg, by simp [binOp, Op.intCmp], .d (.bool _)⟩
            · cases ho
          · cases ho
  · rename_i a b
    cases hx with
    | d hx =>
      cases hx with
      | str _ sa ha =>
      cases hy with
      | d hy =>
        cases hy with
        | str _ sb hb =>
        subst ha; subst hb
        have hg : ∀ ox oy, (eqGuard op t ox oy (.string sa) (.string sb)).run P w = .ok () w := by
          intro ox oy
          cases op <;> simp [eqGuard]
        split at ho
        · split at ho
          · rename_i hle
            simp only [Option.some.injEq] at ho; subst ho
            have hle' : ¬ (((sa.size + sb.size : Nat) : Int) > IntKind.i64.max) := by
              have h1 : sa.data.toList.length = sa.size := by simp
              have h2 : sb.data.toList.length = sb.size := by simp
              rw [h1, h2] at hle
              have : IntKind.i64.max = 9223372036854775807 := by decide
              rw [this]; omega
            exact ⟨.string (sa ++ sb), hg, by simp only [binOp, Op.stringOp, if_neg hle', Sem.run_pure], .d (.str _ _ (by simp))⟩
          · cases ho
        all_goals first
          | (simp only [Option.some.injEq] at ho; subst ho; exact ⟨_, hg, by simp [binOp, Op.stringOp, bytes_toList], .d (.bool _)⟩)
          | cases ho
  · cases ho

theorem eqOne_sound {I : Nat → Nat → Prop} {t : TypeId} {x y : D} {b : Bool} {u v : Value} (d : Nat) (hx : DRep I w x u) (hy : DRep I w y v) (ho : eqOne P t x y = some b) : (Op.equalIn (d + 1) t u v).run P w = .ok b w := by
  unfold eqOne at ho
  split at ho
  · rename_i hu
    split at ho
    · rename_i hk
      subst hk
      cases ho
      cases hx
      cases hy
      exact run_equalIn_int w d t _ _ _ _ hu
    · cases ho
  · rename_i hu
    cases ho
    cases hx
    cases hy
    exact run_equalIn_bool w d t _ _ hu
  · rename_i hu
    cases ho
    cases hx with
    | str _ s hs =>
    cases hy with
    | str _ s' hs' =>
    rw [run_equalIn_string w d t _ _ hu, ByteArray.toList_eq, ByteArray.toList_eq, hs, hs']
  · cases ho
theorem eqFieldsD_sound {I : Nat → Nat → Prop} (d : Nat) (vs us : Array Value) : ∀ (fs : List Field) (i : Nat) (xs ys : List D) (b : Bool), eqFieldsD P fs i xs ys = some b →
    (∀ (j : Nat) (x : D), xs[j]? = some x → ∃ u, vs[i + j]? = some u ∧ DRep I w x u) → (∀ (j : Nat) (x : D), ys[j]? = some x → ∃ u, us[i + j]? = some u ∧ DRep I w x u) → (Op.eqFields (d + 1) vs us fs).run P w = .ok b w
  | [], i, [], [], b, ho, _, _ => by
    simp only [eqFieldsD, Option.some.injEq] at ho
    subst ho
    simp [Op.eqFields]
  | [], i, x :: xs, ys, b, ho, _, _ => by simp [eqFieldsD] at ho
  | [], i, [], y :: ys, b, ho, _, _ => by simp [eqFieldsD] at ho
  | f :: fs, i, [], ys, b, ho, _, _ => by simp [eqFieldsD] at ho
  | f :: fs, i, x :: xs, [], b, ho, _, _ => by simp [eqFieldsD] at ho
  | f :: fs, i, x :: xs, y :: ys, b, ho, h1, h2 => by
    rw [eqFieldsD] at ho
    split at ho
    case isFalse => cases ho
    rename_i hc
    split at ho
    case h_2 => cases ho
    rename_i a b' ha hb
    cases ho
    obtain ⟨u, hu, hru⟩ := h1 0 x rfl
    obtain ⟨v, hv, hrv⟩ := h2 0 y rfl
    rw [Nat.add_zero] at hu hv
    have he := eqOne_sound d hru hrv ha
    have ih := eqFieldsD_sound d vs us fs (i + 1) xs ys b' hb (fun j x hj => by
      have := h1 (j + 1) x hj
      rwa [show i + (j + 1) = i + 1 + j by omega] at this) (fun j x hj => by
      have := h2 (j + 1) x hj
      rwa [show i + (j + 1) = i + 1 + j by omega] at this)
    simp only [Op.eqFields, hc.1, ne_eq, not_false_eq_true, if_true, Sem.run_bind, hc.2.1, part_one hc.2.2 vs i u hu, part_one hc.2.2 us i v hv, Result.andThen_ok, he]
    cases a with
    | false => simp
    | true => simpa using ih
theorem eqItemsD_sound {I : Nat → Nat → Prop} (d : Nat) {e : TypeId} (hc : P.cellsOf e = 1) (ha : aggT P e = some false) (vs us : Array Value) : ∀ (xs ys : List D) (i : Nat) (b : Bool), eqItemsD P e xs ys = some b →
    (∀ (j : Nat) (x : D), xs[j]? = some x → ∃ u, vs[i + j]? = some u ∧ DRep I w x u) → (∀ (j : Nat) (x : D), ys[j]? = some x → ∃ u, us[i + j]? = some u ∧ DRep I w x u) → (Op.eqItems (d + 1) e (P.cellsOf e) vs us (List.range' i xs.length)).run P w = .ok b w
  | [], [], i, b, ho, _, _ => by
    simp only [eqItemsD, Option.some.injEq] at ho
    subst ho
    simp [Op.eqItems]
  | [], y :: ys, i, b, ho, _, _ => by simp [eqItemsD] at ho
  | x :: xs, [], i, b, ho, _, _ => by simp [eqItemsD] at ho
  | x :: xs, y :: ys, i, b, ho, h1, h2 => by
    rw [eqItemsD] at ho
    split at ho
    case h_2 => cases ho
    rename_i a b' ha1 hb
    cases ho
    obtain ⟨u, hu, hru⟩ := h1 0 x rfl
    obtain ⟨v, hv, hrv⟩ := h2 0 y rfl
    rw [Nat.add_zero] at hu hv
    have he := eqOne_sound d hru hrv ha1
    have ih := eqItemsD_sound d hc ha vs us xs ys (i + 1) b' hb (fun j x hj => by
      have := h1 (j + 1) x hj
      rwa [show i + (j + 1) = i + 1 + j by omega] at this) (fun j x hj => by
      have := h2 (j + 1) x hj
      rwa [show i + (j + 1) = i + 1 + j by omega] at this)
    rw [List.length_cons, List.range'_succ]
    rw [hc] at ih ⊢
    simp only [Op.eqItems, Sem.run_bind, Nat.mul_one, part_one ha vs i u hu, part_one ha us i v hv, Result.andThen_ok, he]
    cases a with
    | false => simp
    | true => simpa using ih
theorem opEq_sound {op : BinOp} {x y : AV} {b : Bool} {vx vy : Value} {t : TypeId} (hx : Rep G w x vx) (hy : Rep G w y vy) (ho : opEq P t x y = some b) (hop : op = .eql ∨ op = .neq) :
    (∀ ox oy, (eqGuard op t ox oy vx vy).run P w = .ok () w) ∧ (binOp op t vx vy).run P w = .ok (.bool (if op = .eql then b else !b)) w := by
  unfold opEq at ho
  split at ho
  · rename_i a c hu
    simp only [Option.some.injEq] at ho
    subst ho
    cases hx with
    | d hx =>
      cases hx
      cases hy with
      | d hy =>
        cases hy
        have he : ∀ d : Nat, (Op.equalIn (d + 1) t (.bool a) (.bool c)).run P w = .ok (a == c) w := fun d => by
          simp only [Op.equalIn, Sem.run_bind, run_underlying hu, Result.andThen_ok, Sem.run_pure]
        have he2 : (Op.equal t (.bool a) (.bool c)).run P w = .ok (a == c) w := he 9999
        rcases hop with rfl | rfl
        · refine ⟨fun ox oy => by simp [eqGuard], ?_⟩
          simp only [binOp, Sem.run_bind, he2, Result.andThen_ok, Sem.run_pure, if_true]
        · refine ⟨fun ox oy => by simp [eqGuard], ?_⟩
          simp only [binOp, Sem.run_bind, he2, Result.andThen_ok, Sem.run_pure]
          rfl
  · rename_i fs xs ys hu
    split at ho
    case isFalse => cases ho
    rename_i hg
    cases hx with
    | d hx =>
    cases hx with
    | agg _ vs hl h1 hrep =>
    cases hy with
    | d hy =>
    cases hy with
    | agg _ us hl' h1' hrep' =>
    have hf : P.fieldsOf t = fs := by unfold Program.fieldsOf; rw [hu]
    have hrun : (Op.equalIn 10000 t (.agg vs) (.agg us)).run P w = .ok b w := by
      rw [show (10000 : Nat) = 9999 + 1 from rfl, run_equalIn_struct w 9999 t vs us (by rw [hf]; exact hu) hg.1, hf]
      refine eqFieldsD_sound (I := G.imm) 9998 vs us fs.toList 0 xs ys b ho (fun j x hj => ?_) (fun j x hj => ?_)
      · have hlt : j < vs.size := by rw [hl]; exact (List.getElem?_eq_some_iff.1 hj).1
        have : vs[j]? = some vs[j] := Array.getElem?_eq_getElem hlt
        exact ⟨_, by rw [Nat.zero_add]; exact this, hrep j x _ hj this⟩
      · have hlt : j < us.size := by rw [hl']; exact (List.getElem?_eq_some_iff.1 hj).1
        have : us[j]? = some us[j] := Array.getElem?_eq_getElem hlt
        exact ⟨_, by rw [Nat.zero_add]; exact this, hrep' j x _ hj this⟩
    refine ⟨fun ox oy => run_eqGuard_agg w op t ox oy vs us hg.2, ?_⟩
    rcases hop with rfl | rfl
    · rw [run_eql_struct, hrun]; rfl
    · rw [run_neq_struct, hrun]; rfl
  · rename_i n e xs ys hu
    split at ho
    case isFalse => cases ho
    rename_i hg
    cases hx with
    | d hx =>
    cases hx with
    | agg _ vs hl h1 hrep =>
    cases hy with
    | d hy =>
    cases hy with
    | agg _ us hl' h1' hrep' =>
    obtain ⟨i, hi⟩ : ∃ i, P.info? e = some i := by
      have h := hg.2.2.1
      simp only [aggT, Option.map_eq_some_iff] at h
      obtain ⟨d, hd, _⟩ := h
      exact info_of_underlying hd
    have hrun : (Op.equalIn 10000 t (.agg vs) (.agg us)).run P w = .ok b w := by
      rw [show (10000 : Nat) = 9999 + 1 from rfl, run_equalIn_array w 9999 vs us hu hi, List.range_eq_range', ← hg.1]
      refine eqItemsD_sound (I := G.imm) 9998 hg.2.1 hg.2.2.1 vs us xs ys 0 b ho (fun j x hj => ?_) (fun j x hj => ?_)
      · have hlt : j < vs.size := by rw [hl]; exact (List.getElem?_eq_some_iff.1 hj).1
        have : vs[j]? = some vs[j] := Array.getElem?_eq_getElem hlt
        exact ⟨_, by rw [Nat.zero_add]; exact this, hrep j x _ hj this⟩
      · have hlt : j < us.size := by rw [hl']; exact (List.getElem?_eq_some_iff.1 hj).1
        have : us[j]? = some us[j] := Array.getElem?_eq_getElem hlt
        exact ⟨_, by rw [Nat.zero_add]; exact this, hrep' j x _ hj this⟩
    refine ⟨fun ox oy => run_eqGuard_agg w op t ox oy vs us hg.2.2.2, ?_⟩
    rcases hop with rfl | rfl
    · rw [run_eql_struct, hrun]; rfl
    · rw [run_neq_struct, hrun]; rfl
  · cases ho

theorem ptrEq_sound {x y : AV} {b : Bool} {vx vy : Value} {t e : TypeId} (hx : Rep G w x vx) (hy : Rep G w y vy) (hu : P.underlying t = some (.pointer e)) (ho : ptrEq P e x y = some b) :
    ∃ p q, vx = .pointer p ∧ vy = .pointer q ∧ ∀ d : Nat, (Op.equalIn (d + 1) t (.pointer p) (.pointer q)).run P w = .ok b w := by
  have n1 : ∀ (q : Option Addr) (d : Nat), (Op.equalIn (d + 1) t (.pointer none) (.pointer q)).run P w = .ok q.isNone w := fun q d => by
    simp only [Op.equalIn, Sem.run_bind, run_underlying hu, Result.andThen_ok, Sem.run_pure]
  have n2 : ∀ (a : Addr) (d : Nat), (Op.equalIn (d + 1) t (.pointer (some a)) (.pointer none)).run P w = .ok false w := fun a d => by
    simp only [Op.equalIn, Sem.run_bind, run_underlying hu, Result.andThen_ok, Sem.run_pure]
  unfold ptrEq at ho
  split at ho
  · cases ho; cases hx with | d hx => cases hx; cases hy with | d hy => cases hy; exact ⟨_, _, rfl, rfl, n1 none⟩
  · cases ho; cases hx; cases hy with | d hy => cases hy; exact ⟨_, _, rfl, rfl, n2 _⟩
  · cases ho; cases hx with | d hx => cases hx; cases hy; exact ⟨_, _, rfl, rfl, n1 _⟩
  · cases ho; cases hx with | d hx => cases hx; cases hy with | d hy => cases hy; exact ⟨_, _, rfl, rfl, n2 _⟩
  · cases ho; cases hx with | d hx => cases hx; cases hy with | d hy => cases hy; exact ⟨_, _, rfl, rfl, n1 _⟩
  · split at ho
    · rename_i k v i off sz k' v' i' off' sz' hc
      obtain ⟨rfl, rfl, h3, h4, h5⟩ := hc
      cases ho
      cases hx with
      | ptr _ _ _ _ L hL =>
      cases hy with
      | ptr _ _ _ _ L' hL' =>
      rw [hL] at hL'
      cases hL'
      refine ⟨_, _, rfl, rfl, fun d => ?_⟩
      unfold knownT at h4
      cases hi : P.info? e with
      | none => rw [hi] at h4; cases h4
      | some j =>
        rw [h3]
        simp only [Op.equalIn, Sem.run_bind, run_underlying hu, Result.andThen_ok, Sem.run_pure]
        simp [sizeOf, typeInfo, hi, sameAddr]
    · cases ho
  · cases ho

theorem opEqO_sound {op : BinOp} {ox oy : Operand} {x y : AV} {b : Bool} {vx vy : Value} {t : TypeId} (hx : Rep G w x vx) (hy : Rep G w y vy) (ho : opEqO P t ox oy x y = some b) (hop : op = .eql ∨ op = .neq) :
    (eqGuard op t ox oy vx vy).run P w = .ok () w ∧ (binOp op t vx vy).run P w = .ok (.bool (if op = .eql then b else !b)) w := by
  unfold opEqO at ho
  split at ho
  · rename_i ms hc hu
    simp only [Option.some.injEq] at ho
    subst ho
    cases hx with
    | d hx =>
    cases hx
    cases hy with
    | d hy =>
    cases hy
    have he : ∀ d : Nat, (Op.equalIn (d + 1) t .nilIface .nilIface).run P w = .ok true w := fun d => by
      simp only [Op.equalIn, Sem.run_bind, run_underlying hu, Result.andThen_ok, Sem.run_pure]
    have he2 : (Op.equal t .nilIface .nilIface).run P w = .ok true w := he 9999
    refine ⟨?_, ?_⟩
    · cases ox <;> cases oy <;> first
        | (simp [isCst] at hc; done)
        | (rcases hop with rfl | rfl <;> simp [eqGuard])
    · rcases hop with rfl | rfl
      · simp only [binOp, Sem.run_bind, he2, Result.andThen_ok, Sem.run_pure, if_true]
      · simp only [binOp, Sem.run_bind, he2, Result.andThen_ok, Sem.run_pure]
        rfl
  · rename_i ms hc hu
    simp only [Option.some.injEq] at ho
    subst ho
    cases hx with
    | d hx =>
    cases hx with
    | ifc ti vi =>
    cases hy with
    | d hy =>
    cases hy
    have he : ∀ d : Nat, (Op.equalIn (d + 1) t (.iface ti vi) .nilIface).run P w = .ok false w := fun d => by
      simp only [Op.equalIn, Sem.run_bind, run_underlying hu, Result.andThen_ok, Sem.run_pure]
    have he2 : (Op.equal t (.iface ti vi) .nilIface).run P w = .ok false w := he 9999
    refine ⟨?_, ?_⟩
    · rcases hop with rfl | rfl <;> simp [eqGuard]
    · rcases hop with rfl | rfl
      · simp only [binOp, Sem.run_bind, he2, Result.andThen_ok, Sem.run_pure, if_true]
      · simp only [binOp, Sem.run_bind, he2, Result.andThen_ok, Sem.run_pure]
        rfl
  · rename_i ms ti xi hu
    simp only [Option.some.injEq] at ho
    subst ho
    cases hx with
    | iv _ vi _ =>
    cases hy with
    | d hy =>
    cases hy
    have he : ∀ d : Nat, (Op.equalIn (d + 1) t (.iface ti vi) .nilIface).run P w = .ok false w := fun d => by
      simp only [Op.equalIn, Sem.run_bind, run_underlying hu, Result.andThen_ok, Sem.run_pure]
    have he2 : (Op.equal t (.iface ti vi) .nilIface).run P w = .ok false w := he 9999
    refine ⟨?_, ?_⟩
    · rcases hop with rfl | rfl <;> simp [eqGuard]
    · rcases hop with rfl | rfl
      · simp only [binOp, Sem.run_bind, he2, Result.andThen_ok, Sem.run_pure, if_true]
      · simp only [binOp, Sem.run_bind, he2, Result.andThen_ok, Sem.run_pure]
        rfl
  · rename_i e hu
    obtain ⟨p, q, rfl, rfl, he⟩ : ∃ p q, vx = .pointer p ∧ vy = .pointer q ∧ ∀ d : Nat, (Op.equalIn (d + 1) t (.pointer p) (.pointer q)).run P w = .ok b w := ptrEq_sound hx hy hu ho
    have he2 : (Op.equal t (.pointer p) (.pointer q)).run P w = .ok b w := he 9999
    refine ⟨?_, ?_⟩
    · rcases hop with rfl | rfl <;> simp [eqGuard]
    · rcases hop with rfl | rfl
      · simp only [binOp, Sem.run_bind, he2, Result.andThen_ok, Sem.run_pure, if_true]
      · simp only [binOp, Sem.run_bind, he2, Result.andThen_ok, Sem.run_pure]
        rfl
  · obtain ⟨h1, h2⟩ := opEq_sound hx hy ho hop
    exact ⟨h1 ox oy, h2⟩

theorem opUn_sound {op : UnOp} {x r : AV} {vx : Value} (hx : Rep G w x vx) (ho : opUn op x = some r) : ∃ v, (Op.unary op vx).run P w = .ok v w ∧ Rep G w r v := by
  unfold opUn at ho
  split at ho
  · simp only [Option.some.injEq] at ho; subst ho
    cases hx with
    | d hx => cases hx; exact ⟨_, by simp [Op.unary], .d (.bool _)⟩
  · simp only [Option.some.injEq] at ho; subst ho
    cases hx with
    | d hx => cases hx; exact ⟨_, by simp only [Op.unary, Op.intArith, Sem.run_pure], .d (.int _ _)⟩
  · simp only [Option.some.injEq] at ho; subst ho
    cases hx with
    | d hx => cases hx; exact ⟨_, by simp only [Op.unary, Op.intBits, Sem.run_pure], .d (.int _ _)⟩
  · cases ho

theorem opConvert_sound {src dst : TypeId} {x r : AV} {vx : Value} (hx : Rep G w x vx) (ho : opConvert P src dst x = some r) : ∃ v, (convert src dst vx).run P w = .ok v w ∧ Rep G w r v := by
  unfold opConvert at ho
  split at ho
  · rename_i k1 k2 n1 n hu1 hu2
    simp only [Option.some.injEq] at ho; subst ho
    cases hx with
    | d hx => cases hx; exact ⟨_, by simp [convert, run_underlying hu1, run_underlying hu2, Conv.intToInt], .d (.int _ _)⟩
  · cases ho

theorem lenSl_sound {x : AV} {vx : Value} {n : Nat} (hx : Rep G w x vx) (hn : lenSl x = some n) : ∃ a c, vx = .slice a n c := by
  unfold lenSl at hn
  split at hn
  · rename_i l
    simp only [Option.some.injEq] at hn; subst hn
    cases hx with
    | d hx => cases hx <;> exact ⟨_, _, rfl⟩
  · simp only [Option.some.injEq] at hn; subst hn
    cases hx <;> exact ⟨_, _, rfl⟩
  · simp only [Option.some.injEq] at hn; subst hn; cases hx; exact ⟨_, _, rfl⟩
  · simp only [Option.some.injEq] at hn; subst hn; cases hx; exact ⟨_, _, rfl⟩
  · simp only [Option.some.injEq] at hn; subst hn
    cases hx <;> exact ⟨_, _, rfl⟩
  · cases hn

theorem opLen_sound {t : TypeId} {x : AV} {vx : Value} {out : Out} (hx : Rep G w x vx) (ho : opLen P t x = some out) : out.ob = [] ∧ out.wr = [] ∧ ∃ v, (∀ ty, (Builtin.len_ #[t] ty #[vx]).run P w = .ok v w) ∧ Rep G w out.val v := by
  unfold opLen at ho
  split at ho
  · rename_i e hu
    split at ho
    · rename_i n hn
      simp only [Option.some.injEq] at ho; subst ho
      obtain ⟨a, c, rfl⟩ := lenSl_sound hx hn
      exact ⟨rfl, rfl, _, fun ty => by simp [Builtin.len_, run_underlying hu, goInt], .d (.int _ _)⟩
    · cases ho
  · rename_i hu
    split at ho
    · simp only [Option.some.injEq] at ho; subst ho
      cases hx with
      | d hx =>
        cases hx with
        | str _ s h => subst h; exact ⟨rfl, rfl, _, fun ty => by simp [Builtin.len_, run_underlying hu, goInt], .d (.int _ _)⟩
    · cases ho
  · cases ho

theorem opMinMax_sound {mx : Bool} {x y : AV} {vx vy : Value} {out : Out} (hx : Rep G w x vx) (hy : Rep G w y vy) (ho : opMinMax mx x y = some out) :
    out.ob = [] ∧ out.wr = [] ∧ ∃ v, (∀ ts ty, (if mx then Builtin.max_ ts ty #[vx, vy] else Builtin.min_ ts ty #[vx, vy]).run P w = .ok v w) ∧ Rep G w out.val v := by
  unfold opMinMax at ho
  split at ho
  · simp only [Option.some.injEq] at ho; subst ho
    cases hx with
    | d hx =>
      cases hx
      cases hy with
      | d hy =>
        cases hy
        cases mx
        · exact ⟨rfl, rfl, _, fun ts ty => by simp [Builtin.min_, Builtin.min2], .d (.int _ _)⟩
        · exact ⟨rfl, rfl, _, fun ts ty => by simp [Builtin.max_, Builtin.max2], .d (.int _ _)⟩
  · cases ho
end
end Go.Avm
