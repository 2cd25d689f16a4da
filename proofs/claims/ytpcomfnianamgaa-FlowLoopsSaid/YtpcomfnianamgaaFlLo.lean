/-
  FlowLoops.
-/
import Derived.Test.YtpcomfnianamgaaFlLr
set_option linter.unusedSectionVars false
namespace Go.Avm
open Go.Proofs Go.Avm.Dom

def loL (ls : List (Nat × List Nat)) (i : Nat) : List (Nat × AV) := [(3, .d (.ro (ls.map loopD))), (6, .d (.ro (ls.map loopD))), (43, dN ls.length), (44, dN i)]
theorem loRound (ls : List (Nat × List Nat)) (i h : Nat) (l : List Nat) (hi : i < ls.length) (hll : ls.length < 100000) (hx : (ls.map loopD)[i]? = some (.agg [.int .i64 (h : Int), rowN l])) (hc : Pure Try.prog 41 [rowN l, rowN l] [.bool true]) (rest : Heap) (X : Fix) (hP : X.P = Try.prog) (hN : X.N = 73) :
    AW X (loopOf Try.prog 10 12) ⟨envOf (loL ls i), ovl [] rest⟩ fun e' S' => e' = .normal ∧ Weak X S' ⟨envOf (loL ls (i + 1)), ovl [] rest⟩ :=
  seg okP named { hint := tabH Try.prog [(10, 45, hLt Try.prog i ls.length true (by simpa using hi)), (10, 49, .idx (ls.map loopD) ((i : Nat) : Int) (.agg [.int .i64 (h : Int), rowN l]) (by omega) hx), (10, 54, .idx (ls.map loopD) ((i : Nat) : Int) (.agg [.int .i64 (h : Int), rowN l]) (by omega) hx), (10, 57, hNeq Try.prog (h : Int) (h : Int) false (by simp)), (10, 61, .idx (ls.map loopD) ((i : Nat) : Int) (.agg [.int .i64 (h : Int), rowN l]) (by omega) hx), (10, 66, .idx (ls.map loopD) ((i : Nat) : Int) (.agg [.int .i64 (h : Int), rowN l]) (by omega) hx), (10, 69, .call 41 _ _ hc), (10, 72, hSucc Try.prog i (by omega))] } 2000 10 500000 73 (by kernel_rfl) X hP hN
theorem loStop (ls : List (Nat × List Nat)) (rest : Heap) (X : Fix) (hP : X.P = Try.prog) (hN : X.N = 73) :
    AW X (loopOf Try.prog 10 12) ⟨envOf (loL ls ls.length), ovl [] rest⟩ fun e' S' => e' = .exit 0 ∧ Weak X S' ⟨envOf [], ovl [] rest⟩ :=
  seg okP named { hint := tabH Try.prog [(10, 45, hLt Try.prog ls.length ls.length false (by simp))] } 2000 10 500000 73 (by kernel_rfl) X hP hN
theorem loLoop (ls : List (Nat × List Nat)) (hll : ls.length < 100000) (hr : ∀ p ∈ ls, p.2.length < 1000000000) (rest : Heap) (X : Fix) (hP : X.P = Try.prog) (hN : X.N = 73) :
    AW X (.loop (loopOf Try.prog 10 12)) ⟨envOf (loL ls 0), ovl [] rest⟩ fun e' S' => e' = .exit 0 ∧ S' = ⟨envOf [], ovl [] rest⟩ :=
  (lw_count ls.length (fun i => ⟨envOf (loL ls i), ovl [] rest⟩) (by simp) (fun i hi => by
    have hget : ls[i]? = some ls[i] := List.getElem?_eq_getElem hi
    have hmem : ls[i] ∈ ls := List.getElem_mem hi
    generalize ls[i] = p at hget hmem
    obtain ⟨h, l⟩ := p
    exact loRound ls i h l hi hll (by rw [List.getElem?_map, hget]; rfl) (sameC (natR l) (by rw [List.length_map]; exact hr _ hmem)) rest X hP hN) (loStop ls rest X hP hN)).aw
theorem loBad {gs t : List (List Int)} (ht : Pure Try.prog 36 [rowsD gs] [rowsD t]) (h38 : Pure Try.prog 38 [rowsD t] [rowsD t]) (h37 : Pure Try.prog 37 [rowsD t] [.ro [], .int .i64 3]) (h39 : Pure Try.prog 39 [rowsD t] [.int .i64 3]) : Pure Try.prog 10 [rowsD gs] [.bool true] :=
  pure_of_run okP named { hint := tabH Try.prog [(10, 8, .call 35 _ _ awake05), (10, 11, .call 36 _ _ ht), (10, 14, .call 38 _ _ h38), (10, 15, .call 37 _ _ h37), (10, 19, .call 39 _ _ h39)] } 2000 (by kernel_rfl)
theorem loOk {gs t : List (List Int)} (ls : List (Nat × List Nat)) (hll : ls.length < 100000) (hr : ∀ p ∈ ls, p.2.length < 1000000000) (ht : Pure Try.prog 36 [rowsD gs] [rowsD t]) (h38 : Pure Try.prog 38 [rowsD t] [rowsD t]) (h37 : Pure Try.prog 37 [rowsD t] [.ro (ls.map loopD), .int .i64 0]) (h39 : Pure Try.prog 39 [rowsD t] [.int .i64 0]) (h40 : Pure Try.prog 40 [rowsD t] [.ro (ls.map loopD)]) : Pure Try.prog 10 [rowsD gs] [.bool true] :=
  pure_of_run okP named { loops := fun f q => if f = 10 then (if q = 12 then some ⟨73, loopOf Try.prog 10 12, loL ls 0, fun _ => [], .exit 0, [], fun _ => [], loLoop ls hll hr⟩ else none) else none, hint := tabH Try.prog [(10, 8, .call 35 _ _ awake05), (10, 11, .call 36 _ _ ht), (10, 14, .call 38 _ _ h38), (10, 15, .call 37 _ _ h37), (10, 19, .call 39 _ _ h39), (10, 36, .call 40 _ _ h40), (10, 38, .val (dN (ls.map loopD).length) (dN ls.length) (by rw [List.length_map])), (10, 40, .val (dN (ls.map loopD).length) (dN ls.length) (by rw [List.length_map])), (10, 41, hNeq Try.prog ((ls.length : Nat) : Int) ((ls.length : Nat) : Int) false (by simp)), (10, 43, .val (dN (ls.map loopD).length) (dN ls.length) (by rw [List.length_map]))] } 2000 (by kernel_rfl)
open Classical in
theorem loopsPure (gs : List (List Int)) (hl : gs.length ≤ 9223372036854775807) : Pure Try.prog 10 [rowsD gs] [.bool true] := by
  have hT := tame_is gs
  have ht := tameC gs hl
  generalize tameF gs = t at hT ht
  have h38 := tame_twin hT
  cases hk : okG t with
  | false =>
    obtain ⟨h73, h39⟩ := tame_check hT 3 (by rw [hk]; rfl)
    exact loBad ht h38 (loopsBad h73) h39
  | true =>
    obtain ⟨h73, h39⟩ := tame_check hT 0 (by rw [hk]; rfl)
    obtain ⟨g, rfl, hg, hgl, hr⟩ := tame_nat hT hk
    have hsr6 : ∀ a, (succ g a).length < 100000 := fun a => by
      unfold succ
      rw [List.getD_eq_getElem?_getD]
      cases h : g[a]? with
      | none => simp
      | some l => have := hr l (List.mem_of_getElem? h); simp; omega
    have h37 := loopsC hg (by omega) (fun l hl => by have := hr l hl; omega)
    have h40 := refLoopsC hg (by omega) hsr6
    have hlen : (loopsOf g).length ≤ g.length := Nat.le_trans (loopsIn_len g _) (ordOf_len g)
    refine loOk (loopsOf g) (by omega) (fun p hp => ?_) ht h38 h37 h39 h40
    unfold loopsOf loopsIn at hp
    obtain ⟨h, _, rfl⟩ := List.mem_map.1 hp
    have := List.length_filter_le (fun v => decide (InL g h (backsOf g h) v)) (List.range g.length)
    rw [List.length_range] at this
    show (loopAt g h).length < _
    unfold loopAt
    omega
end Go.Avm
