/-
  No cell of these rows narrows 'for every input' (looked for: loops, veiled, ifaces, maps, wideKeys, modest, calm, conditions, laid).
  DERIVED. THE GIVEN ROWS OF THIS SEAT. 5 by the template 'for every input the law returns true; each argument reads behind the call as it read before'; 0 by the template 'total and deterministic' (their statements: YtcjiafanhlhdlaaGreatTotals.lean).
  GIVEN WITH THE SEED: the statements are not yours to turn. If you find one false, say at which input.
  Laid BY PROGRAM, IN A SANDBOX (cutbox-rows.mjs): the forced cells as the released guide's own fill.sh prints them over the translation 66af9341240d952f… (all of the seat's roots in one cut). By AI agents, Wed Nov 11 2026. No macro, syntax, notation, axiom, sorry.
-/
import Derived.Test.YtcjiafanhlhdlaaGreatChecked
import GoSem.Claim
import GoSem.ClaimJoined
import GoSem.ClaimMapViews
import Derived.JoinedTies
import Derived.KernelRfl
namespace Go.Proofs.YtcjiafanhlhdlaaGreat
/- THE CELL 'sum', in the pinned program and in every row, IS THE sha256 OF THE DUMP (.gsa) THAT YtcjiafanhlhdlaaGreatProg.lean LOADS. Nothing in Lean hashes anything: it is a label: what it is worth is what the hold of that sum in a sandbox is worth. -/
noncomputable def Tryz.pinned : Pinned := { name := "ytcjiafanhlhdlaagreat", sum := "66af9341240d952f1113eaddfd2c8f0f0cc2ffd43c8c0b3663cc0c20fd766c0a", checked := Tryz.checked }
namespace Rows
def none {H : Type} : Left H := { results := [], args := [] }

/-- 'teasellaw04.SourceFuel': WHATEVER THE INPUT: true; the input reads as it did. -/
def sourceFuelSpec : ChangeSpec := { name := "sourceFuel", fn := fun _ => fun
  | [d1, d2, d3, d4] => { results := [.lit (.bool true)], args := [d1, d2, d3, d4] }
  | _ => none }
def sourceFuelRow : OpenClaim := { program := "ytcjiafanhlhdlaagreat", sum := "66af9341240d952f1113eaddfd2c8f0f0cc2ffd43c8c0b3663cc0c20fd766c0a", func := "teasel/teasellaw04.SourceFuel", spec := "sourceFuel", inPlace := ["maps.clone"], unfollowed := true, recurses := true, apart := false }
def SourceFuelSaid : Prop := sourceFuelRow.holds Tryz.pinned (OpenSpec.ofChange sourceFuelSpec)

/-- ITS FALSE NEIGHBOUR: 'it returns false'. Refute it at one input. -/
def sourceFuelWrong : ChangeSpec := { name := "sourceFuel", fn := fun _ => fun
  | [d1, d2, d3, d4] => { results := [.lit (.bool false)], args := [d1, d2, d3, d4] }
  | _ => none }
def SourceFuelWrongFalsely : Prop := sourceFuelRow.holds Tryz.pinned (OpenSpec.ofChange sourceFuelWrong)

/-- 'teasellaw04.SourceValues': WHATEVER THE INPUT: true; the input reads as it did. -/
def sourceValuesSpec : ChangeSpec := { name := "sourceValues", fn := fun _ => fun
  | [d1, d2, d3] => { results := [.lit (.bool true)], args := [d1, d2, d3] }
  | _ => none }
def sourceValuesRow : OpenClaim := { program := "ytcjiafanhlhdlaagreat", sum := "66af9341240d952f1113eaddfd2c8f0f0cc2ffd43c8c0b3663cc0c20fd766c0a", func := "teasel/teasellaw04.SourceValues", spec := "sourceValues", inPlace := ["maps.clone"], unfollowed := true, recurses := true, apart := false }
def SourceValuesSaid : Prop := sourceValuesRow.holds Tryz.pinned (OpenSpec.ofChange sourceValuesSpec)

/-- ITS FALSE NEIGHBOUR: 'it returns false'. Refute it at one input. -/
def sourceValuesWrong : ChangeSpec := { name := "sourceValues", fn := fun _ => fun
  | [d1, d2, d3] => { results := [.lit (.bool false)], args := [d1, d2, d3] }
  | _ => none }
def SourceValuesWrongFalsely : Prop := sourceValuesRow.holds Tryz.pinned (OpenSpec.ofChange sourceValuesWrong)

/-- 'teasellaw04.SourceWhole': WHATEVER THE INPUT: true; the input reads as it did. -/
def sourceWholeSpec : ChangeSpec := { name := "sourceWhole", fn := fun _ => fun
  | [d1, d2, d3] => { results := [.lit (.bool true)], args := [d1, d2, d3] }
  | _ => none }
def sourceWholeRow : OpenClaim := { program := "ytcjiafanhlhdlaagreat", sum := "66af9341240d952f1113eaddfd2c8f0f0cc2ffd43c8c0b3663cc0c20fd766c0a", func := "teasel/teasellaw04.SourceWhole", spec := "sourceWhole", inPlace := ["maps.clone"], unfollowed := true, recurses := true, apart := false }
def SourceWholeSaid : Prop := sourceWholeRow.holds Tryz.pinned (OpenSpec.ofChange sourceWholeSpec)

/-- ITS FALSE NEIGHBOUR: 'it returns false'. Refute it at one input. -/
def sourceWholeWrong : ChangeSpec := { name := "sourceWhole", fn := fun _ => fun
  | [d1, d2, d3] => { results := [.lit (.bool false)], args := [d1, d2, d3] }
  | _ => none }
def SourceWholeWrongFalsely : Prop := sourceWholeRow.holds Tryz.pinned (OpenSpec.ofChange sourceWholeWrong)

/-- 'teasellaw04.SourceUnread': WHATEVER THE INPUT: true; the input reads as it did. -/
def sourceUnreadSpec : ChangeSpec := { name := "sourceUnread", fn := fun _ => fun
  | [d1, d2, d3] => { results := [.lit (.bool true)], args := [d1, d2, d3] }
  | _ => none }
def sourceUnreadRow : OpenClaim := { program := "ytcjiafanhlhdlaagreat", sum := "66af9341240d952f1113eaddfd2c8f0f0cc2ffd43c8c0b3663cc0c20fd766c0a", func := "teasel/teasellaw04.SourceUnread", spec := "sourceUnread", inPlace := ["maps.clone"], unfollowed := true, recurses := true, apart := false }
def SourceUnreadSaid : Prop := sourceUnreadRow.holds Tryz.pinned (OpenSpec.ofChange sourceUnreadSpec)

/-- ITS FALSE NEIGHBOUR: 'it returns false'. Refute it at one input. -/
def sourceUnreadWrong : ChangeSpec := { name := "sourceUnread", fn := fun _ => fun
  | [d1, d2, d3] => { results := [.lit (.bool false)], args := [d1, d2, d3] }
  | _ => none }
def SourceUnreadWrongFalsely : Prop := sourceUnreadRow.holds Tryz.pinned (OpenSpec.ofChange sourceUnreadWrong)

/-- 'teasellaw04.SourceAlone': WHATEVER THE INPUT: true; the input reads as it did. -/
def sourceAloneSpec : ChangeSpec := { name := "sourceAlone", fn := fun _ => fun
  | [d1, d2] => { results := [.lit (.bool true)], args := [d1, d2] }
  | _ => none }
def sourceAloneRow : OpenClaim := { program := "ytcjiafanhlhdlaagreat", sum := "66af9341240d952f1113eaddfd2c8f0f0cc2ffd43c8c0b3663cc0c20fd766c0a", func := "teasel/teasellaw04.SourceAlone", spec := "sourceAlone", inPlace := ["maps.clone"], unfollowed := true, recurses := true, apart := false }
def SourceAloneSaid : Prop := sourceAloneRow.holds Tryz.pinned (OpenSpec.ofChange sourceAloneSpec)

/-- ITS FALSE NEIGHBOUR: 'it returns false'. Refute it at one input. -/
def sourceAloneWrong : ChangeSpec := { name := "sourceAlone", fn := fun _ => fun
  | [d1, d2] => { results := [.lit (.bool false)], args := [d1, d2] }
  | _ => none }
def SourceAloneWrongFalsely : Prop := sourceAloneRow.holds Tryz.pinned (OpenSpec.ofChange sourceAloneWrong)

/- THE SECOND FORM. 'bulk': how many values and letters a reading holds, each counted each time it is reached (what is shared counts as often as it is met; a slice's spare places count too). A statement '..UptoSaid' is the law's where the arguments, and the package variables that the reading takes, are together of bulk at most 1048576: NARROWER than '..Said'. Prove '..Said' where nothing that the law and all that it calls make is longer than what came in: it says more and counts as full. Else prove '..UptoSaid'. A law counts once. -/
mutual
def uptoBulk {H : Type} : DataW H → Nat
  | .lit (.string bytes) => bytes.length + 1
  | .lit _ => 1
  | .nil => 1
  | .ptr d => uptoBulk d + 1
  | .slice elems spare => uptoBulkAll elems + uptoBulkAll spare + 1
  | .agg parts => uptoBulkAll parts + 1
  | .iface _ d => uptoBulk d + 1
  | .map entries => uptoBulkEntries entries + 1
  | .held _ => 1
def uptoBulkAll {H : Type} : List (DataW H) → Nat
  | [] => 0
  | d :: r => uptoBulk d + uptoBulkAll r
def uptoBulkEntries {H : Type} : List (Lit × DataW H) → Nat
  | [] => 0
  | x :: r => uptoBulkEntry x + uptoBulkEntries r
def uptoBulkEntry {H : Type} : Lit × DataW H → Nat
  | (.string bytes, d) => bytes.length + uptoBulk d + 1
  | (_, d) => uptoBulk d + 1
 end
def uptoSmall : (H : Type) → List (DataW H) → Bool := fun _ ds => decide (uptoBulkAll ds ≤ 1048576)
def OpenSpec.upto (s : _root_.Go.ChangeSpec) : _root_.Go.OpenSpec := { _root_.Go.OpenSpec.ofChange s with cond := some uptoSmall }

/-- 'teasellaw04.SourceFuel', WHERE WHAT IT READS IS OF BULK AT MOST 1048576: true; the input reads as it did. -/
def sourceFuelUptoRow : OpenClaim := { program := "ytcjiafanhlhdlaagreat", sum := "66af9341240d952f1113eaddfd2c8f0f0cc2ffd43c8c0b3663cc0c20fd766c0a", func := "teasel/teasellaw04.SourceFuel", spec := "sourceFuel", inPlace := ["maps.clone"], unfollowed := true, recurses := true, apart := false, narrowed := true }
def SourceFuelUptoSaid : Prop := sourceFuelUptoRow.holds Tryz.pinned (OpenSpec.upto sourceFuelSpec)

/-- 'teasellaw04.SourceValues', WHERE WHAT IT READS IS OF BULK AT MOST 1048576: true; the input reads as it did. -/
def sourceValuesUptoRow : OpenClaim := { program := "ytcjiafanhlhdlaagreat", sum := "66af9341240d952f1113eaddfd2c8f0f0cc2ffd43c8c0b3663cc0c20fd766c0a", func := "teasel/teasellaw04.SourceValues", spec := "sourceValues", inPlace := ["maps.clone"], unfollowed := true, recurses := true, apart := false, narrowed := true }
def SourceValuesUptoSaid : Prop := sourceValuesUptoRow.holds Tryz.pinned (OpenSpec.upto sourceValuesSpec)

/-- 'teasellaw04.SourceWhole', WHERE WHAT IT READS IS OF BULK AT MOST 1048576: true; the input reads as it did. -/
def sourceWholeUptoRow : OpenClaim := { program := "ytcjiafanhlhdlaagreat", sum := "66af9341240d952f1113eaddfd2c8f0f0cc2ffd43c8c0b3663cc0c20fd766c0a", func := "teasel/teasellaw04.SourceWhole", spec := "sourceWhole", inPlace := ["maps.clone"], unfollowed := true, recurses := true, apart := false, narrowed := true }
def SourceWholeUptoSaid : Prop := sourceWholeUptoRow.holds Tryz.pinned (OpenSpec.upto sourceWholeSpec)

/-- 'teasellaw04.SourceUnread', WHERE WHAT IT READS IS OF BULK AT MOST 1048576: true; the input reads as it did. -/
def sourceUnreadUptoRow : OpenClaim := { program := "ytcjiafanhlhdlaagreat", sum := "66af9341240d952f1113eaddfd2c8f0f0cc2ffd43c8c0b3663cc0c20fd766c0a", func := "teasel/teasellaw04.SourceUnread", spec := "sourceUnread", inPlace := ["maps.clone"], unfollowed := true, recurses := true, apart := false, narrowed := true }
def SourceUnreadUptoSaid : Prop := sourceUnreadUptoRow.holds Tryz.pinned (OpenSpec.upto sourceUnreadSpec)

/-- 'teasellaw04.SourceAlone', WHERE WHAT IT READS IS OF BULK AT MOST 1048576: true; the input reads as it did. -/
def sourceAloneUptoRow : OpenClaim := { program := "ytcjiafanhlhdlaagreat", sum := "66af9341240d952f1113eaddfd2c8f0f0cc2ffd43c8c0b3663cc0c20fd766c0a", func := "teasel/teasellaw04.SourceAlone", spec := "sourceAlone", inPlace := ["maps.clone"], unfollowed := true, recurses := true, apart := false, narrowed := true }
def SourceAloneUptoSaid : Prop := sourceAloneUptoRow.holds Tryz.pinned (OpenSpec.upto sourceAloneSpec)

end Rows
end Go.Proofs.YtcjiafanhlhdlaaGreat
