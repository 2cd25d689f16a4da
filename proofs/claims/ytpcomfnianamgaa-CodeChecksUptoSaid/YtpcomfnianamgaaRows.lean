/-
  No cell of these rows narrows 'for every input' (looked for: loops, veiled, ifaces, maps, wideKeys, modest, calm, conditions, laid).
  DERIVED. THE GIVEN ROWS OF THIS SEAT. 12 by the template 'for every input the law returns true; each argument reads behind the call as it read before'; 0 by the template 'total and deterministic' (their statements: YtpcomfnianamgaaTotals.lean).
  GIVEN WITH THE SEED: the statements are not yours to turn. If you find one false, say at which input.
  Laid BY PROGRAM, IN A SANDBOX (cutbox-rows.mjs): the forced cells as the released guide's own fill.sh prints them over the translation f9dd8350ea7e0b39… (all of the seat's roots in one cut). By AI agents, Wed Nov 11 2026. No macro, syntax, notation, axiom, sorry.
-/
import Derived.Test.YtpcomfnianamgaaChecked
import GoSem.Claim
import GoSem.ClaimJoined
import GoSem.ClaimMapViews
import Derived.JoinedTies
import Derived.KernelRfl
namespace Go.Proofs.Ytpcomfnianamgaa
/- THE CELL 'sum', in the pinned program and in every row, IS THE sha256 OF THE DUMP (.gsa) THAT YtpcomfnianamgaaProg.lean LOADS. Nothing in Lean hashes anything: it is a label: what it is worth is what the hold of that sum in a sandbox is worth. -/
noncomputable def Try.pinned : Pinned := { name := "ytpcomfnianamgaa", sum := "f9dd8350ea7e0b39fc51600bf75de318a2a5119314e19d7ebe6e752c9f64eeb4", checked := Try.checked }
namespace Rows
def none {H : Type} : Left H := { results := [], args := [] }

/-- 'teasellaw06.CodeChecks': WHATEVER THE INPUT: true; the input reads as it did. -/
def codeChecksSpec : ChangeSpec := { name := "codeChecks", fn := fun _ => fun
  | [d] => { results := [.lit (.bool true)], args := [d] }
  | _ => none }
def codeChecksRow : OpenClaim := { program := "ytpcomfnianamgaa", sum := "f9dd8350ea7e0b39fc51600bf75de318a2a5119314e19d7ebe6e752c9f64eeb4", func := "teasel/teasellaw06.CodeChecks", spec := "codeChecks", unfollowed := true, recurses := true, plainKeys := false, apart := false }
def CodeChecksSaid : Prop := codeChecksRow.holds Try.pinned (OpenSpec.ofChange codeChecksSpec)

/-- ITS FALSE NEIGHBOUR: 'it returns false'. Refute it at one input. -/
def codeChecksWrong : ChangeSpec := { name := "codeChecks", fn := fun _ => fun
  | [d] => { results := [.lit (.bool false)], args := [d] }
  | _ => none }
def CodeChecksWrongFalsely : Prop := codeChecksRow.holds Try.pinned (OpenSpec.ofChange codeChecksWrong)

/-- 'teasellaw06.CodeNeeds': WHATEVER THE INPUT: true; the input reads as it did. -/
def codeNeedsSpec : ChangeSpec := { name := "codeNeeds", fn := fun _ => fun
  | [d1, d2] => { results := [.lit (.bool true)], args := [d1, d2] }
  | _ => none }
def codeNeedsRow : OpenClaim := { program := "ytpcomfnianamgaa", sum := "f9dd8350ea7e0b39fc51600bf75de318a2a5119314e19d7ebe6e752c9f64eeb4", func := "teasel/teasellaw06.CodeNeeds", spec := "codeNeeds", unfollowed := true, recurses := true, plainKeys := false, apart := false }
def CodeNeedsSaid : Prop := codeNeedsRow.holds Try.pinned (OpenSpec.ofChange codeNeedsSpec)

/-- ITS FALSE NEIGHBOUR: 'it returns false'. Refute it at one input. -/
def codeNeedsWrong : ChangeSpec := { name := "codeNeeds", fn := fun _ => fun
  | [d1, d2] => { results := [.lit (.bool false)], args := [d1, d2] }
  | _ => none }
def CodeNeedsWrongFalsely : Prop := codeNeedsRow.holds Try.pinned (OpenSpec.ofChange codeNeedsWrong)

/-- 'teasellaw06.CodeCopies': WHATEVER THE INPUT: true; the input reads as it did. -/
def codeCopiesSpec : ChangeSpec := { name := "codeCopies", fn := fun _ => fun
  | [d] => { results := [.lit (.bool true)], args := [d] }
  | _ => none }
def codeCopiesRow : OpenClaim := { program := "ytpcomfnianamgaa", sum := "f9dd8350ea7e0b39fc51600bf75de318a2a5119314e19d7ebe6e752c9f64eeb4", func := "teasel/teasellaw06.CodeCopies", spec := "codeCopies", unfollowed := true, recurses := true, plainKeys := false, apart := false }
def CodeCopiesSaid : Prop := codeCopiesRow.holds Try.pinned (OpenSpec.ofChange codeCopiesSpec)

/-- ITS FALSE NEIGHBOUR: 'it returns false'. Refute it at one input. -/
def codeCopiesWrong : ChangeSpec := { name := "codeCopies", fn := fun _ => fun
  | [d] => { results := [.lit (.bool false)], args := [d] }
  | _ => none }
def CodeCopiesWrongFalsely : Prop := codeCopiesRow.holds Try.pinned (OpenSpec.ofChange codeCopiesWrong)

/-- 'teasellaw17.PaintPaints': WHATEVER THE INPUT: true; the input reads as it did. -/
def paintPaintsSpec : ChangeSpec := { name := "paintPaints", fn := fun _ => fun
  | [d1, d2, d3, d4] => { results := [.lit (.bool true)], args := [d1, d2, d3, d4] }
  | _ => none }
def paintPaintsRow : OpenClaim := { program := "ytpcomfnianamgaa", sum := "f9dd8350ea7e0b39fc51600bf75de318a2a5119314e19d7ebe6e752c9f64eeb4", func := "teasel/teasellaw17.PaintPaints", spec := "paintPaints", unfollowed := true, recurses := true, plainKeys := false, apart := false }
def PaintPaintsSaid : Prop := paintPaintsRow.holds Try.pinned (OpenSpec.ofChange paintPaintsSpec)

/-- ITS FALSE NEIGHBOUR: 'it returns false'. Refute it at one input. -/
def paintPaintsWrong : ChangeSpec := { name := "paintPaints", fn := fun _ => fun
  | [d1, d2, d3, d4] => { results := [.lit (.bool false)], args := [d1, d2, d3, d4] }
  | _ => none }
def PaintPaintsWrongFalsely : Prop := paintPaintsRow.holds Try.pinned (OpenSpec.ofChange paintPaintsWrong)

/-- 'teasellaw17.PaintLikes': WHATEVER THE INPUT: true; the input reads as it did. -/
def paintLikesSpec : ChangeSpec := { name := "paintLikes", fn := fun _ => fun
  | [d1, d2, d3] => { results := [.lit (.bool true)], args := [d1, d2, d3] }
  | _ => none }
def paintLikesRow : OpenClaim := { program := "ytpcomfnianamgaa", sum := "f9dd8350ea7e0b39fc51600bf75de318a2a5119314e19d7ebe6e752c9f64eeb4", func := "teasel/teasellaw17.PaintLikes", spec := "paintLikes", unfollowed := true, recurses := true, plainKeys := false, apart := false }
def PaintLikesSaid : Prop := paintLikesRow.holds Try.pinned (OpenSpec.ofChange paintLikesSpec)

/-- ITS FALSE NEIGHBOUR: 'it returns false'. Refute it at one input. -/
def paintLikesWrong : ChangeSpec := { name := "paintLikes", fn := fun _ => fun
  | [d1, d2, d3] => { results := [.lit (.bool false)], args := [d1, d2, d3] }
  | _ => none }
def PaintLikesWrongFalsely : Prop := paintLikesRow.holds Try.pinned (OpenSpec.ofChange paintLikesWrong)

/-- 'teasellaw17.PaintRings': WHATEVER THE INPUT: true; the input reads as it did. -/
def paintRingsSpec : ChangeSpec := { name := "paintRings", fn := fun _ => fun
  | [d1, d2] => { results := [.lit (.bool true)], args := [d1, d2] }
  | _ => none }
def paintRingsRow : OpenClaim := { program := "ytpcomfnianamgaa", sum := "f9dd8350ea7e0b39fc51600bf75de318a2a5119314e19d7ebe6e752c9f64eeb4", func := "teasel/teasellaw17.PaintRings", spec := "paintRings", unfollowed := true, recurses := true, plainKeys := false, apart := false }
def PaintRingsSaid : Prop := paintRingsRow.holds Try.pinned (OpenSpec.ofChange paintRingsSpec)

/-- ITS FALSE NEIGHBOUR: 'it returns false'. Refute it at one input. -/
def paintRingsWrong : ChangeSpec := { name := "paintRings", fn := fun _ => fun
  | [d1, d2] => { results := [.lit (.bool false)], args := [d1, d2] }
  | _ => none }
def PaintRingsWrongFalsely : Prop := paintRingsRow.holds Try.pinned (OpenSpec.ofChange paintRingsWrong)

/-- 'teasellaw17.PaintCliques': WHATEVER THE INPUT: true; the input reads as it did. -/
def paintCliquesSpec : ChangeSpec := { name := "paintCliques", fn := fun _ => fun
  | [d1, d2] => { results := [.lit (.bool true)], args := [d1, d2] }
  | _ => none }
def paintCliquesRow : OpenClaim := { program := "ytpcomfnianamgaa", sum := "f9dd8350ea7e0b39fc51600bf75de318a2a5119314e19d7ebe6e752c9f64eeb4", func := "teasel/teasellaw17.PaintCliques", spec := "paintCliques", unfollowed := true, recurses := true, plainKeys := false, apart := false }
def PaintCliquesSaid : Prop := paintCliquesRow.holds Try.pinned (OpenSpec.ofChange paintCliquesSpec)

/-- ITS FALSE NEIGHBOUR: 'it returns false'. Refute it at one input. -/
def paintCliquesWrong : ChangeSpec := { name := "paintCliques", fn := fun _ => fun
  | [d1, d2] => { results := [.lit (.bool false)], args := [d1, d2] }
  | _ => none }
def PaintCliquesWrongFalsely : Prop := paintCliquesRow.holds Try.pinned (OpenSpec.ofChange paintCliquesWrong)

/-- 'teasellaw05.FlowLoops': WHATEVER THE INPUT: true; the input reads as it did. -/
def flowLoopsSpec : ChangeSpec := { name := "flowLoops", fn := fun _ => fun
  | [d] => { results := [.lit (.bool true)], args := [d] }
  | _ => none }
def flowLoopsRow : OpenClaim := { program := "ytpcomfnianamgaa", sum := "f9dd8350ea7e0b39fc51600bf75de318a2a5119314e19d7ebe6e752c9f64eeb4", func := "teasel/teasellaw05.FlowLoops", spec := "flowLoops", unfollowed := true, recurses := true, plainKeys := false, apart := false }
def FlowLoopsSaid : Prop := flowLoopsRow.holds Try.pinned (OpenSpec.ofChange flowLoopsSpec)

/-- ITS FALSE NEIGHBOUR: 'it returns false'. Refute it at one input. -/
def flowLoopsWrong : ChangeSpec := { name := "flowLoops", fn := fun _ => fun
  | [d] => { results := [.lit (.bool false)], args := [d] }
  | _ => none }
def FlowLoopsWrongFalsely : Prop := flowLoopsRow.holds Try.pinned (OpenSpec.ofChange flowLoopsWrong)

/-- 'teasellaw05.FlowTree': WHATEVER THE INPUT: true; the input reads as it did. -/
def flowTreeSpec : ChangeSpec := { name := "flowTree", fn := fun _ => fun
  | [d] => { results := [.lit (.bool true)], args := [d] }
  | _ => none }
def flowTreeRow : OpenClaim := { program := "ytpcomfnianamgaa", sum := "f9dd8350ea7e0b39fc51600bf75de318a2a5119314e19d7ebe6e752c9f64eeb4", func := "teasel/teasellaw05.FlowTree", spec := "flowTree", unfollowed := true, recurses := true, plainKeys := false, apart := false }
def FlowTreeSaid : Prop := flowTreeRow.holds Try.pinned (OpenSpec.ofChange flowTreeSpec)

/-- ITS FALSE NEIGHBOUR: 'it returns false'. Refute it at one input. -/
def flowTreeWrong : ChangeSpec := { name := "flowTree", fn := fun _ => fun
  | [d] => { results := [.lit (.bool false)], args := [d] }
  | _ => none }
def FlowTreeWrongFalsely : Prop := flowTreeRow.holds Try.pinned (OpenSpec.ofChange flowTreeWrong)

/-- 'teasellaw05.FlowReached': WHATEVER THE INPUT: true; the input reads as it did. -/
def flowReachedSpec : ChangeSpec := { name := "flowReached", fn := fun _ => fun
  | [d] => { results := [.lit (.bool true)], args := [d] }
  | _ => none }
def flowReachedRow : OpenClaim := { program := "ytpcomfnianamgaa", sum := "f9dd8350ea7e0b39fc51600bf75de318a2a5119314e19d7ebe6e752c9f64eeb4", func := "teasel/teasellaw05.FlowReached", spec := "flowReached", unfollowed := true, recurses := true, plainKeys := false, apart := false }
def FlowReachedSaid : Prop := flowReachedRow.holds Try.pinned (OpenSpec.ofChange flowReachedSpec)

/-- ITS FALSE NEIGHBOUR: 'it returns false'. Refute it at one input. -/
def flowReachedWrong : ChangeSpec := { name := "flowReached", fn := fun _ => fun
  | [d] => { results := [.lit (.bool false)], args := [d] }
  | _ => none }
def FlowReachedWrongFalsely : Prop := flowReachedRow.holds Try.pinned (OpenSpec.ofChange flowReachedWrong)

/-- 'teasellaw05.FlowOrders': WHATEVER THE INPUT: true; the input reads as it did. -/
def flowOrdersSpec : ChangeSpec := { name := "flowOrders", fn := fun _ => fun
  | [d] => { results := [.lit (.bool true)], args := [d] }
  | _ => none }
def flowOrdersRow : OpenClaim := { program := "ytpcomfnianamgaa", sum := "f9dd8350ea7e0b39fc51600bf75de318a2a5119314e19d7ebe6e752c9f64eeb4", func := "teasel/teasellaw05.FlowOrders", spec := "flowOrders", unfollowed := true, recurses := true, plainKeys := false, apart := false }
def FlowOrdersSaid : Prop := flowOrdersRow.holds Try.pinned (OpenSpec.ofChange flowOrdersSpec)

/-- ITS FALSE NEIGHBOUR: 'it returns false'. Refute it at one input. -/
def flowOrdersWrong : ChangeSpec := { name := "flowOrders", fn := fun _ => fun
  | [d] => { results := [.lit (.bool false)], args := [d] }
  | _ => none }
def FlowOrdersWrongFalsely : Prop := flowOrdersRow.holds Try.pinned (OpenSpec.ofChange flowOrdersWrong)

/-- 'teasellaw05.FlowAbove': WHATEVER THE INPUT: true; the input reads as it did. -/
def flowAboveSpec : ChangeSpec := { name := "flowAbove", fn := fun _ => fun
  | [d] => { results := [.lit (.bool true)], args := [d] }
  | _ => none }
def flowAboveRow : OpenClaim := { program := "ytpcomfnianamgaa", sum := "f9dd8350ea7e0b39fc51600bf75de318a2a5119314e19d7ebe6e752c9f64eeb4", func := "teasel/teasellaw05.FlowAbove", spec := "flowAbove", unfollowed := true, recurses := true, plainKeys := false, apart := false }
def FlowAboveSaid : Prop := flowAboveRow.holds Try.pinned (OpenSpec.ofChange flowAboveSpec)

/-- ITS FALSE NEIGHBOUR: 'it returns false'. Refute it at one input. -/
def flowAboveWrong : ChangeSpec := { name := "flowAbove", fn := fun _ => fun
  | [d] => { results := [.lit (.bool false)], args := [d] }
  | _ => none }
def FlowAboveWrongFalsely : Prop := flowAboveRow.holds Try.pinned (OpenSpec.ofChange flowAboveWrong)

/- THE SECOND FORM. 'bulk': how many values and letters a reading holds, each counted each time it is reached (what is shared counts as often as it is met; a slice's spare places count too). A statement '..UptoSaid' is the law's where the arguments, and the package variables that the reading takes, are together of bulk at most 1048576: NARROWER than '..Said'. Prove '..Said' where nothing that the law and all that it calls make is longer than what came in: it says more and counts as full. Else prove '..UptoSaid'. A law counts once. -/
mutual
def uptoBulk {H : Type} : DataW H → Nat
  | .lit (.string bytes) => bytes.length + 1
  | .lit _ => 1
  | .nil => 1
  | .ptr d => uptoBulk d + 1
  | .slice elems spare => uptoBulkAll elems + uptoBulkAll spare + 1
  | .agg parts => uptoBulkAll parts + 1
  | .iface _ d => uptoBulk d + 1
  | .map entries => uptoBulkEntries entries + 1
  | .held _ => 1
def uptoBulkAll {H : Type} : List (DataW H) → Nat
  | [] => 0
  | d :: r => uptoBulk d + uptoBulkAll r
def uptoBulkEntries {H : Type} : List (Lit × DataW H) → Nat
  | [] => 0
  | x :: r => uptoBulkEntry x + uptoBulkEntries r
def uptoBulkEntry {H : Type} : Lit × DataW H → Nat
  | (.string bytes, d) => bytes.length + uptoBulk d + 1
  | (_, d) => uptoBulk d + 1
 end
def uptoSmall : (H : Type) → List (DataW H) → Bool := fun _ ds => decide (uptoBulkAll ds ≤ 1048576)
def OpenSpec.upto (s : _root_.Go.ChangeSpec) : _root_.Go.OpenSpec := { _root_.Go.OpenSpec.ofChange s with cond := some uptoSmall }

/-- 'teasellaw06.CodeChecks', WHERE WHAT IT READS IS OF BULK AT MOST 1048576: true; the input reads as it did. -/
def codeChecksUptoRow : OpenClaim := { program := "ytpcomfnianamgaa", sum := "f9dd8350ea7e0b39fc51600bf75de318a2a5119314e19d7ebe6e752c9f64eeb4", func := "teasel/teasellaw06.CodeChecks", spec := "codeChecks", unfollowed := true, recurses := true, plainKeys := false, apart := false, narrowed := true }
def CodeChecksUptoSaid : Prop := codeChecksUptoRow.holds Try.pinned (OpenSpec.upto codeChecksSpec)

/-- 'teasellaw06.CodeNeeds', WHERE WHAT IT READS IS OF BULK AT MOST 1048576: true; the input reads as it did. -/
def codeNeedsUptoRow : OpenClaim := { program := "ytpcomfnianamgaa", sum := "f9dd8350ea7e0b39fc51600bf75de318a2a5119314e19d7ebe6e752c9f64eeb4", func := "teasel/teasellaw06.CodeNeeds", spec := "codeNeeds", unfollowed := true, recurses := true, plainKeys := false, apart := false, narrowed := true }
def CodeNeedsUptoSaid : Prop := codeNeedsUptoRow.holds Try.pinned (OpenSpec.upto codeNeedsSpec)

/-- 'teasellaw06.CodeCopies', WHERE WHAT IT READS IS OF BULK AT MOST 1048576: true; the input reads as it did. -/
def codeCopiesUptoRow : OpenClaim := { program := "ytpcomfnianamgaa", sum := "f9dd8350ea7e0b39fc51600bf75de318a2a5119314e19d7ebe6e752c9f64eeb4", func := "teasel/teasellaw06.CodeCopies", spec := "codeCopies", unfollowed := true, recurses := true, plainKeys := false, apart := false, narrowed := true }
def CodeCopiesUptoSaid : Prop := codeCopiesUptoRow.holds Try.pinned (OpenSpec.upto codeCopiesSpec)

/-- 'teasellaw17.PaintPaints', WHERE WHAT IT READS IS OF BULK AT MOST 1048576: true; the input reads as it did. -/
def paintPaintsUptoRow : OpenClaim := { program := "ytpcomfnianamgaa", sum := "f9dd8350ea7e0b39fc51600bf75de318a2a5119314e19d7ebe6e752c9f64eeb4", func := "teasel/teasellaw17.PaintPaints", spec := "paintPaints", unfollowed := true, recurses := true, plainKeys := false, apart := false, narrowed := true }
def PaintPaintsUptoSaid : Prop := paintPaintsUptoRow.holds Try.pinned (OpenSpec.upto paintPaintsSpec)

/-- 'teasellaw17.PaintLikes', WHERE WHAT IT READS IS OF BULK AT MOST 1048576: true; the input reads as it did. -/
def paintLikesUptoRow : OpenClaim := { program := "ytpcomfnianamgaa", sum := "f9dd8350ea7e0b39fc51600bf75de318a2a5119314e19d7ebe6e752c9f64eeb4", func := "teasel/teasellaw17.PaintLikes", spec := "paintLikes", unfollowed := true, recurses := true, plainKeys := false, apart := false, narrowed := true }
def PaintLikesUptoSaid : Prop := paintLikesUptoRow.holds Try.pinned (OpenSpec.upto paintLikesSpec)

/-- 'teasellaw17.PaintRings', WHERE WHAT IT READS IS OF BULK AT MOST 1048576: true; the input reads as it did. -/
def paintRingsUptoRow : OpenClaim := { program := "ytpcomfnianamgaa", sum := "f9dd8350ea7e0b39fc51600bf75de318a2a5119314e19d7ebe6e752c9f64eeb4", func := "teasel/teasellaw17.PaintRings", spec := "paintRings", unfollowed := true, recurses := true, plainKeys := false, apart := false, narrowed := true }
def PaintRingsUptoSaid : Prop := paintRingsUptoRow.holds Try.pinned (OpenSpec.upto paintRingsSpec)

/-- 'teasellaw17.PaintCliques', WHERE WHAT IT READS IS OF BULK AT MOST 1048576: true; the input reads as it did. -/
def paintCliquesUptoRow : OpenClaim := { program := "ytpcomfnianamgaa", sum := "f9dd8350ea7e0b39fc51600bf75de318a2a5119314e19d7ebe6e752c9f64eeb4", func := "teasel/teasellaw17.PaintCliques", spec := "paintCliques", unfollowed := true, recurses := true, plainKeys := false, apart := false, narrowed := true }
def PaintCliquesUptoSaid : Prop := paintCliquesUptoRow.holds Try.pinned (OpenSpec.upto paintCliquesSpec)

/-- 'teasellaw05.FlowLoops', WHERE WHAT IT READS IS OF BULK AT MOST 1048576: true; the input reads as it did. -/
def flowLoopsUptoRow : OpenClaim := { program := "ytpcomfnianamgaa", sum := "f9dd8350ea7e0b39fc51600bf75de318a2a5119314e19d7ebe6e752c9f64eeb4", func := "teasel/teasellaw05.FlowLoops", spec := "flowLoops", unfollowed := true, recurses := true, plainKeys := false, apart := false, narrowed := true }
def FlowLoopsUptoSaid : Prop := flowLoopsUptoRow.holds Try.pinned (OpenSpec.upto flowLoopsSpec)

/-- 'teasellaw05.FlowTree', WHERE WHAT IT READS IS OF BULK AT MOST 1048576: true; the input reads as it did. -/
def flowTreeUptoRow : OpenClaim := { program := "ytpcomfnianamgaa", sum := "f9dd8350ea7e0b39fc51600bf75de318a2a5119314e19d7ebe6e752c9f64eeb4", func := "teasel/teasellaw05.FlowTree", spec := "flowTree", unfollowed := true, recurses := true, plainKeys := false, apart := false, narrowed := true }
def FlowTreeUptoSaid : Prop := flowTreeUptoRow.holds Try.pinned (OpenSpec.upto flowTreeSpec)

/-- 'teasellaw05.FlowReached', WHERE WHAT IT READS IS OF BULK AT MOST 1048576: true; the input reads as it did. -/
def flowReachedUptoRow : OpenClaim := { program := "ytpcomfnianamgaa", sum := "f9dd8350ea7e0b39fc51600bf75de318a2a5119314e19d7ebe6e752c9f64eeb4", func := "teasel/teasellaw05.FlowReached", spec := "flowReached", unfollowed := true, recurses := true, plainKeys := false, apart := false, narrowed := true }
def FlowReachedUptoSaid : Prop := flowReachedUptoRow.holds Try.pinned (OpenSpec.upto flowReachedSpec)

/-- 'teasellaw05.FlowOrders', WHERE WHAT IT READS IS OF BULK AT MOST 1048576: true; the input reads as it did. -/
def flowOrdersUptoRow : OpenClaim := { program := "ytpcomfnianamgaa", sum := "f9dd8350ea7e0b39fc51600bf75de318a2a5119314e19d7ebe6e752c9f64eeb4", func := "teasel/teasellaw05.FlowOrders", spec := "flowOrders", unfollowed := true, recurses := true, plainKeys := false, apart := false, narrowed := true }
def FlowOrdersUptoSaid : Prop := flowOrdersUptoRow.holds Try.pinned (OpenSpec.upto flowOrdersSpec)

/-- 'teasellaw05.FlowAbove', WHERE WHAT IT READS IS OF BULK AT MOST 1048576: true; the input reads as it did. -/
def flowAboveUptoRow : OpenClaim := { program := "ytpcomfnianamgaa", sum := "f9dd8350ea7e0b39fc51600bf75de318a2a5119314e19d7ebe6e752c9f64eeb4", func := "teasel/teasellaw05.FlowAbove", spec := "flowAbove", unfollowed := true, recurses := true, plainKeys := false, apart := false, narrowed := true }
def FlowAboveUptoSaid : Prop := flowAboveUptoRow.holds Try.pinned (OpenSpec.upto flowAboveSpec)

end Rows
end Go.Proofs.Ytpcomfnianamgaa
