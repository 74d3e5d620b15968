/-
  No cell of these rows narrows 'for every input' (looked for: loops, veiled, ifaces, maps, wideKeys, modest, calm, conditions, laid).
  DERIVED. THE GIVEN ROWS OF THIS SEAT. 10 by the template 'for every input the law returns true; each argument reads behind the call as it read before'; 0 by the template 'total and deterministic' (their statements: YtkfgpgllpegleaaTotals.lean).
  GIVEN WITH THE SEED: the statements are not yours to turn. If you find one false, say at which input.
  Laid BY PROGRAM, IN A SANDBOX (cutbox-rows.mjs): the forced cells as the released guide's own fill.sh prints them over the translation 6a4004cccbf58d70… (all of the seat's roots in one cut). By AI agents, Wed Nov 11 2026. No macro, syntax, notation, axiom, sorry.
-/
import Derived.Test.YtkfgpgllpegleaaChecked
import GoSem.Claim
import GoSem.ClaimJoined
import GoSem.ClaimMapViews
import Derived.JoinedTies
import Derived.KernelRfl
namespace Go.Proofs.Ytkfgpgllpegleaa
/- THE CELL 'sum', in the pinned program and in every row, IS THE sha256 OF THE DUMP (.gsa) THAT YtkfgpgllpegleaaProg.lean LOADS. Nothing in Lean hashes anything: it is a label: what it is worth is what the hold of that sum in a sandbox is worth. -/
noncomputable def Try.pinned : Pinned := { name := "ytkfgpgllpegleaa", sum := "6a4004cccbf58d70b1397b4ebb0d51fd0a4350796a1e11b983e8c26fbbf1515c", checked := Try.checked }
namespace Rows
def none {H : Type} : Left H := { results := [], args := [] }

/-- 'dustcartlaw9.SpillApart': WHATEVER THE INPUT: true; the input reads as it did. -/
def spillApartSpec : ChangeSpec := { name := "spillApart", fn := fun _ => fun
  | [d1, d2, d3, d4] => { results := [.lit (.bool true)], args := [d1, d2, d3, d4] }
  | _ => none }
def spillApartRow : OpenClaim := { program := "ytkfgpgllpegleaa", sum := "6a4004cccbf58d70b1397b4ebb0d51fd0a4350796a1e11b983e8c26fbbf1515c", func := "dustcart/dustcartlaw9.SpillApart", spec := "spillApart", apart := false }
def SpillApartSaid : Prop := spillApartRow.holds Try.pinned (OpenSpec.ofChange spillApartSpec)

/-- ITS FALSE NEIGHBOUR: 'it returns false'. Refute it at one input. -/
def spillApartWrong : ChangeSpec := { name := "spillApart", fn := fun _ => fun
  | [d1, d2, d3, d4] => { results := [.lit (.bool false)], args := [d1, d2, d3, d4] }
  | _ => none }
def SpillApartWrongFalsely : Prop := spillApartRow.holds Try.pinned (OpenSpec.ofChange spillApartWrong)

/-- 'dustcartlaw2.SetRuns': WHATEVER THE INPUT: true; the input reads as it did. -/
def setRunsSpec : ChangeSpec := { name := "setRuns", fn := fun _ => fun
  | [d1, d2, d3] => { results := [.lit (.bool true)], args := [d1, d2, d3] }
  | _ => none }
def setRunsRow : OpenClaim := { program := "ytkfgpgllpegleaa", sum := "6a4004cccbf58d70b1397b4ebb0d51fd0a4350796a1e11b983e8c26fbbf1515c", func := "dustcart/dustcartlaw2.SetRuns", spec := "setRuns", apart := false }
def SetRunsSaid : Prop := setRunsRow.holds Try.pinned (OpenSpec.ofChange setRunsSpec)

/-- ITS FALSE NEIGHBOUR: 'it returns false'. Refute it at one input. -/
def setRunsWrong : ChangeSpec := { name := "setRuns", fn := fun _ => fun
  | [d1, d2, d3] => { results := [.lit (.bool false)], args := [d1, d2, d3] }
  | _ => none }
def SetRunsWrongFalsely : Prop := setRunsRow.holds Try.pinned (OpenSpec.ofChange setRunsWrong)

/-- 'dustcartlaw6.LineGreat': WHATEVER THE INPUT: true; the input reads as it did. -/
def lineGreatSpec : ChangeSpec := { name := "lineGreat", fn := fun _ => fun
  | [d1, d2, d3] => { results := [.lit (.bool true)], args := [d1, d2, d3] }
  | _ => none }
def lineGreatRow : OpenClaim := { program := "ytkfgpgllpegleaa", sum := "6a4004cccbf58d70b1397b4ebb0d51fd0a4350796a1e11b983e8c26fbbf1515c", func := "dustcart/dustcartlaw6.LineGreat", spec := "lineGreat", unfollowed := true, recurses := true, apart := false }
def LineGreatSaid : Prop := lineGreatRow.holds Try.pinned (OpenSpec.ofChange lineGreatSpec)

/-- ITS FALSE NEIGHBOUR: 'it returns false'. Refute it at one input. -/
def lineGreatWrong : ChangeSpec := { name := "lineGreat", fn := fun _ => fun
  | [d1, d2, d3] => { results := [.lit (.bool false)], args := [d1, d2, d3] }
  | _ => none }
def LineGreatWrongFalsely : Prop := lineGreatRow.holds Try.pinned (OpenSpec.ofChange lineGreatWrong)

/-- 'dustcartlaw9.SpillCounts': WHATEVER THE INPUT: true; the input reads as it did. -/
def spillCountsSpec : ChangeSpec := { name := "spillCounts", fn := fun _ => fun
  | [d1, d2, d3] => { results := [.lit (.bool true)], args := [d1, d2, d3] }
  | _ => none }
def spillCountsRow : OpenClaim := { program := "ytkfgpgllpegleaa", sum := "6a4004cccbf58d70b1397b4ebb0d51fd0a4350796a1e11b983e8c26fbbf1515c", func := "dustcart/dustcartlaw9.SpillCounts", spec := "spillCounts", apart := false }
def SpillCountsSaid : Prop := spillCountsRow.holds Try.pinned (OpenSpec.ofChange spillCountsSpec)

/-- ITS FALSE NEIGHBOUR: 'it returns false'. Refute it at one input. -/
def spillCountsWrong : ChangeSpec := { name := "spillCounts", fn := fun _ => fun
  | [d1, d2, d3] => { results := [.lit (.bool false)], args := [d1, d2, d3] }
  | _ => none }
def SpillCountsWrongFalsely : Prop := spillCountsRow.holds Try.pinned (OpenSpec.ofChange spillCountsWrong)

/-- 'dustcartlaw6.LineOrders': WHATEVER THE INPUT: true; the input reads as it did. -/
def lineOrdersSpec : ChangeSpec := { name := "lineOrders", fn := fun _ => fun
  | [d1, d2] => { results := [.lit (.bool true)], args := [d1, d2] }
  | _ => none }
def lineOrdersRow : OpenClaim := { program := "ytkfgpgllpegleaa", sum := "6a4004cccbf58d70b1397b4ebb0d51fd0a4350796a1e11b983e8c26fbbf1515c", func := "dustcart/dustcartlaw6.LineOrders", spec := "lineOrders", unfollowed := true, recurses := true, apart := false }
def LineOrdersSaid : Prop := lineOrdersRow.holds Try.pinned (OpenSpec.ofChange lineOrdersSpec)

/-- ITS FALSE NEIGHBOUR: 'it returns false'. Refute it at one input. -/
def lineOrdersWrong : ChangeSpec := { name := "lineOrders", fn := fun _ => fun
  | [d1, d2] => { results := [.lit (.bool false)], args := [d1, d2] }
  | _ => none }
def LineOrdersWrongFalsely : Prop := lineOrdersRow.holds Try.pinned (OpenSpec.ofChange lineOrdersWrong)

/-- 'dustcartlaw6.LineFlushes': WHATEVER THE INPUT: true; the input reads as it did. -/
def lineFlushesSpec : ChangeSpec := { name := "lineFlushes", fn := fun _ => fun
  | [d1, d2] => { results := [.lit (.bool true)], args := [d1, d2] }
  | _ => none }
def lineFlushesRow : OpenClaim := { program := "ytkfgpgllpegleaa", sum := "6a4004cccbf58d70b1397b4ebb0d51fd0a4350796a1e11b983e8c26fbbf1515c", func := "dustcart/dustcartlaw6.LineFlushes", spec := "lineFlushes", unfollowed := true, recurses := true, apart := false }
def LineFlushesSaid : Prop := lineFlushesRow.holds Try.pinned (OpenSpec.ofChange lineFlushesSpec)

/-- ITS FALSE NEIGHBOUR: 'it returns false'. Refute it at one input. -/
def lineFlushesWrong : ChangeSpec := { name := "lineFlushes", fn := fun _ => fun
  | [d1, d2] => { results := [.lit (.bool false)], args := [d1, d2] }
  | _ => none }
def LineFlushesWrongFalsely : Prop := lineFlushesRow.holds Try.pinned (OpenSpec.ofChange lineFlushesWrong)

/-- 'dustcartlaw8.HeaderWords': WHATEVER THE INPUT: true; the input reads as it did. -/
def headerWordsSpec : ChangeSpec := { name := "headerWords", fn := fun _ => fun
  | [d] => { results := [.lit (.bool true)], args := [d] }
  | _ => none }
def headerWordsRow : OpenClaim := { program := "ytkfgpgllpegleaa", sum := "6a4004cccbf58d70b1397b4ebb0d51fd0a4350796a1e11b983e8c26fbbf1515c", func := "dustcart/dustcartlaw8.HeaderWords", spec := "headerWords", unfollowed := true, recurses := true, apart := false }
def HeaderWordsSaid : Prop := headerWordsRow.holds Try.pinned (OpenSpec.ofChange headerWordsSpec)

/-- ITS FALSE NEIGHBOUR: 'it returns false'. Refute it at one input. -/
def headerWordsWrong : ChangeSpec := { name := "headerWords", fn := fun _ => fun
  | [d] => { results := [.lit (.bool false)], args := [d] }
  | _ => none }
def HeaderWordsWrongFalsely : Prop := headerWordsRow.holds Try.pinned (OpenSpec.ofChange headerWordsWrong)

/-- 'dustcartlaw8.HeaderReads': WHATEVER THE INPUT: true; the input reads as it did. -/
def headerReadsSpec : ChangeSpec := { name := "headerReads", fn := fun _ => fun
  | [d] => { results := [.lit (.bool true)], args := [d] }
  | _ => none }
def headerReadsRow : OpenClaim := { program := "ytkfgpgllpegleaa", sum := "6a4004cccbf58d70b1397b4ebb0d51fd0a4350796a1e11b983e8c26fbbf1515c", func := "dustcart/dustcartlaw8.HeaderReads", spec := "headerReads", unfollowed := true, recurses := true, apart := false }
def HeaderReadsSaid : Prop := headerReadsRow.holds Try.pinned (OpenSpec.ofChange headerReadsSpec)

/-- ITS FALSE NEIGHBOUR: 'it returns false'. Refute it at one input. -/
def headerReadsWrong : ChangeSpec := { name := "headerReads", fn := fun _ => fun
  | [d] => { results := [.lit (.bool false)], args := [d] }
  | _ => none }
def HeaderReadsWrongFalsely : Prop := headerReadsRow.holds Try.pinned (OpenSpec.ofChange headerReadsWrong)

/-- 'dustcartlaw8.HeaderLimits': WHATEVER THE INPUT: true; the input reads as it did. -/
def headerLimitsSpec : ChangeSpec := { name := "headerLimits", fn := fun _ => fun
  | [d1, d2] => { results := [.lit (.bool true)], args := [d1, d2] }
  | _ => none }
def headerLimitsRow : OpenClaim := { program := "ytkfgpgllpegleaa", sum := "6a4004cccbf58d70b1397b4ebb0d51fd0a4350796a1e11b983e8c26fbbf1515c", func := "dustcart/dustcartlaw8.HeaderLimits", spec := "headerLimits", unfollowed := true, recurses := true, apart := false }
def HeaderLimitsSaid : Prop := headerLimitsRow.holds Try.pinned (OpenSpec.ofChange headerLimitsSpec)

/-- ITS FALSE NEIGHBOUR: 'it returns false'. Refute it at one input. -/
def headerLimitsWrong : ChangeSpec := { name := "headerLimits", fn := fun _ => fun
  | [d1, d2] => { results := [.lit (.bool false)], args := [d1, d2] }
  | _ => none }
def HeaderLimitsWrongFalsely : Prop := headerLimitsRow.holds Try.pinned (OpenSpec.ofChange headerLimitsWrong)

/-- 'dustcartlaw2.SetFills': WHATEVER THE INPUT: true; the input reads as it did. -/
def setFillsSpec : ChangeSpec := { name := "setFills", fn := fun _ => fun
  | [d1, d2] => { results := [.lit (.bool true)], args := [d1, d2] }
  | _ => none }
def setFillsRow : OpenClaim := { program := "ytkfgpgllpegleaa", sum := "6a4004cccbf58d70b1397b4ebb0d51fd0a4350796a1e11b983e8c26fbbf1515c", func := "dustcart/dustcartlaw2.SetFills", spec := "setFills", apart := false }
def SetFillsSaid : Prop := setFillsRow.holds Try.pinned (OpenSpec.ofChange setFillsSpec)

/-- ITS FALSE NEIGHBOUR: 'it returns false'. Refute it at one input. -/
def setFillsWrong : ChangeSpec := { name := "setFills", fn := fun _ => fun
  | [d1, d2] => { results := [.lit (.bool false)], args := [d1, d2] }
  | _ => none }
def SetFillsWrongFalsely : Prop := setFillsRow.holds Try.pinned (OpenSpec.ofChange setFillsWrong)

/- THE SECOND FORM. 'bulk': how many values and letters a reading holds, each counted each time it is reached (what is shared counts as often as it is met; a slice's spare places count too). A statement '..UptoSaid' is the law's where the arguments, and the package variables that the reading takes, are together of bulk at most 1048576: NARROWER than '..Said'. Prove '..Said' where nothing that the law and all that it calls make is longer than what came in: it says more and counts as full. Else prove '..UptoSaid'. A law counts once. -/
mutual
def uptoBulk {H : Type} : DataW H → Nat
  | .lit (.string bytes) => bytes.length + 1
  | .lit _ => 1
  | .nil => 1
  | .ptr d => uptoBulk d + 1
  | .slice elems spare => uptoBulkAll elems + uptoBulkAll spare + 1
  | .agg parts => uptoBulkAll parts + 1
  | .iface _ d => uptoBulk d + 1
  | .map entries => uptoBulkEntries entries + 1
  | .held _ => 1
def uptoBulkAll {H : Type} : List (DataW H) → Nat
  | [] => 0
  | d :: r => uptoBulk d + uptoBulkAll r
def uptoBulkEntries {H : Type} : List (Lit × DataW H) → Nat
  | [] => 0
  | x :: r => uptoBulkEntry x + uptoBulkEntries r
def uptoBulkEntry {H : Type} : Lit × DataW H → Nat
  | (.string bytes, d) => bytes.length + uptoBulk d + 1
  | (_, d) => uptoBulk d + 1
 end
def uptoSmall : (H : Type) → List (DataW H) → Bool := fun _ ds => decide (uptoBulkAll ds ≤ 1048576)
def OpenSpec.upto (s : _root_.Go.ChangeSpec) : _root_.Go.OpenSpec := { _root_.Go.OpenSpec.ofChange s with cond := some uptoSmall }

/-- 'dustcartlaw9.SpillApart', WHERE WHAT IT READS IS OF BULK AT MOST 1048576: true; the input reads as it did. -/
def spillApartUptoRow : OpenClaim := { program := "ytkfgpgllpegleaa", sum := "6a4004cccbf58d70b1397b4ebb0d51fd0a4350796a1e11b983e8c26fbbf1515c", func := "dustcart/dustcartlaw9.SpillApart", spec := "spillApart", apart := false, narrowed := true }
def SpillApartUptoSaid : Prop := spillApartUptoRow.holds Try.pinned (OpenSpec.upto spillApartSpec)

/-- 'dustcartlaw2.SetRuns', WHERE WHAT IT READS IS OF BULK AT MOST 1048576: true; the input reads as it did. -/
def setRunsUptoRow : OpenClaim := { program := "ytkfgpgllpegleaa", sum := "6a4004cccbf58d70b1397b4ebb0d51fd0a4350796a1e11b983e8c26fbbf1515c", func := "dustcart/dustcartlaw2.SetRuns", spec := "setRuns", apart := false, narrowed := true }
def SetRunsUptoSaid : Prop := setRunsUptoRow.holds Try.pinned (OpenSpec.upto setRunsSpec)

/-- 'dustcartlaw6.LineGreat', WHERE WHAT IT READS IS OF BULK AT MOST 1048576: true; the input reads as it did. -/
def lineGreatUptoRow : OpenClaim := { program := "ytkfgpgllpegleaa", sum := "6a4004cccbf58d70b1397b4ebb0d51fd0a4350796a1e11b983e8c26fbbf1515c", func := "dustcart/dustcartlaw6.LineGreat", spec := "lineGreat", unfollowed := true, recurses := true, apart := false, narrowed := true }
def LineGreatUptoSaid : Prop := lineGreatUptoRow.holds Try.pinned (OpenSpec.upto lineGreatSpec)

/-- 'dustcartlaw9.SpillCounts', WHERE WHAT IT READS IS OF BULK AT MOST 1048576: true; the input reads as it did. -/
def spillCountsUptoRow : OpenClaim := { program := "ytkfgpgllpegleaa", sum := "6a4004cccbf58d70b1397b4ebb0d51fd0a4350796a1e11b983e8c26fbbf1515c", func := "dustcart/dustcartlaw9.SpillCounts", spec := "spillCounts", apart := false, narrowed := true }
def SpillCountsUptoSaid : Prop := spillCountsUptoRow.holds Try.pinned (OpenSpec.upto spillCountsSpec)

/-- 'dustcartlaw6.LineOrders', WHERE WHAT IT READS IS OF BULK AT MOST 1048576: true; the input reads as it did. -/
def lineOrdersUptoRow : OpenClaim := { program := "ytkfgpgllpegleaa", sum := "6a4004cccbf58d70b1397b4ebb0d51fd0a4350796a1e11b983e8c26fbbf1515c", func := "dustcart/dustcartlaw6.LineOrders", spec := "lineOrders", unfollowed := true, recurses := true, apart := false, narrowed := true }
def LineOrdersUptoSaid : Prop := lineOrdersUptoRow.holds Try.pinned (OpenSpec.upto lineOrdersSpec)

/-- 'dustcartlaw6.LineFlushes', WHERE WHAT IT READS IS OF BULK AT MOST 1048576: true; the input reads as it did. -/
def lineFlushesUptoRow : OpenClaim := { program := "ytkfgpgllpegleaa", sum := "6a4004cccbf58d70b1397b4ebb0d51fd0a4350796a1e11b983e8c26fbbf1515c", func := "dustcart/dustcartlaw6.LineFlushes", spec := "lineFlushes", unfollowed := true, recurses := true, apart := false, narrowed := true }
def LineFlushesUptoSaid : Prop := lineFlushesUptoRow.holds Try.pinned (OpenSpec.upto lineFlushesSpec)

/-- 'dustcartlaw8.HeaderWords', WHERE WHAT IT READS IS OF BULK AT MOST 1048576: true; the input reads as it did. -/
def headerWordsUptoRow : OpenClaim := { program := "ytkfgpgllpegleaa", sum := "6a4004cccbf58d70b1397b4ebb0d51fd0a4350796a1e11b983e8c26fbbf1515c", func := "dustcart/dustcartlaw8.HeaderWords", spec := "headerWords", unfollowed := true, recurses := true, apart := false, narrowed := true }
def HeaderWordsUptoSaid : Prop := headerWordsUptoRow.holds Try.pinned (OpenSpec.upto headerWordsSpec)

/-- 'dustcartlaw8.HeaderReads', WHERE WHAT IT READS IS OF BULK AT MOST 1048576: true; the input reads as it did. -/
def headerReadsUptoRow : OpenClaim := { program := "ytkfgpgllpegleaa", sum := "6a4004cccbf58d70b1397b4ebb0d51fd0a4350796a1e11b983e8c26fbbf1515c", func := "dustcart/dustcartlaw8.HeaderReads", spec := "headerReads", unfollowed := true, recurses := true, apart := false, narrowed := true }
def HeaderReadsUptoSaid : Prop := headerReadsUptoRow.holds Try.pinned (OpenSpec.upto headerReadsSpec)

/-- 'dustcartlaw8.HeaderLimits', WHERE WHAT IT READS IS OF BULK AT MOST 1048576: true; the input reads as it did. -/
def headerLimitsUptoRow : OpenClaim := { program := "ytkfgpgllpegleaa", sum := "6a4004cccbf58d70b1397b4ebb0d51fd0a4350796a1e11b983e8c26fbbf1515c", func := "dustcart/dustcartlaw8.HeaderLimits", spec := "headerLimits", unfollowed := true, recurses := true, apart := false, narrowed := true }
def HeaderLimitsUptoSaid : Prop := headerLimitsUptoRow.holds Try.pinned (OpenSpec.upto headerLimitsSpec)

/-- 'dustcartlaw2.SetFills', WHERE WHAT IT READS IS OF BULK AT MOST 1048576: true; the input reads as it did. -/
def setFillsUptoRow : OpenClaim := { program := "ytkfgpgllpegleaa", sum := "6a4004cccbf58d70b1397b4ebb0d51fd0a4350796a1e11b983e8c26fbbf1515c", func := "dustcart/dustcartlaw2.SetFills", spec := "setFills", apart := false, narrowed := true }
def SetFillsUptoSaid : Prop := setFillsUptoRow.holds Try.pinned (OpenSpec.upto setFillsSpec)

end Rows
end Go.Proofs.Ytkfgpgllpegleaa
