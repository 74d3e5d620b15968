/-
  No cell of these rows narrows 'for every input' (looked for: loops, veiled, ifaces, maps, wideKeys, modest, calm, conditions, laid).
  DERIVED. THE GIVEN ROWS OF THIS SEAT. 12 by the template 'for every input the law returns true; each argument reads behind the call as it read before'; 0 by the template 'total and deterministic' (their statements: YteipnfnbepnpjaaTotals.lean).
  GIVEN WITH THE SEED: the statements are not yours to turn. If you find one false, say at which input.
  Laid BY PROGRAM, IN A SANDBOX (cutbox-rows.mjs): the forced cells as the released guide's own fill.sh prints them over the translation 427424fafd8931dc… (all of the seat's roots in one cut). By AI agents, Wed Nov 11 2026. No macro, syntax, notation, axiom, sorry.
-/
import Derived.Test.YteipnfnbepnpjaaChecked
import GoSem.Claim
import GoSem.ClaimJoined
import GoSem.ClaimMapViews
import Derived.JoinedTies
import Derived.KernelRfl
namespace Go.Proofs.Yteipnfnbepnpjaa
/- THE CELL 'sum', in the pinned program and in every row, IS THE sha256 OF THE DUMP (.gsa) THAT YteipnfnbepnpjaaProg.lean LOADS. Nothing in Lean hashes anything: it is a label: what it is worth is what the hold of that sum in a sandbox is worth. -/
noncomputable def Try.pinned : Pinned := { name := "yteipnfnbepnpjaa", sum := "427424fafd8931dc3abd50f921c970860e074e1451a93f0606cc01a6f9aa21c5", checked := Try.checked }
namespace Rows
def none {H : Type} : Left H := { results := [], args := [] }

/-- 'dustcartlaw19.CodeWidths': WHATEVER THE INPUT: true; the input reads as it did. -/
def codeWidthsSpec : ChangeSpec := { name := "codeWidths", fn := fun _ => fun
  | [d] => { results := [.lit (.bool true)], args := [d] }
  | _ => none }
def codeWidthsRow : OpenClaim := { program := "yteipnfnbepnpjaa", sum := "427424fafd8931dc3abd50f921c970860e074e1451a93f0606cc01a6f9aa21c5", func := "dustcart/dustcartlaw19.CodeWidths", spec := "codeWidths", apart := false }
def CodeWidthsSaid : Prop := codeWidthsRow.holds Try.pinned (OpenSpec.ofChange codeWidthsSpec)

/-- ITS FALSE NEIGHBOUR: 'it returns false'. Refute it at one input. -/
def codeWidthsWrong : ChangeSpec := { name := "codeWidths", fn := fun _ => fun
  | [d] => { results := [.lit (.bool false)], args := [d] }
  | _ => none }
def CodeWidthsWrongFalsely : Prop := codeWidthsRow.holds Try.pinned (OpenSpec.ofChange codeWidthsWrong)

/-- 'dustcartlaw19.CodeShort': WHATEVER THE INPUT: true; the input reads as it did. -/
def codeShortSpec : ChangeSpec := { name := "codeShort", fn := fun _ => fun
  | [d1, d2] => { results := [.lit (.bool true)], args := [d1, d2] }
  | _ => none }
def codeShortRow : OpenClaim := { program := "yteipnfnbepnpjaa", sum := "427424fafd8931dc3abd50f921c970860e074e1451a93f0606cc01a6f9aa21c5", func := "dustcart/dustcartlaw19.CodeShort", spec := "codeShort", apart := false }
def CodeShortSaid : Prop := codeShortRow.holds Try.pinned (OpenSpec.ofChange codeShortSpec)

/-- ITS FALSE NEIGHBOUR: 'it returns false'. Refute it at one input. -/
def codeShortWrong : ChangeSpec := { name := "codeShort", fn := fun _ => fun
  | [d1, d2] => { results := [.lit (.bool false)], args := [d1, d2] }
  | _ => none }
def CodeShortWrongFalsely : Prop := codeShortRow.holds Try.pinned (OpenSpec.ofChange codeShortWrong)

/-- 'dustcartlaw19.CodeReads': WHATEVER THE INPUT: true; the input reads as it did. -/
def codeReadsSpec : ChangeSpec := { name := "codeReads", fn := fun _ => fun
  | [d] => { results := [.lit (.bool true)], args := [d] }
  | _ => none }
def codeReadsRow : OpenClaim := { program := "yteipnfnbepnpjaa", sum := "427424fafd8931dc3abd50f921c970860e074e1451a93f0606cc01a6f9aa21c5", func := "dustcart/dustcartlaw19.CodeReads", spec := "codeReads", apart := false }
def CodeReadsSaid : Prop := codeReadsRow.holds Try.pinned (OpenSpec.ofChange codeReadsSpec)

/-- ITS FALSE NEIGHBOUR: 'it returns false'. Refute it at one input. -/
def codeReadsWrong : ChangeSpec := { name := "codeReads", fn := fun _ => fun
  | [d] => { results := [.lit (.bool false)], args := [d] }
  | _ => none }
def CodeReadsWrongFalsely : Prop := codeReadsRow.holds Try.pinned (OpenSpec.ofChange codeReadsWrong)

/-- 'dustcartlaw19.CodeWrites': WHATEVER THE INPUT: true; the input reads as it did. -/
def codeWritesSpec : ChangeSpec := { name := "codeWrites", fn := fun _ => fun
  | [d] => { results := [.lit (.bool true)], args := [d] }
  | _ => none }
def codeWritesRow : OpenClaim := { program := "yteipnfnbepnpjaa", sum := "427424fafd8931dc3abd50f921c970860e074e1451a93f0606cc01a6f9aa21c5", func := "dustcart/dustcartlaw19.CodeWrites", spec := "codeWrites", apart := false }
def CodeWritesSaid : Prop := codeWritesRow.holds Try.pinned (OpenSpec.ofChange codeWritesSpec)

/-- ITS FALSE NEIGHBOUR: 'it returns false'. Refute it at one input. -/
def codeWritesWrong : ChangeSpec := { name := "codeWrites", fn := fun _ => fun
  | [d] => { results := [.lit (.bool false)], args := [d] }
  | _ => none }
def CodeWritesWrongFalsely : Prop := codeWritesRow.holds Try.pinned (OpenSpec.ofChange codeWritesWrong)

/-- 'dustcartlaw20.ModuleWrites': WHATEVER THE INPUT: true; the input reads as it did. -/
def moduleWritesSpec : ChangeSpec := { name := "moduleWrites", fn := fun _ => fun
  | [d] => { results := [.lit (.bool true)], args := [d] }
  | _ => none }
def moduleWritesRow : OpenClaim := { program := "yteipnfnbepnpjaa", sum := "427424fafd8931dc3abd50f921c970860e074e1451a93f0606cc01a6f9aa21c5", func := "dustcart/dustcartlaw20.ModuleWrites", spec := "moduleWrites", unfollowed := true, recurses := true, apart := false }
def ModuleWritesSaid : Prop := moduleWritesRow.holds Try.pinned (OpenSpec.ofChange moduleWritesSpec)

/-- ITS FALSE NEIGHBOUR: 'it returns false'. Refute it at one input. -/
def moduleWritesWrong : ChangeSpec := { name := "moduleWrites", fn := fun _ => fun
  | [d] => { results := [.lit (.bool false)], args := [d] }
  | _ => none }
def ModuleWritesWrongFalsely : Prop := moduleWritesRow.holds Try.pinned (OpenSpec.ofChange moduleWritesWrong)

/-- 'dustcartlaw20.ModuleReads': WHATEVER THE INPUT: true; the input reads as it did. -/
def moduleReadsSpec : ChangeSpec := { name := "moduleReads", fn := fun _ => fun
  | [d] => { results := [.lit (.bool true)], args := [d] }
  | _ => none }
def moduleReadsRow : OpenClaim := { program := "yteipnfnbepnpjaa", sum := "427424fafd8931dc3abd50f921c970860e074e1451a93f0606cc01a6f9aa21c5", func := "dustcart/dustcartlaw20.ModuleReads", spec := "moduleReads", unfollowed := true, recurses := true, apart := false }
def ModuleReadsSaid : Prop := moduleReadsRow.holds Try.pinned (OpenSpec.ofChange moduleReadsSpec)

/-- ITS FALSE NEIGHBOUR: 'it returns false'. Refute it at one input. -/
def moduleReadsWrong : ChangeSpec := { name := "moduleReads", fn := fun _ => fun
  | [d] => { results := [.lit (.bool false)], args := [d] }
  | _ => none }
def ModuleReadsWrongFalsely : Prop := moduleReadsRow.holds Try.pinned (OpenSpec.ofChange moduleReadsWrong)

/-- 'dustcartlaw20.ModuleShort': WHATEVER THE INPUT: true; the input reads as it did. -/
def moduleShortSpec : ChangeSpec := { name := "moduleShort", fn := fun _ => fun
  | [d1, d2] => { results := [.lit (.bool true)], args := [d1, d2] }
  | _ => none }
def moduleShortRow : OpenClaim := { program := "yteipnfnbepnpjaa", sum := "427424fafd8931dc3abd50f921c970860e074e1451a93f0606cc01a6f9aa21c5", func := "dustcart/dustcartlaw20.ModuleShort", spec := "moduleShort", unfollowed := true, recurses := true, apart := false }
def ModuleShortSaid : Prop := moduleShortRow.holds Try.pinned (OpenSpec.ofChange moduleShortSpec)

/-- ITS FALSE NEIGHBOUR: 'it returns false'. Refute it at one input. -/
def moduleShortWrong : ChangeSpec := { name := "moduleShort", fn := fun _ => fun
  | [d1, d2] => { results := [.lit (.bool false)], args := [d1, d2] }
  | _ => none }
def ModuleShortWrongFalsely : Prop := moduleShortRow.holds Try.pinned (OpenSpec.ofChange moduleShortWrong)

/-- 'dustcartlaw20.ModuleLimits': WHATEVER THE INPUT: true; the input reads as it did. -/
def moduleLimitsSpec : ChangeSpec := { name := "moduleLimits", fn := fun _ => fun
  | [d1, d2] => { results := [.lit (.bool true)], args := [d1, d2] }
  | _ => none }
def moduleLimitsRow : OpenClaim := { program := "yteipnfnbepnpjaa", sum := "427424fafd8931dc3abd50f921c970860e074e1451a93f0606cc01a6f9aa21c5", func := "dustcart/dustcartlaw20.ModuleLimits", spec := "moduleLimits", unfollowed := true, recurses := true, apart := false }
def ModuleLimitsSaid : Prop := moduleLimitsRow.holds Try.pinned (OpenSpec.ofChange moduleLimitsSpec)

/-- ITS FALSE NEIGHBOUR: 'it returns false'. Refute it at one input. -/
def moduleLimitsWrong : ChangeSpec := { name := "moduleLimits", fn := fun _ => fun
  | [d1, d2] => { results := [.lit (.bool false)], args := [d1, d2] }
  | _ => none }
def ModuleLimitsWrongFalsely : Prop := moduleLimitsRow.holds Try.pinned (OpenSpec.ofChange moduleLimitsWrong)

/-- 'dustcartlaw21.VerifyWrong': WHATEVER THE INPUT: true; the input reads as it did. -/
def verifyWrongSpec : ChangeSpec := { name := "verifyWrong", fn := fun _ => fun
  | [d] => { results := [.lit (.bool true)], args := [d] }
  | _ => none }
def verifyWrongRow : OpenClaim := { program := "yteipnfnbepnpjaa", sum := "427424fafd8931dc3abd50f921c970860e074e1451a93f0606cc01a6f9aa21c5", func := "dustcart/dustcartlaw21.VerifyWrong", spec := "verifyWrong", apart := false }
def VerifyWrongSaid : Prop := verifyWrongRow.holds Try.pinned (OpenSpec.ofChange verifyWrongSpec)

/-- ITS FALSE NEIGHBOUR: 'it returns false'. Refute it at one input. -/
def verifyWrongWrong : ChangeSpec := { name := "verifyWrong", fn := fun _ => fun
  | [d] => { results := [.lit (.bool false)], args := [d] }
  | _ => none }
def VerifyWrongWrongFalsely : Prop := verifyWrongRow.holds Try.pinned (OpenSpec.ofChange verifyWrongWrong)

/-- 'dustcartlaw21.VerifyDeep': WHATEVER THE INPUT: true; the input reads as it did. -/
def verifyDeepSpec : ChangeSpec := { name := "verifyDeep", fn := fun _ => fun
  | [d1, d2] => { results := [.lit (.bool true)], args := [d1, d2] }
  | _ => none }
def verifyDeepRow : OpenClaim := { program := "yteipnfnbepnpjaa", sum := "427424fafd8931dc3abd50f921c970860e074e1451a93f0606cc01a6f9aa21c5", func := "dustcart/dustcartlaw21.VerifyDeep", spec := "verifyDeep", apart := false }
def VerifyDeepSaid : Prop := verifyDeepRow.holds Try.pinned (OpenSpec.ofChange verifyDeepSpec)

/-- ITS FALSE NEIGHBOUR: 'it returns false'. Refute it at one input. -/
def verifyDeepWrong : ChangeSpec := { name := "verifyDeep", fn := fun _ => fun
  | [d1, d2] => { results := [.lit (.bool false)], args := [d1, d2] }
  | _ => none }
def VerifyDeepWrongFalsely : Prop := verifyDeepRow.holds Try.pinned (OpenSpec.ofChange verifyDeepWrong)

/-- 'dustcartlaw21.VerifyEffects': WHATEVER THE INPUT: true; the input reads as it did. -/
def verifyEffectsSpec : ChangeSpec := { name := "verifyEffects", fn := fun _ => fun
  | [d] => { results := [.lit (.bool true)], args := [d] }
  | _ => none }
def verifyEffectsRow : OpenClaim := { program := "yteipnfnbepnpjaa", sum := "427424fafd8931dc3abd50f921c970860e074e1451a93f0606cc01a6f9aa21c5", func := "dustcart/dustcartlaw21.VerifyEffects", spec := "verifyEffects", apart := false }
def VerifyEffectsSaid : Prop := verifyEffectsRow.holds Try.pinned (OpenSpec.ofChange verifyEffectsSpec)

/-- ITS FALSE NEIGHBOUR: 'it returns false'. Refute it at one input. -/
def verifyEffectsWrong : ChangeSpec := { name := "verifyEffects", fn := fun _ => fun
  | [d] => { results := [.lit (.bool false)], args := [d] }
  | _ => none }
def VerifyEffectsWrongFalsely : Prop := verifyEffectsRow.holds Try.pinned (OpenSpec.ofChange verifyEffectsWrong)

/-- 'dustcartlaw21.VerifyLoops': WHATEVER THE INPUT: true; the input reads as it did. -/
def verifyLoopsSpec : ChangeSpec := { name := "verifyLoops", fn := fun _ => fun
  | [d1, d2] => { results := [.lit (.bool true)], args := [d1, d2] }
  | _ => none }
def verifyLoopsRow : OpenClaim := { program := "yteipnfnbepnpjaa", sum := "427424fafd8931dc3abd50f921c970860e074e1451a93f0606cc01a6f9aa21c5", func := "dustcart/dustcartlaw21.VerifyLoops", spec := "verifyLoops", apart := false }
def VerifyLoopsSaid : Prop := verifyLoopsRow.holds Try.pinned (OpenSpec.ofChange verifyLoopsSpec)

/-- ITS FALSE NEIGHBOUR: 'it returns false'. Refute it at one input. -/
def verifyLoopsWrong : ChangeSpec := { name := "verifyLoops", fn := fun _ => fun
  | [d1, d2] => { results := [.lit (.bool false)], args := [d1, d2] }
  | _ => none }
def VerifyLoopsWrongFalsely : Prop := verifyLoopsRow.holds Try.pinned (OpenSpec.ofChange verifyLoopsWrong)

/- THE SECOND FORM. 'bulk': how many values and letters a reading holds, each counted each time it is reached (what is shared counts as often as it is met; a slice's spare places count too). A statement '..UptoSaid' is the law's where the arguments, and the package variables that the reading takes, are together of bulk at most 1048576: NARROWER than '..Said'. Prove '..Said' where nothing that the law and all that it calls make is longer than what came in: it says more and counts as full. Else prove '..UptoSaid'. A law counts once. -/
mutual
def uptoBulk {H : Type} : DataW H → Nat
  | .lit (.string bytes) => bytes.length + 1
  | .lit _ => 1
  | .nil => 1
  | .ptr d => uptoBulk d + 1
  | .slice elems spare => uptoBulkAll elems + uptoBulkAll spare + 1
  | .agg parts => uptoBulkAll parts + 1
  | .iface _ d => uptoBulk d + 1
  | .map entries => uptoBulkEntries entries + 1
  | .held _ => 1
def uptoBulkAll {H : Type} : List (DataW H) → Nat
  | [] => 0
  | d :: r => uptoBulk d + uptoBulkAll r
def uptoBulkEntries {H : Type} : List (Lit × DataW H) → Nat
  | [] => 0
  | x :: r => uptoBulkEntry x + uptoBulkEntries r
def uptoBulkEntry {H : Type} : Lit × DataW H → Nat
  | (.string bytes, d) => bytes.length + uptoBulk d + 1
  | (_, d) => uptoBulk d + 1
 end
def uptoSmall : (H : Type) → List (DataW H) → Bool := fun _ ds => decide (uptoBulkAll ds ≤ 1048576)
def OpenSpec.upto (s : _root_.Go.ChangeSpec) : _root_.Go.OpenSpec := { _root_.Go.OpenSpec.ofChange s with cond := some uptoSmall }

/-- 'dustcartlaw19.CodeWidths', WHERE WHAT IT READS IS OF BULK AT MOST 1048576: true; the input reads as it did. -/
def codeWidthsUptoRow : OpenClaim := { program := "yteipnfnbepnpjaa", sum := "427424fafd8931dc3abd50f921c970860e074e1451a93f0606cc01a6f9aa21c5", func := "dustcart/dustcartlaw19.CodeWidths", spec := "codeWidths", apart := false, narrowed := true }
def CodeWidthsUptoSaid : Prop := codeWidthsUptoRow.holds Try.pinned (OpenSpec.upto codeWidthsSpec)

/-- 'dustcartlaw19.CodeShort', WHERE WHAT IT READS IS OF BULK AT MOST 1048576: true; the input reads as it did. -/
def codeShortUptoRow : OpenClaim := { program := "yteipnfnbepnpjaa", sum := "427424fafd8931dc3abd50f921c970860e074e1451a93f0606cc01a6f9aa21c5", func := "dustcart/dustcartlaw19.CodeShort", spec := "codeShort", apart := false, narrowed := true }
def CodeShortUptoSaid : Prop := codeShortUptoRow.holds Try.pinned (OpenSpec.upto codeShortSpec)

/-- 'dustcartlaw19.CodeReads', WHERE WHAT IT READS IS OF BULK AT MOST 1048576: true; the input reads as it did. -/
def codeReadsUptoRow : OpenClaim := { program := "yteipnfnbepnpjaa", sum := "427424fafd8931dc3abd50f921c970860e074e1451a93f0606cc01a6f9aa21c5", func := "dustcart/dustcartlaw19.CodeReads", spec := "codeReads", apart := false, narrowed := true }
def CodeReadsUptoSaid : Prop := codeReadsUptoRow.holds Try.pinned (OpenSpec.upto codeReadsSpec)

/-- 'dustcartlaw19.CodeWrites', WHERE WHAT IT READS IS OF BULK AT MOST 1048576: true; the input reads as it did. -/
def codeWritesUptoRow : OpenClaim := { program := "yteipnfnbepnpjaa", sum := "427424fafd8931dc3abd50f921c970860e074e1451a93f0606cc01a6f9aa21c5", func := "dustcart/dustcartlaw19.CodeWrites", spec := "codeWrites", apart := false, narrowed := true }
def CodeWritesUptoSaid : Prop := codeWritesUptoRow.holds Try.pinned (OpenSpec.upto codeWritesSpec)

/-- 'dustcartlaw20.ModuleWrites', WHERE WHAT IT READS IS OF BULK AT MOST 1048576: true; the input reads as it did. -/
def moduleWritesUptoRow : OpenClaim := { program := "yteipnfnbepnpjaa", sum := "427424fafd8931dc3abd50f921c970860e074e1451a93f0606cc01a6f9aa21c5", func := "dustcart/dustcartlaw20.ModuleWrites", spec := "moduleWrites", unfollowed := true, recurses := true, apart := false, narrowed := true }
def ModuleWritesUptoSaid : Prop := moduleWritesUptoRow.holds Try.pinned (OpenSpec.upto moduleWritesSpec)

/-- 'dustcartlaw20.ModuleReads', WHERE WHAT IT READS IS OF BULK AT MOST 1048576: true; the input reads as it did. -/
def moduleReadsUptoRow : OpenClaim := { program := "yteipnfnbepnpjaa", sum := "427424fafd8931dc3abd50f921c970860e074e1451a93f0606cc01a6f9aa21c5", func := "dustcart/dustcartlaw20.ModuleReads", spec := "moduleReads", unfollowed := true, recurses := true, apart := false, narrowed := true }
def ModuleReadsUptoSaid : Prop := moduleReadsUptoRow.holds Try.pinned (OpenSpec.upto moduleReadsSpec)

/-- 'dustcartlaw20.ModuleShort', WHERE WHAT IT READS IS OF BULK AT MOST 1048576: true; the input reads as it did. -/
def moduleShortUptoRow : OpenClaim := { program := "yteipnfnbepnpjaa", sum := "427424fafd8931dc3abd50f921c970860e074e1451a93f0606cc01a6f9aa21c5", func := "dustcart/dustcartlaw20.ModuleShort", spec := "moduleShort", unfollowed := true, recurses := true, apart := false, narrowed := true }
def ModuleShortUptoSaid : Prop := moduleShortUptoRow.holds Try.pinned (OpenSpec.upto moduleShortSpec)

/-- 'dustcartlaw20.ModuleLimits', WHERE WHAT IT READS IS OF BULK AT MOST 1048576: true; the input reads as it did. -/
def moduleLimitsUptoRow : OpenClaim := { program := "yteipnfnbepnpjaa", sum := "427424fafd8931dc3abd50f921c970860e074e1451a93f0606cc01a6f9aa21c5", func := "dustcart/dustcartlaw20.ModuleLimits", spec := "moduleLimits", unfollowed := true, recurses := true, apart := false, narrowed := true }
def ModuleLimitsUptoSaid : Prop := moduleLimitsUptoRow.holds Try.pinned (OpenSpec.upto moduleLimitsSpec)

/-- 'dustcartlaw21.VerifyWrong', WHERE WHAT IT READS IS OF BULK AT MOST 1048576: true; the input reads as it did. -/
def verifyWrongUptoRow : OpenClaim := { program := "yteipnfnbepnpjaa", sum := "427424fafd8931dc3abd50f921c970860e074e1451a93f0606cc01a6f9aa21c5", func := "dustcart/dustcartlaw21.VerifyWrong", spec := "verifyWrong", apart := false, narrowed := true }
def VerifyWrongUptoSaid : Prop := verifyWrongUptoRow.holds Try.pinned (OpenSpec.upto verifyWrongSpec)

/-- 'dustcartlaw21.VerifyDeep', WHERE WHAT IT READS IS OF BULK AT MOST 1048576: true; the input reads as it did. -/
def verifyDeepUptoRow : OpenClaim := { program := "yteipnfnbepnpjaa", sum := "427424fafd8931dc3abd50f921c970860e074e1451a93f0606cc01a6f9aa21c5", func := "dustcart/dustcartlaw21.VerifyDeep", spec := "verifyDeep", apart := false, narrowed := true }
def VerifyDeepUptoSaid : Prop := verifyDeepUptoRow.holds Try.pinned (OpenSpec.upto verifyDeepSpec)

/-- 'dustcartlaw21.VerifyEffects', WHERE WHAT IT READS IS OF BULK AT MOST 1048576: true; the input reads as it did. -/
def verifyEffectsUptoRow : OpenClaim := { program := "yteipnfnbepnpjaa", sum := "427424fafd8931dc3abd50f921c970860e074e1451a93f0606cc01a6f9aa21c5", func := "dustcart/dustcartlaw21.VerifyEffects", spec := "verifyEffects", apart := false, narrowed := true }
def VerifyEffectsUptoSaid : Prop := verifyEffectsUptoRow.holds Try.pinned (OpenSpec.upto verifyEffectsSpec)

/-- 'dustcartlaw21.VerifyLoops', WHERE WHAT IT READS IS OF BULK AT MOST 1048576: true; the input reads as it did. -/
def verifyLoopsUptoRow : OpenClaim := { program := "yteipnfnbepnpjaa", sum := "427424fafd8931dc3abd50f921c970860e074e1451a93f0606cc01a6f9aa21c5", func := "dustcart/dustcartlaw21.VerifyLoops", spec := "verifyLoops", apart := false, narrowed := true }
def VerifyLoopsUptoSaid : Prop := verifyLoopsUptoRow.holds Try.pinned (OpenSpec.upto verifyLoopsSpec)

end Rows
end Go.Proofs.Yteipnfnbepnpjaa
