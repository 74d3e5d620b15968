/-
  No cell of these rows narrows 'for every input' (looked for: loops, veiled, ifaces, maps, wideKeys, modest, calm, conditions, laid).
  DERIVED. THE GIVEN ROWS OF THIS SEAT. 11 by the template 'for every input the law returns true; each argument reads behind the call as it read before'; 0 by the template 'total and deterministic' (their statements: YtahcepgcnpbkeaaTotals.lean).
  GIVEN WITH THE SEED: the statements are not yours to turn. If you find one false, say at which input.
  Laid BY PROGRAM, IN A SANDBOX (cutbox-rows.mjs): the forced cells as the released guide's own fill.sh prints them over the translation 41c0c92a622ce0dd… (all of the seat's roots in one cut). By AI agents, Wed Nov 11 2026. No macro, syntax, notation, axiom, sorry.
-/
import Derived.Test.YtahcepgcnpbkeaaChecked
import GoSem.Claim
import GoSem.ClaimJoined
import GoSem.ClaimMapViews
import Derived.JoinedTies
import Derived.KernelRfl
namespace Go.Proofs.Ytahcepgcnpbkeaa
/- THE CELL 'sum', in the pinned program and in every row, IS THE sha256 OF THE DUMP (.gsa) THAT YtahcepgcnpbkeaaProg.lean LOADS. Nothing in Lean hashes anything: it is a label: what it is worth is what the hold of that sum in a sandbox is worth. -/
noncomputable def Try.pinned : Pinned := { name := "ytahcepgcnpbkeaa", sum := "41c0c92a622ce0dd1a9204eb257aebf693dfd5d17eb7b742548f7fbea33be3ad", checked := Try.checked }
namespace Rows
def none {H : Type} : Left H := { results := [], args := [] }

/-- 'dustcartlaw5.GuardTells': WHATEVER THE INPUT: true; the input reads as it did. -/
def guardTellsSpec : ChangeSpec := { name := "guardTells", fn := fun _ => fun
  | [d1, d2, d3] => { results := [.lit (.bool true)], args := [d1, d2, d3] }
  | _ => none }
def guardTellsRow : OpenClaim := { program := "ytahcepgcnpbkeaa", sum := "41c0c92a622ce0dd1a9204eb257aebf693dfd5d17eb7b742548f7fbea33be3ad", func := "dustcart/dustcartlaw5.GuardTells", spec := "guardTells", unfollowed := true, recurses := true, apart := false }
def GuardTellsSaid : Prop := guardTellsRow.holds Try.pinned (OpenSpec.ofChange guardTellsSpec)

/-- ITS FALSE NEIGHBOUR: 'it returns false'. Refute it at one input. -/
def guardTellsWrong : ChangeSpec := { name := "guardTells", fn := fun _ => fun
  | [d1, d2, d3] => { results := [.lit (.bool false)], args := [d1, d2, d3] }
  | _ => none }
def GuardTellsWrongFalsely : Prop := guardTellsRow.holds Try.pinned (OpenSpec.ofChange guardTellsWrong)

/-- 'dustcartlaw5.GuardFinds': WHATEVER THE INPUT: true; the input reads as it did. -/
def guardFindsSpec : ChangeSpec := { name := "guardFinds", fn := fun _ => fun
  | [d1, d2, d3, d4, d5] => { results := [.lit (.bool true)], args := [d1, d2, d3, d4, d5] }
  | _ => none }
def guardFindsRow : OpenClaim := { program := "ytahcepgcnpbkeaa", sum := "41c0c92a622ce0dd1a9204eb257aebf693dfd5d17eb7b742548f7fbea33be3ad", func := "dustcart/dustcartlaw5.GuardFinds", spec := "guardFinds", unfollowed := true, recurses := true, apart := false }
def GuardFindsSaid : Prop := guardFindsRow.holds Try.pinned (OpenSpec.ofChange guardFindsSpec)

/-- ITS FALSE NEIGHBOUR: 'it returns false'. Refute it at one input. -/
def guardFindsWrong : ChangeSpec := { name := "guardFinds", fn := fun _ => fun
  | [d1, d2, d3, d4, d5] => { results := [.lit (.bool false)], args := [d1, d2, d3, d4, d5] }
  | _ => none }
def GuardFindsWrongFalsely : Prop := guardFindsRow.holds Try.pinned (OpenSpec.ofChange guardFindsWrong)

/-- 'dustcartlaw5.GuardApart': WHATEVER THE INPUT: true; the input reads as it did. -/
def guardApartSpec : ChangeSpec := { name := "guardApart", fn := fun _ => fun
  | [d1, d2] => { results := [.lit (.bool true)], args := [d1, d2] }
  | _ => none }
def guardApartRow : OpenClaim := { program := "ytahcepgcnpbkeaa", sum := "41c0c92a622ce0dd1a9204eb257aebf693dfd5d17eb7b742548f7fbea33be3ad", func := "dustcart/dustcartlaw5.GuardApart", spec := "guardApart", unfollowed := true, recurses := true, apart := false }
def GuardApartSaid : Prop := guardApartRow.holds Try.pinned (OpenSpec.ofChange guardApartSpec)

/-- ITS FALSE NEIGHBOUR: 'it returns false'. Refute it at one input. -/
def guardApartWrong : ChangeSpec := { name := "guardApart", fn := fun _ => fun
  | [d1, d2] => { results := [.lit (.bool false)], args := [d1, d2] }
  | _ => none }
def GuardApartWrongFalsely : Prop := guardApartRow.holds Try.pinned (OpenSpec.ofChange guardApartWrong)

/-- 'dustcartlaw1.FieldTells': WHATEVER THE INPUT: true; the input reads as it did. -/
def fieldTellsSpec : ChangeSpec := { name := "fieldTells", fn := fun _ => fun
  | [d1, d2, d3, d4] => { results := [.lit (.bool true)], args := [d1, d2, d3, d4] }
  | _ => none }
def fieldTellsRow : OpenClaim := { program := "ytahcepgcnpbkeaa", sum := "41c0c92a622ce0dd1a9204eb257aebf693dfd5d17eb7b742548f7fbea33be3ad", func := "dustcart/dustcartlaw1.FieldTells", spec := "fieldTells", apart := false }
def FieldTellsSaid : Prop := fieldTellsRow.holds Try.pinned (OpenSpec.ofChange fieldTellsSpec)

/-- ITS FALSE NEIGHBOUR: 'it returns false'. Refute it at one input. -/
def fieldTellsWrong : ChangeSpec := { name := "fieldTells", fn := fun _ => fun
  | [d1, d2, d3, d4] => { results := [.lit (.bool false)], args := [d1, d2, d3, d4] }
  | _ => none }
def FieldTellsWrongFalsely : Prop := fieldTellsRow.holds Try.pinned (OpenSpec.ofChange fieldTellsWrong)

/-- 'dustcartlaw1.FieldKeeps': WHATEVER THE INPUT: true; the input reads as it did. -/
def fieldKeepsSpec : ChangeSpec := { name := "fieldKeeps", fn := fun _ => fun
  | [d1, d2, d3, d4, d5] => { results := [.lit (.bool true)], args := [d1, d2, d3, d4, d5] }
  | _ => none }
def fieldKeepsRow : OpenClaim := { program := "ytahcepgcnpbkeaa", sum := "41c0c92a622ce0dd1a9204eb257aebf693dfd5d17eb7b742548f7fbea33be3ad", func := "dustcart/dustcartlaw1.FieldKeeps", spec := "fieldKeeps", apart := false }
def FieldKeepsSaid : Prop := fieldKeepsRow.holds Try.pinned (OpenSpec.ofChange fieldKeepsSpec)

/-- ITS FALSE NEIGHBOUR: 'it returns false'. Refute it at one input. -/
def fieldKeepsWrong : ChangeSpec := { name := "fieldKeeps", fn := fun _ => fun
  | [d1, d2, d3, d4, d5] => { results := [.lit (.bool false)], args := [d1, d2, d3, d4, d5] }
  | _ => none }
def FieldKeepsWrongFalsely : Prop := fieldKeepsRow.holds Try.pinned (OpenSpec.ofChange fieldKeepsWrong)

/-- 'dustcartlaw1.FieldJoins': WHATEVER THE INPUT: true; the input reads as it did. -/
def fieldJoinsSpec : ChangeSpec := { name := "fieldJoins", fn := fun _ => fun
  | [d1, d2, d3, d4] => { results := [.lit (.bool true)], args := [d1, d2, d3, d4] }
  | _ => none }
def fieldJoinsRow : OpenClaim := { program := "ytahcepgcnpbkeaa", sum := "41c0c92a622ce0dd1a9204eb257aebf693dfd5d17eb7b742548f7fbea33be3ad", func := "dustcart/dustcartlaw1.FieldJoins", spec := "fieldJoins", apart := false }
def FieldJoinsSaid : Prop := fieldJoinsRow.holds Try.pinned (OpenSpec.ofChange fieldJoinsSpec)

/-- ITS FALSE NEIGHBOUR: 'it returns false'. Refute it at one input. -/
def fieldJoinsWrong : ChangeSpec := { name := "fieldJoins", fn := fun _ => fun
  | [d1, d2, d3, d4] => { results := [.lit (.bool false)], args := [d1, d2, d3, d4] }
  | _ => none }
def FieldJoinsWrongFalsely : Prop := fieldJoinsRow.holds Try.pinned (OpenSpec.ofChange fieldJoinsWrong)

/-- 'dustcartlaw1.FieldEnds': WHATEVER THE INPUT: true; the input reads as it did. -/
def fieldEndsSpec : ChangeSpec := { name := "fieldEnds", fn := fun _ => fun
  | [d1, d2, d3, d4] => { results := [.lit (.bool true)], args := [d1, d2, d3, d4] }
  | _ => none }
def fieldEndsRow : OpenClaim := { program := "ytahcepgcnpbkeaa", sum := "41c0c92a622ce0dd1a9204eb257aebf693dfd5d17eb7b742548f7fbea33be3ad", func := "dustcart/dustcartlaw1.FieldEnds", spec := "fieldEnds", apart := false }
def FieldEndsSaid : Prop := fieldEndsRow.holds Try.pinned (OpenSpec.ofChange fieldEndsSpec)

/-- ITS FALSE NEIGHBOUR: 'it returns false'. Refute it at one input. -/
def fieldEndsWrong : ChangeSpec := { name := "fieldEnds", fn := fun _ => fun
  | [d1, d2, d3, d4] => { results := [.lit (.bool false)], args := [d1, d2, d3, d4] }
  | _ => none }
def FieldEndsWrongFalsely : Prop := fieldEndsRow.holds Try.pinned (OpenSpec.ofChange fieldEndsWrong)

/-- 'dustcartlaw1.FieldApart': WHATEVER THE INPUT: true; the input reads as it did. -/
def fieldApartSpec : ChangeSpec := { name := "fieldApart", fn := fun _ => fun
  | [d1, d2, d3, d4, d5, d6] => { results := [.lit (.bool true)], args := [d1, d2, d3, d4, d5, d6] }
  | _ => none }
def fieldApartRow : OpenClaim := { program := "ytahcepgcnpbkeaa", sum := "41c0c92a622ce0dd1a9204eb257aebf693dfd5d17eb7b742548f7fbea33be3ad", func := "dustcart/dustcartlaw1.FieldApart", spec := "fieldApart", apart := false }
def FieldApartSaid : Prop := fieldApartRow.holds Try.pinned (OpenSpec.ofChange fieldApartSpec)

/-- ITS FALSE NEIGHBOUR: 'it returns false'. Refute it at one input. -/
def fieldApartWrong : ChangeSpec := { name := "fieldApart", fn := fun _ => fun
  | [d1, d2, d3, d4, d5, d6] => { results := [.lit (.bool false)], args := [d1, d2, d3, d4, d5, d6] }
  | _ => none }
def FieldApartWrongFalsely : Prop := fieldApartRow.holds Try.pinned (OpenSpec.ofChange fieldApartWrong)

/-- 'dustcartlaw3.SizesTell': WHATEVER THE INPUT: true; the input reads as it did. -/
def sizesTellSpec : ChangeSpec := { name := "sizesTell", fn := fun _ => fun
  | [d1, d2] => { results := [.lit (.bool true)], args := [d1, d2] }
  | _ => none }
def sizesTellRow : OpenClaim := { program := "ytahcepgcnpbkeaa", sum := "41c0c92a622ce0dd1a9204eb257aebf693dfd5d17eb7b742548f7fbea33be3ad", func := "dustcart/dustcartlaw3.SizesTell", spec := "sizesTell", apart := false }
def SizesTellSaid : Prop := sizesTellRow.holds Try.pinned (OpenSpec.ofChange sizesTellSpec)

/-- ITS FALSE NEIGHBOUR: 'it returns false'. Refute it at one input. -/
def sizesTellWrong : ChangeSpec := { name := "sizesTell", fn := fun _ => fun
  | [d1, d2] => { results := [.lit (.bool false)], args := [d1, d2] }
  | _ => none }
def SizesTellWrongFalsely : Prop := sizesTellRow.holds Try.pinned (OpenSpec.ofChange sizesTellWrong)

/-- 'dustcartlaw3.SizesFit': WHATEVER THE INPUT: true; the input reads as it did. -/
def sizesFitSpec : ChangeSpec := { name := "sizesFit", fn := fun _ => fun
  | [d] => { results := [.lit (.bool true)], args := [d] }
  | _ => none }
def sizesFitRow : OpenClaim := { program := "ytahcepgcnpbkeaa", sum := "41c0c92a622ce0dd1a9204eb257aebf693dfd5d17eb7b742548f7fbea33be3ad", func := "dustcart/dustcartlaw3.SizesFit", spec := "sizesFit", apart := false }
def SizesFitSaid : Prop := sizesFitRow.holds Try.pinned (OpenSpec.ofChange sizesFitSpec)

/-- ITS FALSE NEIGHBOUR: 'it returns false'. Refute it at one input. -/
def sizesFitWrong : ChangeSpec := { name := "sizesFit", fn := fun _ => fun
  | [d] => { results := [.lit (.bool false)], args := [d] }
  | _ => none }
def SizesFitWrongFalsely : Prop := sizesFitRow.holds Try.pinned (OpenSpec.ofChange sizesFitWrong)

/-- 'dustcartlaw3.SizesGrow': WHATEVER THE INPUT: true; the input reads as it did. -/
def sizesGrowSpec : ChangeSpec := { name := "sizesGrow", fn := fun _ => fun
  | [d1, d2] => { results := [.lit (.bool true)], args := [d1, d2] }
  | _ => none }
def sizesGrowRow : OpenClaim := { program := "ytahcepgcnpbkeaa", sum := "41c0c92a622ce0dd1a9204eb257aebf693dfd5d17eb7b742548f7fbea33be3ad", func := "dustcart/dustcartlaw3.SizesGrow", spec := "sizesGrow", apart := false }
def SizesGrowSaid : Prop := sizesGrowRow.holds Try.pinned (OpenSpec.ofChange sizesGrowSpec)

/-- ITS FALSE NEIGHBOUR: 'it returns false'. Refute it at one input. -/
def sizesGrowWrong : ChangeSpec := { name := "sizesGrow", fn := fun _ => fun
  | [d1, d2] => { results := [.lit (.bool false)], args := [d1, d2] }
  | _ => none }
def SizesGrowWrongFalsely : Prop := sizesGrowRow.holds Try.pinned (OpenSpec.ofChange sizesGrowWrong)

/- THE SECOND FORM. 'bulk': how many values and letters a reading holds, each counted each time it is reached (what is shared counts as often as it is met; a slice's spare places count too). A statement '..UptoSaid' is the law's where the arguments, and the package variables that the reading takes, are together of bulk at most 1048576: NARROWER than '..Said'. Prove '..Said' where nothing that the law and all that it calls make is longer than what came in: it says more and counts as full. Else prove '..UptoSaid'. A law counts once. -/
mutual
def uptoBulk {H : Type} : DataW H → Nat
  | .lit (.string bytes) => bytes.length + 1
  | .lit _ => 1
  | .nil => 1
  | .ptr d => uptoBulk d + 1
  | .slice elems spare => uptoBulkAll elems + uptoBulkAll spare + 1
  | .agg parts => uptoBulkAll parts + 1
  | .iface _ d => uptoBulk d + 1
  | .map entries => uptoBulkEntries entries + 1
  | .held _ => 1
def uptoBulkAll {H : Type} : List (DataW H) → Nat
  | [] => 0
  | d :: r => uptoBulk d + uptoBulkAll r
def uptoBulkEntries {H : Type} : List (Lit × DataW H) → Nat
  | [] => 0
  | x :: r => uptoBulkEntry x + uptoBulkEntries r
def uptoBulkEntry {H : Type} : Lit × DataW H → Nat
  | (.string bytes, d) => bytes.length + uptoBulk d + 1
  | (_, d) => uptoBulk d + 1
 end
def uptoSmall : (H : Type) → List (DataW H) → Bool := fun _ ds => decide (uptoBulkAll ds ≤ 1048576)
def OpenSpec.upto (s : _root_.Go.ChangeSpec) : _root_.Go.OpenSpec := { _root_.Go.OpenSpec.ofChange s with cond := some uptoSmall }

/-- 'dustcartlaw5.GuardTells', WHERE WHAT IT READS IS OF BULK AT MOST 1048576: true; the input reads as it did. -/
def guardTellsUptoRow : OpenClaim := { program := "ytahcepgcnpbkeaa", sum := "41c0c92a622ce0dd1a9204eb257aebf693dfd5d17eb7b742548f7fbea33be3ad", func := "dustcart/dustcartlaw5.GuardTells", spec := "guardTells", unfollowed := true, recurses := true, apart := false, narrowed := true }
def GuardTellsUptoSaid : Prop := guardTellsUptoRow.holds Try.pinned (OpenSpec.upto guardTellsSpec)

/-- 'dustcartlaw5.GuardFinds', WHERE WHAT IT READS IS OF BULK AT MOST 1048576: true; the input reads as it did. -/
def guardFindsUptoRow : OpenClaim := { program := "ytahcepgcnpbkeaa", sum := "41c0c92a622ce0dd1a9204eb257aebf693dfd5d17eb7b742548f7fbea33be3ad", func := "dustcart/dustcartlaw5.GuardFinds", spec := "guardFinds", unfollowed := true, recurses := true, apart := false, narrowed := true }
def GuardFindsUptoSaid : Prop := guardFindsUptoRow.holds Try.pinned (OpenSpec.upto guardFindsSpec)

/-- 'dustcartlaw5.GuardApart', WHERE WHAT IT READS IS OF BULK AT MOST 1048576: true; the input reads as it did. -/
def guardApartUptoRow : OpenClaim := { program := "ytahcepgcnpbkeaa", sum := "41c0c92a622ce0dd1a9204eb257aebf693dfd5d17eb7b742548f7fbea33be3ad", func := "dustcart/dustcartlaw5.GuardApart", spec := "guardApart", unfollowed := true, recurses := true, apart := false, narrowed := true }
def GuardApartUptoSaid : Prop := guardApartUptoRow.holds Try.pinned (OpenSpec.upto guardApartSpec)

/-- 'dustcartlaw1.FieldTells', WHERE WHAT IT READS IS OF BULK AT MOST 1048576: true; the input reads as it did. -/
def fieldTellsUptoRow : OpenClaim := { program := "ytahcepgcnpbkeaa", sum := "41c0c92a622ce0dd1a9204eb257aebf693dfd5d17eb7b742548f7fbea33be3ad", func := "dustcart/dustcartlaw1.FieldTells", spec := "fieldTells", apart := false, narrowed := true }
def FieldTellsUptoSaid : Prop := fieldTellsUptoRow.holds Try.pinned (OpenSpec.upto fieldTellsSpec)

/-- 'dustcartlaw1.FieldKeeps', WHERE WHAT IT READS IS OF BULK AT MOST 1048576: true; the input reads as it did. -/
def fieldKeepsUptoRow : OpenClaim := { program := "ytahcepgcnpbkeaa", sum := "41c0c92a622ce0dd1a9204eb257aebf693dfd5d17eb7b742548f7fbea33be3ad", func := "dustcart/dustcartlaw1.FieldKeeps", spec := "fieldKeeps", apart := false, narrowed := true }
def FieldKeepsUptoSaid : Prop := fieldKeepsUptoRow.holds Try.pinned (OpenSpec.upto fieldKeepsSpec)

/-- 'dustcartlaw1.FieldJoins', WHERE WHAT IT READS IS OF BULK AT MOST 1048576: true; the input reads as it did. -/
def fieldJoinsUptoRow : OpenClaim := { program := "ytahcepgcnpbkeaa", sum := "41c0c92a622ce0dd1a9204eb257aebf693dfd5d17eb7b742548f7fbea33be3ad", func := "dustcart/dustcartlaw1.FieldJoins", spec := "fieldJoins", apart := false, narrowed := true }
def FieldJoinsUptoSaid : Prop := fieldJoinsUptoRow.holds Try.pinned (OpenSpec.upto fieldJoinsSpec)

/-- 'dustcartlaw1.FieldEnds', WHERE WHAT IT READS IS OF BULK AT MOST 1048576: true; the input reads as it did. -/
def fieldEndsUptoRow : OpenClaim := { program := "ytahcepgcnpbkeaa", sum := "41c0c92a622ce0dd1a9204eb257aebf693dfd5d17eb7b742548f7fbea33be3ad", func := "dustcart/dustcartlaw1.FieldEnds", spec := "fieldEnds", apart := false, narrowed := true }
def FieldEndsUptoSaid : Prop := fieldEndsUptoRow.holds Try.pinned (OpenSpec.upto fieldEndsSpec)

/-- 'dustcartlaw1.FieldApart', WHERE WHAT IT READS IS OF BULK AT MOST 1048576: true; the input reads as it did. -/
def fieldApartUptoRow : OpenClaim := { program := "ytahcepgcnpbkeaa", sum := "41c0c92a622ce0dd1a9204eb257aebf693dfd5d17eb7b742548f7fbea33be3ad", func := "dustcart/dustcartlaw1.FieldApart", spec := "fieldApart", apart := false, narrowed := true }
def FieldApartUptoSaid : Prop := fieldApartUptoRow.holds Try.pinned (OpenSpec.upto fieldApartSpec)

/-- 'dustcartlaw3.SizesTell', WHERE WHAT IT READS IS OF BULK AT MOST 1048576: true; the input reads as it did. -/
def sizesTellUptoRow : OpenClaim := { program := "ytahcepgcnpbkeaa", sum := "41c0c92a622ce0dd1a9204eb257aebf693dfd5d17eb7b742548f7fbea33be3ad", func := "dustcart/dustcartlaw3.SizesTell", spec := "sizesTell", apart := false, narrowed := true }
def SizesTellUptoSaid : Prop := sizesTellUptoRow.holds Try.pinned (OpenSpec.upto sizesTellSpec)

/-- 'dustcartlaw3.SizesFit', WHERE WHAT IT READS IS OF BULK AT MOST 1048576: true; the input reads as it did. -/
def sizesFitUptoRow : OpenClaim := { program := "ytahcepgcnpbkeaa", sum := "41c0c92a622ce0dd1a9204eb257aebf693dfd5d17eb7b742548f7fbea33be3ad", func := "dustcart/dustcartlaw3.SizesFit", spec := "sizesFit", apart := false, narrowed := true }
def SizesFitUptoSaid : Prop := sizesFitUptoRow.holds Try.pinned (OpenSpec.upto sizesFitSpec)

/-- 'dustcartlaw3.SizesGrow', WHERE WHAT IT READS IS OF BULK AT MOST 1048576: true; the input reads as it did. -/
def sizesGrowUptoRow : OpenClaim := { program := "ytahcepgcnpbkeaa", sum := "41c0c92a622ce0dd1a9204eb257aebf693dfd5d17eb7b742548f7fbea33be3ad", func := "dustcart/dustcartlaw3.SizesGrow", spec := "sizesGrow", apart := false, narrowed := true }
def SizesGrowUptoSaid : Prop := sizesGrowUptoRow.holds Try.pinned (OpenSpec.upto sizesGrowSpec)

end Rows
end Go.Proofs.Ytahcepgcnpbkeaa
