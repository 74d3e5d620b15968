/-
  No cell of these rows narrows 'for every input' (looked for: loops, veiled, ifaces, maps, wideKeys, modest, calm, conditions, laid).
  DERIVED. THE GIVEN ROWS OF THIS SEAT. 7 by the template 'for every input the law returns true; each argument reads behind the call as it read before'; 0 by the template 'total and deterministic' (their statements: YtfiddodlpppdhaaTotals.lean).
  GIVEN WITH THE SEED: the statements are not yours to turn. If you find one false, say at which input.
  Laid BY PROGRAM, IN A SANDBOX (cutbox-rows.mjs): the forced cells as the released guide's own fill.sh prints them over the translation 4fb0776915c8946e… (all of the seat's roots in one cut). By AI agents, Wed Nov 11 2026. No macro, syntax, notation, axiom, sorry.
-/
import Derived.Test.YtfiddodlpppdhaaChecked
import GoSem.Claim
import GoSem.ClaimJoined
import GoSem.ClaimMapViews
import Derived.JoinedTies
import Derived.KernelRfl
namespace Go.Proofs.Ytfiddodlpppdhaa
/- THE CELL 'sum', in the pinned program and in every row, IS THE sha256 OF THE DUMP (.gsa) THAT YtfiddodlpppdhaaProg.lean LOADS. Nothing in Lean hashes anything: it is a label: what it is worth is what the hold of that sum in a sandbox is worth. -/
noncomputable def Try.pinned : Pinned := { name := "ytfiddodlpppdhaa", sum := "4fb0776915c8946e64d8aa7d4b9627a1d32ec1efdb30663c7ecb6c9763d69552", checked := Try.checked }
namespace Rows
def none {H : Type} : Left H := { results := [], args := [] }

/-- 'dustcartlaw7.ArenaLarge': WHATEVER THE INPUT: true; the input reads as it did. -/
def arenaLargeSpec : ChangeSpec := { name := "arenaLarge", fn := fun _ => fun
  | [d1, d2] => { results := [.lit (.bool true)], args := [d1, d2] }
  | _ => none }
def arenaLargeRow : OpenClaim := { program := "ytfiddodlpppdhaa", sum := "4fb0776915c8946e64d8aa7d4b9627a1d32ec1efdb30663c7ecb6c9763d69552", func := "dustcart/dustcartlaw7.ArenaLarge", spec := "arenaLarge", unfollowed := true, recurses := true, apart := false }
def ArenaLargeSaid : Prop := arenaLargeRow.holds Try.pinned (OpenSpec.ofChange arenaLargeSpec)

/-- ITS FALSE NEIGHBOUR: 'it returns false'. Refute it at one input. -/
def arenaLargeWrong : ChangeSpec := { name := "arenaLarge", fn := fun _ => fun
  | [d1, d2] => { results := [.lit (.bool false)], args := [d1, d2] }
  | _ => none }
def ArenaLargeWrongFalsely : Prop := arenaLargeRow.holds Try.pinned (OpenSpec.ofChange arenaLargeWrong)

/-- 'dustcartlaw7.ArenaFirst': WHATEVER THE INPUT: true; the input reads as it did. -/
def arenaFirstSpec : ChangeSpec := { name := "arenaFirst", fn := fun _ => fun
  | [d1, d2, d3] => { results := [.lit (.bool true)], args := [d1, d2, d3] }
  | _ => none }
def arenaFirstRow : OpenClaim := { program := "ytfiddodlpppdhaa", sum := "4fb0776915c8946e64d8aa7d4b9627a1d32ec1efdb30663c7ecb6c9763d69552", func := "dustcart/dustcartlaw7.ArenaFirst", spec := "arenaFirst", unfollowed := true, recurses := true, apart := false }
def ArenaFirstSaid : Prop := arenaFirstRow.holds Try.pinned (OpenSpec.ofChange arenaFirstSpec)

/-- ITS FALSE NEIGHBOUR: 'it returns false'. Refute it at one input. -/
def arenaFirstWrong : ChangeSpec := { name := "arenaFirst", fn := fun _ => fun
  | [d1, d2, d3] => { results := [.lit (.bool false)], args := [d1, d2, d3] }
  | _ => none }
def ArenaFirstWrongFalsely : Prop := arenaFirstRow.holds Try.pinned (OpenSpec.ofChange arenaFirstWrong)

/-- 'dustcartlaw7.ArenaFlushes': WHATEVER THE INPUT: true; the input reads as it did. -/
def arenaFlushesSpec : ChangeSpec := { name := "arenaFlushes", fn := fun _ => fun
  | [d] => { results := [.lit (.bool true)], args := [d] }
  | _ => none }
def arenaFlushesRow : OpenClaim := { program := "ytfiddodlpppdhaa", sum := "4fb0776915c8946e64d8aa7d4b9627a1d32ec1efdb30663c7ecb6c9763d69552", func := "dustcart/dustcartlaw7.ArenaFlushes", spec := "arenaFlushes", unfollowed := true, recurses := true, apart := false }
def ArenaFlushesSaid : Prop := arenaFlushesRow.holds Try.pinned (OpenSpec.ofChange arenaFlushesSpec)

/-- ITS FALSE NEIGHBOUR: 'it returns false'. Refute it at one input. -/
def arenaFlushesWrong : ChangeSpec := { name := "arenaFlushes", fn := fun _ => fun
  | [d] => { results := [.lit (.bool false)], args := [d] }
  | _ => none }
def ArenaFlushesWrongFalsely : Prop := arenaFlushesRow.holds Try.pinned (OpenSpec.ofChange arenaFlushesWrong)

/-- 'dustcartlaw7.ArenaFills': WHATEVER THE INPUT: true; the input reads as it did. -/
def arenaFillsSpec : ChangeSpec := { name := "arenaFills", fn := fun _ => fun
  | [d1, d2, d3] => { results := [.lit (.bool true)], args := [d1, d2, d3] }
  | _ => none }
def arenaFillsRow : OpenClaim := { program := "ytfiddodlpppdhaa", sum := "4fb0776915c8946e64d8aa7d4b9627a1d32ec1efdb30663c7ecb6c9763d69552", func := "dustcart/dustcartlaw7.ArenaFills", spec := "arenaFills", unfollowed := true, recurses := true, apart := false }
def ArenaFillsSaid : Prop := arenaFillsRow.holds Try.pinned (OpenSpec.ofChange arenaFillsSpec)

/-- ITS FALSE NEIGHBOUR: 'it returns false'. Refute it at one input. -/
def arenaFillsWrong : ChangeSpec := { name := "arenaFills", fn := fun _ => fun
  | [d1, d2, d3] => { results := [.lit (.bool false)], args := [d1, d2, d3] }
  | _ => none }
def ArenaFillsWrongFalsely : Prop := arenaFillsRow.holds Try.pinned (OpenSpec.ofChange arenaFillsWrong)

/-- 'dustcartlaw7.ArenaApart': WHATEVER THE INPUT: true; the input reads as it did. -/
def arenaApartSpec : ChangeSpec := { name := "arenaApart", fn := fun _ => fun
  | [d1, d2, d3] => { results := [.lit (.bool true)], args := [d1, d2, d3] }
  | _ => none }
def arenaApartRow : OpenClaim := { program := "ytfiddodlpppdhaa", sum := "4fb0776915c8946e64d8aa7d4b9627a1d32ec1efdb30663c7ecb6c9763d69552", func := "dustcart/dustcartlaw7.ArenaApart", spec := "arenaApart", unfollowed := true, recurses := true, apart := false }
def ArenaApartSaid : Prop := arenaApartRow.holds Try.pinned (OpenSpec.ofChange arenaApartSpec)

/-- ITS FALSE NEIGHBOUR: 'it returns false'. Refute it at one input. -/
def arenaApartWrong : ChangeSpec := { name := "arenaApart", fn := fun _ => fun
  | [d1, d2, d3] => { results := [.lit (.bool false)], args := [d1, d2, d3] }
  | _ => none }
def ArenaApartWrongFalsely : Prop := arenaApartRow.holds Try.pinned (OpenSpec.ofChange arenaApartWrong)

/-- 'dustcartlaw7.ArenaSmashed': WHATEVER THE INPUT: true; the input reads as it did. -/
def arenaSmashedSpec : ChangeSpec := { name := "arenaSmashed", fn := fun _ => fun
  | [d1, d2, d3, d4] => { results := [.lit (.bool true)], args := [d1, d2, d3, d4] }
  | _ => none }
def arenaSmashedRow : OpenClaim := { program := "ytfiddodlpppdhaa", sum := "4fb0776915c8946e64d8aa7d4b9627a1d32ec1efdb30663c7ecb6c9763d69552", func := "dustcart/dustcartlaw7.ArenaSmashed", spec := "arenaSmashed", unfollowed := true, recurses := true, apart := false }
def ArenaSmashedSaid : Prop := arenaSmashedRow.holds Try.pinned (OpenSpec.ofChange arenaSmashedSpec)

/-- ITS FALSE NEIGHBOUR: 'it returns false'. Refute it at one input. -/
def arenaSmashedWrong : ChangeSpec := { name := "arenaSmashed", fn := fun _ => fun
  | [d1, d2, d3, d4] => { results := [.lit (.bool false)], args := [d1, d2, d3, d4] }
  | _ => none }
def ArenaSmashedWrongFalsely : Prop := arenaSmashedRow.holds Try.pinned (OpenSpec.ofChange arenaSmashedWrong)

/-- 'dustcartlaw7.ArenaFalse': WHATEVER THE INPUT: true; the input reads as it did. -/
def arenaFalseSpec : ChangeSpec := { name := "arenaFalse", fn := fun _ => fun
  | [d1, d2, d3] => { results := [.lit (.bool true)], args := [d1, d2, d3] }
  | _ => none }
def arenaFalseRow : OpenClaim := { program := "ytfiddodlpppdhaa", sum := "4fb0776915c8946e64d8aa7d4b9627a1d32ec1efdb30663c7ecb6c9763d69552", func := "dustcart/dustcartlaw7.ArenaFalse", spec := "arenaFalse", unfollowed := true, recurses := true, apart := false }
def ArenaFalseSaid : Prop := arenaFalseRow.holds Try.pinned (OpenSpec.ofChange arenaFalseSpec)

/-- ITS FALSE NEIGHBOUR: 'it returns false'. Refute it at one input. -/
def arenaFalseWrong : ChangeSpec := { name := "arenaFalse", fn := fun _ => fun
  | [d1, d2, d3] => { results := [.lit (.bool false)], args := [d1, d2, d3] }
  | _ => none }
def ArenaFalseWrongFalsely : Prop := arenaFalseRow.holds Try.pinned (OpenSpec.ofChange arenaFalseWrong)

/- THE SECOND FORM. 'bulk': how many values and letters a reading holds, each counted each time it is reached (what is shared counts as often as it is met; a slice's spare places count too). A statement '..UptoSaid' is the law's where the arguments, and the package variables that the reading takes, are together of bulk at most 1048576: NARROWER than '..Said'. Prove '..Said' where nothing that the law and all that it calls make is longer than what came in: it says more and counts as full. Else prove '..UptoSaid'. A law counts once. -/
mutual
def uptoBulk {H : Type} : DataW H → Nat
  | .lit (.string bytes) => bytes.length + 1
  | .lit _ => 1
  | .nil => 1
  | .ptr d => uptoBulk d + 1
  | .slice elems spare => uptoBulkAll elems + uptoBulkAll spare + 1
  | .agg parts => uptoBulkAll parts + 1
  | .iface _ d => uptoBulk d + 1
  | .map entries => uptoBulkEntries entries + 1
  | .held _ => 1
def uptoBulkAll {H : Type} : List (DataW H) → Nat
  | [] => 0
  | d :: r => uptoBulk d + uptoBulkAll r
def uptoBulkEntries {H : Type} : List (Lit × DataW H) → Nat
  | [] => 0
  | x :: r => uptoBulkEntry x + uptoBulkEntries r
def uptoBulkEntry {H : Type} : Lit × DataW H → Nat
  | (.string bytes, d) => bytes.length + uptoBulk d + 1
  | (_, d) => uptoBulk d + 1
 end
def uptoSmall : (H : Type) → List (DataW H) → Bool := fun _ ds => decide (uptoBulkAll ds ≤ 1048576)
def OpenSpec.upto (s : _root_.Go.ChangeSpec) : _root_.Go.OpenSpec := { _root_.Go.OpenSpec.ofChange s with cond := some uptoSmall }

/-- 'dustcartlaw7.ArenaLarge', WHERE WHAT IT READS IS OF BULK AT MOST 1048576: true; the input reads as it did. -/
def arenaLargeUptoRow : OpenClaim := { program := "ytfiddodlpppdhaa", sum := "4fb0776915c8946e64d8aa7d4b9627a1d32ec1efdb30663c7ecb6c9763d69552", func := "dustcart/dustcartlaw7.ArenaLarge", spec := "arenaLarge", unfollowed := true, recurses := true, apart := false, narrowed := true }
def ArenaLargeUptoSaid : Prop := arenaLargeUptoRow.holds Try.pinned (OpenSpec.upto arenaLargeSpec)

/-- 'dustcartlaw7.ArenaFirst', WHERE WHAT IT READS IS OF BULK AT MOST 1048576: true; the input reads as it did. -/
def arenaFirstUptoRow : OpenClaim := { program := "ytfiddodlpppdhaa", sum := "4fb0776915c8946e64d8aa7d4b9627a1d32ec1efdb30663c7ecb6c9763d69552", func := "dustcart/dustcartlaw7.ArenaFirst", spec := "arenaFirst", unfollowed := true, recurses := true, apart := false, narrowed := true }
def ArenaFirstUptoSaid : Prop := arenaFirstUptoRow.holds Try.pinned (OpenSpec.upto arenaFirstSpec)

/-- 'dustcartlaw7.ArenaFlushes', WHERE WHAT IT READS IS OF BULK AT MOST 1048576: true; the input reads as it did. -/
def arenaFlushesUptoRow : OpenClaim := { program := "ytfiddodlpppdhaa", sum := "4fb0776915c8946e64d8aa7d4b9627a1d32ec1efdb30663c7ecb6c9763d69552", func := "dustcart/dustcartlaw7.ArenaFlushes", spec := "arenaFlushes", unfollowed := true, recurses := true, apart := false, narrowed := true }
def ArenaFlushesUptoSaid : Prop := arenaFlushesUptoRow.holds Try.pinned (OpenSpec.upto arenaFlushesSpec)

/-- 'dustcartlaw7.ArenaFills', WHERE WHAT IT READS IS OF BULK AT MOST 1048576: true; the input reads as it did. -/
def arenaFillsUptoRow : OpenClaim := { program := "ytfiddodlpppdhaa", sum := "4fb0776915c8946e64d8aa7d4b9627a1d32ec1efdb30663c7ecb6c9763d69552", func := "dustcart/dustcartlaw7.ArenaFills", spec := "arenaFills", unfollowed := true, recurses := true, apart := false, narrowed := true }
def ArenaFillsUptoSaid : Prop := arenaFillsUptoRow.holds Try.pinned (OpenSpec.upto arenaFillsSpec)

/-- 'dustcartlaw7.ArenaApart', WHERE WHAT IT READS IS OF BULK AT MOST 1048576: true; the input reads as it did. -/
def arenaApartUptoRow : OpenClaim := { program := "ytfiddodlpppdhaa", sum := "4fb0776915c8946e64d8aa7d4b9627a1d32ec1efdb30663c7ecb6c9763d69552", func := "dustcart/dustcartlaw7.ArenaApart", spec := "arenaApart", unfollowed := true, recurses := true, apart := false, narrowed := true }
def ArenaApartUptoSaid : Prop := arenaApartUptoRow.holds Try.pinned (OpenSpec.upto arenaApartSpec)

/-- 'dustcartlaw7.ArenaSmashed', WHERE WHAT IT READS IS OF BULK AT MOST 1048576: true; the input reads as it did. -/
def arenaSmashedUptoRow : OpenClaim := { program := "ytfiddodlpppdhaa", sum := "4fb0776915c8946e64d8aa7d4b9627a1d32ec1efdb30663c7ecb6c9763d69552", func := "dustcart/dustcartlaw7.ArenaSmashed", spec := "arenaSmashed", unfollowed := true, recurses := true, apart := false, narrowed := true }
def ArenaSmashedUptoSaid : Prop := arenaSmashedUptoRow.holds Try.pinned (OpenSpec.upto arenaSmashedSpec)

/-- 'dustcartlaw7.ArenaFalse', WHERE WHAT IT READS IS OF BULK AT MOST 1048576: true; the input reads as it did. -/
def arenaFalseUptoRow : OpenClaim := { program := "ytfiddodlpppdhaa", sum := "4fb0776915c8946e64d8aa7d4b9627a1d32ec1efdb30663c7ecb6c9763d69552", func := "dustcart/dustcartlaw7.ArenaFalse", spec := "arenaFalse", unfollowed := true, recurses := true, apart := false, narrowed := true }
def ArenaFalseUptoSaid : Prop := arenaFalseUptoRow.holds Try.pinned (OpenSpec.upto arenaFalseSpec)

end Rows
end Go.Proofs.Ytfiddodlpppdhaa
