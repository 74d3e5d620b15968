/-
  No cell of these rows narrows 'for every input' (looked for: loops, veiled, ifaces, maps, wideKeys, modest, calm, conditions, laid).
  DERIVED. THE GIVEN ROWS OF THIS SEAT. 11 by the template 'for every input the law returns true; each argument reads behind the call as it read before'; 0 by the template 'total and deterministic' (their statements: YtogifanooleppaaTotals.lean).
  GIVEN WITH THE SEED: the statements are not yours to turn. If you find one false, say at which input.
  Laid BY PROGRAM, IN A SANDBOX (cutbox-rows.mjs): the forced cells as the released guide's own fill.sh prints them over the translation 3393c02df7e2d684… (all of the seat's roots in one cut). By AI agents, Wed Nov 11 2026. No macro, syntax, notation, axiom, sorry.
-/
import Derived.Test.YtogifanooleppaaChecked
import GoSem.Claim
import GoSem.ClaimJoined
import GoSem.ClaimMapViews
import Derived.JoinedTies
import Derived.KernelRfl
namespace Go.Proofs.Ytogifanooleppaa
/- THE CELL 'sum', in the pinned program and in every row, IS THE sha256 OF THE DUMP (.gsa) THAT YtogifanooleppaaProg.lean LOADS. Nothing in Lean hashes anything: it is a label: what it is worth is what the hold of that sum in a sandbox is worth. -/
noncomputable def Try.pinned : Pinned := { name := "ytogifanooleppaa", sum := "3393c02df7e2d684775ac071759bb95deafe8d863635356952d6ec972778daae", checked := Try.checked }
namespace Rows
def none {H : Type} : Left H := { results := [], args := [] }

/-- 'dustcarttop.TopNames': WHATEVER THE INPUT: true; the input reads as it did. -/
def topNamesSpec : ChangeSpec := { name := "topNames", fn := fun _ => fun
  | [] => { results := [.lit (.bool true)], args := [] }
  | _ => none }
def topNamesRow : OpenClaim := { program := "ytogifanooleppaa", sum := "3393c02df7e2d684775ac071759bb95deafe8d863635356952d6ec972778daae", func := "dustcart/dustcarttop.TopNames", spec := "topNames", apart := false }
def TopNamesSaid : Prop := topNamesRow.holds Try.pinned (OpenSpec.ofChange topNamesSpec)

/-- ITS FALSE NEIGHBOUR: 'it returns false'. Refute it at one input. -/
def topNamesWrong : ChangeSpec := { name := "topNames", fn := fun _ => fun
  | [] => { results := [.lit (.bool false)], args := [] }
  | _ => none }
def TopNamesWrongFalsely : Prop := topNamesRow.holds Try.pinned (OpenSpec.ofChange topNamesWrong)

/-- 'dustcartlaw10.LeastSorts': WHATEVER THE INPUT: true; the input reads as it did. -/
def leastSortsSpec : ChangeSpec := { name := "leastSorts", fn := fun _ => fun
  | [d] => { results := [.lit (.bool true)], args := [d] }
  | _ => none }
def leastSortsRow : OpenClaim := { program := "ytogifanooleppaa", sum := "3393c02df7e2d684775ac071759bb95deafe8d863635356952d6ec972778daae", func := "dustcart/dustcartlaw10.LeastSorts", spec := "leastSorts", unfollowed := true, recurses := true, apart := false }
def LeastSortsSaid : Prop := leastSortsRow.holds Try.pinned (OpenSpec.ofChange leastSortsSpec)

/-- ITS FALSE NEIGHBOUR: 'it returns false'. Refute it at one input. -/
def leastSortsWrong : ChangeSpec := { name := "leastSorts", fn := fun _ => fun
  | [d] => { results := [.lit (.bool false)], args := [d] }
  | _ => none }
def LeastSortsWrongFalsely : Prop := leastSortsRow.holds Try.pinned (OpenSpec.ofChange leastSortsWrong)

/-- 'dustcartlaw4.PagesPlay': WHATEVER THE INPUT: true; the input reads as it did. -/
def pagesPlaySpec : ChangeSpec := { name := "pagesPlay", fn := fun _ => fun
  | [d1, d2] => { results := [.lit (.bool true)], args := [d1, d2] }
  | _ => none }
def pagesPlayRow : OpenClaim := { program := "ytogifanooleppaa", sum := "3393c02df7e2d684775ac071759bb95deafe8d863635356952d6ec972778daae", func := "dustcart/dustcartlaw4.PagesPlay", spec := "pagesPlay", apart := false }
def PagesPlaySaid : Prop := pagesPlayRow.holds Try.pinned (OpenSpec.ofChange pagesPlaySpec)

/-- ITS FALSE NEIGHBOUR: 'it returns false'. Refute it at one input. -/
def pagesPlayWrong : ChangeSpec := { name := "pagesPlay", fn := fun _ => fun
  | [d1, d2] => { results := [.lit (.bool false)], args := [d1, d2] }
  | _ => none }
def PagesPlayWrongFalsely : Prop := pagesPlayRow.holds Try.pinned (OpenSpec.ofChange pagesPlayWrong)

/-- 'dustcartlaw4.PagesApart': WHATEVER THE INPUT: true; the input reads as it did. -/
def pagesApartSpec : ChangeSpec := { name := "pagesApart", fn := fun _ => fun
  | [d1, d2] => { results := [.lit (.bool true)], args := [d1, d2] }
  | _ => none }
def pagesApartRow : OpenClaim := { program := "ytogifanooleppaa", sum := "3393c02df7e2d684775ac071759bb95deafe8d863635356952d6ec972778daae", func := "dustcart/dustcartlaw4.PagesApart", spec := "pagesApart", apart := false }
def PagesApartSaid : Prop := pagesApartRow.holds Try.pinned (OpenSpec.ofChange pagesApartSpec)

/-- ITS FALSE NEIGHBOUR: 'it returns false'. Refute it at one input. -/
def pagesApartWrong : ChangeSpec := { name := "pagesApart", fn := fun _ => fun
  | [d1, d2] => { results := [.lit (.bool false)], args := [d1, d2] }
  | _ => none }
def PagesApartWrongFalsely : Prop := pagesApartRow.holds Try.pinned (OpenSpec.ofChange pagesApartWrong)

/-- 'dustcartlaw4.PagesFill': WHATEVER THE INPUT: true; the input reads as it did. -/
def pagesFillSpec : ChangeSpec := { name := "pagesFill", fn := fun _ => fun
  | [d1, d2] => { results := [.lit (.bool true)], args := [d1, d2] }
  | _ => none }
def pagesFillRow : OpenClaim := { program := "ytogifanooleppaa", sum := "3393c02df7e2d684775ac071759bb95deafe8d863635356952d6ec972778daae", func := "dustcart/dustcartlaw4.PagesFill", spec := "pagesFill", apart := false }
def PagesFillSaid : Prop := pagesFillRow.holds Try.pinned (OpenSpec.ofChange pagesFillSpec)

/-- ITS FALSE NEIGHBOUR: 'it returns false'. Refute it at one input. -/
def pagesFillWrong : ChangeSpec := { name := "pagesFill", fn := fun _ => fun
  | [d1, d2] => { results := [.lit (.bool false)], args := [d1, d2] }
  | _ => none }
def PagesFillWrongFalsely : Prop := pagesFillRow.holds Try.pinned (OpenSpec.ofChange pagesFillWrong)

/-- 'dustcartlaw24.AuditTells': WHATEVER THE INPUT: true; the input reads as it did. -/
def auditTellsSpec : ChangeSpec := { name := "auditTells", fn := fun _ => fun
  | [d1, d2, d3] => { results := [.lit (.bool true)], args := [d1, d2, d3] }
  | _ => none }
def auditTellsRow : OpenClaim := { program := "ytogifanooleppaa", sum := "3393c02df7e2d684775ac071759bb95deafe8d863635356952d6ec972778daae", func := "dustcart/dustcartlaw24.AuditTells", spec := "auditTells", unfollowed := true, recurses := true, apart := false }
def AuditTellsSaid : Prop := auditTellsRow.holds Try.pinned (OpenSpec.ofChange auditTellsSpec)

/-- ITS FALSE NEIGHBOUR: 'it returns false'. Refute it at one input. -/
def auditTellsWrong : ChangeSpec := { name := "auditTells", fn := fun _ => fun
  | [d1, d2, d3] => { results := [.lit (.bool false)], args := [d1, d2, d3] }
  | _ => none }
def AuditTellsWrongFalsely : Prop := auditTellsRow.holds Try.pinned (OpenSpec.ofChange auditTellsWrong)

/-- 'dustcartlaw24.AuditReaches': WHATEVER THE INPUT: true; the input reads as it did. -/
def auditReachesSpec : ChangeSpec := { name := "auditReaches", fn := fun _ => fun
  | [d1, d2] => { results := [.lit (.bool true)], args := [d1, d2] }
  | _ => none }
def auditReachesRow : OpenClaim := { program := "ytogifanooleppaa", sum := "3393c02df7e2d684775ac071759bb95deafe8d863635356952d6ec972778daae", func := "dustcart/dustcartlaw24.AuditReaches", spec := "auditReaches", unfollowed := true, recurses := true, apart := false }
def AuditReachesSaid : Prop := auditReachesRow.holds Try.pinned (OpenSpec.ofChange auditReachesSpec)

/-- ITS FALSE NEIGHBOUR: 'it returns false'. Refute it at one input. -/
def auditReachesWrong : ChangeSpec := { name := "auditReaches", fn := fun _ => fun
  | [d1, d2] => { results := [.lit (.bool false)], args := [d1, d2] }
  | _ => none }
def AuditReachesWrongFalsely : Prop := auditReachesRow.holds Try.pinned (OpenSpec.ofChange auditReachesWrong)

/-- 'dustcartlaw24.AuditFinds': WHATEVER THE INPUT: true; the input reads as it did. -/
def auditFindsSpec : ChangeSpec := { name := "auditFinds", fn := fun _ => fun
  | [d1, d2, d3] => { results := [.lit (.bool true)], args := [d1, d2, d3] }
  | _ => none }
def auditFindsRow : OpenClaim := { program := "ytogifanooleppaa", sum := "3393c02df7e2d684775ac071759bb95deafe8d863635356952d6ec972778daae", func := "dustcart/dustcartlaw24.AuditFinds", spec := "auditFinds", unfollowed := true, recurses := true, apart := false }
def AuditFindsSaid : Prop := auditFindsRow.holds Try.pinned (OpenSpec.ofChange auditFindsSpec)

/-- ITS FALSE NEIGHBOUR: 'it returns false'. Refute it at one input. -/
def auditFindsWrong : ChangeSpec := { name := "auditFinds", fn := fun _ => fun
  | [d1, d2, d3] => { results := [.lit (.bool false)], args := [d1, d2, d3] }
  | _ => none }
def AuditFindsWrongFalsely : Prop := auditFindsRow.holds Try.pinned (OpenSpec.ofChange auditFindsWrong)

/-- 'dustcartlaw24.AuditAll': WHATEVER THE INPUT: true; the input reads as it did. -/
def auditAllSpec : ChangeSpec := { name := "auditAll", fn := fun _ => fun
  | [d] => { results := [.lit (.bool true)], args := [d] }
  | _ => none }
def auditAllRow : OpenClaim := { program := "ytogifanooleppaa", sum := "3393c02df7e2d684775ac071759bb95deafe8d863635356952d6ec972778daae", func := "dustcart/dustcartlaw24.AuditAll", spec := "auditAll", unfollowed := true, recurses := true, apart := false }
def AuditAllSaid : Prop := auditAllRow.holds Try.pinned (OpenSpec.ofChange auditAllSpec)

/-- ITS FALSE NEIGHBOUR: 'it returns false'. Refute it at one input. -/
def auditAllWrong : ChangeSpec := { name := "auditAll", fn := fun _ => fun
  | [d] => { results := [.lit (.bool false)], args := [d] }
  | _ => none }
def AuditAllWrongFalsely : Prop := auditAllRow.holds Try.pinned (OpenSpec.ofChange auditAllWrong)

/-- 'dustcartlaw10.LeastDrops': WHATEVER THE INPUT: true; the input reads as it did. -/
def leastDropsSpec : ChangeSpec := { name := "leastDrops", fn := fun _ => fun
  | [d1, d2] => { results := [.lit (.bool true)], args := [d1, d2] }
  | _ => none }
def leastDropsRow : OpenClaim := { program := "ytogifanooleppaa", sum := "3393c02df7e2d684775ac071759bb95deafe8d863635356952d6ec972778daae", func := "dustcart/dustcartlaw10.LeastDrops", spec := "leastDrops", unfollowed := true, recurses := true, apart := false }
def LeastDropsSaid : Prop := leastDropsRow.holds Try.pinned (OpenSpec.ofChange leastDropsSpec)

/-- ITS FALSE NEIGHBOUR: 'it returns false'. Refute it at one input. -/
def leastDropsWrong : ChangeSpec := { name := "leastDrops", fn := fun _ => fun
  | [d1, d2] => { results := [.lit (.bool false)], args := [d1, d2] }
  | _ => none }
def LeastDropsWrongFalsely : Prop := leastDropsRow.holds Try.pinned (OpenSpec.ofChange leastDropsWrong)

/-- 'dustcartlaw10.LeastPlays': WHATEVER THE INPUT: true; the input reads as it did. -/
def leastPlaysSpec : ChangeSpec := { name := "leastPlays", fn := fun _ => fun
  | [d] => { results := [.lit (.bool true)], args := [d] }
  | _ => none }
def leastPlaysRow : OpenClaim := { program := "ytogifanooleppaa", sum := "3393c02df7e2d684775ac071759bb95deafe8d863635356952d6ec972778daae", func := "dustcart/dustcartlaw10.LeastPlays", spec := "leastPlays", unfollowed := true, recurses := true, apart := false }
def LeastPlaysSaid : Prop := leastPlaysRow.holds Try.pinned (OpenSpec.ofChange leastPlaysSpec)

/-- ITS FALSE NEIGHBOUR: 'it returns false'. Refute it at one input. -/
def leastPlaysWrong : ChangeSpec := { name := "leastPlays", fn := fun _ => fun
  | [d] => { results := [.lit (.bool false)], args := [d] }
  | _ => none }
def LeastPlaysWrongFalsely : Prop := leastPlaysRow.holds Try.pinned (OpenSpec.ofChange leastPlaysWrong)

/- THE SECOND FORM. 'bulk': how many values and letters a reading holds, each counted each time it is reached (what is shared counts as often as it is met; a slice's spare places count too). A statement '..UptoSaid' is the law's where the arguments, and the package variables that the reading takes, are together of bulk at most 1048576: NARROWER than '..Said'. Prove '..Said' where nothing that the law and all that it calls make is longer than what came in: it says more and counts as full. Else prove '..UptoSaid'. A law counts once. -/
mutual
def uptoBulk {H : Type} : DataW H → Nat
  | .lit (.string bytes) => bytes.length + 1
  | .lit _ => 1
  | .nil => 1
  | .ptr d => uptoBulk d + 1
  | .slice elems spare => uptoBulkAll elems + uptoBulkAll spare + 1
  | .agg parts => uptoBulkAll parts + 1
  | .iface _ d => uptoBulk d + 1
  | .map entries => uptoBulkEntries entries + 1
  | .held _ => 1
def uptoBulkAll {H : Type} : List (DataW H) → Nat
  | [] => 0
  | d :: r => uptoBulk d + uptoBulkAll r
def uptoBulkEntries {H : Type} : List (Lit × DataW H) → Nat
  | [] => 0
  | x :: r => uptoBulkEntry x + uptoBulkEntries r
def uptoBulkEntry {H : Type} : Lit × DataW H → Nat
  | (.string bytes, d) => bytes.length + uptoBulk d + 1
  | (_, d) => uptoBulk d + 1
 end
def uptoSmall : (H : Type) → List (DataW H) → Bool := fun _ ds => decide (uptoBulkAll ds ≤ 1048576)
def OpenSpec.upto (s : _root_.Go.ChangeSpec) : _root_.Go.OpenSpec := { _root_.Go.OpenSpec.ofChange s with cond := some uptoSmall }

/-- 'dustcarttop.TopNames', WHERE WHAT IT READS IS OF BULK AT MOST 1048576: true; the input reads as it did. -/
def topNamesUptoRow : OpenClaim := { program := "ytogifanooleppaa", sum := "3393c02df7e2d684775ac071759bb95deafe8d863635356952d6ec972778daae", func := "dustcart/dustcarttop.TopNames", spec := "topNames", apart := false, narrowed := true }
def TopNamesUptoSaid : Prop := topNamesUptoRow.holds Try.pinned (OpenSpec.upto topNamesSpec)

/-- 'dustcartlaw10.LeastSorts', WHERE WHAT IT READS IS OF BULK AT MOST 1048576: true; the input reads as it did. -/
def leastSortsUptoRow : OpenClaim := { program := "ytogifanooleppaa", sum := "3393c02df7e2d684775ac071759bb95deafe8d863635356952d6ec972778daae", func := "dustcart/dustcartlaw10.LeastSorts", spec := "leastSorts", unfollowed := true, recurses := true, apart := false, narrowed := true }
def LeastSortsUptoSaid : Prop := leastSortsUptoRow.holds Try.pinned (OpenSpec.upto leastSortsSpec)

/-- 'dustcartlaw4.PagesPlay', WHERE WHAT IT READS IS OF BULK AT MOST 1048576: true; the input reads as it did. -/
def pagesPlayUptoRow : OpenClaim := { program := "ytogifanooleppaa", sum := "3393c02df7e2d684775ac071759bb95deafe8d863635356952d6ec972778daae", func := "dustcart/dustcartlaw4.PagesPlay", spec := "pagesPlay", apart := false, narrowed := true }
def PagesPlayUptoSaid : Prop := pagesPlayUptoRow.holds Try.pinned (OpenSpec.upto pagesPlaySpec)

/-- 'dustcartlaw4.PagesApart', WHERE WHAT IT READS IS OF BULK AT MOST 1048576: true; the input reads as it did. -/
def pagesApartUptoRow : OpenClaim := { program := "ytogifanooleppaa", sum := "3393c02df7e2d684775ac071759bb95deafe8d863635356952d6ec972778daae", func := "dustcart/dustcartlaw4.PagesApart", spec := "pagesApart", apart := false, narrowed := true }
def PagesApartUptoSaid : Prop := pagesApartUptoRow.holds Try.pinned (OpenSpec.upto pagesApartSpec)

/-- 'dustcartlaw4.PagesFill', WHERE WHAT IT READS IS OF BULK AT MOST 1048576: true; the input reads as it did. -/
def pagesFillUptoRow : OpenClaim := { program := "ytogifanooleppaa", sum := "3393c02df7e2d684775ac071759bb95deafe8d863635356952d6ec972778daae", func := "dustcart/dustcartlaw4.PagesFill", spec := "pagesFill", apart := false, narrowed := true }
def PagesFillUptoSaid : Prop := pagesFillUptoRow.holds Try.pinned (OpenSpec.upto pagesFillSpec)

/-- 'dustcartlaw24.AuditTells', WHERE WHAT IT READS IS OF BULK AT MOST 1048576: true; the input reads as it did. -/
def auditTellsUptoRow : OpenClaim := { program := "ytogifanooleppaa", sum := "3393c02df7e2d684775ac071759bb95deafe8d863635356952d6ec972778daae", func := "dustcart/dustcartlaw24.AuditTells", spec := "auditTells", unfollowed := true, recurses := true, apart := false, narrowed := true }
def AuditTellsUptoSaid : Prop := auditTellsUptoRow.holds Try.pinned (OpenSpec.upto auditTellsSpec)

/-- 'dustcartlaw24.AuditReaches', WHERE WHAT IT READS IS OF BULK AT MOST 1048576: true; the input reads as it did. -/
def auditReachesUptoRow : OpenClaim := { program := "ytogifanooleppaa", sum := "3393c02df7e2d684775ac071759bb95deafe8d863635356952d6ec972778daae", func := "dustcart/dustcartlaw24.AuditReaches", spec := "auditReaches", unfollowed := true, recurses := true, apart := false, narrowed := true }
def AuditReachesUptoSaid : Prop := auditReachesUptoRow.holds Try.pinned (OpenSpec.upto auditReachesSpec)

/-- 'dustcartlaw24.AuditFinds', WHERE WHAT IT READS IS OF BULK AT MOST 1048576: true; the input reads as it did. -/
def auditFindsUptoRow : OpenClaim := { program := "ytogifanooleppaa", sum := "3393c02df7e2d684775ac071759bb95deafe8d863635356952d6ec972778daae", func := "dustcart/dustcartlaw24.AuditFinds", spec := "auditFinds", unfollowed := true, recurses := true, apart := false, narrowed := true }
def AuditFindsUptoSaid : Prop := auditFindsUptoRow.holds Try.pinned (OpenSpec.upto auditFindsSpec)

/-- 'dustcartlaw24.AuditAll', WHERE WHAT IT READS IS OF BULK AT MOST 1048576: true; the input reads as it did. -/
def auditAllUptoRow : OpenClaim := { program := "ytogifanooleppaa", sum := "3393c02df7e2d684775ac071759bb95deafe8d863635356952d6ec972778daae", func := "dustcart/dustcartlaw24.AuditAll", spec := "auditAll", unfollowed := true, recurses := true, apart := false, narrowed := true }
def AuditAllUptoSaid : Prop := auditAllUptoRow.holds Try.pinned (OpenSpec.upto auditAllSpec)

/-- 'dustcartlaw10.LeastDrops', WHERE WHAT IT READS IS OF BULK AT MOST 1048576: true; the input reads as it did. -/
def leastDropsUptoRow : OpenClaim := { program := "ytogifanooleppaa", sum := "3393c02df7e2d684775ac071759bb95deafe8d863635356952d6ec972778daae", func := "dustcart/dustcartlaw10.LeastDrops", spec := "leastDrops", unfollowed := true, recurses := true, apart := false, narrowed := true }
def LeastDropsUptoSaid : Prop := leastDropsUptoRow.holds Try.pinned (OpenSpec.upto leastDropsSpec)

/-- 'dustcartlaw10.LeastPlays', WHERE WHAT IT READS IS OF BULK AT MOST 1048576: true; the input reads as it did. -/
def leastPlaysUptoRow : OpenClaim := { program := "ytogifanooleppaa", sum := "3393c02df7e2d684775ac071759bb95deafe8d863635356952d6ec972778daae", func := "dustcart/dustcartlaw10.LeastPlays", spec := "leastPlays", unfollowed := true, recurses := true, apart := false, narrowed := true }
def LeastPlaysUptoSaid : Prop := leastPlaysUptoRow.holds Try.pinned (OpenSpec.upto leastPlaysSpec)

end Rows
end Go.Proofs.Ytogifanooleppaa
