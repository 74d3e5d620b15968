/- The law ModuleWrites holds: for every input the call answers true, and each argument reads behind the call as it read before. -/
import Derived.Test.YteipnfnbepnpjaaRows
import Derived.Test.YteipnfnbepnpjaaModuleWritesWalk
import Derived.Test.YteipnfnbepnpjaaOpen
namespace Go.Proofs.Yteipnfnbepnpjaa.moduleWrites
open Go.ChangeShapes Go.WideShapes Go.ChangeAt Go.RowKit
open Go.ChangeMaps (open_string shut_string)
set_option linter.unusedVariables false

theorem own : ownKnob Try.prog.godebug = none := by kernel_rfl
theorem laidOut : laidOutB Try.prog = true := by kernel_rfl

set_option maxRecDepth 100000 in
theorem lifted (os : Os) (started : os.Started) (H : Type) (enc : TypeId × Value → H) :
    ReturnsInHanded {} Try.checked os 7 .any (Rows.moduleWritesSpec.pre6 enc Try.prog Try.f7 Rows.moduleWritesRow.domain false) (Rows.moduleWritesSpec.post enc Try.prog Try.f7 false true false false) := by
  refine returnsInHanded_of_change (C := Try.checked) own started (by kernel_rfl) Try.func7
    (ChangeSpec.witness6 (enc := enc) (C := Try.checked) false ⟨#[], #[.agg #[.int .i64 0, .slice none 0 0, .slice none 0 0, .slice none 0 0]], []⟩ 8 (by kernel_rfl) (by kernel_rfl) (by kernel_rfl) (by kernel_rfl)) ?_
  intro W base args ds gs before hval0 hW hcnd _
  have hval : ∀ (j : Nat) t v, Try.f7.params[j]? = some t → args[j]? = some v → Value.okWide Try.prog W .any base t v := hval0
  have hW' := hW
  obtain ⟨p, q, hA0, hV, rfl, hfz, hnd⟩ := hW
  have hA : DataW.TrodAll enc Try.prog W 0 (fun _ => true) true Try.f7.params.toList args.toList ds p := hA0
  rw [Try.params7] at hA hval
  obtain ⟨v0, vs0, d0, ds0, p0, q0, hargs, rfl, rfl, h0, r0⟩ := trodAll_cons hA
  obtain ⟨rfl, rfl, rfl⟩ := trodAll_nil r0
  obtain rfl : args = #[v0] := by cases args; simp_all
  obtain ⟨rfl, rfl⟩ := trodVars_none hV
  have k0 := h0
  have lt0 : ∀ x ∈ p0, x.block < W.heap.size := by obtain ⟨m, hm⟩ := k0; exact DataW.trod_lt m _ _ _ hm
  obtain ⟨F0, hv0, hf0⟩ := open_agg Try.underlying47 (by kernel_rfl) (by kernel_rfl) (hval 0 47 v0 rfl rfl) h0
  obtain rfl : v0 = .agg #[F0 0, F0 1, F0 2, F0 3] := hv0.trans (congrArg Value.agg (by apply Array.ext'; rw [Array.toList_map, Array.toList_range]; rfl))
  have w0 : moduleWrites.arg0 W F0 := ⟨(let ⟨m, z, g⟩ := hf0 0 _ rfl; (rd_int Try.underlying3 g)), (let ⟨m, z, g⟩ := hf0 1 _ rfl; (rd_slice 3 (fun G0 => ((∃ b : Bool, G0 0 = .bool b) ∧ (∃ n : Int, G0 1 = .int .i64 n ∧ (Lit.int .i64 n).wf = true) ∧ (∃ s : ByteArray, G0 2 = .string s ∧ s.size ≤ maxLen))) Try.underlying43 (by kernel_rfl) g (fun G0 n0 y0 h0 => ⟨rd_field (∃ b : Bool, G0 0 = .bool b) Try.underlying63 (by kernel_rfl) (by kernel_rfl) h0 0 _ rfl (fun m1 z1 g1 => (rd_bool Try.underlying4 g1)), rd_field (∃ n : Int, G0 1 = .int .i64 n ∧ (Lit.int .i64 n).wf = true) Try.underlying63 (by kernel_rfl) (by kernel_rfl) h0 1 _ rfl (fun m1 z1 g1 => (rd_int Try.underlying3 g1)), rd_field (∃ s : ByteArray, G0 2 = .string s ∧ s.size ≤ maxLen) Try.underlying63 (by kernel_rfl) (by kernel_rfl) h0 2 _ rfl (fun m1 z1 g1 => (rd_string Try.underlying9 g1))⟩))), (let ⟨m, z, g⟩ := hf0 2 _ rfl; (rd_slice 3 (fun G0 => ((∃ n : Int, G0 0 = .int .i64 n ∧ (Lit.int .i64 n).wf = true) ∧ (∃ n : Int, G0 1 = .int .i64 n ∧ (Lit.int .i64 n).wf = true) ∧ (∃ (a : Option Addr) (len cap : Nat) (F1 : Nat → Nat → Value), G0 2 = .slice a len cap ∧ Rows W a len cap 1 F1 ∧ ∀ i, i < len → (∃ n : Int, (F1 i) 0 = .int .u8 n ∧ (Lit.int .u8 n).wf = true)))) Try.underlying44 (by kernel_rfl) g (fun G0 n0 y0 h0 => ⟨rd_field (∃ n : Int, G0 0 = .int .i64 n ∧ (Lit.int .i64 n).wf = true) Try.underlying61 (by kernel_rfl) (by kernel_rfl) h0 0 _ rfl (fun m1 z1 g1 => (rd_int Try.underlying3 g1)), rd_field (∃ n : Int, G0 1 = .int .i64 n ∧ (Lit.int .i64 n).wf = true) Try.underlying61 (by kernel_rfl) (by kernel_rfl) h0 1 _ rfl (fun m1 z1 g1 => (rd_int Try.underlying3 g1)), rd_field (∃ (a : Option Addr) (len cap : Nat) (F1 : Nat → Nat → Value), G0 2 = .slice a len cap ∧ Rows W a len cap 1 F1 ∧ ∀ i, i < len → (∃ n : Int, (F1 i) 0 = .int .u8 n ∧ (Lit.int .u8 n).wf = true)) Try.underlying61 (by kernel_rfl) (by kernel_rfl) h0 2 _ rfl (fun m1 z1 g1 => (rd_slice 1 (fun G1 => (∃ n : Int, G1 0 = .int .u8 n ∧ (Lit.int .u8 n).wf = true)) Try.underlying26 (by kernel_rfl) g1 (fun G1 n1 y1 h1 => rd_one (∃ n : Int, G1 0 = .int .u8 n ∧ (Lit.int .u8 n).wf = true) (by kernel_rfl) h1 (fun g2 => (rd_int Try.underlying5 g2)))))⟩))), (let ⟨m, z, g⟩ := hf0 3 _ rfl; (rd_slice 2 (fun G0 => ((∃ n : Int, G0 0 = .int .i64 n ∧ (Lit.int .i64 n).wf = true) ∧ (∃ n : Int, G0 1 = .int .i64 n ∧ (Lit.int .i64 n).wf = true))) Try.underlying45 (by kernel_rfl) g (fun G0 n0 y0 h0 => ⟨rd_field (∃ n : Int, G0 0 = .int .i64 n ∧ (Lit.int .i64 n).wf = true) Try.underlying76 (by kernel_rfl) (by kernel_rfl) h0 0 _ rfl (fun m1 z1 g1 => (rd_int Try.underlying3 g1)), rd_field (∃ n : Int, G0 1 = .int .i64 n ∧ (Lit.int .i64 n).wf = true) Try.underlying76 (by kernel_rfl) (by kernel_rfl) h0 1 _ rfl (fun m1 z1 g1 => (rd_int Try.underlying3 g1))⟩)))⟩
  clear hA0 hval0
  refine (moduleWrites.walk F0 W w0).mono fun e W' ⟨he, bel⟩ => ?_
  subst he
  exact ⟨_, rfl, _, _, _, [], _, [], hW', trodAll_mk1 (shut_bool Try.underlying4 _), (trodAll_cons_mk (Below.trod laidOut (by kernel_rfl) (of_decide_eq_true (by kernel_rfl)) k0 bel lt0) trodAll_mk0), rfl, bel.frame _, fun h => by cases h⟩

theorem over : Rows.moduleWritesRow.holds Try.pinned (OpenSpec.ofChange Rows.moduleWritesSpec) :=
  OpenClaim.holds_of_wide 7 Try.f7 rfl rfl rfl rfl rfl rfl rfl ⟨rfl, rfl, rfl, rfl, rfl⟩ rfl rfl rfl rfl rfl (by kernel_rfl) Try.func7 (by kernel_rfl)
    (of_decide_eq_true (by kernel_rfl)) (by unfold Func.isWrapper; first | (rw [if_pos (by decide +kernel)]; kernel_rfl) | (rw [if_neg (by decide +kernel)]; exact ⟨rfl, rfl⟩))
    (fun os started H enc _ => lifted os started H enc)

/-- the statement -/
theorem proved : Rows.ModuleWritesSaid := over
#print axioms proved
end Go.Proofs.Yteipnfnbepnpjaa.moduleWrites
