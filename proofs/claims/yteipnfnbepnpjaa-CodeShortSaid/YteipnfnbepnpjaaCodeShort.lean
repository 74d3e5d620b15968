/- The law CodeShort holds: for every input the call answers true, and each argument reads behind the call as it read before. -/
import Derived.Test.YteipnfnbepnpjaaRows
import Derived.Test.YteipnfnbepnpjaaCodeShortWalk
import Derived.Test.YteipnfnbepnpjaaOpen
namespace Go.Proofs.Yteipnfnbepnpjaa.codeShort
open Go.ChangeShapes Go.WideShapes Go.ChangeAt Go.RowKit
open Go.ChangeMaps (open_string shut_string)
set_option linter.unusedVariables false

theorem own : ownKnob Try.prog.godebug = none := by kernel_rfl
theorem laidOut : laidOutB Try.prog = true := by kernel_rfl

set_option maxRecDepth 100000 in
theorem lifted (os : Os) (started : os.Started) (H : Type) (enc : TypeId × Value → H) :
    ReturnsInHanded {} Try.checked os 4 .any (Rows.codeShortSpec.pre6 enc Try.prog Try.f4 Rows.codeShortRow.domain false) (Rows.codeShortSpec.post enc Try.prog Try.f4 false true false false) := by
  refine returnsInHanded_of_change_sized (C := Try.checked) own started (by kernel_rfl) Try.func4
    (ChangeSpec.witness6 (enc := enc) (C := Try.checked) false ⟨#[], #[.slice none 0 0, .int .i64 0], []⟩ 8 (by kernel_rfl) (by kernel_rfl) (by kernel_rfl) (by kernel_rfl)) ?_
  intro W base args ds gs before hval0 hW hcnd hsz _
  have hval : ∀ (j : Nat) t v, Try.f4.params[j]? = some t → args[j]? = some v → Value.okWide Try.prog W .any base t v := hval0
  have hW' := hW
  obtain ⟨p, q, hA0, hV, rfl, hfz, hnd⟩ := hW
  have hA : DataW.TrodAll enc Try.prog W 0 (fun _ => true) true Try.f4.params.toList args.toList ds p := hA0
  rw [Try.params4] at hA hval
  obtain ⟨v0, vs0, d0, ds0, p0, q0, hargs, rfl, rfl, h0, r0⟩ := trodAll_cons hA
  obtain ⟨v1, vs1, d1, ds1, p1, q1, rfl, rfl, rfl, h1, r1⟩ := trodAll_cons r0
  obtain ⟨rfl, rfl, rfl⟩ := trodAll_nil r1
  obtain rfl : args = #[v0, v1] := by cases args; simp_all
  obtain ⟨rfl, rfl⟩ := trodVars_none hV
  obtain ⟨a0, len0, cap0, rfl⟩ := okWide_slice Try.underlying25 (hval 0 25 v0 rfl rfl)
  have k0 := h0
  have lt0 : ∀ x ∈ p0, x.block < W.heap.size := by obtain ⟨m, hm⟩ := k0; exact DataW.trod_lt m _ _ _ hm
  have w0 : codeShort.arg0 W a0 len0 cap0 := by
    obtain ⟨fuel, hf⟩ := h0
    have hf2 := (show DataW.trod enc Try.prog W 0 (fun _ => true) true fuel 25 [.slice a0 len0 cap0] = some (d0, p0) by simpa [Value.cells] using hf)
    obtain ⟨a, len, cap, F, he, hR, hE⟩ := rd_slice 4 (fun G => ((∃ n : Int, G 0 = .int .i64 n ∧ (Lit.int .i64 n).wf = true) ∧ (∃ n : Int, G 1 = .int .i64 n ∧ (Lit.int .i64 n).wf = true) ∧ (∃ n : Int, G 2 = .int .i64 n ∧ (Lit.int .i64 n).wf = true) ∧ (∃ n : Int, G 3 = .int .i64 n ∧ (Lit.int .i64 n).wf = true))) Try.underlying25 (by kernel_rfl) hf2 (fun G n y h => ⟨rd_field (∃ n : Int, G 0 = .int .i64 n ∧ (Lit.int .i64 n).wf = true) Try.underlying30 (by kernel_rfl) (by kernel_rfl) h 0 _ rfl (fun m0 z0 g0 => (rd_int Try.underlying3 g0)), rd_field (∃ n : Int, G 1 = .int .i64 n ∧ (Lit.int .i64 n).wf = true) Try.underlying30 (by kernel_rfl) (by kernel_rfl) h 1 _ rfl (fun m0 z0 g0 => (rd_int Try.underlying3 g0)), rd_field (∃ n : Int, G 2 = .int .i64 n ∧ (Lit.int .i64 n).wf = true) Try.underlying30 (by kernel_rfl) (by kernel_rfl) h 2 _ rfl (fun m0 z0 g0 => (rd_int Try.underlying3 g0)), rd_field (∃ n : Int, G 3 = .int .i64 n ∧ (Lit.int .i64 n).wf = true) Try.underlying30 (by kernel_rfl) (by kernel_rfl) h 3 _ rfl (fun m0 z0 g0 => (rd_int Try.underlying3 g0))⟩)
    cases he
    exact ⟨F, hR, hE⟩
  obtain ⟨a1, rfl, rfl, rfl, w1⟩ := open_int Try.underlying3 (hval 1 3 v1 rfl rfl) h1
  have s0 := len_sized Try.underlying25 k0 hsz 0 (by kernel_rfl) rfl
  clear hA0 hval0
  refine (codeShort.walk a0 len0 cap0 a1 W w0 w1 s0).mono fun e W' ⟨he, bel⟩ => ?_
  subst he
  exact ⟨_, rfl, _, _, _, [], _, [], hW', trodAll_mk1 (shut_bool Try.underlying4 _), (trodAll_cons_mk (Below.trod laidOut (by kernel_rfl) (of_decide_eq_true (by kernel_rfl)) k0 bel lt0) (trodAll_cons_mk (shut_int Try.underlying3 w1) trodAll_mk0)), rfl, bel.frame _, fun h => by cases h⟩

theorem over : Rows.codeShortRow.holds Try.pinned (OpenSpec.ofChange Rows.codeShortSpec) :=
  OpenClaim.holds_of_wide 4 Try.f4 rfl rfl rfl rfl rfl rfl rfl ⟨rfl, rfl, rfl, rfl, rfl⟩ rfl rfl rfl rfl rfl (by kernel_rfl) Try.func4 (by kernel_rfl)
    (of_decide_eq_true (by kernel_rfl)) (by unfold Func.isWrapper; first | (rw [if_pos (by decide +kernel)]; kernel_rfl) | (rw [if_neg (by decide +kernel)]; exact ⟨rfl, rfl⟩))
    (fun os started H enc _ => lifted os started H enc)

/-- the statement -/
theorem proved : Rows.CodeShortSaid := over
#print axioms proved
end Go.Proofs.Yteipnfnbepnpjaa.codeShort
