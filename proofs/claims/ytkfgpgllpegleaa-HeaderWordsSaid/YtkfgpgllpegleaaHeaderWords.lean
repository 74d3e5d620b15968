/- The law HeaderWords holds: for every input the call answers true, and each argument reads behind the call as it read before. -/
import Derived.Test.YtkfgpgllpegleaaRows
import Derived.Test.YtkfgpgllpegleaaHeaderWordsWalk
import Derived.Test.YtkfgpgllpegleaaOpen
namespace Go.Proofs.Ytkfgpgllpegleaa.headerWords
open Go.ChangeShapes Go.WideShapes Go.ChangeAt Go.RowKit
open Go.ChangeMaps (open_string shut_string)
set_option linter.unusedVariables false

theorem own : ownKnob Try.prog.godebug = none := by kernel_rfl
theorem laidOut : laidOutB Try.prog = true := by kernel_rfl

set_option maxRecDepth 100000 in
theorem lifted (os : Os) (started : os.Started) (H : Type) (enc : TypeId × Value → H) :
    ReturnsInHanded {} Try.checked os 9 .any (Rows.headerWordsSpec.pre6 enc Try.prog Try.f9 Rows.headerWordsRow.domain false) (Rows.headerWordsSpec.post enc Try.prog Try.f9 false true false false) := by
  refine returnsInHanded_of_change (C := Try.checked) own started (by kernel_rfl) Try.func9
    (ChangeSpec.witness6 (enc := enc) (C := Try.checked) false ⟨#[], #[.agg #[.int .i64 0, .int .i64 0, .int .i64 0, .int .i64 0, .int .i64 0, .bool false, .bool false]], []⟩ 8 (by kernel_rfl) (by kernel_rfl) (by kernel_rfl) (by kernel_rfl)) ?_
  intro W base args ds gs before hval0 hW hcnd _
  have hval : ∀ (j : Nat) t v, Try.f9.params[j]? = some t → args[j]? = some v → Value.okWide Try.prog W .any base t v := hval0
  have hW' := hW
  obtain ⟨p, q, hA0, hV, rfl, hfz, hnd⟩ := hW
  have hA : DataW.TrodAll enc Try.prog W 0 (fun _ => true) true Try.f9.params.toList args.toList ds p := hA0
  rw [Try.params9] at hA hval
  obtain ⟨v0, vs0, d0, ds0, p0, q0, hargs, rfl, rfl, h0, r0⟩ := trodAll_cons hA
  obtain ⟨rfl, rfl, rfl⟩ := trodAll_nil r0
  obtain rfl : args = #[v0] := by cases args; simp_all
  obtain ⟨rfl, rfl⟩ := trodVars_none hV
  have k0 := h0
  have lt0 : ∀ x ∈ p0, x.block < W.heap.size := by obtain ⟨m, hm⟩ := k0; exact DataW.trod_lt m _ _ _ hm
  obtain ⟨F0, hv0, hf0⟩ := open_agg Try.underlying43 (by kernel_rfl) (by kernel_rfl) (hval 0 43 v0 rfl rfl) h0
  obtain rfl : v0 = .agg #[F0 0, F0 1, F0 2, F0 3, F0 4, F0 5, F0 6] := hv0.trans (congrArg Value.agg (by apply Array.ext'; rw [Array.toList_map, Array.toList_range]; rfl))
  have w0 : headerWords.arg0 W F0 := ⟨(let ⟨m, z, g⟩ := hf0 0 _ rfl; (rd_int Try.underlying3 g)), (let ⟨m, z, g⟩ := hf0 1 _ rfl; (rd_int Try.underlying3 g)), (let ⟨m, z, g⟩ := hf0 2 _ rfl; (rd_int Try.underlying3 g)), (let ⟨m, z, g⟩ := hf0 3 _ rfl; (rd_int Try.underlying3 g)), (let ⟨m, z, g⟩ := hf0 4 _ rfl; (rd_int Try.underlying3 g)), (let ⟨m, z, g⟩ := hf0 5 _ rfl; (rd_bool Try.underlying4 g)), (let ⟨m, z, g⟩ := hf0 6 _ rfl; (rd_bool Try.underlying4 g))⟩
  clear hA0 hval0
  refine (headerWords.walk F0 W w0).mono fun e W' ⟨he, bel⟩ => ?_
  subst he
  exact ⟨_, rfl, _, _, _, [], _, [], hW', trodAll_mk1 (shut_bool Try.underlying4 _), (trodAll_cons_mk (Below.trod laidOut (by kernel_rfl) (of_decide_eq_true (by kernel_rfl)) k0 bel lt0) trodAll_mk0), rfl, bel.frame _, fun h => by cases h⟩

theorem over : Rows.headerWordsRow.holds Try.pinned (OpenSpec.ofChange Rows.headerWordsSpec) :=
  OpenClaim.holds_of_wide 9 Try.f9 rfl rfl rfl rfl rfl rfl rfl ⟨rfl, rfl, rfl, rfl, rfl⟩ rfl rfl rfl rfl rfl (by kernel_rfl) Try.func9 (by kernel_rfl)
    (of_decide_eq_true (by kernel_rfl)) (by unfold Func.isWrapper; first | (rw [if_pos (by decide +kernel)]; kernel_rfl) | (rw [if_neg (by decide +kernel)]; exact ⟨rfl, rfl⟩))
    (fun os started H enc _ => lifted os started H enc)

/-- the statement -/
theorem proved : Rows.HeaderWordsSaid := over
#print axioms proved
end Go.Proofs.Ytkfgpgllpegleaa.headerWords
