/- The law AuditTells holds: for every input the call answers true, and each argument reads behind the call as it read before. -/
import Derived.Test.YtogifanooleppaaRows
import Derived.Test.YtogifanooleppaaAuditTellsWalk
import Derived.Test.YtogifanooleppaaOpen
namespace Go.Proofs.Ytogifanooleppaa.auditTells
open Go.ChangeShapes Go.WideShapes Go.ChangeAt Go.RowKit
open Go.ChangeMaps (open_string shut_string)
set_option linter.unusedVariables false

theorem own : ownKnob Try.prog.godebug = none := by kernel_rfl
theorem laidOut : laidOutB Try.prog = true := by kernel_rfl

set_option maxRecDepth 100000 in
theorem lifted (os : Os) (started : os.Started) (H : Type) (enc : TypeId × Value → H) :
    ReturnsInHanded {} Try.checked os 8 .any (Rows.auditTellsSpec.pre6 enc Try.prog Try.f8 Rows.auditTellsRow.domain false) (Rows.auditTellsSpec.post enc Try.prog Try.f8 false true false false) := by
  refine returnsInHanded_of_change (C := Try.checked) own started (by kernel_rfl) Try.func8
    (ChangeSpec.witness6 (enc := enc) (C := Try.checked) false ⟨#[], #[.slice none 0 0, .slice none 0 0, .slice none 0 0], []⟩ 8 (by kernel_rfl) (by kernel_rfl) (by kernel_rfl) (by kernel_rfl)) ?_
  intro W base args ds gs before hval0 hW hcnd _
  have hval : ∀ (j : Nat) t v, Try.f8.params[j]? = some t → args[j]? = some v → Value.okWide Try.prog W .any base t v := hval0
  have hW' := hW
  obtain ⟨p, q, hA0, hV, rfl, hfz, hnd⟩ := hW
  have hA : DataW.TrodAll enc Try.prog W 0 (fun _ => true) true Try.f8.params.toList args.toList ds p := hA0
  rw [Try.params8] at hA hval
  obtain ⟨v0, vs0, d0, ds0, p0, q0, hargs, rfl, rfl, h0, r0⟩ := trodAll_cons hA
  obtain ⟨v1, vs1, d1, ds1, p1, q1, rfl, rfl, rfl, h1, r1⟩ := trodAll_cons r0
  obtain ⟨v2, vs2, d2, ds2, p2, q2, rfl, rfl, rfl, h2, r2⟩ := trodAll_cons r1
  obtain ⟨rfl, rfl, rfl⟩ := trodAll_nil r2
  obtain rfl : args = #[v0, v1, v2] := by cases args; simp_all
  obtain ⟨rfl, rfl⟩ := trodVars_none hV
  obtain ⟨a0, len0, cap0, rfl⟩ := okWide_slice Try.underlying45 (hval 0 45 v0 rfl rfl)
  have k0 := h0
  have lt0 : ∀ x ∈ p0, x.block < W.heap.size := by obtain ⟨m, hm⟩ := k0; exact DataW.trod_lt m _ _ _ hm
  have w0 : auditTells.arg0 W a0 len0 cap0 := by
    obtain ⟨fuel, hf⟩ := h0
    have hf2 := (show DataW.trod enc Try.prog W 0 (fun _ => true) true fuel 45 [.slice a0 len0 cap0] = some (d0, p0) by simpa [Value.cells] using hf)
    obtain ⟨a, len, cap, F, he, hR, hE⟩ := rd_slice 5 (fun G => ((∃ n : Int, G 0 = .int .i64 n ∧ (Lit.int .i64 n).wf = true) ∧ (∃ n : Int, G 1 = .int .i64 n ∧ (Lit.int .i64 n).wf = true) ∧ (∃ n : Int, G 2 = .int .i64 n ∧ (Lit.int .i64 n).wf = true) ∧ (∃ b : Bool, G 3 = .bool b) ∧ (∃ (a : Option Addr) (len cap : Nat) (F0 : Nat → Nat → Value), G 4 = .slice a len cap ∧ Rows W a len cap 1 F0 ∧ ∀ i, i < len → (∃ n : Int, (F0 i) 0 = .int .i64 n ∧ (Lit.int .i64 n).wf = true)))) Try.underlying45 (by kernel_rfl) hf2 (fun G n y h => ⟨rd_field (∃ n : Int, G 0 = .int .i64 n ∧ (Lit.int .i64 n).wf = true) Try.underlying47 (by kernel_rfl) (by kernel_rfl) h 0 _ rfl (fun m0 z0 g0 => (rd_int Try.underlying3 g0)), rd_field (∃ n : Int, G 1 = .int .i64 n ∧ (Lit.int .i64 n).wf = true) Try.underlying47 (by kernel_rfl) (by kernel_rfl) h 1 _ rfl (fun m0 z0 g0 => (rd_int Try.underlying3 g0)), rd_field (∃ n : Int, G 2 = .int .i64 n ∧ (Lit.int .i64 n).wf = true) Try.underlying47 (by kernel_rfl) (by kernel_rfl) h 2 _ rfl (fun m0 z0 g0 => (rd_int Try.underlying3 g0)), rd_field (∃ b : Bool, G 3 = .bool b) Try.underlying47 (by kernel_rfl) (by kernel_rfl) h 3 _ rfl (fun m0 z0 g0 => (rd_bool Try.underlying4 g0)), rd_field (∃ (a : Option Addr) (len cap : Nat) (F0 : Nat → Nat → Value), G 4 = .slice a len cap ∧ Rows W a len cap 1 F0 ∧ ∀ i, i < len → (∃ n : Int, (F0 i) 0 = .int .i64 n ∧ (Lit.int .i64 n).wf = true)) Try.underlying47 (by kernel_rfl) (by kernel_rfl) h 4 _ rfl (fun m0 z0 g0 => (rd_slice 1 (fun G0 => (∃ n : Int, G0 0 = .int .i64 n ∧ (Lit.int .i64 n).wf = true)) Try.underlying23 (by kernel_rfl) g0 (fun G0 n0 y0 h0 => rd_one (∃ n : Int, G0 0 = .int .i64 n ∧ (Lit.int .i64 n).wf = true) (by kernel_rfl) h0 (fun g1 => (rd_int Try.underlying3 g1)))))⟩)
    cases he
    exact ⟨F, hR, hE⟩
  obtain ⟨a1, len1, cap1, rfl⟩ := okWide_slice Try.underlying23 (hval 1 23 v1 rfl rfl)
  have k1 := h1
  have lt1 : ∀ x ∈ p1, x.block < W.heap.size := by obtain ⟨m, hm⟩ := k1; exact DataW.trod_lt m _ _ _ hm
  obtain ⟨z1, w1⟩ : ∃ z, Ints .i64 W a1 len1 cap1 z := by
    obtain ⟨fuel, hf⟩ := h1
    rcases open_ints Try.underlying23 Try.underlying3 (by kernel_rfl) hf with ⟨hcs, _⟩ | ⟨x, l, c, zs, hcs, _, hl, hm, hz, _, hcell, hwz⟩
    · simp [Value.cells] at hcs
      obtain ⟨rfl, rfl, rfl⟩ := hcs
      exact ⟨fun _ => 0, ints_nil _ _ _⟩
    · simp [Value.cells] at hcs
      obtain ⟨rfl, rfl, rfl⟩ := hcs
      exact ⟨_, ints_row hl hm (by simpa using hz) hcell hwz⟩
  obtain ⟨a2, len2, cap2, rfl⟩ := okWide_slice Try.underlying23 (hval 2 23 v2 rfl rfl)
  have k2 := h2
  have lt2 : ∀ x ∈ p2, x.block < W.heap.size := by obtain ⟨m, hm⟩ := k2; exact DataW.trod_lt m _ _ _ hm
  obtain ⟨z2, w2⟩ : ∃ z, Ints .i64 W a2 len2 cap2 z := by
    obtain ⟨fuel, hf⟩ := h2
    rcases open_ints Try.underlying23 Try.underlying3 (by kernel_rfl) hf with ⟨hcs, _⟩ | ⟨x, l, c, zs, hcs, _, hl, hm, hz, _, hcell, hwz⟩
    · simp [Value.cells] at hcs
      obtain ⟨rfl, rfl, rfl⟩ := hcs
      exact ⟨fun _ => 0, ints_nil _ _ _⟩
    · simp [Value.cells] at hcs
      obtain ⟨rfl, rfl, rfl⟩ := hcs
      exact ⟨_, ints_row hl hm (by simpa using hz) hcell hwz⟩
  clear hA0 hval0
  refine (auditTells.walk a0 len0 cap0 a1 len1 cap1 z1 a2 len2 cap2 z2 W w0 w1 w2).mono fun e W' ⟨he, bel⟩ => ?_
  subst he
  exact ⟨_, rfl, _, _, _, [], _, [], hW', trodAll_mk1 (shut_bool Try.underlying4 _), (trodAll_cons_mk (Below.trod laidOut (by kernel_rfl) (of_decide_eq_true (by kernel_rfl)) k0 bel lt0) (trodAll_cons_mk (Below.trod laidOut (by kernel_rfl) (of_decide_eq_true (by kernel_rfl)) k1 bel lt1) (trodAll_cons_mk (Below.trod laidOut (by kernel_rfl) (of_decide_eq_true (by kernel_rfl)) k2 bel lt2) trodAll_mk0))), rfl, bel.frame _, fun h => by cases h⟩

theorem over : Rows.auditTellsRow.holds Try.pinned (OpenSpec.ofChange Rows.auditTellsSpec) :=
  OpenClaim.holds_of_wide 8 Try.f8 rfl rfl rfl rfl rfl rfl rfl ⟨rfl, rfl, rfl, rfl, rfl⟩ rfl rfl rfl rfl rfl (by kernel_rfl) Try.func8 (by kernel_rfl)
    (of_decide_eq_true (by kernel_rfl)) (by unfold Func.isWrapper; first | (rw [if_pos (by decide +kernel)]; kernel_rfl) | (rw [if_neg (by decide +kernel)]; exact ⟨rfl, rfl⟩))
    (fun os started H enc _ => lifted os started H enc)

/-- the statement -/
theorem proved : Rows.AuditTellsSaid := over
#print axioms proved
end Go.Proofs.Ytogifanooleppaa.auditTells
