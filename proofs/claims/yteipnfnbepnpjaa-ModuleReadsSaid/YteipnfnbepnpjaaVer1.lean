/- verify's small functions: Effect, jumps, falls. -/
import Derived.Test.YteipnfnbepnpjaaVerMath
import Derived.Test.YteipnfnbepnpjaaMaps
import Derived.Test.YteipnfnbepnpjaaCodeAlive
namespace Go.Proofs.Yteipnfnbepnpjaa
open Go.RowKit Go.Maps
set_option linter.unusedVariables false

theorem ret_bool2 {a b : Bool} (h : a = b) : Ending.returned (.bool a) = .returned (.bool b) := by rw [h]
section
variable (t : Int) (op a b : Nat) (w : World)
theorem jumps_any : Calls Try.prog 68 #[.agg #[.int .i64 t, .int .i64 (op : Nat), .int .i64 (a : Nat), .int .i64 (b : Nat)]] w fun e w' => e = .returned (.bool (jumpsN op)) ∧ Below w.heap.size w w' := by
  by_cases h1 : op = 19
  · subst h1
    go_enter Try.func68, Try.ntmps68
    go_wp2
    go_ret
    exact ⟨rfl, (Below.refl _ _).alloc (Nat.le_refl _) _⟩
  by_cases h2 : op = 20
  · subst h2
    go_enter Try.func68, Try.ntmps68
    go_wp2
    go_ret
    exact ⟨rfl, (Below.refl _ _).alloc (Nat.le_refl _) _⟩
  by_cases h3 : op = 40
  · subst h3
    go_enter Try.func68, Try.ntmps68
    go_wp2
    go_ret
    exact ⟨rfl, (Below.refl _ _).alloc (Nat.le_refl _) _⟩
  have b1 : ((op : Int) == 19) = false := by rw [beq_eq_false_iff_ne]; omega
  have b2 : ((op : Int) == 20) = false := by rw [beq_eq_false_iff_ne]; omega
  have b3 : ((op : Int) == 40) = false := by rw [beq_eq_false_iff_ne]; omega
  have HJ : Hid (jumpsN op = false) := (show jumpsN op = false by unfold jumpsN; simp [h1, h2, h3])
  rw [HJ.out]
  clear h1 h2 h3
  go_enter Try.func68, Try.ntmps68
  go_wp2
  go_ret
  exact ⟨rfl, (Below.refl _ _).alloc (Nat.le_refl _) _⟩
theorem falls_any : Calls Try.prog 69 #[.agg #[.int .i64 t, .int .i64 (op : Nat), .int .i64 (a : Nat), .int .i64 (b : Nat)]] w fun e w' => e = .returned (.bool (fallsN op)) ∧ Below w.heap.size w w' := by
  by_cases h1 : op = 19
  · subst h1
    go_enter Try.func69, Try.ntmps69
    go_wp2
    go_ret
    exact ⟨rfl, (Below.refl _ _).alloc (Nat.le_refl _) _⟩
  by_cases h2 : op = 22
  · subst h2
    go_enter Try.func69, Try.ntmps69
    go_wp2
    go_ret
    exact ⟨rfl, (Below.refl _ _).alloc (Nat.le_refl _) _⟩
  by_cases h3 : op = 39
  · subst h3
    go_enter Try.func69, Try.ntmps69
    go_wp2
    go_ret
    exact ⟨rfl, (Below.refl _ _).alloc (Nat.le_refl _) _⟩
  have b1 : ((op : Int) == 19) = false := by rw [beq_eq_false_iff_ne]; omega
  have b2 : ((op : Int) == 22) = false := by rw [beq_eq_false_iff_ne]; omega
  have b3 : ((op : Int) == 39) = false := by rw [beq_eq_false_iff_ne]; omega
  have n1 : ((op : Int) != 19) = true := by rw [bne_iff_ne]; omega
  have n2 : ((op : Int) != 22) = true := by rw [bne_iff_ne]; omega
  have n3 : ((op : Int) != 39) = true := by rw [bne_iff_ne]; omega
  have HJ : Hid (fallsN op = true) := (show fallsN op = true by unfold fallsN; simp [h1, h2, h3])
  rw [HJ.out]
  clear h1 h2 h3
  go_enter Try.func69, Try.ntmps69
  go_wp2
  go_ret
  exact ⟨rfl, (Below.refl _ _).alloc (Nat.le_refl _) _⟩
theorem eff_two (p : Nat × Nat) (x y : Nat) (h : p = (x, y)) : Ending.returned (.tuple #[.int .i64 (x : Nat), .int .i64 (y : Nat)]) = .returned (.tuple #[.int .i64 (p.1 : Nat), .int .i64 (p.2 : Nat)]) := by rw [h]
/-- what Effect tells -/
def EffDone (pa op a b : Nat) (w : World) (en : Ending) (w' : World) : Prop := en = .returned (.tuple #[.int .i64 ((effN pa op a b).1 : Nat), .int .i64 ((effN pa op a b).2 : Nat)]) ∧ Below w.heap.size w w'
theorem two_alloc (w : World) (o1 o2 : Obj) : Below w.heap.size w ((w.alloc o1).alloc o2) := ((Below.refl _ _).alloc (Nat.le_refl _) _).alloc (by simp) _
set_option maxRecDepth 100000 in
set_option maxHeartbeats 4000000 in
theorem effect_any (gl cs cl : Value) (fa : Option Addr) (nf fc pa : Nat) (ha : a ≤ 65535) (hop : op < 44) (hf : a < nf → ∃ g off, fa = some ⟨g, off, none⟩ ∧ w.cell? ⟨g, off + a * 3, none⟩ = some (.int .i64 (pa : Nat))) (h0 : ¬ a < nf → pa = 0) :
    Calls Try.prog 37 #[.agg #[gl, cs, .slice fa nf fc, cl], .agg #[.int .i64 t, .int .i64 (op : Nat), .int .i64 (a : Nat), .int .i64 (b : Nat)]] w (EffDone pa op a b w) := by
  unfold EffDone
  by_cases h21 : op = 21
  · subst h21
    by_cases hlt : a < nf
    · obtain ⟨g, off, rfl, hc⟩ := hf hlt
      have hgl := World.block_lt_of_cell? w _ hc
      have i0 : (0 : Int) ≤ (a : Int) := by omega
      have i1 : (a : Int) < (nf : Int) := by omega
      have i2 : ¬ ((a : Int) < 0) := by omega
      have i3 : ¬ ((nf : Int) ≤ (a : Int)) := by omega
      clear hf h0
      go_enter Try.func37, Try.ntmps37
      go_wp2
      go_ret2
      exact ⟨eff_two _ _ _ rfl, two_alloc _ _ _⟩
    · obtain rfl := h0 hlt
      have i2 : ¬ ((a : Int) < 0) := by omega
      have i3 : (nf : Int) ≤ (a : Int) := by omega
      clear hf h0
      go_enter Try.func37, Try.ntmps37
      go_wp2
      go_ret2
      exact ⟨eff_two _ _ _ rfl, two_alloc _ _ _⟩
  · clear hf h0
    have hm : op ∈ List.range 44 := by simp; omega
    simp only [List.range, List.range.loop, List.mem_cons, List.not_mem_nil, or_false] at hm
    rcases hm with rfl | rfl | rfl | rfl | rfl | rfl | rfl | rfl | rfl | rfl | rfl | rfl | rfl | rfl | rfl | rfl | rfl | rfl | rfl | rfl | rfl | rfl | rfl | rfl | rfl | rfl | rfl | rfl | rfl | rfl | rfl | rfl | rfl | rfl | rfl | rfl | rfl | rfl | rfl | rfl | rfl | rfl | rfl | rfl
    all_goals first | exact absurd rfl h21 | skip
    all_goals clear h21 hop
    all_goals
      go_enter Try.func37, Try.ntmps37
      go_wp2
      go_ret2
      exact ⟨eff_two _ _ _ rfl, two_alloc _ _ _⟩
end
end Go.Proofs.Yteipnfnbepnpjaa
