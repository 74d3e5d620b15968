/- code's read computes what it says: an instruction out of its bytes. -/
import Derived.Test.YteipnfnbepnpjaaCode
import Derived.RegionTactic
import Derived.ChangeAlike
import Derived.Laws.BitsAllLaws
import Derived.Laws.BitsLemmas
namespace Go.Proofs.Yteipnfnbepnpjaa
open Go.RowKit
set_option linter.unusedVariables false

theorem ofInt64 (a : Nat) (ha : a < 9223372036854775808) : (BitVec.ofInt 64 (a : Int)).toNat = a := by
  rw [BitVec.ofInt_natCast, BitVec.toNat_ofNat]; exact Nat.mod_eq_of_lt (by omega)
theorem or_two (x y : Nat) (hx : x < 256) (hy : y < 256) : bits .or .i64 (x : Int) ((y : Int) * 256) = ((x + 256 * y : Nat) : Int) := by
  have e : (y : Int) * 256 = ((y * 256 : Nat) : Int) := by omega
  rw [e]
  have h := Nat.shiftLeft_add_eq_or_of_lt (show x < 2 ^ 8 by omega) y
  rw [Nat.shiftLeft_eq] at h
  have h2 : x ||| y * 256 = x + 256 * y := by
    rw [Nat.or_comm]
    exact (show y * 256 ||| x = y * 256 + x from h.symm).trans (by omega)
  show IntKind.i64.wrap ((BitVec.ofInt 64 (x : Int) ||| BitVec.ofInt 64 ((y * 256 : Nat) : Int)).toNat : Int) = _
  rw [BitVec.toNat_or, ofInt64 x (by omega), ofInt64 (y * 256) (by omega), IntKind.wrap_i64, h2]
  omega
section
variable (at_ x0 x1 x2 g o cap : Nat) (w : World)
theorem cread1 (h0 : x0 < 256) (c0 : w.cell? ⟨g, o, none⟩ = some (.int .u8 (x0 : Nat))) :
    Calls Try.prog 39 #[.slice (some ⟨g, o, none⟩) 1 cap, .int .i64 (at_ : Nat)] w fun e w' => e = .returned (.agg #[.int .i64 (at_ : Nat), .int .i64 (x0 : Nat), .int .i64 0, .int .i64 0]) ∧ Below w.heap.size w w' := by
  have hg : g < w.heap.size := World.block_lt_of_cell? w _ c0
  go_enter Try.func39, Try.ntmps39
  go_wp2
  exact bodyPost_ret (v := .agg #[.int .i64 (at_ : Nat), .int .i64 (x0 : Nat), .int .i64 0, .int .i64 0]) (by simp [results, Try.results39, go_sem]) rfl ⟨rfl, ((Below.refl _ _).alloc (Nat.le_refl _) _).alloc (by simp) _⟩
theorem cread2 (h0 : x0 < 256) (h1 : x1 < 256) (c0 : w.cell? ⟨g, o, none⟩ = some (.int .u8 (x0 : Nat))) (c1 : w.cell? ⟨g, o + 1, none⟩ = some (.int .u8 (x1 : Nat))) :
    Calls Try.prog 39 #[.slice (some ⟨g, o, none⟩) 2 cap, .int .i64 (at_ : Nat)] w fun e w' => e = .returned (.agg #[.int .i64 (at_ : Nat), .int .i64 (x0 : Nat), .int .i64 (x1 : Nat), .int .i64 0]) ∧ Below w.heap.size w w' := by
  have hg : g < w.heap.size := World.block_lt_of_cell? w _ c0
  go_enter Try.func39, Try.ntmps39
  go_wp2
  exact bodyPost_ret (v := .agg #[.int .i64 (at_ : Nat), .int .i64 (x0 : Nat), .int .i64 (x1 : Nat), .int .i64 0]) (by simp [results, Try.results39, go_sem]) rfl ⟨rfl, ((Below.refl _ _).alloc (Nat.le_refl _) _).alloc (by simp) _⟩
theorem cread3c (h1 : x1 < 256) (h2 : x2 < 256) (c0 : w.cell? ⟨g, o, none⟩ = some (.int .u8 35)) (c1 : w.cell? ⟨g, o + 1, none⟩ = some (.int .u8 (x1 : Nat))) (c2 : w.cell? ⟨g, o + 2, none⟩ = some (.int .u8 (x2 : Nat))) :
    Calls Try.prog 39 #[.slice (some ⟨g, o, none⟩) 3 cap, .int .i64 (at_ : Nat)] w fun e w' => e = .returned (.agg #[.int .i64 (at_ : Nat), .int .i64 35, .int .i64 (x1 : Nat), .int .i64 (x2 : Nat)]) ∧ Below w.heap.size w w' := by
  have hg : g < w.heap.size := World.block_lt_of_cell? w _ c0
  go_enter Try.func39, Try.ntmps39
  go_wp2
  exact bodyPost_ret (v := .agg #[.int .i64 (at_ : Nat), .int .i64 35, .int .i64 (x1 : Nat), .int .i64 (x2 : Nat)]) (by simp [results, Try.results39, go_sem]) rfl ⟨rfl, ((Below.refl _ _).alloc (Nat.le_refl _) _).alloc (by simp) _⟩
theorem cread3 (h0 : x0 < 256) (h1 : x1 < 256) (h2 : x2 < 256) (hne : x0 ≠ 35) (c0 : w.cell? ⟨g, o, none⟩ = some (.int .u8 (x0 : Nat))) (c1 : w.cell? ⟨g, o + 1, none⟩ = some (.int .u8 (x1 : Nat))) (c2 : w.cell? ⟨g, o + 2, none⟩ = some (.int .u8 (x2 : Nat))) :
    Calls Try.prog 39 #[.slice (some ⟨g, o, none⟩) 3 cap, .int .i64 (at_ : Nat)] w fun e w' => e = .returned (.agg #[.int .i64 (at_ : Nat), .int .i64 (x0 : Nat), .int .i64 (x1 + 256 * x2 : Nat), .int .i64 0]) ∧ Below w.heap.size w w' := by
  have hb : ((x0 : Int) == 35) = false := by simpa using (by omega : ¬ (x0 : Int) = 35)
  have ho := or_two x1 x2 h1 h2
  have hg : g < w.heap.size := World.block_lt_of_cell? w _ c0
  go_enter Try.func39, Try.ntmps39
  go_wp2
  go_region
  all_goals
    go_wp2
    exact bodyPost_ret (v := .agg #[.int .i64 (at_ : Nat), .int .i64 (x0 : Nat), .int .i64 (x1 + 256 * x2 : Nat), .int .i64 0]) (by simp [results, Try.results39, go_sem]) rfl ⟨rfl, (((Below.refl _ _).alloc (Nat.le_refl _) _).alloc (by simp) _).drew⟩
end
end Go.Proofs.Yteipnfnbepnpjaa
