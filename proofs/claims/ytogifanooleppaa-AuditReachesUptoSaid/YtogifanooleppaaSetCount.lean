/- bitset's Count computes how many numbers there are. -/
import Derived.Test.YtogifanooleppaaSet
import Derived.Test.YtogifanooleppaaOnes
namespace Go.Proofs.Ytogifanooleppaa
open Go.RowKit
set_option linter.unusedVariables false

/-- how many numbers below n are there -/
def cnt (S : Nat → Bool) : Nat → Nat
  | 0 => 0
  | n + 1 => cnt S n + (if S n then 1 else 0)
theorem cnt_le (S : Nat → Bool) (n : Nat) : cnt S n ≤ n := by
  induction n with
  | zero => simp [cnt]
  | succ n ih => unfold cnt; split <;> omega
theorem cnt_congr {S S' : Nat → Bool} {n : Nat} (h : ∀ i, i < n → S i = S' i) : cnt S n = cnt S' n := by
  induction n with
  | zero => rfl
  | succ n ih =>
    unfold cnt
    rw [ih fun i hi => h i (by omega), h n (by omega)]
theorem cnt_add (S : Nat → Bool) (a b : Nat) : cnt S (a + b) = cnt S a + cnt (fun j => S (a + j)) b := by
  induction b with
  | zero => rfl
  | succ b ih =>
    show cnt S (a + b) + (if S (a + b) then 1 else 0) = cnt S a + (cnt (fun j => S (a + j)) b + (if S (a + b) then 1 else 0))
    rw [ih]
    omega
theorem cnt_zero {S : Nat → Bool} {n : Nat} (h : ∀ i, i < n → S i = false) : cnt S n = 0 := by
  induction n with
  | zero => rfl
  | succ n ih =>
    unfold cnt
    rw [ih fun i hi => h i (by omega), h n (by omega)]
    rfl
theorem pop_cnt (x n : Nat) : pop x n = cnt (fun j => x.testBit j) n := by
  induction n with
  | zero => rfl
  | succ n ih => unfold pop cnt; rw [ih]
/-- one number more, or fewer -/
theorem cnt_set {S : Nat → Bool} {n k : Nat} (hk : k < n) (hS : S k = false) : cnt (fun j => if j = k then true else S j) n = cnt S n + 1 := by
  induction n with
  | zero => omega
  | succ n ih =>
    unfold cnt
    by_cases h : n = k
    · subst h
      rw [cnt_congr (S' := S) (n := n) fun i hi => by rw [if_neg (by omega)]]
      simp [hS]
    · rw [ih (by omega), if_neg h]
      omega
theorem cnt_unset {S : Nat → Bool} {n k : Nat} (hk : k < n) (hS : S k = true) : cnt (fun j => if j = k then false else S j) n + 1 = cnt S n := by
  induction n with
  | zero => omega
  | succ n ih =>
    unfold cnt
    by_cases h : n = k
    · subst h
      rw [cnt_congr (S' := S) (n := n) fun i hi => by rw [if_neg (by omega)]]
      simp [hS]
    · have := ih (by omega)
      rw [if_neg h]
      omega
theorem cnt_all {S : Nat → Bool} {n : Nat} (h : ∀ i, i < n → S i = true) : cnt S n = n := by
  induction n with
  | zero => rfl
  | succ n ih =>
    unfold cnt
    rw [ih fun i hi => h i (by omega), h n (by omega)]
    rfl

theorem count_any {p g n : Nat} {S : Nat → Bool} (w : World) (h : SetAt w p g n S) :
    Calls Try.prog 60 #[.pointer (some ⟨p, 0, none⟩)] w fun e w' => e = .returned (.int .i64 (cnt S n : Nat)) ∧ w = w' := by
  obtain ⟨_, hc⟩ := h.cells
  obtain ⟨cs, T, hg, hs, ws, h1, h2⟩ := h.row
  have hn := h.small
  have hw : setW n ≤ 20000 := by unfold setW; omega
  have H1 : Hid (∀ i, i < setW n → w.cell? ⟨g, i, none⟩ = some (.int .u64 (ws i : Nat)) ∧ ws i < 18446744073709551616) := (show _ from fun i hi => ⟨by rw [cell_of_block hg]; exact (h1 i hi).1, (h1 i hi).2⟩)
  have H2 : Hid (∀ i, i < setW n → pop (ws i) 64 = cnt (fun j => decide (64 * i + j < n) && S (64 * i + j)) 64) := (show _ from fun i hi => by
    rw [pop_cnt]
    exact cnt_congr fun j hj => h2 i j hi hj)
  have H3 : Hid (cnt (fun j => decide (j < n) && S j) (64 * setW n) = cnt S n) := (show _ from by
    have e : 64 * setW n = n + (64 * setW n - n) := by unfold setW; omega
    rw [e, cnt_add, cnt_zero (S := fun j => decide (n + j < n) && S (n + j)) fun i _ => by rw [decide_eq_false (by omega)]; rfl, Nat.add_zero]
    exact cnt_congr fun i hi => by rw [decide_eq_true hi]; rfl)
  clear h hg hs h1 h2
  go_enter Try.func60, Try.ntmps60
  go_wp2_with fail
  go_loop [3, 11] (fun o i => ∃ k m : Nat, k ≤ setW n ∧ i = .int .i64 k ∧ o = .int .i64 m ∧ m ≤ 64 * k ∧ Hid (m = cnt (fun j => decide (j < n) && S j) (64 * k))) (fun _ i => setW n - (intOf i).toNat)
  case atStart => exact ⟨0, 0, Nat.zero_le _, rfl, rfl, Nat.le_refl _, rfl⟩
  case round =>
    obtain ⟨k, m, hk, rfl, rfl, hm64, hm⟩ := hrel
    by_cases hlt : k < setW n
    · obtain ⟨hcell, hx⟩ := H1.out k hlt
      have hp : pop (ws k) 64 ≤ 64 := by rw [pop_cnt]; exact cnt_le _ _
      have HM : Hid (m + pop (ws k) 64 = cnt (fun j => decide (j < n) && S j) (64 * (k + 1))) := (show m + pop (ws k) 64 = cnt (fun j => decide (j < n) && S j) (64 * (k + 1)) by
        rw [Nat.mul_succ, cnt_add, ← hm.out, H2.out k hlt])
      go_wp2_with (go_at_call 70; refine (ones_any _ _ hx).mono ?_; rintro e w' ⟨rfl, rfl⟩)
      go_round
      case rel => exact ⟨k + 1, m + pop (ws k) 64, by omega, by go_num, by go_num, by omega, HM.out⟩
      case measure => simp [intOf]; omega
    · have e : k = setW n := by omega
      have HE : Hid (m = cnt S n) := (show m = cnt S n by rw [hm.out, e]; exact H3.out)
      clear e
      go_wp2
      go_ret
      exact ⟨ret_int (by rw [HE.out]), rfl⟩
end Go.Proofs.Ytogifanooleppaa
