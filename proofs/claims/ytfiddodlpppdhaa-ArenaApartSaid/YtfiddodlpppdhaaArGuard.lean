/- The functions of package guard compute what they say: contracts over the seat's program. -/
import Derived.Test.YtfiddodlpppdhaaChecked
import Derived.WalkKit
import Derived.WalkLawsBesides
import Derived.Lib.Hide
import Derived.Test.YtfiddodlpppdhaaBits
import Derived.Test.YtfiddodlpppdhaaMem
import Derived.Test.YtfiddodlpppdhaaMem
namespace Go.Proofs.Ytfiddodlpppdhaa
open Go.RowKit

/-- the canary of a place -/
def cn (n : Int) : Int := bits .xor .u64 (IntKind.u64.wrap n) 54324593428463829
/-- the poison of a place -/
def ps (n : Int) : Int := bits .xor .u64 (IntKind.u64.wrap n) 16045690675887209166
/-- are the words as nobody wrote them -/
def wholeB (f : Int → Int) (fr : Int) (len : Nat) (z : Nat → Int) : Bool := decide (∀ i, i < len → z i = f (wrap64 (fr + i)))

theorem canary_any (n : Int) (w : World) : Calls Try.prog 31 #[.int .i64 n] w fun e w' => e = .returned (.int .u64 (cn n)) ∧ w = w' := by
  go_enter Try.func31, Try.ntmps31
  go_wp2
  go_ret
  exact ⟨rfl, rfl⟩
theorem poison_any (n : Int) (w : World) : Calls Try.prog 34 #[.int .i64 n] w fun e w' => e = .returned (.int .u64 (ps n)) ∧ w = w' := by
  go_enter Try.func34, Try.ntmps34
  go_wp2
  go_ret
  exact ⟨rfl, rfl⟩


theorem whole_cn (a : Option Addr) (len cap : Nat) (z : Nat → Int) (fr : Int) (w : World) (h : Ints .u64 w a len cap z) :
    Calls Try.prog 48 #[.slice a len cap, .int .i64 fr, .bool false] w fun e w' => e = .returned (.bool (wholeB cn fr len z)) ∧ w = w' := by
  have HC := Lib.hid h.cell
  have hl : len ≤ 9223372036854775807 := Nat.le_trans h.le h.max
  clear h
  go_enter Try.func48, Try.ntmps48
  go_wp2
  go_loop [13] (fun i => ∃ k : Nat, k ≤ len ∧ i = .int .i64 k ∧ Hid (∀ j, j < k → z j = cn (wrap64 (fr + j)))) (fun i => len - (intOf i).toNat)
  case atStart => exact ⟨0, Nat.zero_le _, rfl, fun _ h => absurd h (by omega)⟩
  case round =>
    obtain ⟨k, hk, rfl, hr⟩ := hrel
    by_cases hlt : k < len
    · obtain ⟨b, off, rfl, _, hcell⟩ := HC.out k hlt
      by_cases heq : z k = cn (wrap64 (fr + k))
      · have hne : (z k != cn (wrap64 (fr + k))) = false := by simp [heq]
        have HE := Lib.hid heq
        clear heq
        go_wp2_with (go_at_call 31; refine (canary_any _ _).mono ?_; rintro e w' ⟨rfl, rfl⟩)
        go_round
        case rel => exact ⟨k + 1, by omega, by go_num, fun j hj => by rcases Nat.lt_succ_iff_lt_or_eq.1 hj with h | rfl; exact hr.out j h; exact HE.out⟩
        case measure => simp [intOf]; omega
      · have hne : (z k != cn (wrap64 (fr + k))) = true := by simp [heq]
        have HE := Lib.hid heq
        clear heq
        go_wp2_with (go_at_call 31; refine (canary_any _ _).mono ?_; rintro e w' ⟨rfl, rfl⟩)
        go_ret
        exact ⟨ret_bool (by symm; simp only [wholeB, decide_eq_false_iff_not]; exact fun h => HE.out (h k hlt)), rfl⟩
    · have e : k = len := by omega
      go_wp2
      go_ret
      exact ⟨ret_bool (by symm; simp only [wholeB, decide_eq_true_eq]; intro i hi; exact hr.out i (by omega)), rfl⟩

theorem whole_ps (a : Option Addr) (len cap : Nat) (z : Nat → Int) (fr : Int) (w : World) (h : Ints .u64 w a len cap z) :
    Calls Try.prog 48 #[.slice a len cap, .int .i64 fr, .bool true] w fun e w' => e = .returned (.bool (wholeB ps fr len z)) ∧ w = w' := by
  have HC := Lib.hid h.cell
  have hl : len ≤ 9223372036854775807 := Nat.le_trans h.le h.max
  clear h
  go_enter Try.func48, Try.ntmps48
  go_wp2
  go_loop [13] (fun i => ∃ k : Nat, k ≤ len ∧ i = .int .i64 k ∧ Hid (∀ j, j < k → z j = ps (wrap64 (fr + j)))) (fun i => len - (intOf i).toNat)
  case atStart => exact ⟨0, Nat.zero_le _, rfl, fun _ h => absurd h (by omega)⟩
  case round =>
    obtain ⟨k, hk, rfl, hr⟩ := hrel
    by_cases hlt : k < len
    · obtain ⟨b, off, rfl, _, hcell⟩ := HC.out k hlt
      by_cases heq : z k = ps (wrap64 (fr + k))
      · have hne : (z k != ps (wrap64 (fr + k))) = false := by simp [heq]
        have HE := Lib.hid heq
        clear heq
        go_wp2_with (go_at_call 34; refine (poison_any _ _).mono ?_; rintro e w' ⟨rfl, rfl⟩)
        go_round
        case rel => exact ⟨k + 1, by omega, by go_num, fun j hj => by rcases Nat.lt_succ_iff_lt_or_eq.1 hj with h | rfl; exact hr.out j h; exact HE.out⟩
        case measure => simp [intOf]; omega
      · have hne : (z k != ps (wrap64 (fr + k))) = true := by simp [heq]
        have HE := Lib.hid heq
        clear heq
        go_wp2_with (go_at_call 34; refine (poison_any _ _).mono ?_; rintro e w' ⟨rfl, rfl⟩)
        go_ret
        exact ⟨ret_bool (by symm; simp only [wholeB, decide_eq_false_iff_not]; exact fun h => HE.out (h k hlt)), rfl⟩
    · have e : k = len := by omega
      go_wp2
      go_ret
      exact ⟨ret_bool (by symm; simp only [wholeB, decide_eq_true_eq]; intro i hi; exact hr.out i (by omega)), rfl⟩

/-! ### plain facts -/
theorem cn_nat (n : Int) : ∃ x : Nat, x < 18446744073709551616 ∧ IntKind.u64.wrap n = x ∧ cn n = ((x ^^^ 54324593428463829 : Nat) : Int) ∧ ps n = ((x ^^^ 16045690675887209166 : Nat) : Int) := by
  have h : IntKind.u64.wrap n = n % 18446744073709551616 := IntKind.wrap_u64 n
  refine ⟨(n % 18446744073709551616).toNat, by omega, by rw [h]; omega, ?_, ?_⟩
  · unfold cn
    rw [h, show n % 18446744073709551616 = (((n % 18446744073709551616).toNat : Nat) : Int) by omega]
    exact u64_xor _ 54324593428463829 (by omega) (by decide)
  · unfold ps
    rw [h, show n % 18446744073709551616 = (((n % 18446744073709551616).toNat : Nat) : Int) by omega]
    exact u64_xor _ 16045690675887209166 (by omega) (by decide)
theorem xor_back {x y c : Nat} (h : x ^^^ c = y ^^^ c) : x = y := by
  have := congrArg (· ^^^ c) h
  simpa [Nat.xor_assoc] using this
theorem xor_back' {x c d : Nat} (h : x ^^^ c = x ^^^ d) : c = d := by
  rw [Nat.xor_comm x c, Nat.xor_comm x d] at h
  exact xor_back h
theorem cn_inj {a b : Int} (ha : -9223372036854775808 ≤ a ∧ a ≤ 9223372036854775807) (hb : -9223372036854775808 ≤ b ∧ b ≤ 9223372036854775807) (h : cn a = cn b) : a = b := by
  obtain ⟨x, hx, ex, cx, _⟩ := cn_nat a
  obtain ⟨y, hy, ey, cy, _⟩ := cn_nat b
  rw [cx, cy] at h
  have : x = y := xor_back (by exact_mod_cast h)
  rw [IntKind.wrap_u64] at ex ey
  omega
theorem ps_inj {a b : Int} (ha : -9223372036854775808 ≤ a ∧ a ≤ 9223372036854775807) (hb : -9223372036854775808 ≤ b ∧ b ≤ 9223372036854775807) (h : ps a = ps b) : a = b := by
  obtain ⟨x, hx, ex, _, cx⟩ := cn_nat a
  obtain ⟨y, hy, ey, _, cy⟩ := cn_nat b
  rw [cx, cy] at h
  have : x = y := xor_back (by exact_mod_cast h)
  rw [IntKind.wrap_u64] at ex ey
  omega
theorem cn_ne_ps (a : Int) : cn a ≠ ps a := by
  obtain ⟨x, hx, ex, cx, px⟩ := cn_nat a
  rw [cx, px]
  intro h
  have := xor_back' (x := x) (by exact_mod_cast h)
  revert this
  decide
end Go.Proofs.Ytfiddodlpppdhaa
