/- The methods of package bitset compute what they say: contracts over the seat's program. -/
import Derived.Test.YtfiddodlpppdhaaChecked
import Derived.WalkKit
import Derived.WalkLawsBesides
import Derived.Lib.Hide
import Derived.Test.YtfiddodlpppdhaaBits
import Derived.Test.YtfiddodlpppdhaaMem
namespace Go.Proofs.Ytfiddodlpppdhaa
open Go.RowKit
set_option linter.unusedVariables false

/-- how many words a set of the numbers below n has -/
def setW (n : Nat) : Nat := (n + 63) / 64

/-- block p is a Set of the numbers below n, its words are block g, and S says which numbers are there -/
structure SetAt (w : World) (p g n : Nat) (S : Nat → Bool) : Prop where
  small : n ≤ 1000000
  ne : p ≠ g
  head : ∃ T, w.heap[p]? = some (.cells #[.int .i64 (n : Nat), .slice (some ⟨g, 0, none⟩) (setW n) (setW n)] T (0, 0))
  row : ∃ cs T, w.heap[g]? = some (.cells cs T (0, 0)) ∧ cs.size = setW n ∧ ∃ ws : Nat → Nat, (∀ i, i < setW n → cs[i]? = some (.int .u64 (ws i : Nat)) ∧ ws i < 18446744073709551616) ∧
    ∀ i j, i < setW n → j < 64 → (ws i).testBit j = (decide (64 * i + j < n) && S (64 * i + j))

theorem SetAt.keeps {w w' : World} {p g n : Nat} {S : Nat → Bool} {l : List Nat} (h : SetAt w p g n S) (k : Keeps l w w') (hp : p ∉ l) (hg : g ∉ l) : SetAt w' p g n S := by
  obtain ⟨h1, h2, ⟨T, h3⟩, cs, T', h4, h5⟩ := h
  exact ⟨h1, h2, ⟨T, k.at h3 hp⟩, cs, T', k.at h4 hg, h5⟩
theorem SetAt.drewN {w : World} {p g n : Nat} {S : Nat → Bool} (h : SetAt w p g n S) (k : Nat) : SetAt (w.drewN k) p g n S := ⟨h.small, h.ne, h.head, h.row⟩
theorem SetAt.drew {w : World} {p g n : Nat} {S : Nat → Bool} (h : SetAt w p g n S) : SetAt w.drew p g n S := ⟨h.small, h.ne, h.head, h.row⟩
theorem SetAt.congr {w : World} {p g n : Nat} {S S' : Nat → Bool} (h : SetAt w p g n S) (hs : ∀ i, i < n → S i = S' i) : SetAt w p g n S' := by
  obtain ⟨h1, h2, h3, cs, T', h4, h5, ws, h6, h7⟩ := h
  refine ⟨h1, h2, h3, cs, T', h4, h5, ws, h6, fun i j hi hj => ?_⟩
  rw [h7 i j hi hj]
  by_cases hlt : 64 * i + j < n
  · simp [hlt, hs _ hlt]
  · simp [hlt]
theorem SetAt.lt {w : World} {p g n : Nat} {S : Nat → Bool} (h : SetAt w p g n S) : p < w.heap.size ∧ g < w.heap.size := by
  obtain ⟨h1, h2, ⟨T, h3⟩, cs, T', h4, _⟩ := h
  exact ⟨(Array.getElem?_eq_some_iff.1 h3).1, (Array.getElem?_eq_some_iff.1 h4).1⟩

/-- what a walk needs of a Set: its two cells -/
theorem SetAt.cells {w : World} {p g n : Nat} {S : Nat → Bool} (h : SetAt w p g n S) :
    w.cell? ⟨p, 0, none⟩ = some (.int .i64 (n : Nat)) ∧ w.cell? ⟨p, 1, none⟩ = some (.slice (some ⟨g, 0, none⟩) (setW n) (setW n)) := by
  obtain ⟨T, hp⟩ := h.head
  rw [cell_of_block hp, cell_of_block hp]
  exact ⟨rfl, rfl⟩
/-- the word of a number -/
theorem SetAt.word {w : World} {p g n : Nat} {S : Nat → Bool} (h : SetAt w p g n S) {k : Nat} (hk : k < n) :
    ∃ x : Nat, w.cell? ⟨g, k / 64, none⟩ = some (.int .u64 (x : Nat)) ∧ w.frozen? ⟨g, k / 64, none⟩ = false ∧ x < 18446744073709551616 ∧ x.testBit (k % 64) = S k ∧ k / 64 < setW n := by
  obtain ⟨cs, T, hg, hs, ws, h1, h2⟩ := h.row
  have hi : k / 64 < setW n := by unfold setW; omega
  refine ⟨ws (k / 64), by rw [cell_of_block hg]; exact (h1 _ hi).1, free_of_block hg, (h1 _ hi).2, ?_, hi⟩
  rw [h2 _ _ hi (Nat.mod_lt _ (by decide))]
  have e : 64 * (k / 64) + k % 64 = k := by omega
  rw [e]
  simp [hk]

theorem testBit_word {x : Nat} (hx : x < 18446744073709551616) (m : Nat) : (bits .and .u64 ((x : Int) / 2 ^ m) 1 == 1) = x.testBit m := by
  have h1 := u64_and (x >>> m) 1 (shr_lt hx m) (by decide)
  have h2 : x.testBit m = decide ((x >>> m) % 2 = 1) := by rw [Nat.testBit_eq_decide_div_mod_eq, Nat.shiftRight_eq_div_pow]
  have h3 : bits .and .u64 ((x : Int) / 2 ^ m) 1 = (((x >>> m) % 2 : Nat) : Int) := by
    rw [div_pow]
    exact h1.trans (by rw [Nat.and_one_is_mod])
  rw [h2, h3]
  by_cases h : (x >>> m) % 2 = 1
  · simp [h]
  · have h0 : (x >>> m) % 2 = 0 := by omega
    simp [h0]

/-- is a number one that may be there -/
def mayB (n : Nat) (i : Int) : Bool := decide (0 ≤ i ∧ i < n)
/-- is a number there -/
def hasB (n : Nat) (S : Nat → Bool) (i : Int) : Bool := decide (0 ≤ i ∧ i < n) && S i.toNat

theorem may_any {p g n : Nat} {S : Nat → Bool} (i : Int) (w : World) (h : SetAt w p g n S) :
    Calls Try.prog 63 #[.pointer (some ⟨p, 0, none⟩), .int .i64 i] w fun e w' => e = .returned (.bool (mayB n i)) ∧ w = w' := by
  obtain ⟨hc, _⟩ := h.cells
  clear h
  go_enter Try.func63, Try.ntmps63
  go_wp2
  all_goals
    go_ret
    refine ⟨ret_bool ?_, rfl⟩
    unfold mayB
    simp [*]
    try omega
theorem may_in {p g n : Nat} {S : Nat → Bool} (k : Nat) (w : World) (h : SetAt w p g n S) (hk : k < n) :
    Calls Try.prog 63 #[.pointer (some ⟨p, 0, none⟩), .int .i64 (k : Nat)] w fun e w' => e = .returned (.bool true) ∧ w = w' :=
  (may_any k w h).mono fun _ _ q => ⟨q.1.trans (ret_bool (by unfold mayB; simp; omega)), q.2⟩
theorem may_out {p g n : Nat} {S : Nat → Bool} (i : Int) (w : World) (h : SetAt w p g n S) (hi : ¬ (0 ≤ i ∧ i < n)) :
    Calls Try.prog 63 #[.pointer (some ⟨p, 0, none⟩), .int .i64 i] w fun e w' => e = .returned (.bool false) ∧ w = w' :=
  (may_any i w h).mono fun _ _ q => ⟨q.1.trans (ret_bool (by unfold mayB; rw [decide_eq_false_iff_not]; exact hi)), q.2⟩

theorem has_in {p g n : Nat} {S : Nat → Bool} (k : Nat) (w : World) (h : SetAt w p g n S) (hk : k < n) :
    Calls Try.prog 64 #[.pointer (some ⟨p, 0, none⟩), .int .i64 (k : Nat)] w fun e w' => e = .returned (.bool (S k)) ∧ w = w' := by
  have C := Lib.hid (may_in k w h hk)
  obtain ⟨_, hc⟩ := h.cells
  obtain ⟨x, hx, _, hlt, hb, hi⟩ := h.word hk
  have hn := h.small
  have HB := Lib.hid hb
  have E := Lib.hid (testBit_word hlt (k % 64))
  have hw : setW n ≤ 20000 := by unfold setW; omega
  clear h hb
  go_enter Try.func64, Try.ntmps64
  go_wp2_with (go_at_call 63; refine C.out.mono ?_; rintro e w' ⟨rfl, rfl⟩)
  go_ret
  refine ⟨ret_bool ?_, rfl⟩
  rw [← HB.out, ← E.out]
theorem has_out {p g n : Nat} {S : Nat → Bool} (i : Int) (w : World) (h : SetAt w p g n S) (hi : ¬ (0 ≤ i ∧ i < n)) :
    Calls Try.prog 64 #[.pointer (some ⟨p, 0, none⟩), .int .i64 i] w fun e w' => e = .returned (.bool false) ∧ w = w' := by
  have C := Lib.hid (may_out i w h hi)
  clear h hi
  go_enter Try.func64, Try.ntmps64
  go_wp2_with (go_at_call 63; refine C.out.mono ?_; rintro e w' ⟨rfl, rfl⟩)
  go_ret
  exact ⟨rfl, rfl⟩
theorem has_any {p g n : Nat} {S : Nat → Bool} (i : Int) (w : World) (h : SetAt w p g n S) :
    Calls Try.prog 64 #[.pointer (some ⟨p, 0, none⟩), .int .i64 i] w fun e w' => e = .returned (.bool (hasB n S i)) ∧ w = w' := by
  by_cases hi : 0 ≤ i ∧ i < n
  · obtain ⟨k, rfl⟩ := Int.eq_ofNat_of_zero_le hi.1
    exact (has_in k w h (by omega)).mono fun _ _ q => ⟨q.1.trans (ret_bool (by unfold hasB; simp; omega)), q.2⟩
  · exact (has_out i w h hi).mono fun _ _ q => ⟨q.1.trans (ret_bool (by unfold hasB; rw [decide_eq_false hi]; rfl)), q.2⟩

/-- one number turned -/
def turn (S : Nat → Bool) (k : Nat) : Nat → Bool := fun i => if i = k then !S i else S i
theorem bit_turn {x : Nat} (hx : x < 18446744073709551616) {m : Nat} (hm : m < 64) :
    bits .xor .u64 (x : Int) (IntKind.u64.wrap (2 ^ m)) = ((x ^^^ 2 ^ m : Nat) : Int) ∧ x ^^^ 2 ^ m < 18446744073709551616 ∧ ∀ j, (x ^^^ 2 ^ m).testBit j = if j = m then !x.testBit j else x.testBit j := by
  have h2 : (2 : Nat) ^ m < 18446744073709551616 := by have := two_pow_le64 hm; have := Nat.two_pow_pos m; omega
  have e : IntKind.u64.wrap ((2 : Int) ^ m) = ((2 ^ m : Nat) : Int) := by
    have := wrap_u64 (2 ^ m) h2
    rw [← this]; simp
  refine ⟨by rw [e, u64_xor _ _ hx h2], Nat.xor_lt_two_pow (n := 64) hx h2, fun j => ?_⟩
  rw [Nat.testBit_xor, Nat.testBit_two_pow]
  by_cases hj : j = m
  · subst hj; simp
  · simp [hj, show ¬ m = j from fun q => hj q.symm]
theorem SetAt.flipped {w : World} {p g n : Nat} {S : Nat → Bool} (h : SetAt w p g n S) {k : Nat} (hk : k < n) {x : Nat} (hx : w.cell? ⟨g, k / 64, none⟩ = some (.int .u64 (x : Nat))) :
    SetAt (w.setCell ⟨g, k / 64, none⟩ (.int .u64 ((x ^^^ 2 ^ (k % 64) : Nat) : Int))) p g n (turn S k) := by
  obtain ⟨h1, h2, ⟨T, h3⟩, cs, T', h4, h5, ws, h6, h7⟩ := h
  have hi : k / 64 < setW n := by unfold setW; omega
  have ex : ws (k / 64) = x := by
    rw [cell_of_block h4, (h6 _ hi).1] at hx
    have : ((ws (k / 64) : Nat) : Int) = (x : Int) := by simpa using hx
    exact_mod_cast this
  have hb := bit_turn (x := x) (by rw [← ex]; exact (h6 _ hi).2) (Nat.mod_lt k (show 0 < 64 by decide))
  refine ⟨h1, h2, ⟨T, by rw [setCell_other _ h2]; exact h3⟩, _, T', setCell_block h4 _, by simpa using h5, fun i => if i = k / 64 then x ^^^ 2 ^ (k % 64) else ws i, fun i hi' => ?_, fun i j hi' hj => ?_⟩
  · rw [Array.getElem?_setIfInBounds]
    dsimp only
    by_cases hik : i = k / 64
    · subst hik
      rw [if_pos rfl, if_pos (by omega), if_pos rfl]
      exact ⟨rfl, hb.2.1⟩
    · rw [if_neg (fun q => hik q.symm), if_neg hik]
      exact h6 i hi'
  · by_cases hik : i = k / 64
    · subst hik
      have h7' := h7 (k / 64) j hi' hj
      rw [ex] at h7'
      simp only [if_true]
      rw [hb.2.2 j, h7']
      unfold turn
      by_cases hjm : j = k % 64
      · subst hjm
        have e : 64 * (k / 64) + k % 64 = k := by omega
        rw [e]
        simp [hk]
      · have hne : 64 * (k / 64) + j ≠ k := by omega
        simp [hjm, hne]
    · dsimp only
      rw [if_neg hik, h7 i j hi' hj]
      unfold turn
      have hne : 64 * i + j ≠ k := by omega
      simp [hne]

theorem flip_yes {p g n : Nat} {S : Nat → Bool} (k : Nat) (b : Bool) (w : World) (h : SetAt w p g n S) (hk : k < n) (hS : S k = b) :
    Calls Try.prog 53 #[.pointer (some ⟨p, 0, none⟩), .int .i64 (k : Nat), .bool b] w fun e w' => e = .returned (.bool true) ∧ SetAt w' p g n (turn S k) ∧ w.grownBy w' (some g) := by
  have C := Lib.hid (may_in k w h hk)
  have D := Lib.hid (has_in k w h hk)
  obtain ⟨_, hc⟩ := h.cells
  obtain ⟨x, hx, hf, hlt, hb, hi⟩ := h.word hk
  have hn := h.small
  have F := Lib.hid (h.flipped hk hx)
  have hw : setW n ≤ 20000 := by unfold setW; omega
  have HS := Lib.hid hS
  clear h hb
  have hm : k % 64 < 64 := Nat.mod_lt _ (by decide)
  have E := Lib.hid (bit_turn hlt hm).1
  clear hS
  cases b
  all_goals
    go_enter Try.func53, Try.ntmps53
    go_wp2_with (first | (go_at_call 63; refine C.out.mono ?_; rintro e w' ⟨rfl, rfl⟩) | (go_at_call 64; refine D.out.mono ?_; rw [HS.out]; rintro e w' ⟨rfl, rfl⟩))
    go_region
    go_wp2
    go_ret
    rw [E.out]
    exact ⟨rfl, F.out.drew, grown_drew (grown_set _ _ _)⟩
theorem flip_no {p g n : Nat} {S : Nat → Bool} (k : Nat) (b : Bool) (w : World) (h : SetAt w p g n S) (hk : k < n) (hS : S k ≠ b) :
    Calls Try.prog 53 #[.pointer (some ⟨p, 0, none⟩), .int .i64 (k : Nat), .bool b] w fun e w' => e = .returned (.bool false) ∧ w = w' := by
  have C := Lib.hid (may_in k w h hk)
  have D := Lib.hid (has_in k w h hk)
  have HS : Hid (S k = !b) := (show S k = !b by revert hS; cases S k <;> cases b <;> simp)
  clear h hS
  cases b
  all_goals
    go_enter Try.func53, Try.ntmps53
    go_wp2_with (first | (go_at_call 63; refine C.out.mono ?_; rintro e w' ⟨rfl, rfl⟩) | (go_at_call 64; refine D.out.mono ?_; rw [HS.out]; rintro e w' ⟨rfl, rfl⟩))
    go_ret
    exact ⟨rfl, rfl⟩
theorem flip_out {p g n : Nat} {S : Nat → Bool} (i : Int) (b : Bool) (w : World) (h : SetAt w p g n S) (hi : ¬ (0 ≤ i ∧ i < n)) :
    Calls Try.prog 53 #[.pointer (some ⟨p, 0, none⟩), .int .i64 i, .bool b] w fun e w' => e = .returned (.bool false) ∧ w = w' := by
  have C := Lib.hid (may_out i w h hi)
  clear h hi
  go_enter Try.func53, Try.ntmps53
  go_wp2_with (go_at_call 63; refine C.out.mono ?_; rintro e w' ⟨rfl, rfl⟩)
  go_ret
  exact ⟨rfl, rfl⟩
/-- what a flip makes of a set -/
def flipS (n : Nat) (S : Nat → Bool) (i : Int) (b : Bool) : Nat → Bool := fun j => if (0 ≤ i ∧ i < n) ∧ S i.toNat = b ∧ j = i.toNat then !b else S j
theorem flip_any {p g n : Nat} {S : Nat → Bool} (i : Int) (b : Bool) (w : World) (h : SetAt w p g n S) :
    Calls Try.prog 53 #[.pointer (some ⟨p, 0, none⟩), .int .i64 i, .bool b] w fun e w' => e = .returned (.bool (mayB n i && (S i.toNat == b))) ∧ SetAt w' p g n (flipS n S i b) ∧ w.grownBy w' (some g) := by
  by_cases hi : 0 ≤ i ∧ i < n
  · obtain ⟨k, rfl⟩ := Int.eq_ofNat_of_zero_le hi.1
    by_cases hS : S k = b
    · refine (flip_yes k b w h (by omega) hS).mono fun e w' q => ⟨q.1.trans (ret_bool ?_), q.2.1.congr fun j _ => ?_, q.2.2⟩
      · unfold mayB
        rw [decide_eq_true hi, Int.toNat_natCast, hS]
        simp
      · unfold turn flipS
        rw [Int.toNat_natCast]
        by_cases hj : j = k
        · subst hj
          rw [if_pos rfl, if_pos ⟨hi, hS, rfl⟩, hS]
        · rw [if_neg hj, if_neg (fun q => hj q.2.2)]
    · refine (flip_no k b w h (by omega) hS).mono fun e w' q => ⟨q.1.trans (ret_bool ?_), ?_, ?_⟩
      · unfold mayB
        rw [Int.toNat_natCast]
        have : (S k == b) = false := by simpa using hS
        rw [this, Bool.and_false]
      · obtain rfl := q.2
        refine h.congr fun j _ => ?_
        unfold flipS
        rw [Int.toNat_natCast, if_neg (fun q => hS q.2.1)]
      · obtain rfl := q.2
        exact World.grownBy.refl _ _
  · refine (flip_out i b w h hi).mono fun e w' q => ⟨q.1.trans (ret_bool ?_), ?_, ?_⟩
    · unfold mayB
      rw [decide_eq_false hi]; rfl
    · obtain rfl := q.2
      refine h.congr fun j _ => ?_
      unfold flipS
      rw [if_neg (fun q => hi q.1)]
    · obtain rfl := q.2
      exact World.grownBy.refl _ _
theorem add_any {p g n : Nat} {S : Nat → Bool} (i : Int) (w : World) (h : SetAt w p g n S) :
    Calls Try.prog 41 #[.pointer (some ⟨p, 0, none⟩), .int .i64 i] w fun e w' => e = .returned (.bool (mayB n i && !S i.toNat)) ∧ SetAt w' p g n (fun j => if (0 ≤ i ∧ i < n) ∧ j = i.toNat then true else S j) ∧ w.grownBy w' (some g) := by
  have C : Hid (Calls Try.prog 53 #[.pointer (some ⟨p, 0, none⟩), .int .i64 i, .bool false] w fun e w' => e = .returned (.bool (mayB n i && !S i.toNat)) ∧ SetAt w' p g n (fun j => if (0 ≤ i ∧ i < n) ∧ j = i.toNat then true else S j) ∧ w.grownBy w' (some g)) := by
    refine (flip_any i false w h).mono fun e w' q => ⟨q.1.trans (ret_bool ?_), q.2.1.congr fun j _ => ?_, q.2.2⟩
    · cases S i.toNat <;> rfl
    · unfold flipS
      by_cases h1 : 0 ≤ i ∧ i < n
      · by_cases h2 : j = i.toNat
        · subst h2
          cases hS : S i.toNat <;> simp [h1]
        · simp [h2]
      · simp [h1]
  clear h
  go_enter Try.func41, Try.ntmps41
  go_wp2_with fail
  refine C.out.mono ?_
  rintro e w' ⟨rfl, h1, h2⟩
  have H1 := Lib.hid h1
  have H2 := Lib.hid h2
  clear h1 h2
  go_wp2
  go_ret
  exact ⟨rfl, H1.out, H2.out⟩
end Go.Proofs.Ytfiddodlpppdhaa
