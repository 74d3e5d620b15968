/- bitset's List: the numbers that are there, rising. -/
import Derived.Test.YtkfgpgllpegleaaDoorLst
import Derived.Test.YtkfgpgllpegleaaDoorTz
namespace Go.Proofs.YtkfgpgllpegleaaDoor
open Go.RowKit
set_option linter.unusedVariables false

/-- what is there, no number from n on -/
def inS (n : Nat) (S : Nat → Bool) (j : Nat) : Bool := decide (j < n) && S j
/-- what is left of a word: its bits from t on -/
def Rest (T : Nat → Bool) (t x : Nat) : Prop := x < 18446744073709551616 ∧ t ≤ 64 ∧ ∀ j, j < 64 → x.testBit j = (decide (t ≤ j) && T j)
theorem Rest.zero {T : Nat → Bool} {t : Nat} (h : Rest T t 0) : ∀ j, t ≤ j → j < 64 → T j = false := fun j h1 h2 => by
  have := h.2.2 j h2
  rw [Nat.zero_testBit, decide_eq_true h1, Bool.true_and] at this
  exact this.symm
theorem Rest.next {T : Nat → Bool} {t x : Nat} (h : Rest T t x) (h0 : x ≠ 0) :
    Rest T (Lib.ctz 64 x + 1) (x &&& (x - 1)) ∧ t ≤ Lib.ctz 64 x ∧ Lib.ctz 64 x < 64 ∧ T (Lib.ctz 64 x) = true ∧ (∀ j, t ≤ j → j < Lib.ctz 64 x → T j = false) ∧ x &&& (x - 1) < x := by
  obtain ⟨h1, h2, h3, h4, h5⟩ := ctz_bit h.1 h0
  have hc := h.2.2 _ h1
  rw [h2] at hc
  have hc' : t ≤ Lib.ctz 64 x ∧ T (Lib.ctz 64 x) = true := by
    have := hc.symm
    simp at this
    exact this
  refine ⟨⟨by have := h.1; omega, by omega, fun j hj => ?_⟩, hc'.1, h1, hc'.2, fun j h6 h7 => ?_, h5⟩
  · rw [h4 j, h.2.2 j hj]
    by_cases hlt : j < Lib.ctz 64 x
    · have := h3 j hlt
      rw [h.2.2 j hj] at this
      rw [this, decide_eq_false (show ¬ Lib.ctz 64 x + 1 ≤ j by omega)]
      simp
    · by_cases he : j = Lib.ctz 64 x
      · rw [decide_eq_false (show ¬ j ≠ Lib.ctz 64 x by omega), decide_eq_false (show ¬ Lib.ctz 64 x + 1 ≤ j by omega)]
        simp
      · rw [decide_eq_true he, decide_eq_true (show Lib.ctz 64 x + 1 ≤ j by omega), decide_eq_true (show t ≤ j by omega)]
        simp
  · have := h3 j h7
    rw [h.2.2 j (by omega), decide_eq_true h6, Bool.true_and] at this
    exact this

set_option maxRecDepth 100000 in
set_option maxHeartbeats 1000000 in
theorem setList_any {p g n : Nat} {S : Nat → Bool} (w : World) (h : SetAt w p g n S) (hT : TzTab w) :
    Calls Tryd.prog 21 #[.pointer (some ⟨p, 0, none⟩)] w (RowDone w (lst S n)) := by
  obtain ⟨i0, hi, hz0, hz1, hz2⟩ := info_parts intInfo1
  have HI := Lib.hid hi
  have HZ0 := Lib.hid hz0
  have HZ1 := Lib.hid hz1
  have HZ2 := Lib.hid hz2
  have HT := Lib.hid hT
  obtain ⟨_, hc⟩ := h.cells
  have hgl := h.lt.2
  obtain ⟨cs, T, hg, hs, ws, h1, h2⟩ := h.row
  have hn := h.small
  have hw : setW n ≤ 20000 := by unfold setW; omega
  have H1 : Hid (∀ (wr : World), Below w.heap.size w wr → ∀ i, i < setW n → wr.cell? ⟨g, i, none⟩ = some (.int .u64 (ws i : Nat))) := (show _ from fun wr hb i hi => by
    rw [hb.cell (p := ⟨g, i, none⟩) hgl, cell_of_block hg]; exact (h1 i hi).1)
  have H2 : Hid (∀ i, i < setW n → Rest (fun j => inS n S (64 * i + j)) 0 (ws i)) := (show _ from fun i hi => ⟨(h1 i hi).2, Nat.zero_le _, fun j hj => by
    rw [h2 i j hi hj, decide_eq_true (Nat.zero_le j)]; rfl⟩)
  have H3 : Hid (lst (inS n S) (64 * setW n) = lst S n) := (show lst (inS n S) (64 * setW n) = lst S n by
    rw [lst_skip (a := n) (by unfold setW; omega) fun i h1 _ => by unfold inS; rw [decide_eq_false (by omega)]; rfl]
    exact lst_congr fun i hi => by unfold inS; rw [decide_eq_true hi]; rfl)
  clear h hg hs h1 h2 hgl hi hz0 hz1 hz2 hT
  go_enter Tryd.func21, Tryd.ntmps21
  go_wp2_with fail
  go_loopw [3, 11] (fun v i wr => ∃ (k : Nat), i = .int .i64 (k : Nat) ∧ k ≤ setW n ∧ Hid (AccI w v (lst (inS n S) (64 * k)) wr)) (fun _ i _ => setW n - (intOf i).toNat)
  case atStart => exact ⟨0, rfl, Nat.zero_le _, AccI.start w⟩
  case round =>
    obtain ⟨k, rfl, hk, hs⟩ := hrel
    obtain ⟨wo, rfl⟩ : ∃ wo : World, wo = wr := ⟨_, rfl⟩
    by_cases hlt : k < setW n
    · have hx := H1.out wo hs.out.bel k hlt
      have HR0 := Lib.hid (H2.out k hlt)
      have hi0 : (0 : Int) ≤ (k : Int) := by omega
      have hi1 : (k : Int) < (setW n : Int) := by omega
      go_wp2_with fail
      go_loopw [3, 5] (fun v x wr => ∃ (y t : Nat), x = .int .u64 (y : Nat) ∧ y < 18446744073709551616 ∧ Hid (Rest (fun j => inS n S (64 * k + j)) t y ∧ AccI w v (lst (inS n S) (64 * k + t)) wr)) (fun _ x _ => (intOf x).toNat)
      case atStart => exact ⟨ws k, 0, rfl, HR0.out.1, ⟨HR0.out, hs.out⟩⟩
      case round =>
        obtain ⟨y, t, rfl, hy64, hq⟩ := hrel
        obtain ⟨wi, rfl⟩ : ∃ wi : World, wi = wr := ⟨_, rfl⟩
        by_cases hy : y = 0
        · subst hy
          have HA : Hid (AccI w u3 (lst (inS n S) (64 * (k + 1))) wi) := (show AccI w u3 (lst (inS n S) (64 * (k + 1))) wi by
            rw [show 64 * (k + 1) = 64 * k + 64 by omega, lst_skip (a := 64 * k + t) (by have := hq.out.1.2.1; omega) fun i h1 h2 => by
              have := hq.out.1.zero (i - 64 * k) (by omega) (by omega)
              rwa [show 64 * k + (i - 64 * k) = i by omega] at this]
            exact hq.out.2)
          go_wp2
          go_roundw
          case rel => first | exact ⟨k + 1, by go_num, by omega, HA⟩ | ((repeat apply Exists.intro); exact ⟨⟨k + 1, by go_num, by omega, HA⟩, rfl⟩)
          case measure => simp [intOf]; omega
        · have hb0 : ((y : Int) == 0) = false := by rw [beq_eq_false_iff_ne]; omega
          have hb1 : ((y : Int) != 0) = true := by rw [bne_iff_ne]; omega
          obtain ⟨n1, n2, n3, n4, n5, n6⟩ := hq.out.1.next hy
          have HTZ := Lib.hid (tz_any y wi hy64 hy (HT.out.below hq.out.2.bel (Nat.le_refl _)))
          have HLT : Hid (lst (inS n S) (64 * k + (Lib.ctz 64 y + 1)) = lst (inS n S) (64 * k + t) ++ [((64 * k + Lib.ctz 64 y : Nat) : Int)]) := (show lst (inS n S) (64 * k + (Lib.ctz 64 y + 1)) = lst (inS n S) (64 * k + t) ++ [((64 * k + Lib.ctz 64 y : Nat) : Int)] by
            rw [← Nat.add_assoc, lst_yes n4, lst_skip (a := 64 * k + t) (by omega) fun i h1 h2 => by
              have := n5 (i - 64 * k) (by omega) (by omega)
              rwa [show 64 * k + (i - 64 * k) = i by omega] at this])
          have HLL : Hid ((lst (inS n S) (64 * k + t)).length ≤ 1300000) := (show (lst (inS n S) (64 * k + t)).length ≤ 1300000 by have := lst_le (inS n S) (64 * k + t); have := hq.out.1.2.1; omega)
          have hand : bits .and .u64 (y : Int) ((y : Int) - 1) = ((y &&& (y - 1) : Nat) : Int) := by
            have := u64_and y (y - 1) hy64 (by omega)
            rwa [show ((y - 1 : Nat) : Int) = (y : Int) - 1 by omega] at this
          have N1 := Lib.hid n1
          have hq2 := Lib.hid hq.out.2
          generalize lst (inS n S) (64 * k + t) = acc at hq2 HLT HLL
          generalize hcz : Lib.ctz 64 y = cz at HTZ HLT N1 n2 n3
          generalize hy2 : y &&& (y - 1) = y2 at hand N1 n6
          clear hq n1 n4 n5 hcz hy2
          have hk64 : wrap64 ((k : Int) * 64) = (k : Int) * 64 := by unfold wrap64; omega
          have HO1 : Hid (acc.length + 1 ≤ maxLen) := (show acc.length + 1 ≤ maxLen by have := HLL.out; unfold maxLen; omega)
          have HO2 : Hid ((acc.length + 1) * 8 ≤ 140737488355328) := (show (acc.length + 1) * 8 ≤ 140737488355328 by have := HLL.out; omega)
          have hy2lt : y2 < 18446744073709551616 := N1.out.1
          have hsub : IntKind.u64.wrap ((y : Int) - 1) = (y : Int) - 1 := by rw [IntKind.wrap_u64]; omega
          go_wp2_with (first | (go_at_call 27; refine HTZ.out.mono ?_; rintro e w' ⟨rfl, rfl⟩) | (at_builtin; refine wpList_row (by rfl) (.tmp 22) (.tmp 28) 34 rfl 3 i0 (.int .i64 0) 1 8 Tryd.underlying34 HI.out HZ0.out HZ1.out HZ2.out rfl (by decide) u3 acc.length (intC acc) rfl (hq2.out.src _) (.slice (some ⟨wi.heap.size, 0, none⟩) 1 1) 1 [.int .i64 ((k : Int) * 64 + (cz : Int))] rfl (new_one _ _ _) (one_of rfl) HO1.out HO2.out ?_))
          intro v2 w2 hr2 hg2 hv2
          have HA2 : Hid (Rest (fun j => inS n S (64 * k + j)) (cz + 1) y2 ∧ AccI w v2 (lst (inS n S) (64 * k + (cz + 1))) w2) := (show _ ∧ _ from ⟨N1.out, by
            rw [HLT.out, show ((64 * k + cz : Nat) : Int) = (k : Int) * 64 + (cz : Int) by omega]
            exact hq2.out.push hr2 hg2 hv2⟩)
          clear hr2 hg2 hv2
          go_wp2
          go_roundw
          case rel => first | exact ⟨y2, cz + 1, by go_num, hy2lt, HA2⟩ | ((repeat apply Exists.intro); exact ⟨⟨y2, cz + 1, by go_num, hy2lt, HA2⟩, rfl⟩)
          case measure => simp [intOf]; omega
    · obtain rfl : k = setW n := by omega
      have HF : Hid (RowDone w (lst S n) (.returned u3) wo) := (show RowDone w (lst S n) (.returned u3) wo by
        have := hs.out.done
        rw [H3.out] at this
        exact this)
      clear hlt
      go_wp2
      go_ret
      exact HF.out
end Go.Proofs.YtkfgpgllpegleaaDoor
