/- The walk of the law CodeShort: it answers true for every input. -/
import Derived.Test.YteipnfnbepnpjaaCodeWritesWalk
namespace Go.Proofs.Yteipnfnbepnpjaa
open Go.RowKit
set_option linter.unusedVariables false

/-- has a place between two instructions been come to? -/
def btw (l : List (Int × Int × Int)) (n : Nat) : Nat → Bool
  | 0 => n == 0
  | k + 1 => btw l n k || total (l.take (k + 1)) == n
theorem btw_iff (l : List (Int × Int × Int)) (n : Nat) : ∀ k, btw l n k = true ↔ ∃ j, j ≤ k ∧ total (l.take j) = n
  | 0 => by
    simp only [btw, beq_iff_eq]
    constructor
    · rintro rfl; exact ⟨0, Nat.le_refl _, rfl⟩
    · rintro ⟨j, hj, h⟩
      obtain rfl : j = 0 := by omega
      rw [← h]; simp [total]
  | k + 1 => by
    simp only [btw, Bool.or_eq_true, btw_iff l n k, beq_iff_eq]
    constructor
    · rintro (⟨j, h1, h2⟩ | h)
      · exact ⟨j, by omega, h2⟩
      · exact ⟨k + 1, Nat.le_refl _, h⟩
    · rintro ⟨j, h1, h2⟩
      by_cases hj : j ≤ k
      · exact .inl ⟨j, hj, h2⟩
      · obtain rfl : j = k + 1 := by omega
        exact .inr h2
theorem total_mono (l : List (Int × Int × Int)) : ∀ (j k : Nat), j ≤ k → total (l.take j) ≤ total (l.take k) := by
  induction l with
  | nil => intro j k _; simp
  | cons x l ih =>
    intro j k h
    cases j with
    | zero => simp [total]
    | succ j =>
      cases k with
      | zero => omega
      | succ k =>
        rw [List.take_succ_cons, List.take_succ_cons, total, total]
        have := ih j k (by omega)
        omega
/-- what the beginning of what is written is -/
theorem rd_short {l : List (Int × Int × Int)} {bs : List Nat} {n : Nat} (h : wrFrom l [] = (bs, 0)) (hn : n ≤ bs.length) :
    (btw l n l.length = true ∧ ∃ out, out.length ≤ l.length ∧ rdAll (fun i => bs[i]?.getD 0) n = (out, 0)) ∨ (btw l n l.length = false ∧ rdAll (fun i => bs[i]?.getD 0) n = ([], 7)) := by
  rcases rd_wrFrom (n := n) (b := fun i => bs[i]?.getD 0) l [] bs (n + 1) [] h (fun i y hy _ => by simp [hy]) hn (Nat.zero_le _) (by simp) with ⟨k, h1, h2, h3⟩ | ⟨k, h1, h2, h3, h4⟩
  · rw [List.length_nil, Nat.zero_add] at h2
    refine .inl ⟨(btw_iff _ _ _).2 ⟨k, h1, h2⟩, placed 0 (l.take k), ?_, ?_⟩
    · rw [placed_len]; exact List.length_take_le' _ _
    · rw [List.nil_append] at h3; exact h3
  · rw [List.length_nil, Nat.zero_add] at h2 h3
    refine .inr ⟨?_, h4⟩
    cases hb : btw l n l.length
    · rfl
    · obtain ⟨j, j1, j2⟩ := (btw_iff _ _ _).1 hb
      by_cases hj : j ≤ k
      · have := total_mono l _ _ hj; omega
      · have := total_mono l (k + 1) j (by omega); omega
theorem Bys.take {w : World} {a : Option Addr} {len cap n : Nat} {b : Nat → Nat} (h : Bys w a len cap b) (hn : n ≤ len) : Bys w a n cap b :=
  ⟨Nat.le_trans hn h.le, h.max, fun e => ⟨by have := (h.nil e).1; omega, (h.nil e).2⟩, fun i hi => h.cell i (by omega), fun i hi => h.wf i (by omega)⟩
set_option maxRecDepth 100000 in
set_option maxHeartbeats 4000000 in
theorem codeShort.out (a0 : Option Addr) (len0 cap0 : Nat) (a1 : Int) (w : World) (R : List Nat × Nat) (hl : len0 ≤ 9223372036854775807) (hbs : ∀ w, Below w.heap.size w w → True)
    (hc : ∀ w1, Below w.heap.size w w1 → Calls Try.prog 18 #[.slice a0 len0 cap0] w1 (BytesDone R w1))
    (h : (100 < len0) ∨ (len0 ≤ 100 ∧ R.2 ≠ 0) ∨ (len0 ≤ 100 ∧ R.2 = 0 ∧ a1 < 0) ∨ (len0 ≤ 100 ∧ R.2 = 0 ∧ 0 ≤ a1 ∧ (R.1.length : Int) < a1)) :
    Calls Try.prog 4 #[.slice a0 len0 cap0, .int .i64 a1] w fun e w' => e = .returned (.bool true) ∧ Below w.heap.size w w' := by
  have HC := Lib.hid hc
  clear hc
  obtain ⟨bs, er⟩ := R
  dsimp only at h
  rcases h with h | h | h | h
  · have d0 : decide (100 < (len0 : Int)) = true := by rw [decide_eq_true_eq]; omega
    clear h
    go_enter Try.func4, Try.ntmps4
    go_wp2_with fail
    refine (alive19 _).mono ?_
    rintro e wa ⟨rfl, hba⟩
    have HBa := Lib.hid hba
    clear hba
    go_wp2_with fail
    refine (HC.out _ HBa.out).mono ?_
    rintro e w2 ⟨v2, rfl, hr2, _, hb2⟩
    have HB2 := Lib.hid (HBa.out.trans (hb2.mono HBa.out.size))
    obtain ⟨a2, cap2, rfl, _⟩ := hr2.read
    clear hr2 hb2
    dsimp only
    go_wp2
    go_ret
    exact ⟨rfl, HB2.out⟩
  · have d0 : decide (100 < (len0 : Int)) = false := by rw [decide_eq_false_iff_not]; omega
    have d1 : ((er : Int) != 0) = true := by simpa using h.2
    clear h
    go_enter Try.func4, Try.ntmps4
    go_wp2_with fail
    refine (alive19 _).mono ?_
    rintro e wa ⟨rfl, hba⟩
    have HBa := Lib.hid hba
    clear hba
    go_wp2_with fail
    refine (HC.out _ HBa.out).mono ?_
    rintro e w2 ⟨v2, rfl, hr2, _, hb2⟩
    have HB2 := Lib.hid (HBa.out.trans (hb2.mono HBa.out.size))
    obtain ⟨a2, cap2, rfl, _⟩ := hr2.read
    clear hr2 hb2
    dsimp only
    go_wp2
    go_ret
    exact ⟨rfl, HB2.out⟩
  · have d0 : decide (100 < (len0 : Int)) = false := by rw [decide_eq_false_iff_not]; omega
    obtain rfl : er = 0 := h.2.1
    have d2 : decide (a1 < 0) = true := by rw [decide_eq_true_eq]; omega
    clear h
    go_enter Try.func4, Try.ntmps4
    go_wp2_with fail
    refine (alive19 _).mono ?_
    rintro e wa ⟨rfl, hba⟩
    have HBa := Lib.hid hba
    clear hba
    go_wp2_with fail
    refine (HC.out _ HBa.out).mono ?_
    rintro e w2 ⟨v2, rfl, hr2, _, hb2⟩
    have HB2 := Lib.hid (HBa.out.trans (hb2.mono HBa.out.size))
    obtain ⟨a2, cap2, rfl, _⟩ := hr2.read
    clear hr2 hb2
    dsimp only
    go_wp2
    go_ret
    exact ⟨rfl, HB2.out⟩
  · have d0 : decide (100 < (len0 : Int)) = false := by rw [decide_eq_false_iff_not]; omega
    obtain rfl : er = 0 := h.2.1
    have d2 : decide (a1 < 0) = false := by rw [decide_eq_false_iff_not]; omega
    have d3 : decide ((bs.length : Int) < a1) = true := by rw [decide_eq_true_eq]; omega
    clear h
    go_enter Try.func4, Try.ntmps4
    go_wp2_with fail
    refine (alive19 _).mono ?_
    rintro e wa ⟨rfl, hba⟩
    have HBa := Lib.hid hba
    clear hba
    go_wp2_with fail
    refine (HC.out _ HBa.out).mono ?_
    rintro e w2 ⟨v2, rfl, hr2, _, hb2⟩
    have HB2 := Lib.hid (HBa.out.trans (hb2.mono HBa.out.size))
    obtain ⟨a2, cap2, rfl, _⟩ := hr2.read
    clear hr2 hb2
    dsimp only
    go_wp2
    go_ret
    exact ⟨rfl, HB2.out⟩
set_option maxRecDepth 100000 in
set_option maxHeartbeats 4000000 in
theorem codeShort.inside (a0 : Option Addr) (len0 cap0 : Nat) (t : Nat → Int) (q : Nat → Int × Int × Int) (n : Nat) (bs : List Nat) (w : World) (hI : InsSl w a0 len0 cap0 t q) (h : len0 ≤ 100) (hbs : wrFrom (rowQ q len0) [] = (bs, 0)) (hn : n ≤ bs.length) :
    Calls Try.prog 4 #[.slice a0 len0 cap0, .int .i64 (n : Nat)] w fun e w' => e = .returned (.bool true) ∧ Below w.heap.size w w' := by
  have hcap0 := hI.le
  have hmax0 := hI.max
  have HI := Lib.hid hI
  have HBR := Lib.hid (fun w h => rBytes_any a0 len0 cap0 t q w h (by omega))
  rw [hbs] at HBR
  have HLT : Hid (∀ y ∈ bs, y < 256) := (show ∀ y ∈ bs, y < 256 from wrFrom_lt (rowQ q len0) [] bs 0 hbs (fun y hy => by cases hy))
  have HSH := Lib.hid (rd_short hbs hn)
  rw [rowQ_len] at HSH
  obtain ⟨hln, _⟩ := wrFrom_len _ _ _ hbs
  have htl := total_le (rowQ q len0)
  rw [rowQ_len] at htl
  rw [List.length_nil, Nat.zero_add] at hln
  have hbl : bs.length ≤ 300 := by omega
  have hnb : n ≤ 300 := by omega
  clear hI hln htl
  have HBS := Lib.hid hbs
  clear hbs
  have d0 : decide (100 < (len0 : Int)) = false := by rw [decide_eq_false_iff_not]; omega
  have d1 : decide ((n : Int) < 0) = false := by rw [decide_eq_false_iff_not]; omega
  have d2 : decide ((bs.length : Int) < (n : Int)) = false := by rw [decide_eq_false_iff_not]; omega
  have d3 : decide (bs.length < n) = false := by rw [decide_eq_false_iff_not]; omega
  have hb0 : ((n : Int) == 0) = btw (rowQ q len0) n 0 := by rw [Bool.eq_iff_iff]; simp [btw]
  go_enter Try.func4, Try.ntmps4
  go_wp2_with fail
  refine (alive19 _).mono ?_
  rintro e wa ⟨rfl, hba⟩
  have HBa := Lib.hid hba
  have HIa := Lib.hid (HI.out.below hba)
  have HBRa := Lib.hid (HBR.out _ HIa.out)
  clear hba HBR
  go_wp2_with fail
  refine (HBRa.out).mono ?_
  rintro e w2 ⟨v2, rfl, hr2, _, hb2⟩
  have HB2 := Lib.hid (HBa.out.trans (hb2.mono HBa.out.size))
  have HI2 := Lib.hid (HIa.out.below hb2)
  obtain ⟨a2, cap2, rfl, hh2⟩ := hr2.holdsB HLT.out
  have hc2 := hh2.le
  have hm2 := hh2.max
  have HY2 := Lib.hid (hh2.bys.take hn)
  clear hr2 hb2 hh2 HBRa
  dsimp only
  go_wp2_with fail
  go_loop [8, 9, 10] (fun av bv iv => ∃ k : Nat, iv = .int .i64 k ∧ k ≤ len0 ∧ av = .int .i64 (total ((rowQ q len0).take k) : Nat) ∧ bv = .bool (btw (rowQ q len0) n k)) (fun _ _ iv => len0 - (intOf iv).toNat)
  case atStart => exact ⟨0, rfl, Nat.zero_le _, rfl, rfl⟩
  case round =>
    obtain ⟨k, rfl, hk, rfl, rfl⟩ := hrel
    by_cases hlt : k < len0
    · have hq := rowQ_at (q := q) hlt
      have hts := total_succ _ _ _ hq
      obtain ⟨g', off', rfl, _, _, e1, _, _⟩ := HI2.out.cell k hlt
      have HW := Lib.hid (fun w => widthRef_any (q k).1 w)
      have HTS := Lib.hid hts
      have hnb2 : total ((rowQ q len0).take (k + 1)) ≤ 300 := by
        have := total_le ((rowQ q len0).take (k + 1))
        have h2 := List.length_take_le (k + 1) (rowQ q len0)
        omega
      rw [hts] at hnb2
      have hbk : btw (rowQ q len0) n (k + 1) = (btw (rowQ q len0) n k || total ((rowQ q len0).take (k + 1)) == n) := rfl
      rw [hts] at hbk
      have HBK := Lib.hid hbk
      generalize widthZ (q k).1 = m at *
      generalize total ((rowQ q len0).take k) = tk at *
      clear hq hts hbk
      have hi0 : (0 : Int) ≤ (k : Int) := by omega
      have hi1 : (k : Int) < (len0 : Int) := by omega
      cases hbt : btw (rowQ q len0) n k
      · rw [hbt] at HBK
        go_wp2_with fail
        refine (HW.out _).mono ?_
        rintro e w9 ⟨rfl, rfl⟩
        go_wp2
        go_round
        case rel => exact ⟨k + 1, by go_num, by omega, by rw [HTS.out]; go_num, by rw [HBK.out, Bool.false_or]; congr 1; rw [Bool.eq_iff_iff]; simp; omega⟩
        case measure => simp [intOf]; omega
      · rw [hbt] at HBK
        go_wp2_with fail
        refine (HW.out _).mono ?_
        rintro e w9 ⟨rfl, rfl⟩
        go_wp2
        go_round
        case rel => exact ⟨k + 1, by go_num, by omega, by rw [HTS.out]; go_num, by rw [HBK.out, Bool.true_or]⟩
        case measure => simp [intOf]; omega
    · obtain rfl : k = len0 := by omega
      have HRE := Lib.hid (cRead_any _ _ _ _ _ HY2.out (by omega))
      rcases HSH.out with ⟨h1, out, h2, h3⟩ | ⟨h1, h3⟩
      · rw [h3] at HRE
        rw [h1]
        clear h1 h3 hlt
        have d4 : decide (k < out.length) = false := by rw [decide_eq_false_iff_not]; omega
        have d5 : decide (out.length ≤ k) = true := decide_eq_true h2
        go_wp2_with fail
        refine (HRE.out).mono ?_
        rintro e w7 ⟨v7, rfl, hr7, _, hb7⟩
        obtain ⟨a7, cap7, rfl, _⟩ := hr7.holdsI
        have HB7 := Lib.hid (HB2.out.trans (hb7.mono HB2.out.size))
        clear hr7 hb7
        dsimp only
        go_wp2_with fail
        refine (num19_any _ _).mono ?_
        rintro e w8 ⟨rfl, rfl⟩
        go_wp2
        go_ret
        exact ⟨rfl, HB7.out⟩
      · rw [h3] at HRE
        rw [h1]
        clear h1 h3 hlt
        go_wp2_with fail
        refine (HRE.out).mono ?_
        rintro e w7 ⟨v7, rfl, hr7, _, hb7⟩
        obtain ⟨a7, cap7, rfl, _⟩ := hr7.holdsI
        have HB7 := Lib.hid (HB2.out.trans (hb7.mono HB2.out.size))
        clear hr7 hb7
        dsimp only
        go_wp2_with fail
        refine (num19_any _ _).mono ?_
        rintro e w8 ⟨rfl, rfl⟩
        go_wp2
        go_ret
        exact ⟨rfl, HB7.out⟩
/-- what is told of the argument 0 -/
def codeShort.arg0 (w : World) (a : Option Addr) (len cap : Nat) : Prop := codeWrites.arg0 w a len cap
theorem insBytesOf : Try.prog.bytesOf 30 = 32 := by kernel_rfl
theorem codeShort.walk (a0 : Option Addr) (len0 cap0 : Nat) (a1 : Int) (w : World) (w0 : codeShort.arg0 w a0 len0 cap0) (w1 : (Lit.int .i64 a1).wf = true) (s0 : len0 * Try.prog.bytesOf 30 ≤ 140737488351232) :
    Calls Try.prog 4 #[.slice a0 len0 cap0, .int .i64 a1] w fun e w' => e = .returned (.bool true) ∧ Below w.heap.size w w' := by
  obtain ⟨F, t, q, hR, hF⟩ := arg_ins w0
  rw [insBytesOf] at s0
  have hI := hR.insSl hF
  by_cases h : len0 ≤ 100 ∧ (wrFrom (rowQ q len0) []).2 = 0 ∧ 0 ≤ a1 ∧ a1 ≤ ((wrFrom (rowQ q len0) []).1.length : Int)
  · obtain ⟨h1, h2, h3, h4⟩ := h
    obtain ⟨n, rfl⟩ := Int.eq_ofNat_of_zero_le h3
    exact codeShort.inside a0 len0 cap0 t q n (wrFrom (rowQ q len0) []).1 w hI h1 (by rw [← h2]) (by omega)
  · exact codeShort.out a0 len0 cap0 a1 w (wrFrom (rowQ q len0) []) (Nat.le_trans hR.le hR.max) (fun _ _ => trivial) (fun w1 hb => rBytes_any a0 len0 cap0 t q w1 (hI.below hb) (by omega)) (by omega)
end Go.Proofs.Yteipnfnbepnpjaa
