/- The walk of the law SetTwice: it answers true for every input, where the table of math/bits stands in its variable. -/
import Derived.Test.YtkfgpgllpegleaaDoorSetAlive
import Derived.Test.YtkfgpgllpegleaaDoorSetDrop
import Derived.Test.YtkfgpgllpegleaaDoorSetList
namespace Go.Proofs.YtkfgpgllpegleaaDoor
open Go.RowKit
set_option linter.unusedVariables false

section
variable {p g n : Nat} {S S1 : Nat → Bool} {b : Bool}
theorem add_to (i : Int) (hb : (mayB n i && !S i.toNat) = b) (hS : ∀ j, j < n → (if (0 ≤ i ∧ i < n) ∧ j = i.toNat then true else S j) = S1 j) (w : World) (h : SetAt w p g n S) :
    Calls Tryd.prog 8 #[.pointer (some ⟨p, 0, none⟩), .int .i64 i] w fun e w' => e = .returned (.bool b) ∧ SetAt w' p g n S1 ∧ w.grownBy w' (some g) :=
  (add_any i w h).mono fun _ _ q => ⟨q.1.trans (ret_bool hb), q.2.1.congr hS, q.2.2⟩
theorem drop_to (i : Int) (hb : hasB n S i = b) (hS : ∀ j, j < n → (if (0 ≤ i ∧ i < n) ∧ j = i.toNat then false else S j) = S1 j) (w : World) (h : SetAt w p g n S) :
    Calls Tryd.prog 10 #[.pointer (some ⟨p, 0, none⟩), .int .i64 i] w fun e w' => e = .returned (.bool b) ∧ SetAt w' p g n S1 ∧ w.grownBy w' (some g) :=
  (drop_any i w h).mono fun _ _ q => ⟨q.1.trans (ret_bool hb), q.2.1.congr hS, q.2.2⟩
theorem has_to (i : Int) (hb : hasB n S i = b) (w : World) (h : SetAt w p g n S) :
    Calls Tryd.prog 14 #[.pointer (some ⟨p, 0, none⟩), .int .i64 i] w fun e w' => e = .returned (.bool b) ∧ w = w' :=
  (has_any i w h).mono fun _ _ q => ⟨q.1.trans (ret_bool hb), q.2⟩
end
/-- what a round of the law does: may a number be there, was it, and what is there behind it -/
structure TwRound (n : Nat) (x : Int) (S : Nat → Bool) (may had : Bool) (S1 S3 : Nat → Bool) : Prop where
  hadE : hasB n S x = had
  add : (mayB n x && !S x.toNat) = (may && !had)
  to : ∀ j, j < n → (if (0 ≤ x ∧ x < n) ∧ j = x.toNat then true else S j) = S1 j
  again : (mayB n x && !S1 x.toNat) = false
  same : ∀ j, j < n → (if (0 ≤ x ∧ x < n) ∧ j = x.toNat then true else S1 j) = S1 j
  has : hasB n S1 x = may
  down : ∀ j, j < n → (if (0 ≤ x ∧ x < n) ∧ j = x.toNat then false else S1 j) = S3 j
  gone : hasB n S3 x = false
  rest : ∀ j, j < n → (if (0 ≤ x ∧ x < n) ∧ j = x.toNat then false else S3 j) = S3 j
  up : cnt S1 n = cnt S n + (if may && !had then 1 else 0)
  less : cnt S3 n + (if may then 1 else 0) = cnt S1 n
theorem TwRound.no {n : Nat} {x : Int} (S : Nat → Bool) (h : ¬ (0 ≤ x ∧ x < n)) : TwRound n x S false false S S := by
  have hm : mayB n x = false := by unfold mayB; exact decide_eq_false h
  have hh : ∀ T, hasB n T x = false := fun T => by unfold hasB; rw [decide_eq_false h]; rfl
  refine ⟨hh _, by rw [hm]; rfl, fun j _ => if_neg fun q => h q.1, by rw [hm]; rfl, fun j _ => if_neg fun q => h q.1, hh _, fun j _ => if_neg fun q => h q.1, hh _, fun j _ => if_neg fun q => h q.1, rfl, rfl⟩
theorem TwRound.yes {n k : Nat} (S : Nat → Bool) (h : k < n) : TwRound n (k : Int) S true (S k) (fun j => if j = k then true else S j) (fun j => if j = k then false else S j) := by
  have hi : 0 ≤ (k : Int) ∧ (k : Int) < n := by omega
  have hm : mayB n (k : Int) = true := by unfold mayB; exact decide_eq_true hi
  have hh : ∀ T, hasB n T (k : Int) = T k := fun T => by unfold hasB; rw [decide_eq_true hi, Int.toNat_natCast]; rfl
  have ht : ∀ (T : Nat → Bool) (b : Bool) j, (if (0 ≤ (k : Int) ∧ (k : Int) < n) ∧ j = (k : Int).toNat then b else T j) = if j = k then b else T j := fun T b j => by
    rw [Int.toNat_natCast]
    by_cases e : j = k
    · rw [if_pos ⟨hi, e⟩, if_pos e]
    · rw [if_neg fun q => e q.2, if_neg e]
  refine ⟨hh _, by rw [hm, Int.toNat_natCast], fun j _ => ht _ _ _, by rw [hm, Int.toNat_natCast, if_pos rfl]; rfl, fun j _ => ?_, by rw [hh, if_pos rfl], fun j _ => ?_, by rw [hh, if_pos rfl], fun j _ => ?_, ?_, ?_⟩
  · refine (ht (fun j => if j = k then true else S j) true j).trans ?_; by_cases e : j = k <;> simp [e]
  · refine (ht (fun j => if j = k then true else S j) false j).trans ?_; by_cases e : j = k <;> simp [e]
  · refine (ht (fun j => if j = k then false else S j) false j).trans ?_; by_cases e : j = k <;> simp [e]
  · cases hS : S k
    · rw [cnt_set h hS]; rfl
    · refine (cnt_congr fun i _ => ?_).trans (Nat.add_zero _).symm
      by_cases e : i = k
      · rw [if_pos e, e, hS]
      · rw [if_neg e]
  · have := cnt_unset (S := fun j => if j = k then true else S j) h (by rw [if_pos rfl])
    rw [← this]
    congr 1
    refine cnt_congr fun i _ => ?_
    by_cases e : i = k <;> simp [e]

theorem setTwice.out (a0 : Int) (a1 : Option Addr) (len1 cap1 : Nat) (w : World) (hd : ¬ (0 ≤ a0 ∧ a0 ≤ 300 ∧ len1 ≤ 100)) :
    Calls Tryd.prog 4 #[.int .i64 a0, .slice a1 len1 cap1] w fun e w' => e = .returned (.bool true) ∧ Below w.heap.size w w' := by
  go_enter Tryd.func4, Tryd.ntmps4
  go_wp2_with (go_at_call 5; refine (alive2 _).mono ?_; rintro e w' ⟨rfl, hb⟩)
  all_goals
    go_ret
    exact ⟨rfl, by assumption⟩

set_option maxRecDepth 100000 in
set_option maxHeartbeats 4000000 in
theorem setTwice.into (n : Nat) (a1 : Option Addr) (len1 cap1 : Nat) (z1 : Nat → Int) (w : World) (w1 : Ints .i64 w a1 len1 cap1 z1) (hT : TzTab w) (hn : n ≤ 300) (hl : len1 ≤ 100) :
    Calls Tryd.prog 4 #[.int .i64 (n : Nat), .slice a1 len1 cap1] w fun e w' => e = .returned (.bool true) ∧ Below w.heap.size w w' := by
  have W1 := Lib.hid w1
  have HT := Lib.hid hT
  clear w1 hT
  have d1 : decide ((n : Int) < 0) = false := by rw [decide_eq_false_iff_not]; omega
  have d2 : decide (300 < (n : Int)) = false := by rw [decide_eq_false_iff_not]; omega
  have d5 : decide (100 < (len1 : Int)) = false := by rw [decide_eq_false_iff_not]; omega
  obtain ⟨B, hB⟩ : ∃ B, B = w.heap.size := ⟨_, rfl⟩
  have HB := Lib.hid hB
  clear hB
  go_enter Tryd.func4, Tryd.ntmps4
  go_wp2_with fail
  refine (alive2 _).mono ?_
  rintro e wa ⟨rfl, hba⟩
  have HBa := Lib.hid hba
  clear hba
  go_wp2_with fail
  refine (new_any n _ (by omega)).mono ?_
  rintro e w1 ⟨p, g, rfl, hs, hp, hg, hb⟩
  have en : setN (n : Int) = n := by unfold setN; omega
  rw [en] at hs
  clear en
  have HgB : Hid (B ≤ g) := (show B ≤ g by rw [HB.out]; have := HBa.out.size; omega)
  have HS0 := Lib.hid hs
  have HB1 : Hid (Below B w w1) := (show Below B w w1 by rw [HB.out]; exact HBa.out.trans (hb.mono HBa.out.size))
  have HC0 : Hid (cnt (fun _ => false) n = 0) := (show cnt (fun _ => false) n = 0 from cnt_zero fun _ _ => rfl)
  clear hs hb hp hg
  go_wp2_with fail
  go_loopw [7, 8] (fun c i wr => ∃ (k m : Nat), i = .int .i64 (k : Nat) ∧ k ≤ len1 ∧ c = .int .i64 (m : Nat) ∧ m ≤ n ∧ Hid (∃ S, SetAt wr p g n S ∧ cnt S n = m ∧ Below B w wr)) (fun _ i _ => len1 - (intOf i).toNat)
  case atStart => exact ⟨0, 0, rfl, Nat.zero_le _, rfl, Nat.zero_le _, ⟨_, HS0.out, HC0.out, HB1.out⟩⟩
  case round =>
    obtain ⟨k, m, rfl, hk, rfl, hm, hq⟩ := hrel
    obtain ⟨wo, rfl⟩ : ∃ wo : World, wo = wr := ⟨_, rfl⟩
    obtain ⟨S, hs, hcm, hbr⟩ := hq.out
    have HS := Lib.hid hs
    have HCM := Lib.hid hcm
    have HBr := Lib.hid hbr
    clear hs hbr hq hcm
    by_cases hlt : k < len1
    · obtain ⟨b, off, rfl, hbl, hcell0⟩ := W1.out.cell k hlt
      have CELL := Lib.hid (fun (wr : World) (h : Below B w wr) => (show wr.cell? ⟨b, off + k, none⟩ = some (.int .i64 (z1 k)) from (h.cell (p := ⟨b, off + k, none⟩) (by rw [HB.out]; exact hbl)).trans hcell0))
      have STEP : Hid (∀ (w2 w3 : World), Below B w w2 → w2.grownBy w3 (some g) → Below B w w3) := (show _ from fun w2 w3 h2 h3 => below_keeps h2 (Keeps.of_grown h3 (List.mem_singleton_self g)) (by rw [HB.out]; exact h2.size) (by intro k hk; cases List.mem_singleton.1 hk; exact HgB.out))
      have LISTS : Hid (∀ (w2 : World) (S2 : Nat → Bool), Below B w w2 → SetAt w2 p g n S2 → Calls Tryd.prog 21 #[.pointer (some ⟨p, 0, none⟩)] w2 (RowDone w2 (lst S2 n))) := (show _ from fun w2 S2 h2 h3 => setList_any w2 h3 (HT.out.below h2 (by rw [HB.out]; exact Nat.le_refl _)))
      have hi0 : (0 : Int) ≤ (k : Int) := by omega
      have hi1 : (k : Int) < (len1 : Int) := by omega
      generalize hzx : z1 k = x at CELL hcell0
      clear hcell0 hzx hbl
      by_cases hx0 : x < 0
      · have e0 : decide (0 ≤ x) = false := by rw [decide_eq_false_iff_not]; omega
        obtain ⟨S1, S3, hTW⟩ : ∃ S1 S3, TwRound n x S false false S1 S3 := ⟨_, _, TwRound.no (n := n) S (show ¬ (0 ≤ x ∧ x < n) by omega)⟩
        have TW := Lib.hid hTW
        clear hTW
        have c0 := CELL.out wo HBr.out
        go_wp2_with fail
        refine (has_to x TW.out.hadE wo HS.out).mono ?_
        rintro e wq ⟨rfl, rfl⟩
        go_wp2_with fail
        refine (add_to x TW.out.add TW.out.to wo HS.out).mono ?_
        rintro e wq ⟨rfl, hs, hg⟩
        have HS1 := Lib.hid hs
        have HB2 := Lib.hid (STEP.out _ _ HBr.out hg)
        clear hs hg c0
        have c0 := CELL.out wq HB2.out
        go_wp2_with fail
        refine (add_to x TW.out.again TW.out.same wq HS1.out).mono ?_
        rintro e wp ⟨rfl, hs, hg⟩
        have HS2 := Lib.hid hs
        have HB3 := Lib.hid (STEP.out _ _ HB2.out hg)
        clear hs hg c0
        have c0 := CELL.out wp HB3.out
        go_wp2_with fail
        refine (has_to x TW.out.has wp HS2.out).mono ?_
        rintro e wz ⟨rfl, rfl⟩
        by_cases h3 : k % 3 = 2
        · have d3 : (((k : Int) % 3) == 2) = true := by rw [beq_iff_eq]; omega
          go_wp2_with fail
          refine (drop_to x TW.out.has TW.out.down wp HS2.out).mono ?_
          rintro e wd ⟨rfl, hs, hg⟩
          have HS4 := Lib.hid hs
          have HB4 := Lib.hid (STEP.out _ _ HB3.out hg)
          clear hs hg c0
          have c0 := CELL.out wd HB4.out
          go_wp2_with fail
          refine (drop_to x TW.out.gone TW.out.rest wd HS4.out).mono ?_
          rintro e we ⟨rfl, hs, hg⟩
          have HS5 := Lib.hid hs
          have HB5 := Lib.hid (STEP.out _ _ HB4.out hg)
          have hm2 : cnt S3 n = m := by have h1 := TW.out.up; have h2 := TW.out.less; have h3 := HCM.out; simp at h1 h2; omega
          have hle2 := cnt_le S3 n
          have HM2 := Lib.hid hm2
          clear hs hg c0
          go_wp2_with fail
          refine (count_any we HS5.out).mono ?_
          rintro e wf ⟨rfl, rfl⟩
          have HL := Lib.hid (LISTS.out we S3 HB5.out HS5.out)
          have HLE := Lib.hid (lst_len S3 n)
          generalize hcn : cnt S3 n = m3 at hm2 hle2 HLE ⊢
          have hb3 : ((m3 : Int) != (m : Int)) = false := by rw [bne_eq_false_iff_eq]; omega
          go_wp2_with fail
          refine HL.out.mono ?_
          rintro e wf ⟨v, rfl, hr, _, hbf⟩
          rw [HLE.out] at hr
          obtain ⟨va, vc, rfl, _⟩ := hr.read
          have HBF := Lib.hid (HB5.out.trans (hbf.mono (by rw [HB.out]; exact HB5.out.size)))
          have HSF := Lib.hid (HS5.out.keeps (Keeps.of_below hbf (Nat.le_refl _) []) List.not_mem_nil List.not_mem_nil)
          have HREL : Hid (∃ S, SetAt wf p g n S ∧ cnt S n = m ∧ Below B w wf) := (show ∃ S, SetAt wf p g n S ∧ cnt S n = m ∧ Below B w wf from ⟨S3, HSF.out, hcn.trans hm2, HBF.out⟩)
          have hmn : m ≤ n := by omega
          clear hr hbf hcn HSF HBF
          go_wp2
          go_roundw
          case rel => first | exact ⟨k + 1, m, by go_num, by omega, by go_num, hmn, HREL⟩ | ((repeat apply Exists.intro); exact ⟨⟨k + 1, m, by go_num, by omega, by go_num, hmn, HREL⟩, rfl⟩)
          case measure => simp [intOf]; omega
        · have d3 : (((k : Int) % 3) == 2) = false := by rw [beq_eq_false_iff_ne]; omega
          have hm2 : cnt S1 n = m := by have h1 := TW.out.up; have h3 := HCM.out; simp at h1; omega
          have hle2 := cnt_le S1 n
          clear c0
          go_wp2_with fail
          refine (count_any wp HS2.out).mono ?_
          rintro e wf ⟨rfl, rfl⟩
          have HL := Lib.hid (LISTS.out wp S1 HB3.out HS2.out)
          have HLE := Lib.hid (lst_len S1 n)
          generalize hcn : cnt S1 n = m3 at hm2 hle2 HLE ⊢
          have hb3 : ((m3 : Int) != (m : Int)) = false := by rw [bne_eq_false_iff_eq]; omega
          go_wp2_with fail
          refine HL.out.mono ?_
          rintro e wf ⟨v, rfl, hr, _, hbf⟩
          rw [HLE.out] at hr
          obtain ⟨va, vc, rfl, _⟩ := hr.read
          have HBF := Lib.hid (HB3.out.trans (hbf.mono (by rw [HB.out]; exact HB3.out.size)))
          have HSF := Lib.hid (HS2.out.keeps (Keeps.of_below hbf (Nat.le_refl _) []) List.not_mem_nil List.not_mem_nil)
          have HREL : Hid (∃ S, SetAt wf p g n S ∧ cnt S n = m ∧ Below B w wf) := (show ∃ S, SetAt wf p g n S ∧ cnt S n = m ∧ Below B w wf from ⟨S1, HSF.out, hcn.trans hm2, HBF.out⟩)
          have hmn : m ≤ n := by omega
          clear hr hbf hcn HSF HBF
          go_wp2
          go_roundw
          case rel => first | exact ⟨k + 1, m, by go_num, by omega, by go_num, hmn, HREL⟩ | ((repeat apply Exists.intro); exact ⟨⟨k + 1, m, by go_num, by omega, by go_num, hmn, HREL⟩, rfl⟩)
          case measure => simp [intOf]; omega
      · by_cases hxn : (n : Int) ≤ x
        · have e0 : decide (0 ≤ x) = true := by rw [decide_eq_true_iff]; omega
          have e1 : decide (x < (n : Int)) = false := by rw [decide_eq_false_iff_not]; omega
          obtain ⟨S1, S3, hTW⟩ : ∃ S1 S3, TwRound n x S false false S1 S3 := ⟨_, _, TwRound.no (n := n) S (show ¬ (0 ≤ x ∧ x < n) by omega)⟩
          have TW := Lib.hid hTW
          clear hTW
          have c0 := CELL.out wo HBr.out
          go_wp2_with fail
          refine (has_to x TW.out.hadE wo HS.out).mono ?_
          rintro e wq ⟨rfl, rfl⟩
          go_wp2_with fail
          refine (add_to x TW.out.add TW.out.to wo HS.out).mono ?_
          rintro e wq ⟨rfl, hs, hg⟩
          have HS1 := Lib.hid hs
          have HB2 := Lib.hid (STEP.out _ _ HBr.out hg)
          clear hs hg c0
          have c0 := CELL.out wq HB2.out
          go_wp2_with fail
          refine (add_to x TW.out.again TW.out.same wq HS1.out).mono ?_
          rintro e wp ⟨rfl, hs, hg⟩
          have HS2 := Lib.hid hs
          have HB3 := Lib.hid (STEP.out _ _ HB2.out hg)
          clear hs hg c0
          have c0 := CELL.out wp HB3.out
          go_wp2_with fail
          refine (has_to x TW.out.has wp HS2.out).mono ?_
          rintro e wz ⟨rfl, rfl⟩
          by_cases h3 : k % 3 = 2
          · have d3 : (((k : Int) % 3) == 2) = true := by rw [beq_iff_eq]; omega
            go_wp2_with fail
            refine (drop_to x TW.out.has TW.out.down wp HS2.out).mono ?_
            rintro e wd ⟨rfl, hs, hg⟩
            have HS4 := Lib.hid hs
            have HB4 := Lib.hid (STEP.out _ _ HB3.out hg)
            clear hs hg c0
            have c0 := CELL.out wd HB4.out
            go_wp2_with fail
            refine (drop_to x TW.out.gone TW.out.rest wd HS4.out).mono ?_
            rintro e we ⟨rfl, hs, hg⟩
            have HS5 := Lib.hid hs
            have HB5 := Lib.hid (STEP.out _ _ HB4.out hg)
            have hm2 : cnt S3 n = m := by have h1 := TW.out.up; have h2 := TW.out.less; have h3 := HCM.out; simp at h1 h2; omega
            have hle2 := cnt_le S3 n
            have HM2 := Lib.hid hm2
            clear hs hg c0
            go_wp2_with fail
            refine (count_any we HS5.out).mono ?_
            rintro e wf ⟨rfl, rfl⟩
            have HL := Lib.hid (LISTS.out we S3 HB5.out HS5.out)
            have HLE := Lib.hid (lst_len S3 n)
            generalize hcn : cnt S3 n = m3 at hm2 hle2 HLE ⊢
            have hb3 : ((m3 : Int) != (m : Int)) = false := by rw [bne_eq_false_iff_eq]; omega
            go_wp2_with fail
            refine HL.out.mono ?_
            rintro e wf ⟨v, rfl, hr, _, hbf⟩
            rw [HLE.out] at hr
            obtain ⟨va, vc, rfl, _⟩ := hr.read
            have HBF := Lib.hid (HB5.out.trans (hbf.mono (by rw [HB.out]; exact HB5.out.size)))
            have HSF := Lib.hid (HS5.out.keeps (Keeps.of_below hbf (Nat.le_refl _) []) List.not_mem_nil List.not_mem_nil)
            have HREL : Hid (∃ S, SetAt wf p g n S ∧ cnt S n = m ∧ Below B w wf) := (show ∃ S, SetAt wf p g n S ∧ cnt S n = m ∧ Below B w wf from ⟨S3, HSF.out, hcn.trans hm2, HBF.out⟩)
            have hmn : m ≤ n := by omega
            clear hr hbf hcn HSF HBF
            go_wp2
            go_roundw
            case rel => first | exact ⟨k + 1, m, by go_num, by omega, by go_num, hmn, HREL⟩ | ((repeat apply Exists.intro); exact ⟨⟨k + 1, m, by go_num, by omega, by go_num, hmn, HREL⟩, rfl⟩)
            case measure => simp [intOf]; omega
          · have d3 : (((k : Int) % 3) == 2) = false := by rw [beq_eq_false_iff_ne]; omega
            have hm2 : cnt S1 n = m := by have h1 := TW.out.up; have h3 := HCM.out; simp at h1; omega
            have hle2 := cnt_le S1 n
            clear c0
            go_wp2_with fail
            refine (count_any wp HS2.out).mono ?_
            rintro e wf ⟨rfl, rfl⟩
            have HL := Lib.hid (LISTS.out wp S1 HB3.out HS2.out)
            have HLE := Lib.hid (lst_len S1 n)
            generalize hcn : cnt S1 n = m3 at hm2 hle2 HLE ⊢
            have hb3 : ((m3 : Int) != (m : Int)) = false := by rw [bne_eq_false_iff_eq]; omega
            go_wp2_with fail
            refine HL.out.mono ?_
            rintro e wf ⟨v, rfl, hr, _, hbf⟩
            rw [HLE.out] at hr
            obtain ⟨va, vc, rfl, _⟩ := hr.read
            have HBF := Lib.hid (HB3.out.trans (hbf.mono (by rw [HB.out]; exact HB3.out.size)))
            have HSF := Lib.hid (HS2.out.keeps (Keeps.of_below hbf (Nat.le_refl _) []) List.not_mem_nil List.not_mem_nil)
            have HREL : Hid (∃ S, SetAt wf p g n S ∧ cnt S n = m ∧ Below B w wf) := (show ∃ S, SetAt wf p g n S ∧ cnt S n = m ∧ Below B w wf from ⟨S1, HSF.out, hcn.trans hm2, HBF.out⟩)
            have hmn : m ≤ n := by omega
            clear hr hbf hcn HSF HBF
            go_wp2
            go_roundw
            case rel => first | exact ⟨k + 1, m, by go_num, by omega, by go_num, hmn, HREL⟩ | ((repeat apply Exists.intro); exact ⟨⟨k + 1, m, by go_num, by omega, by go_num, hmn, HREL⟩, rfl⟩)
            case measure => simp [intOf]; omega
        · obtain ⟨y, rfl⟩ := Int.eq_ofNat_of_zero_le (show 0 ≤ x by omega)
          have hyn : y < n := by omega
          have e0 : decide (0 ≤ (y : Int)) = true := by rw [decide_eq_true_iff]; omega
          have e1 : decide ((y : Int) < (n : Int)) = true := by rw [decide_eq_true_iff]; omega
          have TW0 := TwRound.yes S hyn
          cases hSy : S y
          · rw [hSy] at TW0
            obtain ⟨S1, S3, hTW⟩ : ∃ S1 S3, TwRound n (y : Int) S true false S1 S3 := ⟨_, _, TW0⟩
            have TW := Lib.hid hTW
            clear TW0 hSy
            clear hTW
            have c0 := CELL.out wo HBr.out
            go_wp2_with fail
            refine (has_to (y : Int) TW.out.hadE wo HS.out).mono ?_
            rintro e wq ⟨rfl, rfl⟩
            go_wp2_with fail
            refine (add_to (y : Int) TW.out.add TW.out.to wo HS.out).mono ?_
            rintro e wq ⟨rfl, hs, hg⟩
            have HS1 := Lib.hid hs
            have HB2 := Lib.hid (STEP.out _ _ HBr.out hg)
            clear hs hg c0
            have c0 := CELL.out wq HB2.out
            go_wp2_with fail
            refine (add_to (y : Int) TW.out.again TW.out.same wq HS1.out).mono ?_
            rintro e wp ⟨rfl, hs, hg⟩
            have HS2 := Lib.hid hs
            have HB3 := Lib.hid (STEP.out _ _ HB2.out hg)
            clear hs hg c0
            have c0 := CELL.out wp HB3.out
            go_wp2_with fail
            refine (has_to (y : Int) TW.out.has wp HS2.out).mono ?_
            rintro e wz ⟨rfl, rfl⟩
            by_cases h3 : k % 3 = 2
            · have d3 : (((k : Int) % 3) == 2) = true := by rw [beq_iff_eq]; omega
              go_wp2_with fail
              refine (drop_to (y : Int) TW.out.has TW.out.down wp HS2.out).mono ?_
              rintro e wd ⟨rfl, hs, hg⟩
              have HS4 := Lib.hid hs
              have HB4 := Lib.hid (STEP.out _ _ HB3.out hg)
              clear hs hg c0
              have c0 := CELL.out wd HB4.out
              go_wp2_with fail
              refine (drop_to (y : Int) TW.out.gone TW.out.rest wd HS4.out).mono ?_
              rintro e we ⟨rfl, hs, hg⟩
              have HS5 := Lib.hid hs
              have HB5 := Lib.hid (STEP.out _ _ HB4.out hg)
              have hm2 : cnt S3 n = m := by have h1 := TW.out.up; have h2 := TW.out.less; have h3 := HCM.out; simp at h1 h2; omega
              have hle2 := cnt_le S3 n
              have HM2 := Lib.hid hm2
              clear hs hg c0
              go_wp2_with fail
              refine (count_any we HS5.out).mono ?_
              rintro e wf ⟨rfl, rfl⟩
              have HL := Lib.hid (LISTS.out we S3 HB5.out HS5.out)
              have HLE := Lib.hid (lst_len S3 n)
              generalize hcn : cnt S3 n = m3 at hm2 hle2 HLE ⊢
              have hb3 : ((m3 : Int) != (m : Int) + 1 - 1) = false := by rw [bne_eq_false_iff_eq]; omega
              go_wp2_with fail
              refine HL.out.mono ?_
              rintro e wf ⟨v, rfl, hr, _, hbf⟩
              rw [HLE.out] at hr
              obtain ⟨va, vc, rfl, _⟩ := hr.read
              have HBF := Lib.hid (HB5.out.trans (hbf.mono (by rw [HB.out]; exact HB5.out.size)))
              have HSF := Lib.hid (HS5.out.keeps (Keeps.of_below hbf (Nat.le_refl _) []) List.not_mem_nil List.not_mem_nil)
              have HREL : Hid (∃ S, SetAt wf p g n S ∧ cnt S n = m ∧ Below B w wf) := (show ∃ S, SetAt wf p g n S ∧ cnt S n = m ∧ Below B w wf from ⟨S3, HSF.out, hcn.trans hm2, HBF.out⟩)
              have hmn : m ≤ n := by omega
              clear hr hbf hcn HSF HBF
              go_wp2
              go_roundw
              case rel => first | exact ⟨k + 1, m, by go_num, by omega, by go_num, hmn, HREL⟩ | ((repeat apply Exists.intro); exact ⟨⟨k + 1, m, by go_num, by omega, by go_num, hmn, HREL⟩, rfl⟩)
              case measure => simp [intOf]; omega
            · have d3 : (((k : Int) % 3) == 2) = false := by rw [beq_eq_false_iff_ne]; omega
              have hm2 : cnt S1 n = m + 1 := by have h1 := TW.out.up; have h3 := HCM.out; simp at h1; omega
              have hle2 := cnt_le S1 n
              clear c0
              go_wp2_with fail
              refine (count_any wp HS2.out).mono ?_
              rintro e wf ⟨rfl, rfl⟩
              have HL := Lib.hid (LISTS.out wp S1 HB3.out HS2.out)
              have HLE := Lib.hid (lst_len S1 n)
              generalize hcn : cnt S1 n = m3 at hm2 hle2 HLE ⊢
              have hb3 : ((m3 : Int) != (m : Int) + 1) = false := by rw [bne_eq_false_iff_eq]; omega
              go_wp2_with fail
              refine HL.out.mono ?_
              rintro e wf ⟨v, rfl, hr, _, hbf⟩
              rw [HLE.out] at hr
              obtain ⟨va, vc, rfl, _⟩ := hr.read
              have HBF := Lib.hid (HB3.out.trans (hbf.mono (by rw [HB.out]; exact HB3.out.size)))
              have HSF := Lib.hid (HS2.out.keeps (Keeps.of_below hbf (Nat.le_refl _) []) List.not_mem_nil List.not_mem_nil)
              have HREL : Hid (∃ S, SetAt wf p g n S ∧ cnt S n = m + 1 ∧ Below B w wf) := (show ∃ S, SetAt wf p g n S ∧ cnt S n = m + 1 ∧ Below B w wf from ⟨S1, HSF.out, hcn.trans hm2, HBF.out⟩)
              have hmn : m + 1 ≤ n := by omega
              clear hr hbf hcn HSF HBF
              go_wp2
              go_roundw
              case rel => first | exact ⟨k + 1, m + 1, by go_num, by omega, by go_num, hmn, HREL⟩ | ((repeat apply Exists.intro); exact ⟨⟨k + 1, m + 1, by go_num, by omega, by go_num, hmn, HREL⟩, rfl⟩)
              case measure => simp [intOf]; omega
          · rw [hSy] at TW0
            obtain ⟨S1, S3, hTW⟩ : ∃ S1 S3, TwRound n (y : Int) S true true S1 S3 := ⟨_, _, TW0⟩
            have TW := Lib.hid hTW
            clear TW0 hSy
            clear hTW
            have c0 := CELL.out wo HBr.out
            go_wp2_with fail
            refine (has_to (y : Int) TW.out.hadE wo HS.out).mono ?_
            rintro e wq ⟨rfl, rfl⟩
            go_wp2_with fail
            refine (add_to (y : Int) TW.out.add TW.out.to wo HS.out).mono ?_
            rintro e wq ⟨rfl, hs, hg⟩
            have HS1 := Lib.hid hs
            have HB2 := Lib.hid (STEP.out _ _ HBr.out hg)
            clear hs hg c0
            have c0 := CELL.out wq HB2.out
            go_wp2_with fail
            refine (add_to (y : Int) TW.out.again TW.out.same wq HS1.out).mono ?_
            rintro e wp ⟨rfl, hs, hg⟩
            have HS2 := Lib.hid hs
            have HB3 := Lib.hid (STEP.out _ _ HB2.out hg)
            clear hs hg c0
            have c0 := CELL.out wp HB3.out
            go_wp2_with fail
            refine (has_to (y : Int) TW.out.has wp HS2.out).mono ?_
            rintro e wz ⟨rfl, rfl⟩
            by_cases h3 : k % 3 = 2
            · have d3 : (((k : Int) % 3) == 2) = true := by rw [beq_iff_eq]; omega
              go_wp2_with fail
              refine (drop_to (y : Int) TW.out.has TW.out.down wp HS2.out).mono ?_
              rintro e wd ⟨rfl, hs, hg⟩
              have HS4 := Lib.hid hs
              have HB4 := Lib.hid (STEP.out _ _ HB3.out hg)
              clear hs hg c0
              have c0 := CELL.out wd HB4.out
              go_wp2_with fail
              refine (drop_to (y : Int) TW.out.gone TW.out.rest wd HS4.out).mono ?_
              rintro e we ⟨rfl, hs, hg⟩
              have HS5 := Lib.hid hs
              have HB5 := Lib.hid (STEP.out _ _ HB4.out hg)
              have hm2 : cnt S3 n = m - 1 := by have h1 := TW.out.up; have h2 := TW.out.less; have h3 := HCM.out; simp at h1 h2; omega
              have hle2 := cnt_le S3 n
              have HM2 := Lib.hid hm2
              have hm1 : 1 ≤ m := by have h2 := TW.out.less; have h1 := TW.out.up; have h3 := HCM.out; simp at h1 h2; omega
              clear hs hg c0
              go_wp2_with fail
              refine (count_any we HS5.out).mono ?_
              rintro e wf ⟨rfl, rfl⟩
              have HL := Lib.hid (LISTS.out we S3 HB5.out HS5.out)
              have HLE := Lib.hid (lst_len S3 n)
              generalize hcn : cnt S3 n = m3 at hm2 hle2 HLE ⊢
              have hb3 : ((m3 : Int) != (m : Int) - 1) = false := by rw [bne_eq_false_iff_eq]; omega
              go_wp2_with fail
              refine HL.out.mono ?_
              rintro e wf ⟨v, rfl, hr, _, hbf⟩
              rw [HLE.out] at hr
              obtain ⟨va, vc, rfl, _⟩ := hr.read
              have HBF := Lib.hid (HB5.out.trans (hbf.mono (by rw [HB.out]; exact HB5.out.size)))
              have HSF := Lib.hid (HS5.out.keeps (Keeps.of_below hbf (Nat.le_refl _) []) List.not_mem_nil List.not_mem_nil)
              have HREL : Hid (∃ S, SetAt wf p g n S ∧ cnt S n = m - 1 ∧ Below B w wf) := (show ∃ S, SetAt wf p g n S ∧ cnt S n = m - 1 ∧ Below B w wf from ⟨S3, HSF.out, hcn.trans hm2, HBF.out⟩)
              have hmn : m - 1 ≤ n := by omega
              clear hr hbf hcn HSF HBF
              go_wp2
              go_roundw
              case rel => first | exact ⟨k + 1, m - 1, by go_num, by omega, by go_num, hmn, HREL⟩ | ((repeat apply Exists.intro); exact ⟨⟨k + 1, m - 1, by go_num, by omega, by go_num, hmn, HREL⟩, rfl⟩)
              case measure => simp [intOf]; omega
            · have d3 : (((k : Int) % 3) == 2) = false := by rw [beq_eq_false_iff_ne]; omega
              have hm2 : cnt S1 n = m := by have h1 := TW.out.up; have h3 := HCM.out; simp at h1; omega
              have hle2 := cnt_le S1 n
              clear c0
              go_wp2_with fail
              refine (count_any wp HS2.out).mono ?_
              rintro e wf ⟨rfl, rfl⟩
              have HL := Lib.hid (LISTS.out wp S1 HB3.out HS2.out)
              have HLE := Lib.hid (lst_len S1 n)
              generalize hcn : cnt S1 n = m3 at hm2 hle2 HLE ⊢
              have hb3 : ((m3 : Int) != (m : Int)) = false := by rw [bne_eq_false_iff_eq]; omega
              go_wp2_with fail
              refine HL.out.mono ?_
              rintro e wf ⟨v, rfl, hr, _, hbf⟩
              rw [HLE.out] at hr
              obtain ⟨va, vc, rfl, _⟩ := hr.read
              have HBF := Lib.hid (HB3.out.trans (hbf.mono (by rw [HB.out]; exact HB3.out.size)))
              have HSF := Lib.hid (HS2.out.keeps (Keeps.of_below hbf (Nat.le_refl _) []) List.not_mem_nil List.not_mem_nil)
              have HREL : Hid (∃ S, SetAt wf p g n S ∧ cnt S n = m ∧ Below B w wf) := (show ∃ S, SetAt wf p g n S ∧ cnt S n = m ∧ Below B w wf from ⟨S1, HSF.out, hcn.trans hm2, HBF.out⟩)
              have hmn : m ≤ n := by omega
              clear hr hbf hcn HSF HBF
              go_wp2
              go_roundw
              case rel => first | exact ⟨k + 1, m, by go_num, by omega, by go_num, hmn, HREL⟩ | ((repeat apply Exists.intro); exact ⟨⟨k + 1, m, by go_num, by omega, by go_num, hmn, HREL⟩, rfl⟩)
              case measure => simp [intOf]; omega
    · obtain rfl : k = len1 := by omega
      clear hlt
      go_wp2
      go_ret
      exact ⟨rfl, by rw [← HB.out]; exact HBr.out⟩
theorem setTwice.walk (a0 : Int) (a1 : Option Addr) (len1 cap1 : Nat) (z1 : Nat → Int) (w : World) (w0 : (Lit.int .i64 a0).wf = true) (w1 : Ints .i64 w a1 len1 cap1 z1) (hT : TzTab w) :
    Calls Tryd.prog 4 #[.int .i64 a0, .slice a1 len1 cap1] w fun e w' => e = .returned (.bool true) ∧ Below w.heap.size w w' := by
  by_cases hd : 0 ≤ a0 ∧ a0 ≤ 300 ∧ len1 ≤ 100
  · obtain ⟨h1, h2, h5⟩ := hd
    obtain ⟨n, rfl⟩ := Int.eq_ofNat_of_zero_le h1
    exact setTwice.into n a1 len1 cap1 z1 w w1 hT (by omega) h5
  · exact setTwice.out a0 a1 len1 cap1 w hd
end Go.Proofs.YtkfgpgllpegleaaDoor
