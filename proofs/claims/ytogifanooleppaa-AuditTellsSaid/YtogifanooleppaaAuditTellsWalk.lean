/- The walk of the law AuditTells: it answers true for every input. -/
import Derived.Test.YtogifanooleppaaAudRefW
import Derived.Test.YtogifanooleppaaSameIntsR
import Derived.Test.YtogifanooleppaaAuditAllWalk
namespace Go.Proofs.Ytogifanooleppaa
open Go.RowKit Go.Maps
set_option linter.unusedVariables false

theorem auditTells.out (a0 : Option Addr) (len0 cap0 : Nat) (a1 : Option Addr) (len1 cap1 : Nat) (a2 : Option Addr) (len2 cap2 : Nat) (w : World) (h0 : len0 ≤ 9223372036854775807) (h1 : len1 ≤ 9223372036854775807) (h2 : len2 ≤ 9223372036854775807) (hd : 40 < len0 ∨ (len0 ≤ 40 ∧ 40 < len1) ∨ (len0 ≤ 40 ∧ len1 ≤ 40 ∧ 40 < len2)) :
    Calls Try.prog 8 #[.slice a0 len0 cap0, .slice a1 len1 cap1, .slice a2 len2 cap2] w fun e w' => e = .returned (.bool true) ∧ Below w.heap.size w w' := by
  rcases hd with h | ⟨h, h'⟩ | ⟨h, h', h''⟩
  all_goals
    go_enter Try.func8, Try.ntmps8
    go_wp2_with (go_at_call 35; refine (alive24 _).mono ?_; rintro e w' ⟨rfl, hb⟩)
    go_ret
    exact ⟨rfl, by assumption⟩
set_option maxRecDepth 100000 in
set_option maxHeartbeats 4000000 in
theorem auditTells.into (a0 : Option Addr) (len0 cap0 : Nat) (a1 : Option Addr) (len1 cap1 : Nat) (a2 : Option Addr) (len2 cap2 : Nat) (l : List ObjV) (roots zeros : List Int) (w : World) (h : ObjsAt w a0 len0 cap0 l) (hr : NumsAt w a1 len1 cap1 roots) (hz : NumsAt w a2 len2 cap2 zeros) (hd0 : len0 ≤ 40) (hd1 : len1 ≤ 40) (hd2 : len2 ≤ 40) :
    Calls Try.prog 8 #[.slice a0 len0 cap0, .slice a1 len1 cap1, .slice a2 len2 cap2] w fun e w' => e = .returned (.bool true) ∧ Below w.heap.size w w' := by
  have HO := Lib.hid h
  have HR := Lib.hid hr
  have HZ := Lib.hid hz
  have hlen := h.size
  have HCP := Lib.hid h.le
  have d0 : decide ((40 : Int) < (len0 : Int)) = false := by rw [decide_eq_false_iff_not]; omega
  have d1 : decide ((40 : Int) < (len1 : Int)) = false := by rw [decide_eq_false_iff_not]; omega
  have d2 : decide ((40 : Int) < (len2 : Int)) = false := by rw [decide_eq_false_iff_not]; omega
  obtain ⟨B, hB⟩ : ∃ B, B = w.heap.size := ⟨_, rfl⟩
  have HB := Lib.hid hB
  have HSB : Hid (∀ W, Below B w W → B ≤ W.heap.size) := (show ∀ W, Below B w W → B ≤ W.heap.size from fun W hb => by rw [HB.out]; exact hb.size)
  have HTR : Hid (∀ W W', Below B w W → Below W.heap.size W W' → Below B w W') := (show ∀ W W', Below B w W → Below W.heap.size W W' → Below B w W' from fun W W' h1 h2 => h1.trans (h2.mono (HSB.out _ h1)))
  clear h hr hz hB
  go_enter Try.func8, Try.ntmps8
  go_wp2_with fail
  refine (alive24 _).mono ?_
  rintro e w1 ⟨rfl, hb1⟩
  have HB1 : Hid (Below B w w1) := (show Below B w w1 by rw [HB.out]; exact hb1)
  clear hb1
  go_wp2_with fail
  go_loop [8] (fun i => ∃ (k : Nat), i = .int .i64 (k : Nat) ∧ k ≤ len0 ∧ Hid (∀ o ∈ l.take k, o.rl ≤ 40)) (fun i => len0 - (intOf i).toNat)
  case atStart => exact ⟨0, rfl, Nat.zero_le _, fun o ho => by simp at ho⟩
  case round =>
    obtain ⟨k, rfl, hk, hs⟩ := hrel
    by_cases hlt : k < len0
    · obtain ⟨o, ho⟩ : ∃ o, l[k]? = some o := ⟨l[k]'(by omega), List.getElem?_eq_getElem (by omega)⟩
      obtain ⟨b, off, rfl, hbl, _, _, _, _, c4⟩ := obj_at HO.out HB1.out HB.out ho
      have hi0 : (0 : Int) ≤ (k : Int) := by omega
      have hi1 : (k : Int) < (len0 : Int) := by omega
      have hrm : o.rl ≤ 9223372036854775807 := by have := (HO.out.refs o (List.mem_of_getElem? ho)).ints; have h1 := this.le; have h2 := this.max; omega
      by_cases hr : 40 < o.rl
      · clear ho hs
        go_wp2
        go_ret
        exact ⟨rfl, by rw [← HB.out]; exact HB1.out⟩
      · have hr' : o.rl ≤ 40 := by omega
        have HRL : Hid (∀ o ∈ l.take (k + 1), o.rl ≤ 40) := (show ∀ o ∈ l.take (k + 1), o.rl ≤ 40 by
          intro o2 ho2
          rw [List.take_add_one, ho, List.mem_append] at ho2
          rcases ho2 with ho2 | ho2
          · exact hs.out o2 ho2
          · simp at ho2; rw [ho2]; exact hr')
        clear ho hs hr
        go_wp2
        go_round
        case rel => exact ⟨k + 1, by go_num, by omega, HRL⟩
        case measure => simp [intOf]; omega
    · obtain rfl : k = len0 := by omega
      have htk : l.take k = l := List.take_of_length_le (by omega)
      rw [htk] at hs
      have hrn : refsN l ≤ k * 40 := refs_le40 HO.out hs.out
      obtain ⟨S1, hS1, hS2⟩ := rch_list l roots
      obtain ⟨S3, hS3, hS4⟩ := wrong_list l zeros
      have HOW : Hid (∀ W, Below B w W → ObjsAt W a0 k cap0 l ∧ NumsAt W a1 len1 cap1 roots ∧ NumsAt W a2 len2 cap2 zeros) := (show ∀ W, Below B w W → ObjsAt W a0 k cap0 l ∧ NumsAt W a1 len1 cap1 roots ∧ NumsAt W a2 len2 cap2 zeros from fun W hb => by
        rw [HB.out] at hb
        exact ⟨HO.out.below hb, HR.out.below hb, HZ.out.below hb⟩)
      have C1 := Lib.hid (fun W hb => reach_any a0 a1 k cap0 len1 cap1 l roots S1 W (HOW.out W hb).1 (HOW.out W hb).2.1 (by omega) hS1 hS2)
      have C2 := Lib.hid (fun W hb => rreach_any a0 a1 k cap0 len1 cap1 l roots S1 W (HOW.out W hb).1 (HOW.out W hb).2.1 (by omega) hS1 hS2)
      have C3 := Lib.hid (fun W hb => counts_any a0 k cap0 l W (HOW.out W hb).1 (by omega))
      have C4 := Lib.hid (fun W hb => rcounts_any a0 k cap0 l W (HOW.out W hb).1 (by omega))
      have C5 := Lib.hid (fun W hb => wrong_any a0 a2 k cap0 len2 cap2 l zeros S3 W (HOW.out W hb).1 (HOW.out W hb).2.2 (by omega) hS3 hS4)
      have C6 := Lib.hid (fun W hb => rwrong_any a0 a2 k cap0 len2 cap2 l zeros S3 W (HOW.out W hb).1 (HOW.out W hb).2.2 (by omega) hS3 hS4)
      generalize (l.map fun o => ((countR l o.h : Nat) : Int)) = D at C3 C4
      clear hs htk hrn hS1 hS2 hS3 hS4 hlt
      go_wp2_with fail
      refine (C1.out _ HB1.out).mono ?_
      rintro e w2 ⟨v2, rfl, hr2, _, hb2⟩
      have HB2 := Lib.hid (HTR.out _ _ HB1.out hb2)
      have HV2 := Lib.hid hr2
      clear hr2 hb2
      go_wp2_with fail
      refine (C2.out _ HB2.out).mono ?_
      rintro e w3 ⟨v3, rfl, hr3, _, hb3⟩
      have HB3 := Lib.hid (HTR.out _ _ HB2.out hb3)
      have HV3 := Lib.hid (sameInts_r S1 v2 v3 w3 (HV2.out.keeps (Keeps.of_below hb3 (Nat.le_refl _) []) fun _ _ => List.not_mem_nil) hr3)
      clear hr3 hb3
      go_wp2_with fail
      refine HV3.out.mono ?_
      rintro e w4 ⟨rfl, k4, rfl⟩
      have HB4 := Lib.hid (bel_drewN HB3.out k4)
      go_wp2_with fail
      refine (C3.out _ HB4.out).mono ?_
      rintro e w5 ⟨v5, rfl, hr5, _, hb5⟩
      have HB5 := Lib.hid (HTR.out _ _ HB4.out hb5)
      have HV5 := Lib.hid hr5
      clear hr5 hb5
      go_wp2_with fail
      refine (C4.out _ HB5.out).mono ?_
      rintro e w6 ⟨v6, rfl, hr6, _, hb6⟩
      have HB6 := Lib.hid (HTR.out _ _ HB5.out hb6)
      have HV6 := Lib.hid (sameInts_r D v5 v6 w6 (HV5.out.keeps (Keeps.of_below hb6 (Nat.le_refl _) []) fun _ _ => List.not_mem_nil) hr6)
      clear hr6 hb6
      go_wp2_with fail
      refine HV6.out.mono ?_
      rintro e w7 ⟨rfl, k7, rfl⟩
      have HB7 := Lib.hid (bel_drewN HB6.out k7)
      go_wp2_with fail
      refine (C5.out _ HB7.out).mono ?_
      rintro e w8 ⟨v8, rfl, hr8, _, hb8⟩
      have HB8 := Lib.hid (HTR.out _ _ HB7.out hb8)
      have HV8 := Lib.hid hr8
      clear hr8 hb8
      go_wp2_with fail
      refine (C6.out _ HB8.out).mono ?_
      rintro e w9 ⟨v9, rfl, hr9, _, hb9⟩
      have HB9 := Lib.hid (HTR.out _ _ HB8.out hb9)
      have HV9 := Lib.hid (sameInts_r S3 v8 v9 w9 (HV8.out.keeps (Keeps.of_below hb9 (Nat.le_refl _) []) fun _ _ => List.not_mem_nil) hr9)
      clear hr9 hb9
      go_wp2_with fail
      refine HV9.out.mono ?_
      rintro e w10 ⟨rfl, k10, rfl⟩
      go_wp2
      go_ret
      exact ⟨rfl, by rw [← HB.out]; exact bel_drewN HB9.out k10⟩
/-- what is told of the argument 0 -/
def auditTells.arg0 (w : World) (a : Option Addr) (len cap : Nat) : Prop := objsArg w a len cap
theorem auditTells.walk (a0 : Option Addr) (len0 cap0 : Nat) (a1 : Option Addr) (len1 cap1 : Nat) (z1 : Nat → Int) (a2 : Option Addr) (len2 cap2 : Nat) (z2 : Nat → Int) (w : World) (w0 : auditTells.arg0 w a0 len0 cap0) (w1 : Ints .i64 w a1 len1 cap1 z1) (w2 : Ints .i64 w a2 len2 cap2 z2) :
    Calls Try.prog 8 #[.slice a0 len0 cap0, .slice a1 len1 cap1, .slice a2 len2 cap2] w fun e w' => e = .returned (.bool true) ∧ Below w.heap.size w w' := by
  obtain ⟨l, h⟩ := objs_of w0
  by_cases hd : len0 ≤ 40 ∧ len1 ≤ 40 ∧ len2 ≤ 40
  · exact auditTells.into a0 len0 cap0 a1 len1 cap1 a2 len2 cap2 l _ _ w h (NumsAt.of w1) (NumsAt.of w2) hd.1 hd.2.1 hd.2.2
  · exact auditTells.out a0 len0 cap0 a1 len1 cap1 a2 len2 cap2 w (by have := h.le; have := h.max; omega) (by have := w1.le; have := w1.max; omega) (by have := w2.le; have := w2.max; omega) (by omega)
end Go.Proofs.Ytogifanooleppaa
