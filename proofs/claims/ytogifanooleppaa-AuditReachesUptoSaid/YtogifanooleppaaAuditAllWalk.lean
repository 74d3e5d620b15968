/- The walk of the law AuditAll: it answers true for every input. -/
import Derived.Test.YtogifanooleppaaAudAlive
import Derived.BigQuiet
namespace Go.Proofs.Ytogifanooleppaa
open Go.RowKit Go.Maps
set_option linter.unusedVariables false

theorem NumsAt.drewN {w : World} {a : Option Addr} {len cap : Nat} {l : List Int} (h : NumsAt w a len cap l) (n : Nat) : NumsAt (w.drewN n) a len cap l := h.below (bel_drewN (Below.refl _ _) n)
theorem has_to24 {a : Option Addr} {len cap : Nat} {l : List Int} {x : Int} {b : Bool} (hb : decide (x ∈ l) = b) (w : World) (h : NumsAt w a len cap l) :
    Calls Try.prog 43 #[.slice a len cap, .int .i64 x] w fun e w' => e = .returned (.bool b) ∧ w = w' :=
  (has_any24 a len cap l x w h).mono fun _ _ q => ⟨q.1.trans (ret_bool hb), q.2⟩
theorem refs_le40 {l : List ObjV} {w : World} {a : Option Addr} {len cap : Nat} (h : ObjsAt w a len cap l) {m : Nat} (hr : ∀ o ∈ l, o.rl ≤ m) : refsN l ≤ len * m := by
  have := refsN_le (l := l) (m := m) fun o ho => by rw [(h.refs o ho).size]; exact hr o ho
  rw [h.size] at this
  exact this
theorem take_map_next {l : List ObjV} {k : Nat} {o : ObjV} (h : l[k]? = some o) : (l.take (k + 1)).map (·.h) = (l.take k).map (·.h) ++ [o.h] := by
  rw [List.take_add_one, h, List.map_append]; rfl
theorem rise_step {S : List Int} (h : S.Pairwise (· < ·)) {j : Nat} (hj : j + 1 < S.length) : hg S j < hg S (j + 1) := by
  have h1 := List.pairwise_iff_getElem.1 h j (j + 1) (by omega) hj (by omega)
  unfold hg
  rw [List.getElem?_eq_getElem hj, List.getElem?_eq_getElem (by omega)]
  exact h1
theorem auditAll.out (a0 : Option Addr) (len0 cap0 : Nat) (w : World) (hd : 40 < len0) (hm : len0 ≤ 9223372036854775807) :
    Calls Try.prog 11 #[.slice a0 len0 cap0] w fun e w' => e = .returned (.bool true) ∧ Below w.heap.size w w' := by
  go_enter Try.func11, Try.ntmps11
  go_wp2_with (go_at_call 35; refine (alive24 _).mono ?_; rintro e w' ⟨rfl, hb⟩)
  go_ret
  exact ⟨rfl, by assumption⟩
set_option maxRecDepth 100000 in
set_option maxHeartbeats 1000000 in
theorem auditAll.into (a0 : Option Addr) (len0 cap0 : Nat) (l : List ObjV) (w : World) (h : ObjsAt w a0 len0 cap0 l) (hd : len0 ≤ 40) :
    Calls Try.prog 11 #[.slice a0 len0 cap0] w fun e w' => e = .returned (.bool true) ∧ Below w.heap.size w w' := by
  obtain ⟨i0, hi, hz0, hz1, hz2⟩ := info_parts leastInfo1
  have HI := Lib.hid hi
  have HZ0 := Lib.hid hz0
  have HZ1 := Lib.hid hz1
  have HZ2 := Lib.hid hz2
  have HO := Lib.hid h
  have hlen := h.size
  have HCP := Lib.hid h.le
  have HMX := Lib.hid h.max
  have dd : decide ((40 : Int) < (len0 : Int)) = false := by rw [decide_eq_false_iff_not]; omega
  obtain ⟨B, hB⟩ : ∃ B, B = w.heap.size := ⟨_, rfl⟩
  have HB := Lib.hid hB
  have HSB : Hid (∀ W, Below B w W → B ≤ W.heap.size) := (show ∀ W, Below B w W → B ≤ W.heap.size from fun W hb => by rw [HB.out]; exact hb.size)
  clear h hi hz0 hz1 hz2 hB
  go_enter Try.func11, Try.ntmps11
  go_wp2_with fail
  refine (alive24 _).mono ?_
  rintro e w1 ⟨rfl, hb1⟩
  have HB1 : Hid (Below B w w1) := (show Below B w w1 by rw [HB.out]; exact hb1)
  clear hb1
  go_wp2_with fail
  go_loopw [4, 5] (fun v i wr => ∃ (k : Nat), i = .int .i64 (k : Nat) ∧ k ≤ len0 ∧ Hid (AccI w1 v ((l.take k).map (·.h)) wr ∧ ∀ o ∈ l.take k, o.rl ≤ 40)) (fun _ i _ => len0 - (intOf i).toNat)
  case atStart => exact ⟨0, rfl, Nat.zero_le _, ⟨AccI.start w1, fun o ho => by simp at ho⟩⟩
  case round =>
    obtain ⟨k, rfl, hk, hs⟩ := hrel
    obtain ⟨wo, rfl⟩ : ∃ wo : World, wo = wr := ⟨_, rfl⟩
    by_cases hlt : k < len0
    · obtain ⟨o, ho⟩ : ∃ o, l[k]? = some o := ⟨l[k]'(by omega), List.getElem?_eq_getElem (by omega)⟩
      obtain ⟨b, off, rfl, hbl, d0, _, _, _, d4⟩ := HO.out.cell k o ho
      have hbw : Below B w wo := HB1.out.trans (hs.out.1.bel.mono (HSB.out _ HB1.out))
      have c0 := (hbw.cell (p := ⟨b, off + k * 5, none⟩) (by rw [HB.out]; exact hbl)).trans d0
      have c4 := (hbw.cell (p := ⟨b, off + k * 5 + 4, none⟩) (by rw [HB.out]; exact hbl)).trans d4
      have hi0 : (0 : Int) ≤ (k : Int) := by omega
      have hi1 : (k : Int) < (len0 : Int) := by omega
      have hrm : o.rl ≤ 9223372036854775807 := by have := (HO.out.refs o (List.mem_of_getElem? ho)).ints; have h1 := this.le; have h2 := this.max; omega
      by_cases hr : 40 < o.rl
      · have HBF := Lib.hid hbw
        clear d0 d4 ho hbw hs
        go_wp2
        go_ret
        exact ⟨rfl, by rw [← HB.out]; exact HBF.out⟩
      · have hr' : o.rl ≤ 40 := by omega
        have HST := Lib.hid (take_map_next ho)
        have HRL : Hid (∀ o ∈ l.take (k + 1), o.rl ≤ 40) := (show ∀ o ∈ l.take (k + 1), o.rl ≤ 40 by
          intro o2 ho2
          rw [List.take_add_one, ho, List.mem_append] at ho2
          rcases ho2 with ho2 | ho2
          · exact hs.out.2 o2 ho2
          · simp at ho2; rw [ho2]; exact hr')
        have HA := Lib.hid hs.out.1
        have HLL : Hid (((l.take k).map (·.h)).length ≤ 40) := (show ((l.take k).map (·.h)).length ≤ 40 by rw [List.length_map, List.length_take]; omega)
        generalize (l.take k).map (·.h) = acc at HA HST HLL
        have HO1 : Hid (acc.length + 1 ≤ maxLen) := (show acc.length + 1 ≤ maxLen by have := HLL.out; unfold maxLen; omega)
        have HO2 : Hid ((acc.length + 1) * 8 ≤ 140737488355328) := (show (acc.length + 1) * 8 ≤ 140737488355328 by have := HLL.out; omega)
        clear d0 d4 ho hbw hs hr
        go_wp2_with (at_builtin; refine wpList_row (by rfl) (.tmp 31) (.tmp 37) 23 rfl 3 i0 (.int .i64 0) 1 8 Try.underlying23 HI.out HZ0.out HZ1.out HZ2.out rfl (by decide) u4 acc.length (intC acc) rfl (HA.out.src _) (.slice (some ⟨wo.heap.size, 0, none⟩) 1 1) 1 [.int .i64 o.h] rfl (new_one _ _ _) (one_of rfl) HO1.out HO2.out ?_)
        intro v2 w2 hr2 hg2 hv2
        have HA2 : Hid (AccI w1 v2 ((l.take (k + 1)).map (·.h)) w2 ∧ ∀ o ∈ l.take (k + 1), o.rl ≤ 40) := (show AccI w1 v2 ((l.take (k + 1)).map (·.h)) w2 ∧ ∀ o ∈ l.take (k + 1), o.rl ≤ 40 from ⟨by rw [HST.out]; exact HA.out.push hr2 hg2 hv2, HRL.out⟩)
        clear hr2 hg2 hv2
        go_wp2
        go_roundw
        case rel => first | exact ⟨k + 1, by go_num, by omega, HA2⟩ | ((repeat apply Exists.intro); exact ⟨⟨k + 1, by go_num, by omega, HA2⟩, rfl⟩)
        case measure => simp [intOf]; omega
    · obtain rfl : k = len0 := by omega
      have htk : l.take k = l := List.take_of_length_le (by omega)
      rw [htk] at hs
      obtain ⟨ah, ch, hve, hp1, hp2, _, _⟩ := hs.out.1.row.read
      obtain ⟨H, hH⟩ : ∃ H, H = l.map (·.h) := ⟨_, rfl⟩
      have HLN : Hid (H.length = k) := (show H.length = k by rw [hH, List.length_map]; exact hlen)
      have HWF : Hid (∀ x ∈ H, (Lit.int .i64 x).wf = true) := (show ∀ x ∈ H, (Lit.int .i64 x).wf = true from fun x hx => by
        rw [hH] at hx
        obtain ⟨o, ho, rfl⟩ := List.mem_map.1 hx
        exact HO.out.wf o ho)
      have HNH : Hid (NumsAt wo ah k ch H) := (show NumsAt wo ah k ch H by
        have hr := hs.out.1.row
        rw [hve, ← hH, HLN.out] at hr
        exact hr.nums HLN.out HWF.out)
      have hbw : Below B w wo := HB1.out.trans (hs.out.1.bel.mono (HSB.out _ HB1.out))
      have HBW := Lib.hid hbw
      have hrn : refsN l ≤ k * 40 := refs_le40 HO.out hs.out.2
      obtain ⟨S, hS1, hS2⟩ := rch_list l H
      have HS : Hid (S.Pairwise (· < ·) ∧ (∀ x, x ∈ S ↔ x ∈ H) ∧ ∀ x ∈ S, (Lit.int .i64 x).wf = true) := (show S.Pairwise (· < ·) ∧ (∀ x, x ∈ S ↔ x ∈ H) ∧ ∀ x ∈ S, (Lit.int .i64 x).wf = true by
        have key : ∀ x, x ∈ S ↔ x ∈ H := fun x => by
          rw [hS2 x]
          constructor
          · intro hr
            obtain ⟨o, ho, e⟩ := firstO_isSome.1 hr.is
            rw [hH]; exact List.mem_map.2 ⟨o, ho, e⟩
          · intro hx
            have hx' := hx
            rw [hH] at hx'
            obtain ⟨o, ho, e⟩ := List.mem_map.1 hx'
            exact .root hx (firstO_isSome.2 ⟨o, ho, e⟩)
        exact ⟨hS1, key, fun x hx => HWF.out x ((key x).1 hx)⟩)
      have HRE := Lib.hid (reach_any a0 ah k cap0 k ch l H S wo (HO.out.below (by rw [← HB.out]; exact hbw)) HNH.out (by omega) hS1 hS2)
      have HRN := Lib.hid (fun W hb => reach_any a0 none k cap0 0 0 l [] [] W (HO.out.below (w' := W) hb) (nums_nil _) (by omega) List.Pairwise.nil (rch_nil l))
      rw [← hH, HLN.out] at hve
      clear hs htk hbw hrn hS1 hS2 hH hlt
      subst hve
      go_wp2_with fail
      refine HRE.out.mono ?_
      rintro e w3 ⟨v, rfl, hr3, _, hb3⟩
      obtain ⟨ar, cr, rfl, hq1, hq2, _, _⟩ := hr3.read
      have HNR : Hid (NumsAt w3 ar S.length cr S) := (show NumsAt w3 ar S.length cr S from hr3.nums rfl HS.out.2.2)
      have HN3 := Lib.hid (HNH.out.below hb3)
      have HB3 : Hid (Below B w w3) := (show Below B w w3 from HBW.out.trans (hb3.mono (HSB.out _ HBW.out)))
      unfold maxLen at hq2
      clear hr3 hb3
      go_wp2_with fail
      go_loopw [7] (fun i wr => ∃ (j : Nat), i = .int .i64 (j : Nat) ∧ j ≤ S.length ∧ Hid (Below w3.heap.size w3 wr)) (fun i _ => S.length - (intOf i).toNat)
      case atStart => exact ⟨0, rfl, Nat.zero_le _, Below.refl _ _⟩
      case round =>
        obtain ⟨j, rfl, hj, hbr⟩ := hrel
        obtain ⟨wi, rfl⟩ : ∃ wi : World, wi = wr := ⟨_, rfl⟩
        by_cases hjl : j < S.length
        · obtain ⟨gr, offr, rfl, hgr, hc0⟩ := HNR.out.at hjl
          have hcell := (hbr.out.cell (p := ⟨gr, offr + j, none⟩) hgr).trans hc0
          have hj0 : (0 : Int) ≤ (j : Int) := by omega
          have hj1 : (j : Int) < (S.length : Int) := by omega
          have HHA := Lib.hid (fun n => has_to24 (b := true) (l := H) (x := hg S j) (by rw [decide_eq_true_iff]; exact (HS.out.2.1 _).1 (List.mem_of_getElem? (hg_some hjl))) (wi.drewN n) ((HN3.out.below hbr.out).drewN n))
          cases j with
          | zero =>
            have d0 : decide ((0 : Int) < ((0 : Nat) : Int)) = false := by decide
            have hcell0 : wi.cell? ⟨gr, offr, none⟩ = some (.int .i64 (hg S 0)) := hcell
            have hS0 : (0 : Int) < (S.length : Int) := by omega
            generalize hg S 0 = x at hcell0 HHA
            clear hc0 hcell
            go_wp2_with fail
            go_quiet ((go_at_call 43; exact quiet_left (HHA.out _)))
            go_wp2
            go_roundw
            case rel => first | exact ⟨1, by go_num, by omega, bel_drewN hbr.out _⟩ | ((repeat apply Exists.intro); exact ⟨⟨1, by go_num, by omega, bel_drewN hbr.out _⟩, rfl⟩)
            case measure => simp [intOf]; omega
          | succ j =>
            have hj2 : j < S.length := by omega
            obtain ⟨gr2, offr2, e2, hgr2, hc2⟩ := HNR.out.at hj2
            cases e2
            have hprev := (hbr.out.cell (p := ⟨gr, offr + j, none⟩) hgr2).trans hc2
            have hle : decide (hg S (j + 1) ≤ hg S j) = false := by
              rw [decide_eq_false_iff_not]
              have := rise_step HS.out.1 hjl
              omega
            have hj3 : (j : Int) + 1 < (S.length : Int) := by omega
            have hj4 : (j : Int) < (S.length : Int) := by omega
            generalize hg S (j + 1) = x at hcell HHA hle
            generalize hg S j = y at hprev hle
            clear hc0 hc2
            go_wp2_with fail
            go_quiet ((go_at_call 43; exact quiet_left (HHA.out _)))
            go_wp2
            go_roundw
            case rel => first | exact ⟨j + 1 + 1, by go_num, by omega, bel_drewN hbr.out _⟩ | ((repeat apply Exists.intro); exact ⟨⟨j + 1 + 1, by go_num, by omega, bel_drewN hbr.out _⟩, rfl⟩)
            case measure => simp [intOf]; omega
        · obtain rfl : j = S.length := by omega
          have HBR := Lib.hid hbr.out
          clear hjl hbr
          go_wp2_with fail
          go_loop [8] (fun i => ∃ (q : Nat), i = .int .i64 (q : Nat) ∧ q ≤ k) (fun i => k - (intOf i).toNat)
          case atStart => exact ⟨0, rfl, Nat.zero_le _⟩
          case round =>
            obtain ⟨q, rfl, hq⟩ := hrel
            by_cases hql : q < k
            · obtain ⟨gh, offh, rfl, hgh, hc0⟩ := (HN3.out.below HBR.out).at hql
              have hq0 : (0 : Int) ≤ (q : Int) := by omega
              have hq1' : (q : Int) < (k : Int) := by omega
              have HHA := Lib.hid (has_to24 (b := true) (l := S) (x := hg H q) (by rw [decide_eq_true_iff]; exact (HS.out.2.1 _).2 (List.mem_of_getElem? (hg_some (by have := HLN.out; omega)))) wi (HNR.out.below HBR.out))
              generalize hg H q = x at hc0 HHA
              go_wp2_with (go_at_call 43; refine HHA.out.mono ?_; rintro e w' ⟨rfl, rfl⟩)
              go_round
              case rel => exact ⟨q + 1, by go_num, by omega⟩
              case measure => simp [intOf]; omega
            · obtain rfl : q = k := by omega
              have HR2 := Lib.hid (HRN.out wi (by
                have := HB3.out.trans (HBR.out.mono (HSB.out _ HB3.out))
                rw [HB.out] at this
                exact this))
              have HBW2 : Hid (Below B w wi) := (show Below B w wi from HB3.out.trans (HBR.out.mono (HSB.out _ HB3.out)))
              clear hql
              go_wp2_with fail
              refine HR2.out.mono ?_
              rintro e w5 ⟨v5, rfl, hr5, _, hb5⟩
              obtain ⟨a5, c5, rfl, _⟩ := hr5.read
              have HB5 : Hid (Below B w w5) := (show Below B w w5 from HBW2.out.trans (hb5.mono (HSB.out _ HBW2.out)))
              clear hr5 hb5
              go_wp2
              go_ret
              exact ⟨rfl, by rw [← HB.out]; exact HB5.out⟩
/-- what is told of the argument 0 -/
def auditAll.arg0 (w : World) (a : Option Addr) (len cap : Nat) : Prop := objsArg w a len cap
theorem auditAll.walk (a0 : Option Addr) (len0 cap0 : Nat) (w : World) (w0 : auditAll.arg0 w a0 len0 cap0) :
    Calls Try.prog 11 #[.slice a0 len0 cap0] w fun e w' => e = .returned (.bool true) ∧ Below w.heap.size w w' := by
  obtain ⟨l, h⟩ := objs_of w0
  by_cases hd : len0 ≤ 40
  · exact auditAll.into a0 len0 cap0 l w h hd
  · exact auditAll.out a0 len0 cap0 w (by omega) (by have := h.le; have := h.max; omega)
end Go.Proofs.Ytogifanooleppaa
