/- The walk of the law AuditFinds: it answers true for every input. -/
import Derived.Test.YtogifanooleppaaAudFinds
namespace Go.Proofs.Ytogifanooleppaa
open Go.RowKit Go.Maps
set_option linter.unusedVariables false

theorem auditFinds.out (a0 : Option Addr) (len0 cap0 : Nat) (a1 a2 : Int) (w : World) (hm : len0 ≤ 9223372036854775807) (hd : len0 < 1 ∨ (1 ≤ len0 ∧ 30 < len0) ∨ (1 ≤ len0 ∧ len0 ≤ 30 ∧ a1 < 0) ∨ (1 ≤ len0 ∧ len0 ≤ 30 ∧ 0 ≤ a1 ∧ a2 = 0) ∨ (1 ≤ len0 ∧ len0 ≤ 30 ∧ 0 ≤ a1 ∧ (a2 == 0) = false ∧ 100 < a2) ∨ (1 ≤ len0 ∧ len0 ≤ 30 ∧ 0 ≤ a1 ∧ (a2 == 0) = false ∧ a2 ≤ 100 ∧ a2 < -100)) :
    Calls Try.prog 10 #[.slice a0 len0 cap0, .int .i64 a1, .int .i64 a2] w fun e w' => e = .returned (.bool true) ∧ Below w.heap.size w w' := by
  rcases hd with h | ⟨h1, h⟩ | ⟨h1, h2, h⟩ | ⟨h1, h2, h3, rfl⟩ | ⟨h1, h2, h3, h4, h⟩ | ⟨h1, h2, h3, h4, h5, h⟩
  all_goals
    go_enter Try.func10, Try.ntmps10
    go_wp2_with (go_at_call 35; refine (alive24 _).mono ?_; rintro e w' ⟨rfl, hb⟩)
    go_ret
    exact ⟨rfl, by assumption⟩
theorem OwnO.cell2 {w : World} {g off n cap : Nat} {L : List ObjV} (h : OwnO w g off n cap L) {i : Nat} {o : ObjV} (ho : L[i]? = some o) : w.cell? ⟨g, off + i * 5 + 2, none⟩ = some (.int .i64 o.c) ∧ w.frozen? ⟨g, off + i * 5 + 2, none⟩ = false := by
  obtain ⟨_, _, _, cur, t, h4, _, h5⟩ := h
  exact ⟨by rw [cell_of_block h4]; exact (h5 i o ho).2.2.1, free_of_block h4⟩
theorem size_set (w : World) (a : Addr) (u : Value) : (w.setCell a u).heap.size = w.heap.size := by unfold World.setCell; split <;> simp
/-- where the second loop stands -/
structure FnAt (B M g off n cap : Nat) (l : List ObjV) (D : List Int) (vc v9 : Value) (k : Nat) (w0 wr : World) : Prop where
  own : OwnO wr g off n cap (objL l (fun i => if i < k then (cntI l n i : Int) else 0) n)
  cts : RowS wr 1 vc D.length (intC D)
  zs : RowS wr 1 v9 (zerosL l n k).length (intC (zerosL l n k))
  cown : ∀ h, vc.ownBlock = some h → h ≠ g ∧ h < M ∧ B ≤ h
  zown : ∀ h, v9.ownBlock = some h → M ≤ h
  bel : Below B w0 wr
  lt : B ≤ g ∧ g < M ∧ M ≤ wr.heap.size
section
variable {B M g off n cap k : Nat} {l : List ObjV} {D : List Int} {vc v9 v2 : Value} {w0 wr w2 : World}
theorem FnAt.count (h : FnAt B M g off n cap l D vc v9 k w0 wr) (hk : k < n) {c : Int} (hc : c = (cntI l n k : Int)) :
    OwnO (wr.setCell ⟨g, off + k * 5 + 2, none⟩ (.int .i64 c)) g off n cap (objL l (fun i => if i < k + 1 then (cntI l n i : Int) else 0) n) ∧ Keeps [g] wr (wr.setCell ⟨g, off + k * 5 + 2, none⟩ (.int .i64 c)) := by
  refine ⟨?_, (Keeps.refl [g] wr).setCell (.inl (List.mem_singleton_self _)) _⟩
  have := h.own.set hk c
  rw [objL_congr (cf' := fun i => if i < k + 1 then (cntI l n i : Int) else 0) fun i _ => ?_] at this
  · exact this
  · by_cases e : i = k
    · subst e; rw [if_pos rfl, if_pos (by omega)]; exact hc
    · rw [if_neg e]
      by_cases h2 : i < k
      · rw [if_pos h2, if_pos (by omega)]
      · rw [if_neg h2, if_neg (by omega)]
theorem FnAt.same (h : FnAt B M g off n cap l D vc v9 k w0 wr) (hz : cntI l n k ≠ 0) (ho : OwnO w2 g off n cap (objL l (fun i => if i < k + 1 then (cntI l n i : Int) else 0) n)) (hk : Keeps [g] wr w2) : FnAt B M g off n cap l D vc v9 (k + 1) w0 w2 := by
  have lt := h.lt
  have e : zerosL l n (k + 1) = zerosL l n k := by rw [zerosL, if_neg hz, List.append_nil]
  refine ⟨ho, h.cts.keeps hk (fun x hx => by have := (h.cown x hx).1; simp; exact this), ?_, h.cown, h.zown, below_keeps h.bel hk (by omega) (by simp; omega), ⟨lt.1, lt.2.1, Nat.le_trans lt.2.2 hk.size⟩⟩
  rw [e]
  exact h.zs.keeps hk (fun x hx => by have := h.zown x hx; simp; omega)
theorem FnAt.zsrc (h : FnAt B M g off n cap l D vc v9 k w0 wr) (hk : Keeps [g] wr w2) (ob : Obj) : RowS (w2.alloc ob) 1 v9 (zerosL l n k).length (intC (zerosL l n k)) := by
  have lt := h.lt
  exact (h.zs.keeps hk (fun x hx => by have := h.zown x hx; simp; omega)).keeps ((Keeps.refl [] _).alloc ob) fun _ _ => List.not_mem_nil
theorem FnAt.more {w3 : World} {ob : Obj} (h : FnAt B M g off n cap l D vc v9 k w0 wr) (hz : cntI l n k = 0) (ho : OwnO w2 g off n cap (objL l (fun i => if i < k + 1 then (cntI l n i : Int) else 0) n)) (hk : Keeps [g] wr w2)
    (hr : RowS w3 1 v2 ((zerosL l n k).length + 1) (intC (zerosL l n k) ++ [.int .i64 (k : Nat)])) (hg : (w2.alloc ob).grownBy w3 v9.ownBlock) (hv : v2.ownBlock = v9.ownBlock ∨ ∃ x, v2.ownBlock = some x ∧ w2.heap.size + 1 ≤ x) : FnAt B M g off n cap l D vc v2 (k + 1) w0 w3 := by
  have lt := h.lt
  have hs := hk.size
  have e : zerosL l n (k + 1) = zerosL l n k ++ [(k : Int)] := by rw [zerosL, if_pos hz]
  have hk3 : Keeps v9.ownBlock.toList (w2.alloc ob) w3 := Keeps.of_row hg fun x hx => by rw [hx]; simp
  have hk2 : Keeps v9.ownBlock.toList w2 w3 := ((Keeps.refl _ w2).alloc ob).trans hk3
  have far : ∀ x, x < M → x ∉ v9.ownBlock.toList := fun x hx hm => by
    cases ho : v9.ownBlock with
    | none => rw [ho] at hm; simp at hm
    | some y => rw [ho] at hm; simp at hm; have := h.zown y ho; omega
  refine ⟨ho.keeps hk2 (far _ (by omega)), (h.cts.keeps hk (fun x hx => by have := (h.cown x hx).1; simp; exact this)).keeps hk2 (fun x hx => far _ (h.cown x hx).2.1), ?_, h.cown, fun x hx => ?_, below_keeps (below_keeps h.bel hk (by omega) (by simp; omega)) hk2 (by omega) (fun x hx => ?_), ⟨lt.1, lt.2.1, Nat.le_trans lt.2.2 (Nat.le_trans hk.size hk2.size)⟩⟩
  · rw [e, List.length_append]
    unfold intC at hr ⊢
    rw [List.map_append]
    exact hr
  · rcases hv with hv | ⟨y, hv, hge⟩
    · exact h.zown x (by rw [← hv]; exact hx)
    · rw [hv] at hx; cases hx; omega
  · have : ¬ x < M := fun hlt => far x hlt hx
    omega
end
set_option maxRecDepth 100000 in
set_option maxHeartbeats 4000000 in
theorem auditFinds.into (a0 : Option Addr) (n cap0 at_ : Nat) (by_ : Int) (l : List ObjV) (w : World) (h : ObjsAt w a0 n cap0 l) (hn1 : 1 ≤ n) (hn : n ≤ 30) (hat : at_ ≤ 9223372036854775807) (hb0 : by_ ≠ 0) (hb1 : by_ ≤ 100) (hb2 : -100 ≤ by_) :
    Calls Try.prog 10 #[.slice a0 n cap0, .int .i64 (at_ : Nat), .int .i64 by_] w fun e w' => e = .returned (.bool true) ∧ Below w.heap.size w w' := by
  obtain ⟨i0, hi, hz0, hz1, hz2⟩ := info_parts leastInfo1
  have HI := Lib.hid hi
  have HZ0 := Lib.hid hz0
  have HZ1 := Lib.hid hz1
  have HZ2 := Lib.hid hz2
  obtain ⟨j0, hj, hy0, hy1, hy2⟩ := info_parts obj_info
  have HJ := Lib.hid hj
  have HY0 := Lib.hid hy0
  have HY1 := Lib.hid hy1
  have HY2 := Lib.hid hy2
  have HO := Lib.hid h
  have hlen := h.size
  have HCP := Lib.hid h.le
  have HMX := Lib.hid h.max
  have d1 : decide ((n : Int) < 1) = false := by rw [decide_eq_false_iff_not]; omega
  have d2 : decide ((30 : Int) < (n : Int)) = false := by rw [decide_eq_false_iff_not]; omega
  have d3 : decide ((at_ : Int) < 0) = false := by rw [decide_eq_false_iff_not]; omega
  have d4 : (by_ == 0) = false := by rw [beq_eq_false_iff_ne]; exact hb0
  have d5 : decide ((100 : Int) < by_) = false := by rw [decide_eq_false_iff_not]; omega
  have d6 : decide (by_ < -100) = false := by rw [decide_eq_false_iff_not]; omega
  have HBN := Lib.hid hb0
  obtain ⟨B, hB⟩ : ∃ B, B = w.heap.size := ⟨_, rfl⟩
  have HB := Lib.hid hB
  have HSB : Hid (∀ W, Below B w W → B ≤ W.heap.size) := (show ∀ W, Below B w W → B ≤ W.heap.size from fun W hb => by rw [HB.out]; exact hb.size)
  clear h hi hz0 hz1 hz2 hj hy0 hy1 hy2 hB hb0
  go_enter Try.func10, Try.ntmps10
  go_wp2_with fail
  refine (alive24 _).mono ?_
  rintro e w1 ⟨rfl, hba⟩
  have HB1 : Hid (Below B w w1) := (show Below B w w1 by rw [HB.out]; exact hba)
  clear hba
  go_wp2_with fail
  go_loopw [8, 10] (fun v i wr => ∃ (k : Nat), i = .int .i64 (k : Nat) ∧ k ≤ n ∧ Hid (AccO w1 v (objL l (fun _ => 0) k) wr ∧ ∀ o ∈ l.take k, o.rl ≤ 30)) (fun _ i _ => n - (intOf i).toNat)
  case atStart => exact ⟨0, rfl, Nat.zero_le _, ⟨AccO.start w1, fun o ho => by simp at ho⟩⟩
  case round =>
    obtain ⟨k, rfl, hk, hs⟩ := hrel
    obtain ⟨wo, rfl⟩ : ∃ wo : World, wo = wr := ⟨_, rfl⟩
    by_cases hlt : k < n
    · have ho : l[k]? = some (lg l k) := lg_some (by omega)
      obtain ⟨b, off, rfl, hbl, _, _, _, _, d4'⟩ := HO.out.cell k _ ho
      have hbw : Below B w wo := HB1.out.trans (hs.out.1.bel.mono (HSB.out _ HB1.out))
      have c4 := (hbw.cell (p := ⟨b, off + k * 5 + 4, none⟩) (by rw [HB.out]; exact hbl)).trans d4'
      have hi0 : (0 : Int) ≤ (k : Int) := by omega
      have hi1 : (k : Int) < (n : Int) := by omega
      have hrm : (lg l k).rl ≤ 9223372036854775807 := by have := (HO.out.refs _ (List.mem_of_getElem? ho)).ints; have h1 := this.le; have h2 := this.max; omega
      by_cases hr : 30 < (lg l k).rl
      · have HBF := Lib.hid hbw
        clear d4' ho hbw hs
        go_wp2
        go_ret
        exact ⟨rfl, by rw [← HB.out]; exact HBF.out⟩
      · have hr' : (lg l k).rl ≤ 30 := by omega
        have HST : Hid (objL l (fun _ => 0) (k + 1) = objL l (fun _ => 0) k ++ [objI l 0 k]) := objL_succ
        have HRL : Hid (∀ o ∈ l.take (k + 1), o.rl ≤ 30) := (show ∀ o ∈ l.take (k + 1), o.rl ≤ 30 by
          intro o2 ho2
          rw [List.take_add_one, ho, List.mem_append] at ho2
          rcases ho2 with ho2 | ho2
          · exact hs.out.2 o2 ho2
          · simp at ho2; rw [ho2]; exact hr')
        have HA := Lib.hid hs.out.1
        have HLL : Hid ((objL l (fun _ => 0) k).length ≤ 40) := (show (objL l (fun _ => 0) k).length ≤ 40 by rw [objL_len]; omega)
        unfold objI at HST
        generalize lg l k = o at c4 HST hr hr' hrm
        generalize objL l (fun _ => 0) k = acc at HA HST HLL
        have HO1 : Hid (acc.length + 1 ≤ maxLen) := (show acc.length + 1 ≤ maxLen by have := HLL.out; unfold maxLen; omega)
        have HO2 : Hid ((acc.length + 1) * 56 ≤ 140737488355328) := (show (acc.length + 1) * 56 ≤ 140737488355328 by have := HLL.out; omega)
        clear d4' ho hbw hs hr
        go_wp2_with (at_builtin; refine wpList_row (by rfl) (.tmp 58) (.tmp 66) 45 rfl 47 j0 (.agg #[.int .i64 0, .int .i64 0, .int .i64 0, .bool false, .slice none 0 0]) 5 56 Try.underlying45 HJ.out HY0.out HY1.out HY2.out rfl (by decide) u8 acc.length (cellsO acc) rfl (HA.out.src _) (.slice (some ⟨wo.heap.size, 0, none⟩) 1 1) 1 [.int .i64 (k : Nat), .int .i64 0, .int .i64 0, .bool false, .slice o.ra o.rl o.rc] rfl (new_obj _ _ _ _ _ _ _) (fun x hx => by simp at hx; rcases hx with rfl | rfl | rfl | rfl | rfl <;> rfl) HO1.out HO2.out ?_)
        intro v2 w2 hr2 hg2 hv2
        have HA2 : Hid (AccO w1 v2 (objL l (fun _ => 0) (k + 1)) w2 ∧ ∀ o ∈ l.take (k + 1), o.rl ≤ 30) := (show AccO w1 v2 (objL l (fun _ => 0) (k + 1)) w2 ∧ ∀ o ∈ l.take (k + 1), o.rl ≤ 30 from ⟨by rw [HST.out]; exact HA.out.push hr2 hg2 hv2, HRL.out⟩)
        clear hr2 hg2 hv2
        go_wp2
        go_roundw
        case rel => first | exact ⟨k + 1, by go_num, by omega, HA2⟩ | ((repeat apply Exists.intro); exact ⟨⟨k + 1, by go_num, by omega, HA2⟩, rfl⟩)
        case measure => simp [intOf]; omega
    · obtain rfl : k = n := by omega
      have htk : l.take k = l := List.take_of_length_le (by omega)
      rw [htk] at hs
      obtain ⟨ao, co, hve, hp1, hp2, _, hrd⟩ := hs.out.1.row.read
      obtain ⟨g, off, eo, hgl, _⟩ := hrd 0 _ (cellsO_at (objL_at (l := l) (cf := fun _ => 0) (show 0 < k by omega))).1
      subst eo
      rw [objL_len] at hve hp1
      have HNR : Hid (∀ W cf, Below B w W → OwnO W g off k co (objL l cf k) → ObjsAt W (some ⟨g, off, none⟩) k co (objL l cf k)) := (show ∀ W cf, Below B w W → OwnO W g off k co (objL l cf k) → ObjsAt W (some ⟨g, off, none⟩) k co (objL l cf k) from fun W cf hb ho => ho.objs (fun o hm => by
          obtain ⟨i, hi, rfl⟩ := objL_mem.1 hm
          exact WalkArith.wf_i64 (show (-9223372036854775808 : Int) ≤ (i : Int) ∧ (i : Int) ≤ 9223372036854775807 by omega))
        (fun o hm => by
          obtain ⟨i, hi, rfl⟩ := objL_mem.1 hm
          exact (HO.out.refs _ (List.mem_of_getElem? (lg_some (l := l) (i := i) (by omega)))).below (by rw [← HB.out]; exact hb)))
      have HRN : Hid (∀ cf, refsN (objL l cf k) ≤ 900) := (show ∀ cf, refsN (objL l cf k) ≤ 900 from fun cf => by
        have := refsN_le (l := objL l cf k) (m := 30) fun o hm => by
          obtain ⟨i, hi, rfl⟩ := objL_mem.1 hm
          have hmem := List.mem_of_getElem? (lg_some (l := l) (i := i) (by omega))
          have h1 := hs.out.2 _ hmem
          have h2 := (HO.out.refs _ hmem).size
          show (lg l i).refs.length ≤ 30
          omega
        rw [objL_len] at this
        omega)
      have hbw : Below B w wo := HB1.out.trans (hs.out.1.bel.mono (HSB.out _ HB1.out))
      have HOW : Hid (OwnO wo g off k co (objL l (fun _ => 0) k)) := (show OwnO wo g off k co (objL l (fun _ => 0) k) by
        have := hs.out.1.row
        rw [hve, objL_len] at this
        exact this.owns objL_len)
      have HGB : Hid (B ≤ g ∧ g < wo.heap.size) := (show B ≤ g ∧ g < wo.heap.size from ⟨by
        have := hs.out.1.new g (by rw [hve]; rfl)
        have h2 := HSB.out _ HB1.out
        omega, hgl⟩)
      have HCT := Lib.hid (counts_any (some ⟨g, off, none⟩) k co _ wo (HNR.out wo _ hbw HOW.out) (by have := HRN.out (fun _ => 0); omega))
      have HBW := Lib.hid hbw
      unfold maxLen at hp2
      clear hs htk hbw hrd hgl hlt
      subst hve
      go_wp2_with fail
      refine HCT.out.mono ?_
      rintro e w3 ⟨vc, rfl, hr3, hg3, hb3⟩
      obtain ⟨D, hD⟩ : ∃ D, D = (objL l (fun _ => 0) k).map fun o => ((countR (objL l (fun _ => 0) k) o.h : Nat) : Int) := ⟨_, rfl⟩
      have HDL : Hid (D.length = k ∧ ∀ i, i < k → hg D i = (cntI l k i : Int)) := (show D.length = k ∧ ∀ i, i < k → hg D i = (cntI l k i : Int) from ⟨by rw [hD, List.length_map, objL_len], fun i hi => by unfold hg; rw [hD, List.getElem?_map, objL_at hi]; rfl⟩)
      rw [← hD] at hr3
      have HFN : Hid (FnAt B w3.heap.size g off k co l D vc (.slice none 0 0) 0 w w3) := (show FnAt B w3.heap.size g off k co l D vc (.slice none 0 0) 0 w w3 from
        ⟨by
          have := HOW.out.keeps (Keeps.of_below hb3 (Nat.le_refl _) []) List.not_mem_nil
          rw [objL_congr (cf' := fun i => if i < 0 then (cntI l k i : Int) else 0) fun i _ => by simp] at this
          exact this, hr3, RowS.nil _ _, fun x hx => by have := hg3 x hx; have := hr3.lt x hx; have := HGB.out; have := HSB.out _ HBW.out; exact ⟨by omega, by omega, by omega⟩, fun x hx => (by cases hx), HBW.out.trans (hb3.mono (HSB.out _ HBW.out)), ⟨HGB.out.1, by have := HGB.out.2; have := hb3.size; omega, Nat.le_refl _⟩⟩)
      obtain ⟨aq, cq, rfl, _, _, _, _⟩ := hr3.read
      rw [HDL.out.1] at HFN ⊢
      generalize w3.heap.size = M at HFN
      clear hr3 hg3 hb3 hD HCT HOW
      go_wp2_with fail
      go_loopw [9, 12] (fun v9 i wr => ∃ (j : Nat), i = .int .i64 (j : Nat) ∧ j ≤ k ∧ Hid (FnAt B M g off k co l D (.slice aq k cq) v9 j w wr)) (fun _ i _ => k - (intOf i).toNat)
      case atStart => exact ⟨0, rfl, Nat.zero_le _, HFN⟩
      case round =>
        obtain ⟨j, rfl, hj, hs⟩ := hrel
        obtain ⟨wi, rfl⟩ : ∃ wi : World, wi = wr := ⟨_, rfl⟩
        by_cases hjl : j < k
        · have hcts := hs.out.cts
          rw [HDL.out.1] at hcts
          obtain ⟨gq, offq, rfl, hgq, hcq⟩ := row_cell hcts HDL.out.1.symm hjl
          rw [HDL.out.2 j hjl] at hcq
          obtain ⟨hc2, hf2⟩ := hs.out.own.cell2 (objL_at hjl)
          have hj0 : (0 : Int) ≤ (j : Int) := by omega
          have hj1 : (j : Int) < (k : Int) := by omega
          have HNE : Hid (gq ≠ g) := (show gq ≠ g from (hs.out.cown gq rfl).1)
          obtain ⟨HW1, HK1⟩ := hs.out.count hjl (c := (cntI l k j : Int)) rfl
          have hcq2 : (wi.setCell ⟨g, off + j * 5 + 2, none⟩ (.int .i64 (cntI l k j : Nat))).cell? ⟨gq, offq + j, none⟩ = some (.int .i64 (cntI l k j : Nat)) := by
            have : (wi.setCell ⟨g, off + j * 5 + 2, none⟩ (.int .i64 (cntI l k j : Nat))).heap[gq]? = wi.heap[gq]? := setCell_other _ HNE.out
            rw [World.cell?_of_block this]; exact hcq
          have HS := hs
          have HW1' := Lib.hid HW1
          have HK1' := Lib.hid HK1
          by_cases hz : cntI l k j = 0
          · have HZ := Lib.hid hz
            have hcb : ((cntI l k j : Int) == 0) = true := by rw [beq_iff_eq]; omega
            have HLL : Hid ((zerosL l k j).length ≤ 40) := (show (zerosL l k j).length ≤ 40 by have := zerosL_len l k j; omega)
            have HO1 : Hid ((zerosL l k j).length + 1 ≤ maxLen) := (show (zerosL l k j).length + 1 ≤ maxLen by have := HLL.out; unfold maxLen; omega)
            have HO2 : Hid (((zerosL l k j).length + 1) * 8 ≤ 140737488355328) := (show ((zerosL l k j).length + 1) * 8 ≤ 140737488355328 by have := HLL.out; omega)
            have HMORE := Lib.hid (fun (w3 : World) (v2 : Value) hr hg hv => HS.out.more (w2 := wi.setCell ⟨g, off + j * 5 + 2, none⟩ (.int .i64 (cntI l k j : Nat))) (w3 := w3) (v2 := v2) (ob := .cells #[.int .i64 (j : Nat)] 3) hz HW1 HK1 hr hg hv)
            have HSRC := Lib.hid (HS.out.zsrc HK1 (.cells #[.int .i64 (j : Nat)] 3))
            generalize zerosL l k j = acc at HLL HO1 HO2 HMORE HSRC
            generalize cntI l k j = cn at hcq hcq2 hcb HMORE HSRC
            clear hcts HW1 HK1 hz hs
            go_wp2_with (at_builtin; refine wpList_row (by rfl) (.tmp 94) (.tmp 96) 23 rfl 3 i0 (.int .i64 0) 1 8 Try.underlying23 HI.out HZ0.out HZ1.out HZ2.out rfl (by decide) u9 acc.length (intC acc) rfl HSRC.out (.slice (some ⟨wi.heap.size, 0, none⟩) 1 1) 1 [.int .i64 (j : Nat)] rfl (by have := new_one (wi.setCell ⟨g, off + j * 5 + 2, none⟩ (.int .i64 (cn : Nat))) (.int .i64 (j : Nat)) 3; rwa [size_set] at this) (one_of rfl) HO1.out HO2.out ?_)
            intro v2 w4 hr4 hg4 hv4
            have HS1 := Lib.hid (HMORE.out w4 v2 hr4 hg4 (by rw [size_set]; exact hv4))
            clear hr4 hg4 hv4
            go_wp2
            go_roundw
            case rel => first | exact ⟨j + 1, by go_num, by omega, HS1⟩ | ((repeat apply Exists.intro); exact ⟨⟨j + 1, by go_num, by omega, HS1⟩, rfl⟩)
            case measure => simp [intOf]; omega
          · have hcb : ((cntI l k j : Int) == 0) = false := by rw [beq_eq_false_iff_ne]; omega
            have HS1 := Lib.hid (HS.out.same (w2 := wi.setCell ⟨g, off + j * 5 + 2, none⟩ (.int .i64 (cntI l k j : Nat))) hz HW1 HK1)
            generalize cntI l k j = cn at hcq hcq2 hcb HS1
            clear hcts HW1 HK1 hz hs HW1' HK1'
            go_wp2
            go_roundw
            case rel => first | exact ⟨j + 1, by go_num, by omega, HS1⟩ | ((repeat apply Exists.intro); exact ⟨⟨j + 1, by go_num, by omega, HS1⟩, rfl⟩)
            case measure => simp [intOf]; omega
        · obtain rfl : j = k := by omega
          obtain ⟨az, cz, hze, _, _, _, _⟩ := hs.out.zs.read
          have HZN : Hid (NumsAt wi az (zerosL l j j).length cz (zerosL l j j)) := (show NumsAt wi az (zerosL l j j).length cz (zerosL l j j) by
            have := hs.out.zs
            rw [hze] at this
            exact this.nums rfl fun x hx => by
              obtain ⟨i, hi, rfl, _⟩ := (zerosL_mem j).1 hx
              exact WalkArith.wf_i64 (show (-9223372036854775808 : Int) ≤ (i : Int) ∧ (i : Int) ≤ 9223372036854775807 by omega))
          have HZL : Hid ((zerosL l j j).length ≤ 30) := (show (zerosL l j j).length ≤ 30 by have := zerosL_len l j j; omega)
          obtain ⟨kk, hkk⟩ : ∃ kk, kk = at_ % j := ⟨_, rfl⟩
          have hkl : kk < j := by rw [hkk]; exact Nat.mod_lt _ (by omega)
          have hmod : (at_ : Int) % (j : Int) = (kk : Int) := by rw [hkk]; omega
          have HOW : Hid (OwnO wi g off j co (objL l (fun i => (cntI l j i : Int) + if i = kk then 0 else 0) j)) := (show OwnO wi g off j co (objL l (fun i => (cntI l j i : Int) + if i = kk then 0 else 0) j) by
            have := hs.out.own
            rw [objL_congr (cf' := fun i => (cntI l j i : Int) + if i = kk then 0 else 0) fun i hi => by rw [if_pos hi]; simp] at this
            exact this)
          have HWB := Lib.hid hs.out.bel
          have HGL : Hid (B ≤ g) := hs.out.lt.1
          have HR1 := Lib.hid (wrong_any (some ⟨g, off, none⟩) az j co _ cz _ (zerosL l j j) [] wi (HNR.out wi _ HWB.out HOW.out) HZN.out (by have := HRN.out (fun i => (cntI l j i : Int) + if i = kk then 0 else 0); have := HZL.out; omega) List.Pairwise.nil (fun x => by
            rw [wrong_objL hkl]; simp))
          have HR2 := Lib.hid (fun W (hb : Below B w W) ho (hz : NumsAt W az (zerosL l j j).length cz (zerosL l j j)) => wrong_any (some ⟨g, off, none⟩) az j co _ cz _ (zerosL l j j) [(kk : Int)] W (HNR.out W (fun i => (cntI l j i : Int) + if i = kk then by_ else 0) hb ho) hz (by have := HRN.out (fun i => (cntI l j i : Int) + if i = kk then by_ else 0); have := HZL.out; omega) (by simp) (fun x => by
            rw [wrong_objL hkl]; simp [HBN.out]))
          have hck : cntI l j kk ≤ 900 := Nat.le_trans (countR_le _ _) (HRN.out _)
          have HCK : Hid (∀ w6, Below wi.heap.size wi w6 → w6.cell? ⟨g, off + kk * 5 + 2, none⟩ = some (.int .i64 (cntI l j kk : Nat)) ∧ w6.frozen? ⟨g, off + kk * 5 + 2, none⟩ = false) := (show ∀ w6, Below wi.heap.size wi w6 → w6.cell? ⟨g, off + kk * 5 + 2, none⟩ = some (.int .i64 (cntI l j kk : Nat)) ∧ w6.frozen? ⟨g, off + kk * 5 + 2, none⟩ = false from fun w6 hb => by
            have := (HOW.out.keeps (Keeps.of_below hb (Nat.le_refl _) []) List.not_mem_nil).cell2 (objL_at hkl)
            simp only [objI, ite_self, Int.add_zero] at this
            exact this)
          have HOW2 : Hid (∀ w6, Below wi.heap.size wi w6 → OwnO (w6.setCell ⟨g, off + kk * 5 + 2, none⟩ (.int .i64 ((cntI l j kk : Int) + by_))) g off j co (objL l (fun i => (cntI l j i : Int) + if i = kk then by_ else 0) j)) := (show ∀ w6, Below wi.heap.size wi w6 → OwnO (w6.setCell ⟨g, off + kk * 5 + 2, none⟩ (.int .i64 ((cntI l j kk : Int) + by_))) g off j co (objL l (fun i => (cntI l j i : Int) + if i = kk then by_ else 0) j) from fun w6 hb => by
            have := (HOW.out.keeps (Keeps.of_below hb (Nat.le_refl _) []) List.not_mem_nil).set hkl ((cntI l j kk : Int) + by_)
            rw [objL_congr (cf' := fun i => (cntI l j i : Int) + if i = kk then by_ else 0) fun i hi => ?_] at this
            · exact this
            · by_cases e : i = kk
              · subst e; rw [if_pos rfl, if_pos rfl]
              · rw [if_neg e, if_neg e, if_neg e])
          have HZ2 := Lib.hid (fun W (ho : Keeps [g] wi W) => (show NumsAt W az (zerosL l j j).length cz (zerosL l j j) from by
            have hzz := hs.out.zs.keeps ho (fun x hx => by have := hs.out.zown x hx; have := hs.out.lt; simp; omega)
            rw [hze] at hzz
            exact hzz.nums rfl fun x hx => HZN.out.wf hx))
          generalize zerosL l j j = zl at HZN HZL HR1 HR2 HZ2 hze
          have hj0 : (0 : Int) ≤ (kk : Int) := by omega
          have hj1 : (kk : Int) < (j : Int) := by omega
          generalize cntI l j kk = cn at hck HCK HOW2
          clear hs hjl hkk HFN hp1
          subst hze
          go_wp2_with fail
          refine HR1.out.mono ?_
          rintro e w6 ⟨v6, rfl, hr6, _, hb6⟩
          obtain ⟨a6, c6, rfl, _⟩ := hr6.read
          obtain ⟨e2, f2⟩ := HCK.out w6 hb6
          have HB6 := Lib.hid hb6
          clear hr6 hb6
          have hcn : (cn : Int) + by_ ≤ 1000 ∧ -1000 ≤ (cn : Int) + by_ := by omega
          have HW7 := Lib.hid (HOW2.out w6 HB6.out)
          have HK7 : Hid (Keeps [g] wi (w6.setCell ⟨g, off + kk * 5 + 2, none⟩ (.int .i64 ((cn : Int) + by_)))) := (show Keeps [g] wi (w6.setCell ⟨g, off + kk * 5 + 2, none⟩ (.int .i64 ((cn : Int) + by_))) from
            (Keeps.of_below HB6.out (Nat.le_refl _) [g]).trans ((Keeps.refl [g] w6).setCell (.inl (List.mem_singleton_self _)) _))
          have HB7 : Hid (Below B w (w6.setCell ⟨g, off + kk * 5 + 2, none⟩ (.int .i64 ((cn : Int) + by_)))) := (show Below B w (w6.setCell ⟨g, off + kk * 5 + 2, none⟩ (.int .i64 ((cn : Int) + by_))) from below_keeps HWB.out HK7.out (HSB.out _ HWB.out) (by have := HGL.out; simp; omega))
          have HR3 := Lib.hid (HR2.out _ HB7.out HW7.out (HZ2.out _ HK7.out))
          go_wp2_with fail
          refine HR3.out.mono ?_
          rintro e w8 ⟨v8, rfl, hr8, _, hb8⟩
          obtain ⟨a8, c8, rfl, _, _, _, h8⟩ := hr8.read
          obtain ⟨b8, o8, rfl, _, hc8⟩ := h8 0 (.int .i64 (kk : Nat)) rfl
          have HB8 : Hid (Below B w w8) := (show Below B w w8 from HB7.out.trans (hb8.mono (HSB.out _ HB7.out)))
          have hc9 : w8.cell? ⟨b8, o8, none⟩ = some (.int .i64 (kk : Nat)) := hc8
          clear hr8 hb8 h8 hc8
          go_wp2
          go_ret
          exact ⟨rfl, by rw [← HB.out]; exact HB8.out⟩
/-- what is told of the argument 0 -/
def auditFinds.arg0 (w : World) (a : Option Addr) (len cap : Nat) : Prop := objsArg w a len cap
theorem auditFinds.walk (a0 : Option Addr) (len0 cap0 : Nat) (a1 : Int) (a2 : Int) (w : World) (w0 : auditFinds.arg0 w a0 len0 cap0) (w1 : (Lit.int .i64 a1).wf = true) (w2 : (Lit.int .i64 a2).wf = true) :
    Calls Try.prog 10 #[.slice a0 len0 cap0, .int .i64 a1, .int .i64 a2] w fun e w' => e = .returned (.bool true) ∧ Below w.heap.size w w' := by
  obtain ⟨l, h⟩ := objs_of w0
  have h63 : a1 ≤ 9223372036854775807 := by have := w1; simp [Lit.wf, IntKind.min, IntKind.max, IntKind.signed, IntKind.bits] at this; omega
  have hm : len0 ≤ 9223372036854775807 := by have := h.le; have := h.max; omega
  by_cases hd : 1 ≤ len0 ∧ len0 ≤ 30 ∧ 0 ≤ a1 ∧ a2 ≠ 0 ∧ a2 ≤ 100 ∧ -100 ≤ a2
  · obtain ⟨h1, h2, h3, h4, h5, h6⟩ := hd
    obtain ⟨at_, rfl⟩ := Int.eq_ofNat_of_zero_le h3
    exact auditFinds.into a0 len0 cap0 at_ a2 l w h h1 h2 (by omega) h4 h5 h6
  · refine auditFinds.out a0 len0 cap0 a1 a2 w hm ?_
    by_cases h4 : a2 = 0
    · omega
    · have hb : (a2 == 0) = false := by rw [beq_eq_false_iff_ne]; exact h4
      simp only [hb]
      simp
      omega
end Go.Proofs.Ytogifanooleppaa
