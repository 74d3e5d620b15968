/- the reference's Counts: how many references there are to each. -/
import Derived.Test.YtogifanooleppaaAudRefR
namespace Go.Proofs.Ytogifanooleppaa
open Go.RowKit Go.Maps
set_option linter.unusedVariables false

theorem obj_at {w wr : World} {a : Option Addr} {len cap B : Nat} {l : List ObjV} (h : ObjsAt w a len cap l) (hb : Below B w wr) (hB : B = w.heap.size) {k : Nat} {o : ObjV} (ho : l[k]? = some o) :
    ∃ b off, a = some ⟨b, off, none⟩ ∧ b < w.heap.size ∧ wr.cell? ⟨b, off + k * 5, none⟩ = some (.int .i64 o.h) ∧ wr.cell? ⟨b, off + k * 5 + 1, none⟩ = some (.int .i64 o.k) ∧ wr.cell? ⟨b, off + k * 5 + 2, none⟩ = some (.int .i64 o.c) ∧ wr.cell? ⟨b, off + k * 5 + 3, none⟩ = some (.bool o.s) ∧ wr.cell? ⟨b, off + k * 5 + 4, none⟩ = some (.slice o.ra o.rl o.rc) := by
  obtain ⟨b, off, e, hbl, c0, c1, c2, c3, c4⟩ := h.cell k o ho
  have tr : ∀ i v, w.cell? ⟨b, i, none⟩ = some v → wr.cell? ⟨b, i, none⟩ = some v := fun i v hv => (hb.cell (p := ⟨b, i, none⟩) (by rw [hB]; exact hbl)).trans hv
  exact ⟨b, off, e, hbl, tr _ _ c0, tr _ _ c1, tr _ _ c2, tr _ _ c3, tr _ _ c4⟩
set_option maxRecDepth 100000 in
set_option maxHeartbeats 4000000 in
theorem rcounts_any (a : Option Addr) (len cap : Nat) (l : List ObjV) (w : World) (h : ObjsAt w a len cap l) (hl : len + refsN l ≤ 1048576) :
    Calls Try.prog 40 #[.slice a len cap] w (RowDone w (l.map fun o => ((countR l o.h : Nat) : Int))) := by
  obtain ⟨i0, hi, hz0, hz1, hz2⟩ := info_parts leastInfo1
  have HI := Lib.hid hi
  have HZ0 := Lib.hid hz0
  have HZ1 := Lib.hid hz1
  have HZ2 := Lib.hid hz2
  have HO := Lib.hid h
  have hlen := h.size
  have HCP := Lib.hid h.le
  clear h hi hz0 hz1 hz2
  go_enter Try.func40, Try.ntmps40
  go_wp2_with fail
  go_loopw [3, 4] (fun v i wr => ∃ (k : Nat), i = .int .i64 (k : Nat) ∧ k ≤ len ∧ Hid (AccI w v ((l.take k).map fun o => ((countR l o.h : Nat) : Int)) wr)) (fun _ i _ => len - (intOf i).toNat)
  case atStart => exact ⟨0, rfl, Nat.zero_le _, AccI.start w⟩
  case round =>
    obtain ⟨i, rfl, hi, ha⟩ := hrel
    obtain ⟨wo, rfl⟩ : ∃ wo : World, wo = wr := ⟨_, rfl⟩
    by_cases hlt : i < len
    · obtain ⟨o, ho⟩ : ∃ o, l[i]? = some o := ⟨l[i]'(by omega), List.getElem?_eq_getElem (by omega)⟩
      have HOI := Lib.hid ho
      have hi0 : (0 : Int) ≤ (i : Int) := by omega
      have hi1 : (i : Int) < (len : Int) := by omega
      clear ho
      go_wp2_with fail
      go_loopw [5, 6] (fun n kv wr => ∃ (k : Nat), kv = .int .i64 (k : Nat) ∧ k ≤ len ∧ n = .int .i64 (countR (l.take k) o.h : Nat) ∧ Hid (Below wo.heap.size wo wr)) (fun _ kv _ => len - (intOf kv).toNat)
      case atStart => exact ⟨0, rfl, Nat.zero_le _, rfl, Below.refl _ _⟩
      case round =>
        obtain ⟨k, rfl, hk, rfl, hbk⟩ := hrel
        obtain ⟨wk, rfl⟩ : ∃ wk : World, wk = wr := ⟨_, rfl⟩
        by_cases hkl : k < len
        · obtain ⟨p, hp⟩ : ∃ p, l[k]? = some p := ⟨l[k]'(by omega), List.getElem?_eq_getElem (by omega)⟩
          have HPI := Lib.hid hp
          have hk0 : (0 : Int) ≤ (k : Int) := by omega
          have hk1 : (k : Int) < (len : Int) := by omega
          have hnr := HO.out.refs p (List.mem_of_getElem? hp)
          have HNR := Lib.hid hnr
          have hps := hnr.size
          have hrl2 := refsN_mem (List.mem_of_getElem? hp)
          have HP0 : Hid (∀ x, partR l k p.refs 0 x = countR (l.take k) x) := (show ∀ x, partR l k p.refs 0 x = countR (l.take k) x from fun x => by unfold partR; simp)
          have HPN : Hid (∀ x, partR l k p.refs p.refs.length x = countR (l.take (k + 1)) x) := (show ∀ x, partR l k p.refs p.refs.length x = countR (l.take (k + 1)) x from fun x => by rw [partR_over hp []]; unfold partR; simp)
          clear hp hnr
          go_wp2_with fail
          go_loopw [5, 7] (fun n jv wr => ∃ (j : Nat), jv = .int .i64 (j : Nat) ∧ j ≤ p.rl ∧ n = .int .i64 (partR l k p.refs j o.h : Nat) ∧ Hid (Below wo.heap.size wo wr)) (fun _ jv _ => p.rl - (intOf jv).toNat)
          case atStart => exact ⟨0, rfl, Nat.zero_le _, by rw [HP0.out], hbk⟩
          case round =>
            obtain ⟨j, rfl, hj, rfl, hbj⟩ := hrel
            obtain ⟨wj, rfl⟩ : ∃ wj : World, wj = wr := ⟨_, rfl⟩
            have hbw := ha.out.bel.trans (hbj.out.mono ha.out.bel.size)
            obtain ⟨b, off, rfl, hbl, e0, e1, e2, e3, e4⟩ := obj_at HO.out hbw rfl HPI.out
            have hj0 : (0 : Int) ≤ (j : Int) := by omega
            by_cases hjl : j < p.rl
            · obtain ⟨b2, off2, ea, hbl2, e5⟩ := HNR.out.at hjl
              rw [ea] at e4
              have e6 := (hbw.cell (p := ⟨b2, off2 + j, none⟩) hbl2).trans e5
              obtain ⟨b', off', ea', _, f0, _, _, _, _⟩ := obj_at HO.out hbw rfl HOI.out
              cases ea'
              have hj1 : (j : Int) < (p.rl : Int) := by omega
              have HNX := partR_next (l := l) (k := k) (r := p.refs) (j := j) (by omega) o.h
              have hle := partR_le HPI.out j o.h
              by_cases he : hg p.refs j = o.h
              · rw [if_pos he] at HNX
                have HNN := Lib.hid HNX
                have hbe : (hg p.refs j == o.h) = true := by rw [beq_iff_eq]; exact he
                generalize hg p.refs j = y at e6 hbe
                generalize partR l k p.refs j o.h = cn at hle HNN
                clear he e5 HNX
                go_wp2_with fail
                go_quiet (fail)
                go_wp2
                go_roundw
                case rel => first | exact ⟨j + 1, by go_num, by omega, by rw [HNN.out]; go_num, bel_drewN hbj.out _⟩ | ((repeat apply Exists.intro); exact ⟨⟨j + 1, by go_num, by omega, by rw [HNN.out]; go_num, bel_drewN hbj.out _⟩, rfl⟩)
                case measure => simp [intOf]; omega
              · rw [if_neg he] at HNX
                have HNN := Lib.hid HNX
                have hbe : (hg p.refs j == o.h) = false := by rw [beq_eq_false_iff_ne]; exact he
                generalize hg p.refs j = y at e6 hbe
                generalize partR l k p.refs j o.h = cn at hle HNN
                clear he e5 HNX
                go_wp2_with fail
                go_quiet (fail)
                go_wp2
                go_roundw
                case rel => first | exact ⟨j + 1, by go_num, by omega, by rw [HNN.out]; go_num, bel_drewN hbj.out _⟩ | ((repeat apply Exists.intro); exact ⟨⟨j + 1, by go_num, by omega, by rw [HNN.out]; go_num, bel_drewN hbj.out _⟩, rfl⟩)
                case measure => simp [intOf]; omega
            · obtain ⟨jj, hjj⟩ : ∃ jj, jj = p.rl := ⟨_, rfl⟩
              have hje : j = p.rl := by omega
              have HNN : Hid (partR l k p.refs j o.h = countR (l.take (k + 1)) o.h) := (show partR l k p.refs j o.h = countR (l.take (k + 1)) o.h by rw [hje, ← hps]; exact HPN.out _)
              have hle := partR_le HPI.out j o.h
              generalize partR l k p.refs j o.h = cn at hle HNN
              have HB2 := Lib.hid hbj.out
              clear hbj
              go_wp2
              go_roundw
              case rel => first | exact ⟨k + 1, by go_num, by omega, by rw [HNN.out], HB2⟩ | ((repeat apply Exists.intro); exact ⟨⟨k + 1, by go_num, by omega, by rw [HNN.out], HB2⟩, rfl⟩)
              case measure => simp [intOf]; omega
        · obtain rfl : k = len := by omega
          have htk : l.take k = l := List.take_of_length_le (by omega)
          have HLS : Hid ((l.take (i + 1)).map (fun o => ((countR l o.h : Nat) : Int)) = (l.take i).map (fun o => ((countR l o.h : Nat) : Int)) ++ [((countR l o.h : Nat) : Int)]) := (show _ = _ by
            rw [List.take_add_one, HOI.out, List.map_append]; rfl)
          have HLL : Hid (((l.take i).map fun o => ((countR l o.h : Nat) : Int)).length ≤ 1048576) := (show ((l.take i).map fun o => ((countR l o.h : Nat) : Int)).length ≤ 1048576 by rw [List.length_map, List.length_take]; omega)
          have HA1 := Lib.hid (ha.out.below hbk.out)
          rw [htk]
          have hle := countR_le l o.h
          generalize countR l o.h = cn at HLS hle ⊢
          generalize (l.take i).map (fun o => ((countR l o.h : Nat) : Int)) = acc at HA1 HLS HLL
          have HO1 : Hid (acc.length + 1 ≤ maxLen) := (show acc.length + 1 ≤ maxLen by have := HLL.out; unfold maxLen; omega)
          have HO2 : Hid ((acc.length + 1) * 8 ≤ 140737488355328) := (show (acc.length + 1) * 8 ≤ 140737488355328 by have := HLL.out; omega)
          clear htk hbk hkl
          go_wp2_with (at_builtin; refine wpList_row (by rfl) (.tmp 46) (.tmp 48) 23 rfl 3 i0 (.int .i64 0) 1 8 Try.underlying23 HI.out HZ0.out HZ1.out HZ2.out rfl (by decide) u3 acc.length (intC acc) rfl (HA1.out.src _) (.slice (some ⟨wk.heap.size, 0, none⟩) 1 1) 1 [.int .i64 (cn : Nat)] rfl (new_one _ _ _) (one_of rfl) HO1.out HO2.out ?_)
          intro v2 w2 hr2 hg2 hv2
          have HA2 : Hid (AccI w v2 ((l.take (i + 1)).map fun o => ((countR l o.h : Nat) : Int)) w2) := (show AccI w v2 ((l.take (i + 1)).map fun o => ((countR l o.h : Nat) : Int)) w2 by rw [HLS.out]; exact HA1.out.push hr2 hg2 hv2)
          clear hr2 hg2 hv2
          go_wp2
          go_roundw
          case rel => first | exact ⟨i + 1, by go_num, by omega, HA2⟩ | ((repeat apply Exists.intro); exact ⟨⟨i + 1, by go_num, by omega, HA2⟩, rfl⟩)
          case measure => simp [intOf]; omega
    · obtain rfl : i = len := by omega
      have HF : Hid (RowDone w (l.map fun o => ((countR l o.h : Nat) : Int)) (.returned u3) wo) := (show RowDone w (l.map fun o => ((countR l o.h : Nat) : Int)) (.returned u3) wo by
        have := ha.out.done
        rw [List.take_of_length_le (by omega)] at this
        exact this)
      clear hlt ha
      go_wp2
      go_ret
      exact HF.out
end Go.Proofs.Ytogifanooleppaa
