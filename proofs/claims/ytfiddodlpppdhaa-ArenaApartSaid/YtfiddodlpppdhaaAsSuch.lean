/- arena's such, Check, Live, Bad compute what they say. -/
import Derived.Test.YtfiddodlpppdhaaAsSuchP
import Derived.Test.YtfiddodlpppdhaaArKeys
namespace Go.Proofs.Ytfiddodlpppdhaa
open Go.RowKit Go.Maps
set_option linter.unusedVariables false
section
variable {w w' : World} {B : Nat → Prop} {pa K : Nat} {I : ArIds} {own : Nat → Nat} {A : Ar}
theorem ArS.keep (h : ArS B w pa K A) (hb : Below w.heap.size w w') : ArS B w' pa K A := by
  obtain ⟨I, own, h1, h2, h3⟩ := h
  exact ⟨I, own, h1.below hb, h2, Fits.le h3 hb.size⟩
theorem ArS.base (h : ArS B w pa K A) : Fits B w := by obtain ⟨I, own, h1, h2, h3⟩ := h; exact h3
theorem live1_at (x : Int) (b : BlkT) (y : Nat) (w : World) (d2 : w.cell? ⟨y, 2, none⟩ = some (.int .i64 (b.st : Nat))) :
    Calls Try.prog 37 #[.int .i64 x, .pointer (some ⟨y, 0, none⟩)] w fun e w' => e = .returned (.bool ((b.st : Int) == 1)) ∧ w = w' := by
  go_enter Try.func37, Try.ntmps37
  go_wp2
  go_ret
  exact ⟨rfl, rfl⟩
set_option maxRecDepth 100000 in
theorem smashed_at (x : Nat) (b : BlkT) (w : World) (h : ArAt w pa I own K A) (ok : ArOk A) (hb : A.B x = some b) :
    Calls Try.prog 39 #[.pointer (some ⟨pa, 0, none⟩), .int .i64 (x : Nat), .pointer (some ⟨I.blk x, 0, none⟩)] w fun e w' => e = .returned (.bool (smashQ A x b)) ∧ ∃ k, w' = w.drewN k := by
  obtain ⟨_, _, d2, _⟩ := h.bcells hb
  obtain ⟨p1, p2, p3, p4⟩ := ok.size_pos hb
  have HKP := Lib.hid (kept_at x b w h hb p2 p1 ok.n.2 p4)
  have HWH := Lib.hid (whole_at x b w h hb p2 p1 ok.n.2)
  have HQ : Hid (smashQ A x b = if b.st = 1 then !keptD A x b else if b.st = 4 then false else !wholeD A x b) := rfl
  unfold KeptDone at HKP
  unfold WholeDone at HWH
  generalize smashQ A x b = r at HQ ⊢
  generalize keptD A x b = r1 at HQ HKP
  generalize wholeD A x b = r2 at HQ HWH
  obtain ⟨s, hs⟩ : ∃ s, s = b.st := ⟨_, rfl⟩
  rw [← hs] at d2 HQ
  clear h ok hb p1 p2 p3 p4 hs
  by_cases h1 : s = 1
  · subst h1
    have HR : Hid (r = !r1) := Lib.hid (show r = !r1 from HQ.out)
    clear HQ HWH
    go_enter Try.func39, Try.ntmps39
    go_wp2_with fail
    refine HKP.out.mono ?_
    rintro e w1 ⟨rfl, k, rfl⟩
    go_wp2
    go_ret
    exact ⟨by rw [HR.out]; rfl, k, rfl⟩
  · have e1 : ((s : Int) == 1) = false := by rw [beq_eq_false_iff_ne]; omega
    by_cases h4 : s = 4
    · subst h4
      have HR : Hid (r = false) := Lib.hid (show r = false from HQ.out)
      clear HQ HWH HKP e1 h1
      go_enter Try.func39, Try.ntmps39
      go_wp2
      go_ret
      exact ⟨by rw [HR.out]; rfl, 0, rfl⟩
    · have e4 : ((s : Int) == 4) = false := by rw [beq_eq_false_iff_ne]; omega
      have HR : Hid (r = !r2) := Lib.hid (show r = !r2 from by have := HQ.out; rw [if_neg h1, if_neg h4] at this; exact this)
      clear HQ HKP h1 h4
      go_enter Try.func39, Try.ntmps39
      go_wp2_with fail
      refine HWH.out.mono ?_
      rintro e w1 ⟨rfl, k, rfl⟩
      go_wp2
      go_ret
      exact ⟨by rw [HR.out]; rfl, k, rfl⟩
set_option maxRecDepth 100000 in
set_option maxHeartbeats 2000000 in
theorem suchLive (q : Nat → BlkT → Bool) (w : World) (h : ArAt w pa I own K A) (ok : ArOk A) (hK : K ≤ 1048576)
    (hq : ∀ (x : Nat) (b : BlkT) (wr : World), A.B x = some b → Below w.heap.size w wr → Calls Try.prog 37 #[.int .i64 (x : Nat), .pointer (some ⟨I.blk x, 0, none⟩)] wr fun e w'' => e = .returned (.bool (q x b)) ∧ ∃ m, w'' = wr.drewN m) :
    Calls Try.prog 36 #[.pointer (some ⟨pa, 0, none⟩), .func (.func 37) #[] #[]] w (RowDone w (natI (suchL A q))) := by
  obtain ⟨_, _, _, c3, _⟩ := h.cells
  obtain ⟨S, hSe⟩ : ∃ S, S = natI (allL A) := ⟨_, rfl⟩
  have hS : S.Pairwise (· < ·) := by rw [hSe]; exact all_rise
  have hmS : ∀ x, x ∈ S ↔ (Lit.int .i64 x).wf = true ∧ (mapP A.B I.blk x).isSome = true := fun x => by rw [hSe]; exact mem_all ok
  have HMB : Hid (∀ x ∈ S, ∃ (n : Nat) (b : BlkT), x = (n : Int) ∧ A.B n = some b) := Lib.hid (show ∀ x ∈ S, ∃ (n : Nat) (b : BlkT), x = (n : Int) ∧ A.B n = some b from fun x hx => by
    rw [hSe] at hx
    obtain ⟨n, h1, h2⟩ := mem_natI.1 hx
    obtain ⟨b, hb, _⟩ := (mem_suchL ok).1 h1
    exact ⟨n, b, h2, hb⟩)
  have hmw : ∀ x ∈ S, (Lit.int .i64 x).wf = true := fun x hx => ((hmS x).1 hx).1
  have hSl : S.length ≤ 1048576 := by
    have h1 := suchL_len (A := A) (q := fun _ _ => true)
    have h2 := ok.n.2
    rw [hSe, natI_len]
    unfold allL
    omega
  have HSO := Lib.hid (sorted_calls w h.map hK hS hmS)
  have HKC := Lib.hid (fun W => keys_calls (some I.mb) W)
  have HDE : Hid (S.filter (qI A q) = natI (suchL A q)) := Lib.hid (show S.filter (qI A q) = natI (suchL A q) from by rw [hSe]; exact such_nat)
  obtain ⟨D, hD⟩ : ∃ D, D = natI (suchL A q) := ⟨_, rfl⟩
  rw [← hD] at HDE ⊢
  have H := Lib.hid h
  have HW := Lib.hid hmw
  have HL := Lib.hid hSl
  have HQ := Lib.hid hq
  obtain ⟨i0, hi, hz0, hz1, hz2⟩ := info_parts leastInfo1
  have HI := Lib.hid hi
  have HZ0 := Lib.hid hz0
  have HZ1 := Lib.hid hz1
  have HZ2 := Lib.hid hz2
  have HLT := Lib.hid h.lt_pa
  clear h ok hK hq hSe hS hmS hmw hSl hD hi hz0 hz1 hz2
  go_enter Try.func36, Try.ntmps36
  go_wp2_with fail
  refine (HKC.out _).mono ?_
  rintro e w1 ⟨rfl, rfl⟩
  go_wp2_with fail
  refine HSO.out.mono ?_
  rintro e w1 ⟨v, rfl, hr, hn, hb⟩
  obtain ⟨a, cap, rfl, _⟩ := hr.read
  have HR := Lib.hid hr
  have HB := Lib.hid hb
  have HA0 := Lib.hid (AccI.start w1)
  clear hr hn hb
  go_wp2_with fail
  go_loopw [5, 15] (fun v i wr => ∃ (k : Nat) (acc : List Int), i = .int .i64 (k : Nat) ∧ k ≤ S.length ∧ Hid (AccI w1 v acc wr ∧ acc = (S.take k).filter (qI A q))) (fun _ i _ => S.length - (intOf i).toNat)
  case atStart => exact ⟨0, [], rfl, Nat.zero_le _, ⟨HA0.out, by simp⟩⟩
  case round =>
    obtain ⟨k, acc, rfl, hk, hs⟩ := hrel
    obtain ⟨wo, rfl⟩ : ∃ wo : World, wo = wr := ⟨_, rfl⟩
    by_cases hlt : k < S.length
    · obtain ⟨g, off, rfl, hg1, hcell⟩ := row_cell HR.out rfl hlt
      have d0 : wo.cell? ⟨g, off + k, none⟩ = some (.int .i64 (hg S k)) := (hs.out.1.bel.cell (p := ⟨g, off + k, none⟩) hg1).trans hcell
      have HBW := Lib.hid (HB.out.trans (hs.out.1.bel.mono HB.out.size))
      have c2 : wo.cell? ⟨pa, 3, none⟩ = some (.map (some I.mb)) := (HBW.out.cell (p := ⟨pa, 3, none⟩) HLT.out).trans c3
      have hx : S[k]? = some (hg S k) := hg_some hlt
      have hxm := List.mem_of_getElem? hx
      have hwf := HW.out _ hxm
      obtain ⟨n, b, hxn, hbn⟩ := HMB.out _ hxm
      have HST : Hid ((S.take (k + 1)).filter (qI A q) = acc ++ if q n b = true then [hg S k] else []) := Lib.hid (show (S.take (k + 1)).filter (qI A q) = acc ++ if q n b = true then [hg S k] else [] from by
        rw [List.take_add_one, hx, List.filter_append, ← hs.out.2]
        simp only [Option.toList_some, List.filter_cons, List.filter_nil]
        have e : qI A q (hg S k) = q n b := by unfold qI; rw [hxn, Int.toNat_natCast, hbn]
        rw [e])
      have hlk : (Instr.lookup 53 (.map (some I.mb)) (.int .i64 (hg S k)) false).run Try.prog wo = .ok (.pointer (some ⟨I.blk n, 0, none⟩)) wo := by
        have := ((H.out.below HBW.out).map.look ar_key Try.underlying3 Try.underlying53 (ar_zero wo) hwf)
        rw [hxn] at this ⊢
        rw [mapP_some hbn] at this
        exact this
      have HQK : Hid (Calls Try.prog 37 #[.int .i64 (hg S k), .pointer (some ⟨I.blk n, 0, none⟩)] wo fun e w'' => e = .returned (.bool (q n b)) ∧ ∃ m, w'' = wo.drewN m) := Lib.hid (show Calls Try.prog 37 #[.int .i64 (hg S k), .pointer (some ⟨I.blk n, 0, none⟩)] wo fun e w'' => e = .returned (.bool (q n b)) ∧ ∃ m, w'' = wo.drewN m from by
        rw [hxn]
        exact HQ.out n b wo hbn HBW.out)
      have HAD : Hid (∀ m, AccI w1 u5 acc (wo.drewN m)) := Lib.hid (show ∀ m, AccI w1 u5 acc (wo.drewN m) from fun m => hs.out.1.below (below_drewN wo _ m))
      obtain ⟨x, hxe⟩ : ∃ x, x = hg S k := ⟨_, rfl⟩
      rw [← hxe] at d0 HST hlk HQK
      clear hcell hx hxm hwf hxn hbn hxe
      have hi2 : k < 1048576 := by have := HL.out; omega
      have hi0 : (0 : Int) ≤ (k : Int) := by omega
      have hi1 : (k : Int) < (S.length : Int) := by omega
      have HLL : Hid (acc.length ≤ 1048576) := Lib.hid (show acc.length ≤ 1048576 from by
        rw [hs.out.2]
        refine Nat.le_trans (List.length_filter_le _ _) ?_
        rw [List.length_take]
        have := HL.out
        omega)
      by_cases hqb : q n b = true
      · rw [hqb] at HQK
        have HST2 : Hid ((S.take (k + 1)).filter (qI A q) = acc ++ [x]) := Lib.hid (show _ = _ from by rw [HST.out, if_pos hqb])
        have HO1 : Hid (acc.length + 1 ≤ maxLen) := Lib.hid (show acc.length + 1 ≤ maxLen from by have := HLL.out; unfold maxLen; omega)
        have HO2 : Hid ((acc.length + 1) * 8 ≤ 140737488355328) := Lib.hid (show (acc.length + 1) * 8 ≤ 140737488355328 from by have := HLL.out; omega)
        clear hqb HST
        go_wp2_with fail
        refine HQK.out.mono ?_
        rintro e wq ⟨rfl, kq, rfl⟩
        go_wp2_with (at_builtin; refine wpList_row (by rfl) (.tmp 28) (.tmp 30) 35 rfl 3 i0 (.int .i64 0) 1 8 Try.underlying35 HI.out HZ0.out HZ1.out HZ2.out rfl (by decide) u5 acc.length (intC acc) rfl ((HAD.out kq).src _) (.slice (some ⟨(wo.drewN kq).heap.size, 0, none⟩) 1 1) 1 [.int .i64 x] rfl (new_one _ _ _) (one_of rfl) HO1.out HO2.out ?_)
        intro v2 w2 hr2 hg2 hv2
        have HA2 : Hid (AccI w1 v2 (acc ++ [x]) w2 ∧ acc ++ [x] = (S.take (k + 1)).filter (qI A q)) := Lib.hid (show _ ∧ _ from ⟨(HAD.out kq).push hr2 hg2 hv2, HST2.out.symm⟩)
        clear hr2 hg2 hv2
        go_wp2
        go_roundw
        case rel => first | exact ⟨k + 1, acc ++ [x], by go_num, by omega, HA2⟩ | ((repeat apply Exists.intro); exact ⟨⟨k + 1, acc ++ [x], by go_num, by omega, HA2⟩, rfl⟩)
        case measure => simp [intOf]; omega
      · have hqb2 : q n b = false := by simpa using hqb
        rw [hqb2] at HQK
        have HST2 : Hid (acc = (S.take (k + 1)).filter (qI A q)) := Lib.hid (show _ = _ from by rw [HST.out, if_neg hqb]; simp)
        have HA2 : Hid (∀ m, AccI w1 u5 acc (wo.drewN m) ∧ acc = (S.take (k + 1)).filter (qI A q)) := Lib.hid (show ∀ m, _ ∧ _ from fun m => ⟨HAD.out m, HST2.out⟩)
        clear hqb hqb2 HST
        go_wp2_with fail
        refine HQK.out.mono ?_
        rintro e wq ⟨rfl, kq, rfl⟩
        go_wp2
        go_roundw
        case rel => first | exact ⟨k + 1, acc, by go_num, by omega, HA2.out kq⟩ | ((repeat apply Exists.intro); exact ⟨⟨k + 1, acc, by go_num, by omega, HA2.out kq⟩, rfl⟩)
        case measure => simp [intOf]; omega
    · obtain rfl : k = S.length := by omega
      have HF : Hid (RowDone w D (.returned u5) wo) := Lib.hid (show RowDone w D (.returned u5) wo from by
        have := hs.out.1.done_from HB.out
        rw [hs.out.2, List.take_length, HDE.out] at this
        exact this)
      clear hlt
      go_wp2
      go_ret
      exact HF.out
set_option maxRecDepth 100000 in
set_option maxHeartbeats 2000000 in
theorem suchCheck (q : Nat → BlkT → Bool) (w : World) (h : ArAt w pa I own K A) (ok : ArOk A) (hK : K ≤ 1048576)
    (hq : ∀ (x : Nat) (b : BlkT) (wr : World), A.B x = some b → Below w.heap.size w wr → Calls Try.prog 39 #[.pointer (some ⟨pa, 0, none⟩), .int .i64 (x : Nat), .pointer (some ⟨I.blk x, 0, none⟩)] wr fun e w'' => e = .returned (.bool (q x b)) ∧ ∃ m, w'' = wr.drewN m) :
    Calls Try.prog 36 #[.pointer (some ⟨pa, 0, none⟩), .func (.func 39) #[.pointer (some ⟨pa, 0, none⟩)] #[]] w (RowDone w (natI (suchL A q))) := by
  obtain ⟨_, _, _, c3, _⟩ := h.cells
  obtain ⟨S, hSe⟩ : ∃ S, S = natI (allL A) := ⟨_, rfl⟩
  have hS : S.Pairwise (· < ·) := by rw [hSe]; exact all_rise
  have hmS : ∀ x, x ∈ S ↔ (Lit.int .i64 x).wf = true ∧ (mapP A.B I.blk x).isSome = true := fun x => by rw [hSe]; exact mem_all ok
  have HMB : Hid (∀ x ∈ S, ∃ (n : Nat) (b : BlkT), x = (n : Int) ∧ A.B n = some b) := Lib.hid (show ∀ x ∈ S, ∃ (n : Nat) (b : BlkT), x = (n : Int) ∧ A.B n = some b from fun x hx => by
    rw [hSe] at hx
    obtain ⟨n, h1, h2⟩ := mem_natI.1 hx
    obtain ⟨b, hb, _⟩ := (mem_suchL ok).1 h1
    exact ⟨n, b, h2, hb⟩)
  have hmw : ∀ x ∈ S, (Lit.int .i64 x).wf = true := fun x hx => ((hmS x).1 hx).1
  have hSl : S.length ≤ 1048576 := by
    have h1 := suchL_len (A := A) (q := fun _ _ => true)
    have h2 := ok.n.2
    rw [hSe, natI_len]
    unfold allL
    omega
  have HSO := Lib.hid (sorted_calls w h.map hK hS hmS)
  have HKC := Lib.hid (fun W => keys_calls (some I.mb) W)
  have HDE : Hid (S.filter (qI A q) = natI (suchL A q)) := Lib.hid (show S.filter (qI A q) = natI (suchL A q) from by rw [hSe]; exact such_nat)
  obtain ⟨D, hD⟩ : ∃ D, D = natI (suchL A q) := ⟨_, rfl⟩
  rw [← hD] at HDE ⊢
  have H := Lib.hid h
  have HW := Lib.hid hmw
  have HL := Lib.hid hSl
  have HQ := Lib.hid hq
  obtain ⟨i0, hi, hz0, hz1, hz2⟩ := info_parts leastInfo1
  have HI := Lib.hid hi
  have HZ0 := Lib.hid hz0
  have HZ1 := Lib.hid hz1
  have HZ2 := Lib.hid hz2
  have HLT := Lib.hid h.lt_pa
  clear h ok hK hq hSe hS hmS hmw hSl hD hi hz0 hz1 hz2
  go_enter Try.func36, Try.ntmps36
  go_wp2_with fail
  refine (HKC.out _).mono ?_
  rintro e w1 ⟨rfl, rfl⟩
  go_wp2_with fail
  refine HSO.out.mono ?_
  rintro e w1 ⟨v, rfl, hr, hn, hb⟩
  obtain ⟨a, cap, rfl, _⟩ := hr.read
  have HR := Lib.hid hr
  have HB := Lib.hid hb
  have HA0 := Lib.hid (AccI.start w1)
  clear hr hn hb
  go_wp2_with fail
  go_loopw [5, 15] (fun v i wr => ∃ (k : Nat) (acc : List Int), i = .int .i64 (k : Nat) ∧ k ≤ S.length ∧ Hid (AccI w1 v acc wr ∧ acc = (S.take k).filter (qI A q))) (fun _ i _ => S.length - (intOf i).toNat)
  case atStart => exact ⟨0, [], rfl, Nat.zero_le _, ⟨HA0.out, by simp⟩⟩
  case round =>
    obtain ⟨k, acc, rfl, hk, hs⟩ := hrel
    obtain ⟨wo, rfl⟩ : ∃ wo : World, wo = wr := ⟨_, rfl⟩
    by_cases hlt : k < S.length
    · obtain ⟨g, off, rfl, hg1, hcell⟩ := row_cell HR.out rfl hlt
      have d0 : wo.cell? ⟨g, off + k, none⟩ = some (.int .i64 (hg S k)) := (hs.out.1.bel.cell (p := ⟨g, off + k, none⟩) hg1).trans hcell
      have HBW := Lib.hid (HB.out.trans (hs.out.1.bel.mono HB.out.size))
      have c2 : wo.cell? ⟨pa, 3, none⟩ = some (.map (some I.mb)) := (HBW.out.cell (p := ⟨pa, 3, none⟩) HLT.out).trans c3
      have hx : S[k]? = some (hg S k) := hg_some hlt
      have hxm := List.mem_of_getElem? hx
      have hwf := HW.out _ hxm
      obtain ⟨n, b, hxn, hbn⟩ := HMB.out _ hxm
      have HST : Hid ((S.take (k + 1)).filter (qI A q) = acc ++ if q n b = true then [hg S k] else []) := Lib.hid (show (S.take (k + 1)).filter (qI A q) = acc ++ if q n b = true then [hg S k] else [] from by
        rw [List.take_add_one, hx, List.filter_append, ← hs.out.2]
        simp only [Option.toList_some, List.filter_cons, List.filter_nil]
        have e : qI A q (hg S k) = q n b := by unfold qI; rw [hxn, Int.toNat_natCast, hbn]
        rw [e])
      have hlk : (Instr.lookup 53 (.map (some I.mb)) (.int .i64 (hg S k)) false).run Try.prog wo = .ok (.pointer (some ⟨I.blk n, 0, none⟩)) wo := by
        have := ((H.out.below HBW.out).map.look ar_key Try.underlying3 Try.underlying53 (ar_zero wo) hwf)
        rw [hxn] at this ⊢
        rw [mapP_some hbn] at this
        exact this
      have HQK : Hid (Calls Try.prog 39 #[.pointer (some ⟨pa, 0, none⟩), .int .i64 (hg S k), .pointer (some ⟨I.blk n, 0, none⟩)] wo fun e w'' => e = .returned (.bool (q n b)) ∧ ∃ m, w'' = wo.drewN m) := Lib.hid (show Calls Try.prog 39 #[.pointer (some ⟨pa, 0, none⟩), .int .i64 (hg S k), .pointer (some ⟨I.blk n, 0, none⟩)] wo fun e w'' => e = .returned (.bool (q n b)) ∧ ∃ m, w'' = wo.drewN m from by
        rw [hxn]
        exact HQ.out n b wo hbn HBW.out)
      have HAD : Hid (∀ m, AccI w1 u5 acc (wo.drewN m)) := Lib.hid (show ∀ m, AccI w1 u5 acc (wo.drewN m) from fun m => hs.out.1.below (below_drewN wo _ m))
      obtain ⟨x, hxe⟩ : ∃ x, x = hg S k := ⟨_, rfl⟩
      rw [← hxe] at d0 HST hlk HQK
      clear hcell hx hxm hwf hxn hbn hxe
      have hi2 : k < 1048576 := by have := HL.out; omega
      have hi0 : (0 : Int) ≤ (k : Int) := by omega
      have hi1 : (k : Int) < (S.length : Int) := by omega
      have HLL : Hid (acc.length ≤ 1048576) := Lib.hid (show acc.length ≤ 1048576 from by
        rw [hs.out.2]
        refine Nat.le_trans (List.length_filter_le _ _) ?_
        rw [List.length_take]
        have := HL.out
        omega)
      by_cases hqb : q n b = true
      · rw [hqb] at HQK
        have HST2 : Hid ((S.take (k + 1)).filter (qI A q) = acc ++ [x]) := Lib.hid (show _ = _ from by rw [HST.out, if_pos hqb])
        have HO1 : Hid (acc.length + 1 ≤ maxLen) := Lib.hid (show acc.length + 1 ≤ maxLen from by have := HLL.out; unfold maxLen; omega)
        have HO2 : Hid ((acc.length + 1) * 8 ≤ 140737488355328) := Lib.hid (show (acc.length + 1) * 8 ≤ 140737488355328 from by have := HLL.out; omega)
        clear hqb HST
        go_wp2_with fail
        refine HQK.out.mono ?_
        rintro e wq ⟨rfl, kq, rfl⟩
        go_wp2_with (at_builtin; refine wpList_row (by rfl) (.tmp 28) (.tmp 30) 35 rfl 3 i0 (.int .i64 0) 1 8 Try.underlying35 HI.out HZ0.out HZ1.out HZ2.out rfl (by decide) u5 acc.length (intC acc) rfl ((HAD.out kq).src _) (.slice (some ⟨(wo.drewN kq).heap.size, 0, none⟩) 1 1) 1 [.int .i64 x] rfl (new_one _ _ _) (one_of rfl) HO1.out HO2.out ?_)
        intro v2 w2 hr2 hg2 hv2
        have HA2 : Hid (AccI w1 v2 (acc ++ [x]) w2 ∧ acc ++ [x] = (S.take (k + 1)).filter (qI A q)) := Lib.hid (show _ ∧ _ from ⟨(HAD.out kq).push hr2 hg2 hv2, HST2.out.symm⟩)
        clear hr2 hg2 hv2
        go_wp2
        go_roundw
        case rel => first | exact ⟨k + 1, acc ++ [x], by go_num, by omega, HA2⟩ | ((repeat apply Exists.intro); exact ⟨⟨k + 1, acc ++ [x], by go_num, by omega, HA2⟩, rfl⟩)
        case measure => simp [intOf]; omega
      · have hqb2 : q n b = false := by simpa using hqb
        rw [hqb2] at HQK
        have HST2 : Hid (acc = (S.take (k + 1)).filter (qI A q)) := Lib.hid (show _ = _ from by rw [HST.out, if_neg hqb]; simp)
        have HA2 : Hid (∀ m, AccI w1 u5 acc (wo.drewN m) ∧ acc = (S.take (k + 1)).filter (qI A q)) := Lib.hid (show ∀ m, _ ∧ _ from fun m => ⟨HAD.out m, HST2.out⟩)
        clear hqb hqb2 HST
        go_wp2_with fail
        refine HQK.out.mono ?_
        rintro e wq ⟨rfl, kq, rfl⟩
        go_wp2
        go_roundw
        case rel => first | exact ⟨k + 1, acc, by go_num, by omega, HA2.out kq⟩ | ((repeat apply Exists.intro); exact ⟨⟨k + 1, acc, by go_num, by omega, HA2.out kq⟩, rfl⟩)
        case measure => simp [intOf]; omega
    · obtain rfl : k = S.length := by omega
      have HF : Hid (RowDone w D (.returned u5) wo) := Lib.hid (show RowDone w D (.returned u5) wo from by
        have := hs.out.1.done_from HB.out
        rw [hs.out.2, List.take_length, HDE.out] at this
        exact this)
      clear hlt
      go_wp2
      go_ret
      exact HF.out
end
end Go.Proofs.Ytfiddodlpppdhaa
