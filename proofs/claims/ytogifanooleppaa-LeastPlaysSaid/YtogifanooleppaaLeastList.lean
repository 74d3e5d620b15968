/- least's List: what is there, rising. -/
import Derived.Test.YtogifanooleppaaLeastDrop
import Derived.Test.YtogifanooleppaaSortKeys
namespace Go.Proofs.Ytogifanooleppaa
open Go.RowKit Go.Maps
set_option linter.unusedVariables false

/-- two lists that rise and hold the same are one -/
theorem rising_one {a b : List Int} (ha : a.Pairwise (· < ·)) (hb : b.Pairwise (· < ·)) (h : ∀ x, x ∈ a ↔ x ∈ b) : a = b := by
  have na : a.Nodup := ha.imp fun {x y} h => by omega
  have nb : b.Nodup := hb.imp fun {x y} h => by omega
  exact List.Perm.eq_of_pairwise (le := fun a b : Int => a < b) (fun a b _ _ h1 h2 => by omega) ha hb ((List.perm_ext_iff_of_nodup na nb).2 h)
/-- a list, rising -/
def risen (l : List Int) : List Int := l.mergeSort leI
theorem mem_risen {l : List Int} {x : Int} : x ∈ risen l ↔ x ∈ l := (List.mergeSort_perm l leI).mem_iff
theorem risen_lt {l : List Int} (h : l.Nodup) : (risen l).Pairwise (· < ·) := by
  have tr : ∀ a b c : Int, leI a b = true → leI b c = true → leI a c = true := fun a b c h1 h2 => by simp only [leI, decide_eq_true_eq] at *; exact Int.le_trans h1 h2
  have to : ∀ a b : Int, (leI a b || leI b a) = true := fun a b => by simp only [leI, Bool.or_eq_true, decide_eq_true_eq]; exact Int.le_total a b
  have h1 := List.pairwise_mergeSort tr to l
  have h2 : (l.mergeSort leI).Nodup := (List.mergeSort_perm l leI).nodup_iff.2 h
  unfold risen
  exact (h1.and h2).imp fun {a b} ⟨h3, h4⟩ => by simp only [leI, decide_eq_true_eq] at h3; omega
section
variable {B p N : Nat} {T : Int → Bool} {w w' : World} {m c : Nat} {q : Option Nat} {l : List Int} {M : Int → Option Bool}
set_option maxRecDepth 100000 in
set_option maxHeartbeats 1000000 in
theorem lsList_any (D : List Int) (w : World) (h : LeastAt w p m c q l M) (hc : c ≤ 1048576) (hl : l.length ≤ 1048576) (hD : D.Pairwise (· < ·)) (hm : ∀ x, x ∈ D ↔ M x = some true) :
    Calls Try.prog 44 #[.pointer (some ⟨p, 0, none⟩)] w (RowDone w D) := by
  have c1 := h.cell
  have hS := risen_lt h.nodup
  have hmS : ∀ x, x ∈ risen l ↔ (Lit.int .i64 x).wf = true ∧ (mapB M x).isSome = true := fun x => by
    rw [mem_risen, mapB_isSome]
    constructor
    · intro hx
      refine ⟨h.wfl x hx, ?_⟩
      have := (h.dom x).1 hx
      cases hM : M x with
      | none => exact absurd hM this
      | some b => rfl
    · rintro ⟨_, hx⟩
      refine (h.dom x).2 fun e => ?_
      rw [e] at hx
      cases hx
  have hlen : (risen l).length = l.length := (List.mergeSort_perm l leI).length_eq
  obtain ⟨S, hSe⟩ : ∃ S, S = risen l := ⟨_, rfl⟩
  rw [← hSe] at hS hmS hlen
  have hmw : ∀ x ∈ S, (Lit.int .i64 x).wf = true := fun x hx => ((hmS x).1 hx).1
  have HSO := Lib.hid (sorted_calls w h.map hc hS hmS)
  have HK := Lib.hid (fun W => keys_calls (some m) W)
  have HDE : Hid (S.filter (fun x => (M x).getD false) = D) := (show S.filter (fun x => (M x).getD false) = D from rising_one (hS.filter _) hD fun x => by
    rw [List.mem_filter, hm x, hmS x, mapB_isSome]
    constructor
    · rintro ⟨_, hx⟩
      cases hM : M x with
      | none => rw [hM] at hx; cases hx
      | some b => rw [hM] at hx; simp at hx; rw [hx]
    · intro hx
      refine ⟨⟨h.wfl x ((h.dom x).2 (by rw [hx]; simp)), by rw [hx]; rfl⟩, by rw [hx]; rfl⟩)
  have H := Lib.hid h
  have HW := Lib.hid hmw
  have hSl : S.length ≤ 1048576 := by omega
  have HL := Lib.hid hSl
  obtain ⟨i0, hi, hz0, hz1, hz2⟩ := info_parts leastInfo1
  have HI := Lib.hid hi
  have HZ0 := Lib.hid hz0
  have HZ1 := Lib.hid hz1
  have HZ2 := Lib.hid hz2
  have HLT := Lib.hid h.lt
  clear h hS hmS hlen hSe hmw hi hz0 hz1 hz2 hm hD
  go_enter Try.func44, Try.ntmps44
  go_wp2_with fail
  refine (HK.out _).mono ?_
  rintro e w1 ⟨rfl, rfl⟩
  go_wp2_with fail
  refine HSO.out.mono ?_
  rintro e w1 ⟨v, rfl, hr, hn, hb⟩
  obtain ⟨a, cap, rfl, _⟩ := hr.read
  have HR := Lib.hid hr
  have HB := Lib.hid hb
  have HA0 := Lib.hid (AccI.start w1)
  clear hr hn hb
  go_wp2_with fail
  go_loopw [3, 13] (fun v i wr => ∃ (k : Nat) (acc : List Int), i = .int .i64 (k : Nat) ∧ k ≤ S.length ∧ Hid (AccI w1 v acc wr ∧ acc = (S.take k).filter (fun x => (M x).getD false))) (fun _ i _ => S.length - (intOf i).toNat)
  case atStart => exact ⟨0, [], rfl, Nat.zero_le _, ⟨HA0.out, by simp⟩⟩
  case round =>
    obtain ⟨k, acc, rfl, hk, hs⟩ := hrel
    obtain ⟨wo, rfl⟩ : ∃ wo : World, wo = wr := ⟨_, rfl⟩
    by_cases hlt : k < S.length
    · obtain ⟨g, off, rfl, hg1, hcell⟩ := row_cell HR.out rfl hlt
      have d0 : wo.cell? ⟨g, off + k, none⟩ = some (.int .i64 (hg S k)) := (hs.out.1.bel.cell (p := ⟨g, off + k, none⟩) hg1).trans hcell
      have HBW := Lib.hid (HB.out.trans (hs.out.1.bel.mono HB.out.size))
      have c2 : wo.cell? ⟨p, 1, none⟩ = some (.map (some m)) := (HBW.out.cell (p := ⟨p, 1, none⟩) HLT.out.1).trans c1
      have hx : S[k]? = some (hg S k) := hg_some hlt
      have hwf := HW.out _ (List.mem_of_getElem? hx)
      have hlk := ((H.out.below HBW.out).map.look ls_key Try.underlying3 Try.underlying67 (ls_zero wo) hwf)
      rw [mapB_getD] at hlk
      have HST : Hid ((S.take (k + 1)).filter (fun x => (M x).getD false) = acc ++ if (M (hg S k)).getD false = true then [hg S k] else []) := (show (S.take (k + 1)).filter (fun x => (M x).getD false) = acc ++ if (M (hg S k)).getD false = true then [hg S k] else [] by
        rw [List.take_add_one, hx, List.filter_append, ← hs.out.2]
        simp only [Option.toList_some, List.filter_cons, List.filter_nil])
      generalize hg S k = x at d0 hlk HST
      clear hcell hx hwf
      have hi0 : (0 : Int) ≤ (k : Int) := by omega
      have hi1 : (k : Int) < (S.length : Int) := by omega
      by_cases hb : (M x).getD false = true
      · rw [hb] at hlk
        have HST2 : Hid ((S.take (k + 1)).filter (fun x => (M x).getD false) = acc ++ [x]) := (show _ = _ by rw [HST.out, if_pos hb])
        have HLL : Hid (acc.length ≤ 1048576) := (show acc.length ≤ 1048576 by
          rw [hs.out.2]
          refine Nat.le_trans (List.length_filter_le _ _) ?_
          rw [List.length_take]
          have := HL.out
          omega)
        have HO1 : Hid (acc.length + 1 ≤ maxLen) := (show acc.length + 1 ≤ maxLen by have := HLL.out; unfold maxLen; omega)
        have HO2 : Hid ((acc.length + 1) * 8 ≤ 140737488355328) := (show (acc.length + 1) * 8 ≤ 140737488355328 by have := HLL.out; omega)
        clear hb
        go_wp2_with (at_builtin; refine wpList_row (by rfl) (.tmp 23) (.tmp 25) 23 rfl 3 i0 (.int .i64 0) 1 8 Try.underlying23 HI.out HZ0.out HZ1.out HZ2.out rfl (by decide) u3 acc.length (intC acc) rfl (hs.out.1.src _) (.slice (some ⟨wo.heap.size, 0, none⟩) 1 1) 1 [.int .i64 x] rfl (new_one _ _ _) (one_of rfl) HO1.out HO2.out ?_)
        intro v2 w2 hr2 hg2 hv2
        have HA2 : Hid (AccI w1 v2 (acc ++ [x]) w2 ∧ acc ++ [x] = (S.take (k + 1)).filter (fun x => (M x).getD false)) := (show _ ∧ _ from ⟨hs.out.1.push hr2 hg2 hv2, HST2.out.symm⟩)
        clear hr2 hg2 hv2
        go_wp2
        go_roundw
        case rel => first | exact ⟨k + 1, acc ++ [x], by go_num, by omega, HA2⟩ | ((repeat apply Exists.intro); exact ⟨⟨k + 1, acc ++ [x], by go_num, by omega, HA2⟩, rfl⟩)
        case measure => simp [intOf]; omega
      · have hb2 : (M x).getD false = false := by simpa using hb
        rw [hb2] at hlk
        have HST2 : Hid (acc = (S.take (k + 1)).filter (fun x => (M x).getD false)) := (show _ = _ by rw [HST.out, if_neg hb]; simp)
        have HA2 : Hid (AccI w1 u3 acc wo ∧ acc = (S.take (k + 1)).filter (fun x => (M x).getD false)) := (show _ ∧ _ from ⟨hs.out.1, HST2.out⟩)
        clear hb hb2
        go_wp2
        go_roundw
        case rel => first | exact ⟨k + 1, acc, by go_num, by omega, HA2⟩ | ((repeat apply Exists.intro); exact ⟨⟨k + 1, acc, by go_num, by omega, HA2⟩, rfl⟩)
        case measure => simp [intOf]; omega
    · obtain rfl : k = S.length := by omega
      have HF : Hid (RowDone w D (.returned u3) wo) := (show RowDone w D (.returned u3) wo by
        have := hs.out.1.done_from HB.out
        rw [hs.out.2, List.take_length, HDE.out] at this
        exact this)
      clear hlt
      go_wp2
      go_ret
      exact HF.out
end
end Go.Proofs.Ytogifanooleppaa
