/- pages' Take computes what it says. -/
import Derived.Test.YtfiddodlpppdhaaArPagesOps
import Derived.WalkArith
namespace Go.Proofs.Ytfiddodlpppdhaa
open Go.RowKit Go.Maps
set_option linter.unusedVariables false

section
variable {p s g m n c : Nat} {T : Nat → Option RunT}
set_option maxRecDepth 100000 in
set_option maxHeartbeats 1000000 in
theorem ptake_at (a : Int) (K : Nat) (mk : Int) (w : World) (h : PagesAt w p s g m n c T) (hK : (a ≤ 1 ∧ K = 1) ∨ (1 < a ∧ a = K)) (hK2 : a ≤ 9223372036854775807) (hc : c ≤ 1099511627776) (hmk : (Lit.int .i64 mk).wf = true) :
    Calls Try.prog 54 #[.pointer (some ⟨p, 0, none⟩), .int .i64 a, .int .i64 mk] w (TakeDone p s g m n c T K mk w) := by
  obtain ⟨_, c1, c2⟩ := h.cells
  have H := Lib.hid h
  have hlt := h.lt
  have hsz := h.size
  have HNE := Lib.hid h.ne
  have HGS := Lib.hid h.set.ne
  have HRUN : Hid (Calls Try.prog 65 #[.pointer (some ⟨s, 0, none⟩), .int .i64 (K : Nat)] w (SomeRun n (usedB T) K w)) := (show _ from setRun_at K w h.set (by omega) (by omega))
  clear h hmk
  rcases hK with ⟨h1, rfl⟩ | ⟨h1, rfl⟩
  · go_enter Try.func54, Try.ntmps54
    go_wp2_with fail
    refine HRUN.out.mono ?_
    rintro en w1 ⟨r, rfl, hr, rfl⟩
    rcases hr with ⟨rfl, h2⟩ | ⟨r, rfl, h2, h3⟩
    · have HX := Lib.hid h2
      clear h2
      go_wp2
      go_ret
      exact .inl ⟨rfl, .inl ⟨rfl, HX.out⟩, rfl⟩
    · have hrn := h2.1
      have HX : Hid (RunIs n (usedB T) 1 (r : Int)) := (show _ from .inr ⟨r, rfl, h2, h3⟩)
      have HRP := Lib.hid h2
      have HP0 := Lib.hid (H.out.put r 1 mk)
      clear h2 h3
      go_wp2_with fail
      go_loopw [8] (fun i wr => ∃ q j : Nat, i = .int .i64 (q : Nat) ∧ j ≤ 1 ∧ Hid (q = r + j) ∧ Hid (PutAt w p s g m n c T r 1 mk j wr)) (fun i _ => r + 1 - (intOf i).toNat)
      case atStart => exact ⟨r, 0, rfl, Nat.zero_le _, rfl, HP0⟩
      case round =>
        obtain ⟨q, j, rfl, hj, hq, hp⟩ := hrel
        have hqv := hq.out
        obtain ⟨ty, hh⟩ := hp.out.head
        have d1 : wr.cell? ⟨p, 1, none⟩ = some (.pointer (some ⟨s, 0, none⟩)) := (cell_of_block hh).trans rfl
        have d2 : wr.cell? ⟨p, 2, none⟩ = some (.map (some m)) := (cell_of_block hh).trans rfl
        by_cases hlt2 : j < 1
        · have hql : (q : Int) < (r : Int) + (1 : Int) := by omega
          have hqw : (Lit.int .i64 (q : Int)).wf = true := by exact WalkArith.wf_i64 (by omega)
          have HQW := Lib.hid hqw
          have HJ : Hid (r + j < n) := (show r + j < n by omega)
          have HML : Hid (c + j < maxLen) := (show c + j < maxLen by unfold maxLen; omega)
          have HADD := Lib.hid (add_any (q : Nat) wr hp.out.set)
          have HHH := Lib.hid hh
          clear hh hqw hqv
          go_wp2_with fail
          refine HADD.out.mono ?_
          rintro en w2 ⟨rfl, hs2, hg2⟩
          have hk2 : Keeps [g] wr w2 := Keeps.of_grown hg2 (by simp)
          have e1 : w2.cell? ⟨p, 2, none⟩ = some (.map (some m)) := (cell_of_block (hk2.at HHH.out (by have := HNE.out; simp; omega))).trans rfl
          have HM2 := Lib.hid (hp.out.runs.keeps hk2 (by have := HNE.out; simp; omega))
          have HS2 := Lib.hid hs2
          have HG2 := Lib.hid hg2
          clear hs2 hg2 hk2
          go_wp2_with (at_mapUpdate; refine wpList_store (by rfl) (.tmp 36) (.tmp 37) (.tmp 41) 72 rfl 3 96 pg_key Try.underlying3 Try.underlying72 m (c + j) _ rfl HM2.out HML.out (q : Nat) (runV (r, 1, mk)) rfl rfl HQW.out ?_)
          intro w3 hm3 hg3
          have hst : PutAt w p s g m n c T r 1 mk (j + 1) w3 := by
            have hqv := hq.out
            subst hqv
            exact hp.out.step HNE.out HJ.out HGS.out HS2.out HG2.out hm3 hg3
          have HST := Lib.hid hst
          clear hm3 hg3 hst
          go_wp2
          go_roundw
          case rel => first | exact ⟨q + 1, j + 1, by go_num, by omega, (show q + 1 = r + (j + 1) by have := hq.out; omega), HST⟩ | ((repeat apply Exists.intro); exact ⟨⟨q + 1, j + 1, by go_num, by omega, (show q + 1 = r + (j + 1) by have := hq.out; omega), HST⟩, rfl⟩)
          case measure => have := hq.out; simp [intOf]; omega
        · obtain rfl : 1 = j := by omega
          have hql : ¬ (q : Int) < (r : Int) + (1 : Int) := by omega
          clear hlt2 hqv
          go_wp2
          go_ret
          exact .inr ⟨r, rfl, HX.out, PutAt.done H.out hp.out HRP.out (by omega), hp.out.keep⟩
  · go_enter Try.func54, Try.ntmps54
    go_wp2_with fail
    refine HRUN.out.mono ?_
    rintro en w1 ⟨r, rfl, hr, rfl⟩
    rcases hr with ⟨rfl, h2⟩ | ⟨r, rfl, h2, h3⟩
    · have HX := Lib.hid h2
      clear h2
      go_wp2
      go_ret
      exact .inl ⟨rfl, .inl ⟨rfl, HX.out⟩, rfl⟩
    · have hrn := h2.1
      have HX : Hid (RunIs n (usedB T) K (r : Int)) := (show _ from .inr ⟨r, rfl, h2, h3⟩)
      have HRP := Lib.hid h2
      have HP0 := Lib.hid (H.out.put r K mk)
      clear h2 h3
      go_wp2_with fail
      go_loopw [8] (fun i wr => ∃ q j : Nat, i = .int .i64 (q : Nat) ∧ j ≤ K ∧ Hid (q = r + j) ∧ Hid (PutAt w p s g m n c T r K mk j wr)) (fun i _ => r + K - (intOf i).toNat)
      case atStart => exact ⟨r, 0, rfl, Nat.zero_le _, rfl, HP0⟩
      case round =>
        obtain ⟨q, j, rfl, hj, hq, hp⟩ := hrel
        have hqv := hq.out
        obtain ⟨ty, hh⟩ := hp.out.head
        have d1 : wr.cell? ⟨p, 1, none⟩ = some (.pointer (some ⟨s, 0, none⟩)) := (cell_of_block hh).trans rfl
        have d2 : wr.cell? ⟨p, 2, none⟩ = some (.map (some m)) := (cell_of_block hh).trans rfl
        by_cases hlt2 : j < K
        · have hql : (q : Int) < (r : Int) + (K : Int) := by omega
          have hqw : (Lit.int .i64 (q : Int)).wf = true := by exact WalkArith.wf_i64 (by omega)
          have HQW := Lib.hid hqw
          have HJ : Hid (r + j < n) := (show r + j < n by omega)
          have HML : Hid (c + j < maxLen) := (show c + j < maxLen by unfold maxLen; omega)
          have HADD := Lib.hid (add_any (q : Nat) wr hp.out.set)
          have HHH := Lib.hid hh
          clear hh hqw hqv
          go_wp2_with fail
          refine HADD.out.mono ?_
          rintro en w2 ⟨rfl, hs2, hg2⟩
          have hk2 : Keeps [g] wr w2 := Keeps.of_grown hg2 (by simp)
          have e1 : w2.cell? ⟨p, 2, none⟩ = some (.map (some m)) := (cell_of_block (hk2.at HHH.out (by have := HNE.out; simp; omega))).trans rfl
          have HM2 := Lib.hid (hp.out.runs.keeps hk2 (by have := HNE.out; simp; omega))
          have HS2 := Lib.hid hs2
          have HG2 := Lib.hid hg2
          clear hs2 hg2 hk2
          go_wp2_with (at_mapUpdate; refine wpList_store (by rfl) (.tmp 36) (.tmp 37) (.tmp 41) 72 rfl 3 96 pg_key Try.underlying3 Try.underlying72 m (c + j) _ rfl HM2.out HML.out (q : Nat) (runV (r, K, mk)) rfl rfl HQW.out ?_)
          intro w3 hm3 hg3
          have hst : PutAt w p s g m n c T r K mk (j + 1) w3 := by
            have hqv := hq.out
            subst hqv
            exact hp.out.step HNE.out HJ.out HGS.out HS2.out HG2.out hm3 hg3
          have HST := Lib.hid hst
          clear hm3 hg3 hst
          go_wp2
          go_roundw
          case rel => first | exact ⟨q + 1, j + 1, by go_num, by omega, (show q + 1 = r + (j + 1) by have := hq.out; omega), HST⟩ | ((repeat apply Exists.intro); exact ⟨⟨q + 1, j + 1, by go_num, by omega, (show q + 1 = r + (j + 1) by have := hq.out; omega), HST⟩, rfl⟩)
          case measure => have := hq.out; simp [intOf]; omega
        · obtain rfl : K = j := by omega
          have hql : ¬ (q : Int) < (r : Int) + (K : Int) := by omega
          clear hlt2 hqv
          go_wp2
          go_ret
          exact .inr ⟨r, rfl, HX.out, PutAt.done H.out hp.out HRP.out (by omega), hp.out.keep⟩
end
end Go.Proofs.Ytfiddodlpppdhaa
