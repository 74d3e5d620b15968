/- module's reader: constant. -/
import Derived.Test.YteipnfnbepnpjaaModRd
import Derived.Laws.Bits64
namespace Go.Proofs.Yteipnfnbepnpjaa
open Go.RowKit Go.Maps
set_option linter.unusedVariables false
section
variable {B : Nat} {pr : Nat}
theorem wrapU (n : Nat) (h : n < 18446744073709551616) : IntKind.u64.wrap (n : Int) = n := by rw [IntKind.wrap_u64]; omega
theorem ofIntU (a : Nat) (h : a < 18446744073709551616) : (BitVec.ofInt 64 (a : Int)).toNat = a := by
  rw [BitVec.ofInt_natCast, BitVec.toNat_ofNat]; exact Nat.mod_eq_of_lt (by omega)
theorem or_le (a y m : Nat) (ha : a < 2 ^ m) (h : y * 2 ^ m + a < 18446744073709551616) : bits .or .u64 (a : Int) (IntKind.u64.wrap ((y : Int) * 2 ^ m)) = ((a + y * 2 ^ m : Nat) : Int) := by
  have e : (y : Int) * 2 ^ m = ((y * 2 ^ m : Nat) : Int) := by rw [Int.natCast_mul, Int.natCast_pow]; rfl
  rw [e, wrapU _ (by omega)]
  have hs := Nat.shiftLeft_add_eq_or_of_lt ha y
  rw [Nat.shiftLeft_eq] at hs
  have h2 : a ||| y * 2 ^ m = a + y * 2 ^ m := by rw [Nat.or_comm]; omega
  show IntKind.u64.wrap ((BitVec.ofInt 64 (a : Int) ||| BitVec.ofInt 64 ((y * 2 ^ m : Nat) : Int)).toNat : Int) = _
  rw [BitVec.toNat_or, ofIntU a (by omega), ofIntU (y * 2 ^ m) (by omega), h2, wrapU _ (by omega)]
theorem leN_take : ∀ (l : List Nat) (k : Nat), (∀ y ∈ l, y < 256) → leN (l.take k) < 2 ^ (8 * k) ∧ ∀ y, l[k]? = some y → leN (l.take (k + 1)) = leN (l.take k) + y * 2 ^ (8 * k)
  | [], k, _ => ⟨by simpa [leN] using Nat.two_pow_pos _, fun y hy => by simp at hy⟩
  | x :: l, 0, _ => ⟨by simp [leN], fun y hy => by
      have e : x = y := by simpa using hy
      simp [leN, e]⟩
  | x :: l, k + 1, h => by
    obtain ⟨h1, h2⟩ := leN_take l k (fun y hy => h y (List.mem_cons_of_mem _ hy))
    have hx := h x (List.mem_cons_self ..)
    have hp : 2 ^ (8 * (k + 1)) = 256 * 2 ^ (8 * k) := by rw [show 8 * (k + 1) = 8 + 8 * k by omega, Nat.pow_add]
    refine ⟨?_, fun y hy => ?_⟩
    · rw [List.take_succ_cons, hp]
      show x + 256 * leN (l.take k) < _
      omega
    · rw [List.take_succ_cons, List.take_succ_cons, hp]
      show x + 256 * leN (l.take (k + 1)) = x + 256 * leN (l.take k) + _
      rw [h2 y (by simpa using hy), Nat.mul_add, Nat.add_assoc, Nat.mul_left_comm]
/-- the memory of the result -/
def conO : Obj := Obj.cells #[.bool false, .int .i64 0, .string ⟨#[]⟩] 63
def ConP (B : Nat) (w : World) (pr : Nat) (c : ConT × RS) (en : Ending) (w' : World) : Prop := en = .returned (.agg #[.bool c.1.1, .int .i64 c.1.2.1, .string c.1.2.2]) ∧ RdS B w' pr c.2 ∧ Keeps [pr] w w'
set_option maxRecDepth 100000 in
set_option maxHeartbeats 4000000 in
theorem constant_text (s : RS) (w : World) (h : RdS B w pr s) (hk : (oneM s).1 = 1) :
    Calls Try.prog 51 #[.pointer (some ⟨pr, 0, none⟩)] w (ConP B w pr (constM s)) := by
  have hpl := h.lt
  have HP := Lib.hid hpl
  obtain ⟨w0, hw0⟩ : ∃ w0, w0 = w.alloc (.cells #[.bool false, .int .i64 0, .string ⟨#[]⟩] 63) := ⟨_, rfl⟩
  have hb0 : w0.heap[w.heap.size]? = some (.cells #[.bool false, .int .i64 0, .string ⟨#[]⟩] 63 (0, 0)) := by rw [hw0]; exact heap_alloc_at _ _
  have HB0 := Lib.hid hb0
  have k0 : Keeps [pr] w w0 := by rw [hw0]; exact (Keeps.refl _ _).alloc _
  have HK0 := Lib.hid k0
  obtain ⟨s1, hs1⟩ : ∃ s1, s1 = (oneM s).2 := ⟨_, rfl⟩
  obtain ⟨s2, hs2⟩ : ∃ s2, s2 = wrongM false s1 := ⟨_, rfl⟩
  obtain ⟨s3, hs3⟩ : ∃ s3, s3 = (oneM s2).2 := ⟨_, rfl⟩
  have HO1 := Lib.hid (one_p s w0 (by rw [hw0]; exact h.alloc _))
  have HO := Lib.hid (fun (s : RS) W (hh : RdS B W pr s) => one_p s W hh)
  have HT := Lib.hid (fun (n : Nat) (s : RS) W (hh : RdS B W pr s) (hn : n ≤ 1000000) => take_any n s W hh hn)
  have HWR := Lib.hid (fun W (hh : RdS B W pr s1) => wrong_any false s1 W hh)
  have HC : Hid (constM s = ((true, 0, strOf (takeM (oneM s2).1 s3).1), (takeM (oneM s2).1 s3).2)) := (show constM s = _ by
    rw [hs3, hs2, hs1]
    unfold constM
    simp only [hk, if_pos, Nat.lt_irrefl, decide_false])
  obtain ⟨x, hx⟩ : ∃ x, x = constM s := ⟨_, rfl⟩
  rw [← hx] at HC ⊢
  have HW0 := Lib.hid hw0
  have HS1 := Lib.hid hs1
  have HS2 := Lib.hid hs2
  have HS3 := Lib.hid hs3
  have HK := Lib.hid hk
  clear h hx hw0 hb0 k0 hs1 hs2 hs3 hk
  go_enter Try.func51, Try.ntmps51
  go_wp2_with fail
  rw [← HW0.out]
  refine HO1.out.mono ?_
  rintro en w1 ⟨rfl, hy1, hr1, hk1⟩
  rw [← HS1.out] at hr1
  rw [HK.out]
  have HWR1 := Lib.hid (HWR.out w1 hr1)
  have HK1 := Lib.hid (HK0.out.trans hk1)
  have HB1 := Lib.hid (hk1.at HB0.out (by have := HP.out; simp; omega))
  clear hk1 hr1 hy1
  go_wp2_with fail
  refine HWR1.out.mono ?_
  rintro en w2 ⟨rfl, hr2, hk2⟩
  rw [← HS2.out] at hr2
  have HO2 := Lib.hid (HO.out s2 w2 hr2)
  have HK2 := Lib.hid (HK1.out.trans hk2)
  have HB2 := Lib.hid (hk2.at HB1.out (by have := HP.out; simp; omega))
  clear hk2 hr2
  go_wp2_with fail
  refine HO2.out.mono ?_
  rintro en w3 ⟨rfl, hy3, hr3, hk3⟩
  rw [← HS3.out] at hr3
  have HTK := Lib.hid (HT.out (oneM s2).1 s3 w3 hr3 (by omega))
  have HLT : Hid ((oneM s2).1 ≤ 255) := (show (oneM s2).1 ≤ 255 by omega)
  obtain ⟨nn, hnn⟩ : ∃ nn, nn = (oneM s2).1 := ⟨_, rfl⟩
  rw [← hnn] at HTK HC HLT ⊢
  have HK3 := Lib.hid (HK2.out.trans hk3)
  have HB3 := Lib.hid (hk3.at HB2.out (by have := HP.out; simp; omega))
  clear hk3 hr3 hnn hy3
  go_wp2_with fail
  refine HTK.out.mono ?_
  rintro en w5 ⟨g, rfl, hm5, hg5, hr5, hk5⟩
  have HR5 := Lib.hid hr5
  have hcv := (hm5.holds (by have := HLT.out; omega)).conv
  have HK5 := Lib.hid (HK3.out.trans hk5)
  have hb5 := hk5.at HB3.out (by have := HP.out; simp; omega)
  have q0 : w5.cell? ⟨w.heap.size, 0, none⟩ = some (.bool false) := cell_of_block hb5
  have q1 : w5.cell? ⟨w.heap.size, 1, none⟩ = some (.int .i64 0) := cell_of_block hb5
  have q4 : w5.cell? ⟨w.heap.size, 2, none⟩ = some (.string ⟨#[]⟩) := cell_of_block hb5
  have q2 : w5.frozen? ⟨w.heap.size, 0, none⟩ = false := free_of_block hb5
  have q3 : w5.frozen? ⟨w.heap.size, 1, none⟩ = false := free_of_block hb5
  have q5 : w5.frozen? ⟨w.heap.size, 2, none⟩ = false := free_of_block hb5
  clear hk5 hr5 hb5 hm5 hg5
  go_wp2
  refine bodyPost_ret (v := .agg #[.bool true, .int .i64 0, .string (strOf (takeM nn s3).1)]) ?_ rfl ⟨?_, ?_, ?_⟩
  · have hres : Try.f51.results = #[.cell 2 63] := by kernel_rfl
    simp only [results, hres]
    go_simp
  · rw [HC.out]
  · rw [HC.out]
    exact ((HR5.out.setCell HP.out _).setCell HP.out _).setCell HP.out _
  · exact ((HK5.out.setCell (.inr (Nat.le_refl _)) _).setCell (.inr (Nat.le_refl _)) _).setCell (.inr (Nat.le_refl _)) _
set_option maxRecDepth 100000 in
set_option maxHeartbeats 4000000 in
theorem constant_num (s : RS) (w : World) (h : RdS B w pr s) (hk : (oneM s).1 ≠ 1) :
    Calls Try.prog 51 #[.pointer (some ⟨pr, 0, none⟩)] w (ConP B w pr (constM s)) := by
  have hpl := h.lt
  have HP := Lib.hid hpl
  obtain ⟨w0, hw0⟩ : ∃ w0, w0 = w.alloc (.cells #[.bool false, .int .i64 0, .string ⟨#[]⟩] 63) := ⟨_, rfl⟩
  have hb0 : w0.heap[w.heap.size]? = some (.cells #[.bool false, .int .i64 0, .string ⟨#[]⟩] 63 (0, 0)) := by rw [hw0]; exact heap_alloc_at _ _
  have HB0 := Lib.hid hb0
  have k0 : Keeps [pr] w w0 := by rw [hw0]; exact (Keeps.refl _ _).alloc _
  have HK0 := Lib.hid k0
  obtain ⟨s1, hs1⟩ : ∃ s1, s1 = (oneM s).2 := ⟨_, rfl⟩
  obtain ⟨s2, hs2⟩ : ∃ s2, s2 = wrongM (decide (1 < (oneM s).1)) s1 := ⟨_, rfl⟩
  have HO1 := Lib.hid (one_p s w0 (by rw [hw0]; exact h.alloc _))
  have HTK : Hid (∀ W, RdS B W pr s2 → Calls Try.prog 47 #[.pointer (some ⟨pr, 0, none⟩), .int .i64 8] W (TkP B W pr 8 s2)) := (show ∀ W, RdS B W pr s2 → _ from fun W (hh : RdS B W pr s2) => take_any 8 s2 W hh (by omega))
  have HWR := Lib.hid (fun W (hh : RdS B W pr s1) => wrong_any (decide (1 < (oneM s).1)) s1 W hh)
  have HC : Hid (constM s = ((false, wrap64 (leN (takeM 8 s2).1 : Nat), ByteArray.empty), (takeM 8 s2).2)) := (show constM s = _ by
    rw [hs2, hs1]
    unfold constM
    simp only [if_neg hk])
  obtain ⟨x, hx⟩ : ∃ x, x = constM s := ⟨_, rfl⟩
  rw [← hx] at HC ⊢
  obtain ⟨kk, hkk⟩ : ∃ kk, kk = (oneM s).1 := ⟨_, rfl⟩
  rw [← hkk] at HWR hs2 hk
  have HKK := Lib.hid hkk
  have HW0 := Lib.hid hw0
  have HS1 := Lib.hid hs1
  have HS2 := Lib.hid hs2
  have hne : ((kk : Int) == 1) = false := by rw [beq_eq_false_iff_ne]; omega
  have HD : Hid (decide ((1 : Int) < (kk : Int)) = decide (1 < kk)) := (show decide ((1 : Int) < (kk : Int)) = decide (1 < kk) by congr 1; rw [eq_iff_iff]; omega)
  clear h hx hw0 hb0 k0 hs1 hs2 hkk hk
  go_enter Try.func51, Try.ntmps51
  go_wp2_with fail
  rw [← HW0.out]
  refine HO1.out.mono ?_
  rintro en w1 ⟨rfl, hy1, hr1, hk1⟩
  rw [← HS1.out] at hr1
  rw [← HKK.out]
  have HWR1 := Lib.hid (HWR.out w1 hr1)
  have HK1 := Lib.hid (HK0.out.trans hk1)
  have HB1 := Lib.hid (hk1.at HB0.out (by have := HP.out; simp; omega))
  clear hk1 hr1 hy1
  go_wp2_with fail
  rw [HD.out]
  refine HWR1.out.mono ?_
  rintro en w2 ⟨rfl, hr2, hk2⟩
  rw [← HS2.out] at hr2
  have HT2 := Lib.hid (HTK.out w2 hr2)
  have HK2 := Lib.hid (HK1.out.trans hk2)
  have HB2 := Lib.hid (hk2.at HB1.out (by have := HP.out; simp; omega))
  clear hk2 hr2
  go_wp2_with fail
  refine HT2.out.mono ?_
  rintro en w5 ⟨g, rfl, hm5, hg5, hr5, hk5⟩
  have HR5 := Lib.hid hr5
  have HM5 := Lib.hid (hm5.holds (by omega))
  have HL5 := Lib.hid hm5.1
  obtain ⟨bs, hbs⟩ : ∃ bs, bs = (takeM 8 s2).1 := ⟨_, rfl⟩
  rw [← hbs] at HM5 HL5 HC
  have HK5 := Lib.hid (HK2.out.trans hk5)
  have hb5 := hk5.at HB2.out (by have := HP.out; simp; omega)
  have q0 : w5.cell? ⟨w.heap.size, 0, none⟩ = some (.bool false) := cell_of_block hb5
  have q1 : w5.cell? ⟨w.heap.size, 1, none⟩ = some (.int .i64 0) := cell_of_block hb5
  have q4 : w5.cell? ⟨w.heap.size, 2, none⟩ = some (.string ⟨#[]⟩) := cell_of_block hb5
  have q2 : w5.frozen? ⟨w.heap.size, 0, none⟩ = false := free_of_block hb5
  have q3 : w5.frozen? ⟨w.heap.size, 1, none⟩ = false := free_of_block hb5
  have q5 : w5.frozen? ⟨w.heap.size, 2, none⟩ = false := free_of_block hb5
  clear hk5 hr5 hb5 hm5 hg5 hbs
  go_wp2_with fail
  go_loopw [4, 24] (fun nv iv wr => ∃ k : Nat, iv = .int .i64 (k : Nat) ∧ k ≤ 8 ∧ nv = .int .u64 (leN (bs.take k) : Nat) ∧ w5 = wr) (fun _ iv _ => 8 - (intOf iv).toNat)
  case atStart => exact ⟨0, rfl, by omega, rfl, rfl⟩
  case round =>
    obtain ⟨k, rfl, hk, rfl, rfl⟩ := hrel
    by_cases hlt : k < 8
    · obtain ⟨y, hy⟩ : ∃ y, bs[k]? = some y := ⟨_, List.getElem?_eq_getElem (by rw [HL5.out]; exact hlt)⟩
      obtain ⟨_, _, e1, _, c0⟩ := HM5.out.cell k y hy
      cases e1
      rw [Nat.zero_add] at c0
      have hy2 : y < 256 := HM5.out.lt y (List.mem_of_getElem? hy)
      have hi0 : (0 : Int) ≤ (k : Int) := by omega
      have hi1 : (k : Int) < 8 := by omega
      have HY := Lib.hid hy
      obtain ⟨ht1, ht2⟩ := leN_take bs k HM5.out.lt
      have hpw : 2 ^ (8 * k) ≤ 2 ^ 56 := Nat.pow_le_pow_right (by omega) (by omega)
      have HOR : Hid (bits .or .u64 ((leN (bs.take k) : Nat) : Int) (IntKind.u64.wrap ((y : Int) * 2 ^ (8 * k))) = ((leN (bs.take (k + 1)) : Nat) : Int)) := (show _ = _ by
        rw [ht2 y hy]
        refine or_le _ y _ ht1 ?_
        have : y * 2 ^ (8 * k) ≤ 255 * 2 ^ 56 := Nat.mul_le_mul (by omega) hpw
        omega)
      clear hy ht1 ht2 hpw
      go_wp2
      go_roundw
      case rel =>
        have e := congrArg (Value.int .u64) HOR.out
        first
          | exact ⟨k + 1, by go_num, by omega, e, rfl⟩
          | exact ⟨k + 1, by go_num, by omega, e, trivial⟩
          | ((repeat apply Exists.intro); exact ⟨⟨k + 1, by go_num, by omega, e, rfl⟩, rfl⟩)
          | ((repeat apply Exists.intro); exact ⟨⟨k + 1, by go_num, by omega, e, trivial⟩, rfl⟩)
      case measure => simp [intOf]; omega
    · obtain rfl : k = 8 := by omega
      have HT8 : Hid (bs.take 8 = bs) := (show bs.take 8 = bs from List.take_of_length_le (by rw [HL5.out]; exact Nat.le_refl _))
      rw [HT8.out]
      clear hlt
      go_wp2
      refine bodyPost_ret (v := .agg #[.bool false, .int .i64 (wrap64 (leN bs : Nat)), .string ⟨#[]⟩]) ?_ rfl ⟨?_, ?_, ?_⟩
      · have hres : Try.f51.results = #[.cell 2 63] := by kernel_rfl
        simp only [results, hres]
        go_simp
      · rw [HC.out]; rfl
      · rw [HC.out]
        exact ((HR5.out.setCell HP.out _).setCell HP.out _).setCell HP.out _
      · exact ((HK5.out.setCell (.inr (Nat.le_refl _)) _).setCell (.inr (Nat.le_refl _)) _).setCell (.inr (Nat.le_refl _)) _
/-- constant, in every state -/
theorem constant_any (s : RS) (w : World) (h : RdS B w pr s) :
    Calls Try.prog 51 #[.pointer (some ⟨pr, 0, none⟩)] w (ConP B w pr (constM s)) := by
  by_cases hk : (oneM s).1 = 1
  · exact constant_text s w h hk
  · exact constant_num s w h hk
end
end Go.Proofs.Yteipnfnbepnpjaa
