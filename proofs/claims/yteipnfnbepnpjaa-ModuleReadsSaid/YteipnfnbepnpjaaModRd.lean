/- module's reader: class, function. -/
import Derived.Test.YteipnfnbepnpjaaModTake2
import Derived.Test.YteipnfnbepnpjaaCodeRead1
namespace Go.Proofs.Yteipnfnbepnpjaa
open Go.RowKit Go.Maps
set_option linter.unusedVariables false
section
variable {B : Nat} {pr : Nat}
/-- what a reader's call leaves: its own memory beside -/
def RdP (B : Nat) (w : World) (pr : Nat) (s : RS) (w' : World) : Prop := RdS B w' pr s ∧ Keeps [pr] w w'
theorem RdP.bel {w w' : World} {s : RS} (h : RdP B w pr s w') (hB : B ≤ pr) (hw : B ≤ w.heap.size) : Below B w w' := h.2.below hw (by intro k hk; simp at hk; omega)
def oneP (B : Nat) (w : World) (pr : Nat) (s : RS) (en : Ending) (w' : World) : Prop := en = .returned (.int .i64 ((oneM s).1 : Nat)) ∧ (oneM s).1 < 256 ∧ RdS B w' pr (oneM s).2 ∧ Keeps [pr] w w'
theorem one_p (s : RS) (w : World) (h : RdS B w pr s) : Calls Try.prog 48 #[.pointer (some ⟨pr, 0, none⟩)] w (oneP B w pr s) := one_any s w h
theorem RdS.alloc {w : World} {s : RS} (h : RdS B w pr s) (o : Obj) : RdS B (w.alloc o) pr s := h.keeps ((Keeps.refl [] w).alloc o) List.not_mem_nil (fun x hx => absurd hx List.not_mem_nil)
theorem RdS.setCell {w : World} {s : RS} (h : RdS B w pr s) {g i : Nat} (hg : pr < g) (v : Value) : RdS B (w.setCell ⟨g, i, none⟩ v) pr s :=
  h.keeps ((Keeps.refl [g] w).setCell (.inl (by simp)) v) (by simp; omega) (fun x hx => by have := h.le; simp at hx; omega)
set_option maxRecDepth 100000 in
set_option maxHeartbeats 2000000 in
theorem class_any (s : RS) (w : World) (h : RdS B w pr s) :
    Calls Try.prog 55 #[.pointer (some ⟨pr, 0, none⟩)] w fun en w' => en = .returned (.agg #[.int .i64 (classM s).1.1, .int .i64 (classM s).1.2]) ∧ RdS B w' pr (classM s).2 ∧ Keeps [pr] w w' := by
  obtain ⟨o, ho⟩ : ∃ o, o = Obj.cells #[.int .i64 0, .int .i64 0] 76 := ⟨_, rfl⟩
  have hpl := h.lt
  have HP := Lib.hid hpl
  obtain ⟨w0, hw0⟩ : ∃ w0, w0 = w.alloc (.cells #[.int .i64 0, .int .i64 0] 76) := ⟨_, rfl⟩
  have hb0 : w0.heap[w.heap.size]? = some (.cells #[.int .i64 0, .int .i64 0] 76 (0, 0)) := by rw [hw0]; exact heap_alloc_at _ _
  have HB0 := Lib.hid hb0
  have k0 : Keeps [pr] w w0 := by rw [hw0]; exact (Keeps.refl _ _).alloc _
  have HK0 := Lib.hid k0
  have HO1 := Lib.hid (one_p s w0 (by rw [hw0]; exact h.alloc _))
  have HO2 := Lib.hid (fun W (hh : RdS B W pr (oneM s).2) => one_p (oneM s).2 W hh)
  have HC : Hid (classM s = (((((oneM s).1 : Nat) : Int), ((oneM (oneM s).2).1 : Int) - 1), (oneM (oneM s).2).2)) := rfl
  obtain ⟨x, hx⟩ : ∃ x, x = classM s := ⟨_, rfl⟩
  rw [← hx] at HC ⊢
  have HW0 := Lib.hid hw0
  clear h hx hw0 hb0 k0 ho
  go_enter Try.func55, Try.ntmps55
  go_wp2_with fail
  rw [← HW0.out]
  refine HO1.out.mono ?_
  rintro en w1 ⟨rfl, hy1, hr1, hk1⟩
  have HO2' := Lib.hid (HO2.out w1 hr1)
  have HK1 := Lib.hid (HK0.out.trans hk1)
  have HB1 := Lib.hid (hk1.at HB0.out (by have := HP.out; simp; omega))
  clear hk1 hr1
  go_wp2_with fail
  refine HO2'.out.mono ?_
  rintro en w2 ⟨rfl, hy2, hr2, hk2⟩
  have HR2 := Lib.hid hr2
  have HK2 := Lib.hid (HK1.out.trans hk2)
  have hb2 := hk2.at HB1.out (by have := HP.out; simp; omega)
  have HB2 := Lib.hid hb2
  have q0 : w2.cell? ⟨w.heap.size, 0, none⟩ = some (.int .i64 0) := cell_of_block hb2
  have q1 : w2.cell? ⟨w.heap.size, 1, none⟩ = some (.int .i64 0) := cell_of_block hb2
  have q2 : w2.frozen? ⟨w.heap.size, 0, none⟩ = false := free_of_block hb2
  have q3 : w2.frozen? ⟨w.heap.size, 1, none⟩ = false := free_of_block hb2
  clear hk2 hr2 hb2
  go_wp2
  refine bodyPost_ret (v := .agg #[.int .i64 ((oneM s).1 : Nat), .int .i64 (((oneM (oneM s).2).1 : Int) - 1)]) ?_ rfl ⟨?_, ?_, ?_⟩
  · have hres : Try.f55.results = #[.cell 2 76] := by kernel_rfl
    simp only [results, hres]
    go_simp
  · rw [HC.out]
  · rw [HC.out]
    exact (HR2.out.setCell HP.out _).setCell HP.out _
  · exact (HK2.out.setCell (.inr (Nat.le_refl _)) _).setCell (.inr (Nat.le_refl _)) _
theorem or_hi (x y : Nat) (hx : x < 256) (hy : y < 256) : bits .or .i64 (x : Int) ((256 * y : Nat) : Int) = ((x + 256 * y : Nat) : Int) := by
  have := or_two x y hx hy
  rwa [show (y : Int) * 256 = ((256 * y : Nat) : Int) by omega] at this
set_option maxRecDepth 100000 in
set_option maxHeartbeats 2000000 in
theorem function_any (s : RS) (w : World) (h : RdS B w pr s) :
    Calls Try.prog 53 #[.pointer (some ⟨pr, 0, none⟩)] w fun en w' => ∃ g, en = .returned (.agg #[.int .i64 (funcM s).1.1, .int .i64 (funcM s).1.2.1, .slice (some ⟨g, 0, none⟩) (funcM s).1.2.2.length (funcM s).1.2.2.length]) ∧ MadeB w' g (funcM s).1.2.2.length (funcM s).1.2.2 ∧ (funcM s).1.2.2.length ≤ 65535 ∧ w.heap.size ≤ g ∧ RdS B w' pr (funcM s).2 ∧ Keeps [pr] w w' := by
  have hpl := h.lt
  have HP := Lib.hid hpl
  obtain ⟨w0, hw0⟩ : ∃ w0, w0 = w.alloc (.cells #[.int .i64 0, .int .i64 0, .slice none 0 0] 61) := ⟨_, rfl⟩
  have hb0 : w0.heap[w.heap.size]? = some (.cells #[.int .i64 0, .int .i64 0, .slice none 0 0] 61 (0, 0)) := by rw [hw0]; exact heap_alloc_at _ _
  have HB0 := Lib.hid hb0
  have k0 : Keeps [pr] w w0 := by rw [hw0]; exact (Keeps.refl _ _).alloc _
  have HK0 := Lib.hid k0
  obtain ⟨s1, hs1⟩ : ∃ s1, s1 = (oneM s).2 := ⟨_, rfl⟩
  obtain ⟨s2, hs2⟩ : ∃ s2, s2 = (oneM s1).2 := ⟨_, rfl⟩
  obtain ⟨s3, hs3⟩ : ∃ s3, s3 = (oneM s2).2 := ⟨_, rfl⟩
  obtain ⟨s4, hs4⟩ : ∃ s4, s4 = (oneM s3).2 := ⟨_, rfl⟩
  have HO1 := Lib.hid (one_p s w0 (by rw [hw0]; exact h.alloc _))
  have HO := Lib.hid (fun (s : RS) W (hh : RdS B W pr s) => one_p s W hh)
  have HT := Lib.hid (fun (n : Nat) (s : RS) W (hh : RdS B W pr s) (hn : n ≤ 1000000) => take_any n s W hh hn)
  have HC : Hid (funcM s = (((((oneM s).1 : Nat) : Int), (((oneM s1).1 : Nat) : Int), (takeM ((oneM s2).1 + 256 * (oneM s3).1) s4).1), (takeM ((oneM s2).1 + 256 * (oneM s3).1) s4).2)) := (show funcM s = _ by rw [hs4, hs3, hs2, hs1]; rfl)
  obtain ⟨x, hx⟩ : ∃ x, x = funcM s := ⟨_, rfl⟩
  rw [← hx] at HC ⊢
  have HW0 := Lib.hid hw0
  have HS1 := Lib.hid hs1
  have HS2 := Lib.hid hs2
  have HS3 := Lib.hid hs3
  have HS4 := Lib.hid hs4
  have HOH := Lib.hid (fun (x y : Nat) (hx : x < 256) (hy : y < 256) => or_two x y hx hy)
  clear h hx hw0 hb0 k0 hs1 hs2 hs3 hs4
  go_enter Try.func53, Try.ntmps53
  go_wp2_with fail
  rw [← HW0.out]
  refine HO1.out.mono ?_
  rintro en w1 ⟨rfl, hy1, hr1, hk1⟩
  rw [← HS1.out] at hr1
  have HO2 := Lib.hid (HO.out s1 w1 hr1)
  have HK1 := Lib.hid (HK0.out.trans hk1)
  have HB1 := Lib.hid (hk1.at HB0.out (by have := HP.out; simp; omega))
  clear hk1 hr1
  go_wp2_with fail
  refine HO2.out.mono ?_
  rintro en w2 ⟨rfl, hy2, hr2, hk2⟩
  rw [← HS2.out] at hr2
  have HO3 := Lib.hid (HO.out s2 w2 hr2)
  have HK2 := Lib.hid (HK1.out.trans hk2)
  have HB2 := Lib.hid (hk2.at HB1.out (by have := HP.out; simp; omega))
  clear hk2 hr2
  go_wp2_with fail
  refine HO3.out.mono ?_
  rintro en w3 ⟨rfl, hy3, hr3, hk3⟩
  rw [← HS3.out] at hr3
  have HO4 := Lib.hid (HO.out s3 w3 hr3)
  have HK3 := Lib.hid (HK2.out.trans hk3)
  have HB3 := Lib.hid (hk3.at HB2.out (by have := HP.out; simp; omega))
  have HY3 := Lib.hid hy3
  clear hk3 hr3
  go_wp2_with fail
  refine HO4.out.mono ?_
  rintro en w4 ⟨rfl, hy4, hr4, hk4⟩
  rw [← HS4.out] at hr4
  have hor := HOH.out _ _ hy3 hy4
  have HTK := Lib.hid (HT.out ((oneM s2).1 + 256 * (oneM s3).1) s4 w4 hr4 (by omega))
  have HLT : Hid ((oneM s2).1 + 256 * (oneM s3).1 ≤ 65535) := (show (oneM s2).1 + 256 * (oneM s3).1 ≤ 65535 by omega)
  obtain ⟨nn, hnn⟩ : ∃ nn, nn = (oneM s2).1 + 256 * (oneM s3).1 := ⟨_, rfl⟩
  rw [← hnn] at HTK hor HC HLT
  have HK4 := Lib.hid (HK3.out.trans hk4)
  have HB4 := Lib.hid (hk4.at HB3.out (by have := HP.out; simp; omega))
  clear hk4 hr4 hnn
  go_wp2_with fail
  refine HTK.out.mono ?_
  rintro en w5 ⟨g, rfl, hm5, hg5, hr5, hk5⟩
  have HR5 := Lib.hid hr5
  have HM5 := Lib.hid hm5
  have HG5 : Hid (w.heap.size + 1 ≤ g) := (show w.heap.size + 1 ≤ g by have := (Array.getElem?_eq_some_iff.1 HB4.out).1; omega)
  have HK5 := Lib.hid (HK4.out.trans hk5)
  have hb5 := hk5.at HB4.out (by have := HP.out; simp; omega)
  have q0 : w5.cell? ⟨w.heap.size, 0, none⟩ = some (.int .i64 0) := cell_of_block hb5
  have q1 : w5.cell? ⟨w.heap.size, 1, none⟩ = some (.int .i64 0) := cell_of_block hb5
  have q4 : w5.cell? ⟨w.heap.size, 2, none⟩ = some (.slice none 0 0) := cell_of_block hb5
  have q2 : w5.frozen? ⟨w.heap.size, 0, none⟩ = false := free_of_block hb5
  have q3 : w5.frozen? ⟨w.heap.size, 1, none⟩ = false := free_of_block hb5
  have q5 : w5.frozen? ⟨w.heap.size, 2, none⟩ = false := free_of_block hb5
  clear hk5 hr5 hb5 hm5 hg5 hor
  go_wp2
  have hl : (takeM nn s4).1.length = nn := takeM_length _ _
  refine bodyPost_ret (v := .agg #[.int .i64 ((oneM s).1 : Nat), .int .i64 ((oneM s1).1 : Nat), .slice (some ⟨g, 0, none⟩) nn nn]) ?_ rfl ⟨g, ?_, ?_, ?_, ?_, ?_, ?_⟩
  · have hres : Try.f53.results = #[.cell 2 61] := by kernel_rfl
    simp only [results, hres]
    go_simp
  · rw [HC.out, hl]
  · rw [HC.out, hl]
    have k : Keeps [w.heap.size] w5 (((w5.setCell ⟨w.heap.size, 0, none⟩ (.int .i64 ((oneM s).1 : Nat))).setCell ⟨w.heap.size, 1, none⟩ (.int .i64 ((oneM s1).1 : Nat))).setCell ⟨w.heap.size, 2, none⟩ (.slice (some ⟨g, 0, none⟩) nn nn)) := (((Keeps.refl _ w5).setCell (.inl (by simp)) _).setCell (.inl (by simp)) _).setCell (.inl (by simp)) _
    exact HM5.out.keeps k (by have := HG5.out; simp; omega)
  · rw [HC.out, hl]; exact HLT.out
  · have := HG5.out; omega
  · rw [HC.out]
    exact ((HR5.out.setCell HP.out _).setCell HP.out _).setCell HP.out _
  · exact ((HK5.out.setCell (.inr (Nat.le_refl _)) _).setCell (.inr (Nat.le_refl _)) _).setCell (.inr (Nat.le_refl _)) _
end
end Go.Proofs.Yteipnfnbepnpjaa
