/- module's Bytes of one function. -/
import Derived.Test.YteipnfnbepnpjaaModRead0
import Derived.Test.YteipnfnbepnpjaaAccB
import Derived.Lib.SlBytesConst
namespace Go.Proofs.Yteipnfnbepnpjaa
open Go.RowKit Go.Maps
set_option linter.unusedVariables false
theorem src_block {W : World} {ga : Nat} {t : TypeId} (bs : List Nat) (h : W.heap[ga]? = some (.cells (byteCells bs).toArray t (0, 0))) : Src W (.slice (some ⟨ga, 0, none⟩) bs.length bs.length) bs.length 1 (byteCells bs) := by
  refine .inr ⟨_, _, rfl, by simp [byteCells], fun j x hx => ?_⟩
  have hh := cell_of_block (i := j) h
  have e : (⟨ga, 0, none⟩ : Addr).add j = ⟨ga, j, none⟩ := by unfold Addr.add; split <;> simp_all
  rw [e, hh, ← hx]
  simp
theorem lit_acc (w : World) (bs : List Nat) (t : TypeId) (h : bs.length ≤ 1000) : AccB w (.slice (some ⟨w.heap.size, 0, none⟩) bs.length bs.length) bs (w.alloc (.cells (byteCells bs).toArray t)) := by
  refine ⟨⟨by simp [byteCells], .inr ⟨_, 0, _, _, _, rfl, heap_alloc_at _ _, Nat.le_refl _, by unfold maxLen; omega, by simp [byteCells], fun j u hu => by rw [Nat.zero_add]; simpa using hu⟩⟩, fun g hg => ?_, (Below.refl _ _).alloc (Nat.le_refl _) _⟩
  cases hg
  exact Nat.le_refl _
/-- a module of one function of two bytes -/
def m1X (ga : Nat) : ModX := { G := 0, n1 := 0, c1 := 0, n2 := 1, c2 := 1, n3 := 0, c3 := 0, b := fun _ => false, z := fun _ => 0, s := fun _ => ByteArray.empty, p := fun _ => 0, lo := fun _ => 0, ca := fun _ => some ⟨ga, 0, none⟩, cl := fun _ => 2, cc := fun _ => 2, fi := fun _ => 0, en := fun _ => 0 }
theorem m1X_right (ga : Nat) : (m1X ga).rightE = 0 := rfl
theorem rows_none {W : World} {size : Nat} {F : Nat → Nat → Value} : Rows W none 0 0 size F := by
  refine ⟨Nat.le_refl _, by decide, fun _ => ⟨rfl, rfl⟩, fun i j hi => absurd hi (by omega)⟩
theorem m1X_at {W : World} {g ga : Nat} {t : TypeId} (h : W.heap[g]? = some (.cells #[.int .i64 0, .int .i64 0, .slice (some ⟨ga, 0, none⟩) 2 2] t (0, 0))) : ModS W (m1X ga) none (some ⟨g, 0, none⟩) none := by
  refine ⟨rows_none, ⟨Nat.le_refl _, (show 1 ≤ 9223372036854775807 by decide), fun e => (by cases e), fun i j hi hj => ?_⟩, rows_none⟩
  obtain rfl : i = 0 := by have : i < 1 := hi; omega
  refine ⟨g, 0, rfl, (Array.getElem?_eq_some_iff.1 h).1, ?_⟩
  rcases (by omega : j = 0 ∨ j = 1 ∨ j = 2) with rfl | rfl | rfl <;> exact cell_of_block h
theorem new_cells (w : World) (bs : List Nat) (t : TypeId) : ∀ j u, (byteCells bs)[j]? = some u → (w.alloc (.cells (byteCells bs).toArray t)).cell? ((⟨w.heap.size, 0, none⟩ : Addr).add j) = some u := fun j x hx => by
  have h := cell_of_block (i := j) (heap_alloc_at w (.cells (byteCells bs).toArray t))
  have e : (⟨w.heap.size, 0, none⟩ : Addr).add j = ⟨w.heap.size, j, none⟩ := by unfold Addr.add; split <;> simp_all
  rw [e, h, ← hx]
  simp
theorem acc_grown {w w3 : World} {v : Value} {a b : List Nat} {o1 o2 : Obj} {e : TypeId} {n B : Nat} (hB : w.heap.size ≤ B) (hr : w3.ownsRow B e 1 v n (byteCells a ++ byteCells b)) (hg : ((w.alloc o1).alloc o2).grownBy w3 none) (hn : n = (a ++ b).length := by rfl) : AccB w v (a ++ b) w3 := by
  subst hn
  refine ⟨by rw [byteCells_app]; exact RowS.of_owns hr, fun g hg' => ?_, ?_⟩
  · rcases hr.2 with ⟨rfl, _⟩ | ⟨g', cap', cur', rfl, hb, _⟩
    · cases hg'
    · obtain rfl : g' = g := by simpa [Value.ownBlock] using hg'
      omega
  · exact (two_alloc w o1 o2).trans ⟨hg.os, hg.tape, hg.output, by have := hg.size; simp only [size_alloc] at this ⊢; omega, fun k hk => hg.block k (by simp only [size_alloc]; omega) (by simp)⟩
theorem new_bytes1 (w : World) (ob : Obj) (bs : List Nat) (t : TypeId) : Src ((w.alloc ob).alloc (.cells (byteCells bs).toArray t)) (.slice (some ⟨w.heap.size + 1, 0, none⟩) bs.length bs.length) bs.length 1 (byteCells bs) := by
  have := new_bytes (w.alloc ob) bs t
  rwa [size_alloc] at this
theorem AccB.push0 {w wr w2 : World} {v v2 : Value} {acc bs acc2 : List Nat} {m : Nat} (h : AccB w v acc wr) (hm : m = bs.length) (ha : acc2 = acc ++ bs) (hr : RowS w2 1 v2 (acc.length + m) (byteCells acc ++ byteCells bs)) (hg : wr.grownBy w2 v.ownBlock) (hv : v2.ownBlock = v.ownBlock ∨ ∃ g, v2.ownBlock = some g ∧ wr.heap.size ≤ g) : AccB w v2 acc2 w2 := by
  have hs := h.bel.size
  subst hm ha
  refine ⟨by rw [List.length_append, byteCells_app]; exact hr, fun g hg' => ?_, ?_⟩
  · rcases hv with hv | ⟨g', hv, hge⟩
    · exact h.new g (by rw [← hv]; exact hg')
    · rw [hv] at hg'; cases hg'; omega
  · exact h.bel.trans ⟨hg.os, hg.tape, hg.output, hg.size, fun k hk => hg.block k (by omega) (fun e => by have := h.new k e.symm; omega)⟩
/-- Bytes' own memory -/
def BoS (w0 : World) (gm g ga : Nat) (W : World) : Prop := W.cell? ⟨gm, 0, none⟩ = some (.int .i64 0) ∧ W.cell? ⟨gm, 1, none⟩ = some (.slice none 0 0) ∧ W.cell? ⟨gm, 2, none⟩ = some (.slice (some ⟨g, 0, none⟩) 1 1) ∧ W.cell? ⟨gm, 3, none⟩ = some (.slice none 0 0) ∧ W.cell? ⟨g, 0, none⟩ = some (.int .i64 0) ∧ W.cell? ⟨g, 1, none⟩ = some (.int .i64 0) ∧ W.cell? ⟨g, 2, none⟩ = some (.slice (some ⟨ga, 0, none⟩) 2 2) ∧ W.heap[ga]? = some (.cells (byteCells [2, 22]).toArray 5 (0, 0)) ∧ Below w0.heap.size w0 W ∧ gm < W.heap.size ∧ g < W.heap.size
theorem BoS.below {w0 : World} {gm g ga : Nat} {W W' : World} (h : BoS w0 gm g ga W) (hb : Below W.heap.size W W') : BoS w0 gm g ga W' := by
  obtain ⟨h0, h1, h2, h3, h4, h5, h6, h7, h8, h9, h10⟩ := h
  exact ⟨(hb.cell (p := ⟨gm, _, none⟩) h9).trans h0, (hb.cell (p := ⟨gm, _, none⟩) h9).trans h1, (hb.cell (p := ⟨gm, _, none⟩) h9).trans h2, (hb.cell (p := ⟨gm, _, none⟩) h9).trans h3, (hb.cell (p := ⟨g, _, none⟩) h10).trans h4, (hb.cell (p := ⟨g, _, none⟩) h10).trans h5, (hb.cell (p := ⟨g, _, none⟩) h10).trans h6, (hb.block _ (Array.getElem?_eq_some_iff.1 h7).1).trans h7, h8.trans (hb.mono h8.size), Nat.lt_of_lt_of_le h9 hb.size, Nat.lt_of_lt_of_le h10 hb.size⟩
/-- how Bytes of one function ends -/
def ByDone (w : World) (en : Ending) (W : World) : Prop := ∃ a c, en = .returned (.tuple #[.slice a 13 c, .int .i64 0]) ∧ Below w.heap.size w W
set_option maxRecDepth 100000 in
set_option maxHeartbeats 4000000 in
theorem bytes_one (g ga : Nat) (w : World) (hg : w.heap[g]? = some (.cells #[.int .i64 0, .int .i64 0, .slice (some ⟨ga, 0, none⟩) 2 2] 61 (0, 0))) (hc : w.heap[ga]? = some (.cells (byteCells [2, 22]).toArray 5 (0, 0))) :
    Calls Try.prog 27 #[.agg #[.int .i64 0, .slice none 0 0, .slice (some ⟨g, 0, none⟩) 1 1, .slice none 0 0]] w (ByDone w) := by
  obtain ⟨gm, hgm⟩ : ∃ gm, gm = w.heap.size := ⟨_, rfl⟩
  obtain ⟨w1, hw1⟩ : ∃ w1, w1 = w.alloc (.cells #[.int .i64 0, .slice none 0 0, .slice (some ⟨g, 0, none⟩) 1 1, .slice none 0 0] 47) := ⟨_, rfl⟩
  have HG := Lib.hid hgm
  have HW1 := Lib.hid hw1
  have hb1 : Below w.heap.size w w1 := by rw [hw1]; exact (Below.refl _ _).alloc (Nat.le_refl _) _
  have hg1 := (hb1.block _ (Array.getElem?_eq_some_iff.1 hg).1).trans hg
  have hc1 := (hb1.block _ (Array.getElem?_eq_some_iff.1 hc).1).trans hc
  have hm1 : w1.heap[gm]? = some (.cells #[.int .i64 0, .slice none 0 0, .slice (some ⟨g, 0, none⟩) 1 1, .slice none 0 0] 47 (0, 0)) := by rw [hw1, hgm]; exact heap_alloc_at _ _
  have HS1 : Hid (BoS w gm g ga w1) := (show BoS w gm g ga w1 from ⟨cell_of_block hm1, cell_of_block hm1, cell_of_block hm1, cell_of_block hm1, cell_of_block hg1, cell_of_block hg1, cell_of_block hg1, hc1, hb1, (Array.getElem?_eq_some_iff.1 hm1).1, (Array.getElem?_eq_some_iff.1 hg1).1⟩)
  have HR : Hid (Calls Try.prog 30 #[.agg #[.int .i64 0, .slice none 0 0, .slice (some ⟨g, 0, none⟩) 1 1, .slice none 0 0]] w1 fun e w' => e = .returned (.int .i64 0) ∧ Below w1.heap.size w1 w') := (show Calls _ _ _ _ _ from right_any w1 (m1X_at hg1))
  have HAP := Lib.hid (fun (wr : World) (v : Value) (acc : List Nat) (w2 : World) (hs : AccB w2 v acc wr) (ob : Obj) => hs.src ob)
  obtain ⟨i0, hi, hz0, hz1, hz2⟩ := info_parts byteInfo
  have HI := Lib.hid hi
  have HZ0 := Lib.hid hz0
  have HZ1 := Lib.hid hz1
  have HZ2 := Lib.hid hz2
  clear hi hz0 hz1 hz2 hg hc hgm hw1 hb1 hg1 hc1 hm1
  go_enter Try.func27, Try.ntmps27
  go_wp2_with fail
  rw [← HW1.out, ← HG.out]
  refine HR.out.mono ?_
  rintro en w2 ⟨rfl, hb2⟩
  have HS2 := Lib.hid (HS1.out.below hb2)
  have hcv : (convert 26 26 (.slice (some ⟨w2.heap.size, 0, none⟩) 3 3)).run Try.prog (w2.alloc (.cells #[.int .u8 68, .int .u8 67, .int .u8 49] 5)) = .ok (.slice (some ⟨w2.heap.size, 0, none⟩) 3 3) (w2.alloc (.cells #[.int .u8 68, .int .u8 67, .int .u8 49] 5 (3, 4))) := Go.Lib.run_convert_bytes_const w2 26 5 #[.int .u8 68, .int .u8 67, .int .u8 49] 3 3 Try.underlying26 Try.underlying5
  obtain ⟨m0, m1, m2, m3, f0, f1, f2, _, _, lm, lg⟩ := HS2.out
  clear hb2
  have HMK : Hid (∀ j u, (byteCells [68, 67, 49])[j]? = some u → ((w2.alloc (.cells #[.int .u8 68, .int .u8 67, .int .u8 49] 5 (3, 4))).alloc (.cells #[.int .u8 0, .int .u8 0] 5)).cell? ((⟨w2.heap.size, 0, none⟩ : Addr).add j) = some u) := (show ∀ j u, _ from fun j u hu => by
    have h : ((w2.alloc (.cells #[.int .u8 68, .int .u8 67, .int .u8 49] 5 (3, 4))).alloc (.cells #[.int .u8 0, .int .u8 0] 5)).heap[w2.heap.size]? = some (.cells #[.int .u8 68, .int .u8 67, .int .u8 49] 5 (3, 4)) := by
      rw [heap_alloc_lt _ _ (by rw [size_alloc]; omega)]; exact heap_alloc_at _ _
    have e : (⟨w2.heap.size, 0, none⟩ : Addr).add j = ⟨w2.heap.size, j, none⟩ := by unfold Addr.add; split <;> simp_all
    rw [e, ← hu]
    simp [World.cell?, h, byteCells])
  have HSZ : Hid (∀ C t, (w2.alloc (.cells C t (3, 4))).heap.size = w2.heap.size + 1) := (show ∀ C t, _ from fun _ _ => size_alloc _ _)
  go_wp2_with (at_builtin; refine wpList_append_grows _ rfl (.tmp 18) (.tmp 26) 26 rfl 5 i0 (.int .u8 0) 1 1 Try.underlying26 HI.out HZ0.out HZ1.out HZ2.out rfl (by decide) (some ⟨w2.heap.size, 0, none⟩) 3 3 (byteCells [68, 67, 49]) rfl (fun e => by cases e) rfl (fun b hb j u hu => by cases hb; exact HMK.out j u hu) ⟨w2.heap.size + 1, 0, none⟩ 2 2 (byteCells [0, 0]) rfl rfl (by rw [← HSZ.out]; exact new_cells _ [0, 0] _) (byteCells_one _) (by decide) (by decide) (by decide) ?_)
  intro v3 w3 hr3 hg3
  have HA3 : Hid (AccB w2 v3 [68, 67, 49, 0, 0] w3) := (show AccB w2 v3 ([68, 67, 49] ++ [0, 0]) w3 from acc_grown (by omega) hr3 hg3)
  clear hr3 hg3 HMK HSZ
  have HS3 := Lib.hid (HS2.out.below HA3.out.bel)
  clear m0 m1 m2 m3 f0 f1 f2 lm lg
  obtain ⟨m0, m1, m2, m3, f0, f1, f2, _, _, lm, lg⟩ := HS3.out
  clear hcv
  go_wp2_with fail
  go_loopw [5, 31] (fun v i wr => v3 = v ∧ i = .int .i64 0 ∧ wr = w3) (fun _ _ _ => 0)
  case atStart => exact ⟨rfl, rfl, rfl⟩
  case round =>
    obtain ⟨rfl, rfl, rfl⟩ := hrel
    have HAS3 := Lib.hid (HA3.out.src)
    go_wp2_with (at_builtin; refine wpList_row (by rfl) (.tmp 40) (.tmp 45) 26 rfl 5 i0 (.int .u8 0) 1 1 Try.underlying26 HI.out HZ0.out HZ1.out HZ2.out rfl (by decide) _ 5 (byteCells [68, 67, 49, 0, 0]) rfl (HAS3.out _) (.slice (some ⟨_, 0, none⟩) 1 1) 1 (byteCells [1]) rfl (new_bytes _ [1] _) (byteCells_one _) (by decide) (by decide) ?_)
    intro v4 w4 hr4 hg4 hv4
    have HA4 : Hid (AccB w2 v4 [68, 67, 49, 0, 0, 1] w4) := (show _ from HA3.out.push (bs := [1]) rfl rfl hr4 hg4 hv4)
    clear hr4 hg4 hv4
    have HS4 := Lib.hid (HS2.out.below HA4.out.bel)
    clear m0 m1 m2 m3 f0 f1 f2 lm lg
    obtain ⟨m0, m1, m2, m3, f0, f1, f2, _, _, lm, lg⟩ := HS4.out
    go_wp2_with fail
    go_loopw [5, 50] (fun v i wr => (i = .int .i64 0 ∧ v4 = v ∧ wr = w4) ∨ (i = .int .i64 1 ∧ Hid (AccB w2 v [68, 67, 49, 0, 0, 1, 0, 0, 2, 0, 2, 22] wr))) (fun _ i _ => 1 - (intOf i).toNat)
    case atStart => exact .inl ⟨rfl, rfl, rfl⟩
    case round =>
      rcases hrel with ⟨rfl, rfl, rfl⟩ | ⟨rfl, hs⟩
      · have HAF := Lib.hid (fun ob => HA4.out.below ((Below.refl _ _).alloc (Nat.le_refl _) ob))
        go_wp2_with (at_builtin; refine wpList_row (by rfl) (.tmp 54) (.tmp 70) 26 rfl 5 i0 (.int .u8 0) 1 1 Try.underlying26 HI.out HZ0.out HZ1.out HZ2.out rfl (by decide) _ 6 (byteCells [68, 67, 49, 0, 0, 1]) rfl ((HAF.out _).src _) (.slice (some ⟨wr.heap.size + 1, 0, none⟩) 4 4) 4 (byteCells [0, 0, 2, 0]) rfl (new_bytes1 _ _ [0, 0, 2, 0] _) (byteCells_one _) (by decide) (by decide) ?_)
        intro v5 w5 hr5 hg5 hv5
        have hb5 : w5.heap[wr.heap.size]? = some (.cells #[.int .i64 0, .int .i64 0, .slice (some ⟨ga, 0, none⟩) 2 2] 61 (0, 0)) := by
          rw [hg5.block wr.heap.size (by simp only [size_alloc]; omega) (fun e => by have := HA4.out.row.lt _ e.symm; omega), heap_alloc_lt _ _ (by rw [size_alloc]; omega)]
          exact heap_alloc_at _ _
        have k0 : w5.cell? ⟨wr.heap.size, 0, none⟩ = some (.int .i64 0) := cell_of_block hb5
        have k1 : w5.cell? ⟨wr.heap.size, 1, none⟩ = some (.int .i64 0) := cell_of_block hb5
        have k2 : w5.cell? ⟨wr.heap.size, 2, none⟩ = some (.slice (some ⟨ga, 0, none⟩) 2 2) := cell_of_block hb5
        have HA5 : Hid (AccB w2 v5 [68, 67, 49, 0, 0, 1, 0, 0, 2, 0] w5) := (show _ from (HAF.out _).push (bs := [0, 0, 2, 0]) rfl rfl hr5 hg5 (by simp only [size_alloc]; exact hv5))
        clear hr5 hg5 hv5 hb5
        have HS5 := Lib.hid (HS2.out.below HA5.out.bel)
        have HSC := Lib.hid (src_block [2, 22] HS5.out.2.2.2.2.2.2.2.1)
        go_wp2_with (at_builtin; refine wpList_row (by rfl) (.tmp 72) (.tmp 74) 26 rfl 5 i0 (.int .u8 0) 1 1 Try.underlying26 HI.out HZ0.out HZ1.out HZ2.out rfl (by decide) _ 10 (byteCells [68, 67, 49, 0, 0, 1, 0, 0, 2, 0]) rfl HA5.out.row (.slice (some ⟨ga, 0, none⟩) 2 2) 2 (byteCells [2, 22]) rfl HSC.out (byteCells_one _) (by decide) (by decide) ?_)
        intro v6 w6 hr6 hg6 hv6
        have HA6 : Hid (AccB w2 v6 [68, 67, 49, 0, 0, 1, 0, 0, 2, 0, 2, 22] w6) := (show _ from HA5.out.push0 (bs := [2, 22]) rfl rfl hr6 hg6 hv6)
        clear hr6 hg6 hv6 k0 k1 k2
        go_wp2
        go_roundw
        case rel => first | exact .inr ⟨by go_num, HA6⟩ | ((repeat apply Exists.intro); exact ⟨.inr ⟨by go_num, HA6⟩, rfl⟩)
        case measure => simp [intOf]
      · have HS7 := Lib.hid (HS2.out.below hs.out.bel)
        clear m0 m1 m2 m3 f0 f1 f2 lm lg
        obtain ⟨m0, m1, m2, m3, f0, f1, f2, _, _, lm, lg⟩ := HS7.out
        go_wp2_with (at_builtin; refine wpList_row (by rfl) (.tmp 77) (.tmp 82) 26 rfl 5 i0 (.int .u8 0) 1 1 Try.underlying26 HI.out HZ0.out HZ1.out HZ2.out rfl (by decide) _ 12 (byteCells [68, 67, 49, 0, 0, 1, 0, 0, 2, 0, 2, 22]) rfl (hs.out.src _) (.slice (some ⟨_, 0, none⟩) 1 1) 1 (byteCells [0]) rfl (new_bytes _ [0] _) (byteCells_one _) (by decide) (by decide) ?_)
        intro v8 w8 hr8 hg8 hv8
        have HA8 : Hid (AccB w2 v8 [68, 67, 49, 0, 0, 1, 0, 0, 2, 0, 2, 22, 0] w8) := (show _ from hs.out.push (bs := [0]) rfl rfl hr8 hg8 hv8)
        clear hr8 hg8 hv8
        have HS8 := Lib.hid (HS2.out.below HA8.out.bel)
        clear m0 m1 m2 m3 f0 f1 f2 lm lg
        obtain ⟨m0, m1, m2, m3, f0, f1, f2, _, _, lm, lg⟩ := HS8.out
        go_wp2_with fail
        go_loopw [5, 87] (fun v i wr => v8 = v ∧ i = .int .i64 0 ∧ wr = w8) (fun _ _ _ => 0)
        case atStart => exact ⟨rfl, rfl, rfl⟩
        case round =>
          obtain ⟨rfl, rfl, rfl⟩ := hrel
          obtain ⟨a, cap, hve, _⟩ := HA8.out.row.read
          have HVE := Lib.hid hve
          clear hve
          go_wp2
          go_ret2
          exact ⟨a, cap, by rw [HVE.out]; rfl, HS8.out.2.2.2.2.2.2.2.2.1⟩
end Go.Proofs.Yteipnfnbepnpjaa
