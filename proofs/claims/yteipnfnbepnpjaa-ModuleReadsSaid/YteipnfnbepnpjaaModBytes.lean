/- module's Bytes, of any module: the bytes of its writing, or why not. -/
import Derived.Test.YteipnfnbepnpjaaModConst
namespace Go.Proofs.Yteipnfnbepnpjaa
open Go.RowKit Go.Maps
set_option linter.unusedVariables false
theorem mb_none (m : ModX) (a1 a2 a3 : Option Addr) (w : World) (f : ModS w m a1 a2 a3) (hr : m.rightE ≠ 0) :
    Calls Try.prog 27 #[modXV m a1 a2 a3] w fun e w' => e = .returned (.tuple #[.slice none 0 0, .int .i64 (m.rightE : Nat)]) ∧ Below w.heap.size w w' := by
  have HM := Lib.hid (MxAt.made f 47)
  obtain ⟨gm, hgm⟩ : ∃ gm, gm = w.heap.size := ⟨_, rfl⟩
  obtain ⟨w1, hw1⟩ : ∃ w1, w1 = w.alloc (.cells #[.int .i64 m.G, .slice a1 m.n1 m.c1, .slice a2 m.n2 m.c2, .slice a3 m.n3 m.c3] 47) := ⟨_, rfl⟩
  have HW1 := Lib.hid hw1
  have HGM := Lib.hid hgm
  rw [← hgm, ← hw1] at HM
  have HR := Lib.hid (right_any w1 HM.out.f)
  have hb : ((m.rightE : Int) != 0) = true := by simpa using hr
  generalize m.rightE = E at HR hb ⊢
  clear f hgm hw1 hr
  unfold modXV
  go_enter Try.func27, Try.ntmps27
  go_wp2_with fail
  rw [← HW1.out, ← HGM.out]
  refine HR.out.mono ?_
  rintro en w2 ⟨rfl, hb2⟩
  have HB2 := Lib.hid (HM.out.bel.trans (hb2.mono HM.out.bel.size))
  clear hb2
  go_wp2
  go_ret2
  exact ⟨rfl, HB2.out⟩
section
variable {m : AM} {a1 a2 a3 : Option Addr} {c1 c2 c3 : Nat} {ca : Nat → Option Addr} {cc : Nat → Nat}
set_option maxRecDepth 100000 in
set_option maxHeartbeats 8000000 in
theorem mb_any (w : World) (f : ModS w (m.x c1 c2 c3 ca cc) a1 a2 a3) (hcd : ∀ i f, m.fs[i]? = some f → HoldsB w (ca i) f.2.2.length (cc i) f.2.2) (hr : m.rightE = 0) (ok : AMok m) :
    Calls Try.prog 27 #[modXV (m.x c1 c2 c3 ca cc) a1 a2 a3] w (RmDone w (enc m)) := by
  have HLE := Lib.hid (amle hr)
  have HOK := Lib.hid ok
  obtain ⟨X, hX⟩ : ∃ X, X = m.x c1 c2 c3 ca cc := ⟨_, rfl⟩
  have HX := Lib.hid hX
  have hr' : X.rightE = 0 := by rw [hX]; exact hr
  have hG : X.G = m.G := by rw [hX]; rfl
  have hn1 : X.n1 = m.cs.length := by rw [hX]; rfl
  have hn2 : X.n2 = m.fs.length := by rw [hX]; rfl
  have hn3 : X.n3 = m.ks.length := by rw [hX]; rfl
  have HN1 := Lib.hid hn1
  have HN2 := Lib.hid hn2
  have HN3 := Lib.hid hn3
  rw [← hX] at f ⊢
  have HM := Lib.hid (MxAt.made f 47)
  obtain ⟨gm, hgm⟩ : ∃ gm, gm = w.heap.size := ⟨_, rfl⟩
  obtain ⟨w1, hw1⟩ : ∃ w1, w1 = w.alloc (.cells #[.int .i64 X.G, .slice a1 X.n1 X.c1, .slice a2 X.n2 X.c2, .slice a3 X.n3 X.c3] 47) := ⟨_, rfl⟩
  have HW1 := Lib.hid hw1
  have HGM := Lib.hid hgm
  rw [← hgm, ← hw1] at HM
  have HR : Hid (Calls Try.prog 30 #[modXV X a1 a2 a3] w1 fun e w' => e = .returned (.int .i64 0) ∧ Below w1.heap.size w1 w') := (show Calls _ _ _ _ _ from by have := right_any w1 HM.out.f; rwa [hr'] at this)
  have g0 : 0 ≤ X.G := by rw [hG]; exact ok.g
  have g1 : X.G ≤ 255 := by rw [hG]; exact HLE.out.g
  have l1 : X.n1 ≤ 200 := by rw [hn1]; exact HLE.out.n1
  have l2 : X.n2 ≤ 100 := by rw [hn2]; exact HLE.out.n2
  have l3 : X.n3 ≤ 100 := by rw [hn3]; exact HLE.out.n3
  have HGN : Hid (((m.G.toNat : Nat) : Int) = X.G) := (show ((m.G.toNat : Nat) : Int) = X.G by rw [hG]; have := ok.g; omega)
  obtain ⟨i0, hi, hz0, hz1, hz2⟩ := info_parts byteInfo
  have HI := Lib.hid hi
  have HZ0 := Lib.hid hz0
  have HZ1 := Lib.hid hz1
  have HZ2 := Lib.hid hz2
  have HCD := Lib.hid hcd
  clear f hgm hw1 hr hr' hG hn1 hn2 hn3 hX ok hi hz0 hz1 hz2 hcd
  unfold modXV
  go_enter Try.func27, Try.ntmps27
  go_wp2_with fail
  rw [← HW1.out, ← HGM.out]
  refine HR.out.mono ?_
  rintro en w2 ⟨rfl, hb2⟩
  have HS2 := Lib.hid (HM.out.below hb2)
  clear hb2
  have hcv : (convert 26 26 (.slice (some ⟨w2.heap.size, 0, none⟩) 3 3)).run Try.prog (w2.alloc (.cells #[.int .u8 68, .int .u8 67, .int .u8 49] 5)) = .ok (.slice (some ⟨w2.heap.size, 0, none⟩) 3 3) (w2.alloc (.cells #[.int .u8 68, .int .u8 67, .int .u8 49] 5 (3, 4))) := Go.Lib.run_convert_bytes_const w2 26 5 #[.int .u8 68, .int .u8 67, .int .u8 49] 3 3 Try.underlying26 Try.underlying5
  obtain ⟨_, m0, m1, m2, m3, _⟩ := HS2.out
  have lm : gm < w2.heap.size := World.block_lt_of_cell? w2 _ m0
  have HMK : Hid (∀ C, ∀ j u, (byteCells [68, 67, 49])[j]? = some u → ((w2.alloc (.cells #[.int .u8 68, .int .u8 67, .int .u8 49] 5 (3, 4))).alloc (.cells C 5)).cell? ((⟨w2.heap.size, 0, none⟩ : Addr).add j) = some u) := (show ∀ C, ∀ j u, _ from fun C j u hu => by
    have h : ((w2.alloc (.cells #[.int .u8 68, .int .u8 67, .int .u8 49] 5 (3, 4))).alloc (.cells C 5)).heap[w2.heap.size]? = some (.cells #[.int .u8 68, .int .u8 67, .int .u8 49] 5 (3, 4)) := by
      rw [heap_alloc_lt _ _ (by rw [size_alloc]; omega)]; exact heap_alloc_at _ _
    have e : (⟨w2.heap.size, 0, none⟩ : Addr).add j = ⟨w2.heap.size, j, none⟩ := by unfold Addr.add; split <;> simp_all
    rw [e, ← hu]
    simp [World.cell?, h, byteCells])
  have HSZ : Hid (∀ C t, (w2.alloc (.cells C t (3, 4))).heap.size = w2.heap.size + 1) := (show ∀ C t, _ from fun _ _ => size_alloc _ _)
  have HP0 := Lib.hid (show [68, 67, 49] ++ [m.G.toNat, X.n1] = pre1 m 0 from by unfold pre1; rw [HN1.out]; simp)
  have HNB : Hid (∀ t, (Obj.cells #[.int .u8 X.G, .int .u8 (X.n1 : Nat)] t) = .cells (byteCells [m.G.toNat, X.n1]).toArray t) := (show ∀ t, _ from fun t => by rw [← HGN.out]; rfl)
  go_wp2_with (at_builtin; rw [HNB.out]; refine wpList_append_grows _ rfl (.tmp 18) (.tmp 26) 26 rfl 5 i0 (.int .u8 0) 1 1 Try.underlying26 HI.out HZ0.out HZ1.out HZ2.out rfl (by decide) (some ⟨w2.heap.size, 0, none⟩) 3 3 (byteCells [68, 67, 49]) rfl (fun e => by cases e) rfl (fun b hb j u hu => by cases hb; exact HMK.out _ j u hu) ⟨w2.heap.size + 1, 0, none⟩ 2 2 (byteCells [m.G.toNat, X.n1]) rfl rfl (by rw [← HSZ.out]; exact new_cells _ [m.G.toNat, X.n1] _) (byteCells_one _) (by decide) (by decide) (by decide) ?_)
  intro v3 w3 hr3 hg3
  have HA3 : Hid (AccB w2 v3 (pre1 m 0) w3) := (show AccB w2 v3 (pre1 m 0) w3 from HP0.out ▸ acc_grown (by omega) hr3 hg3)
  clear hr3 hg3 HMK HSZ HNB hcv m0 m1 m2 m3 lm
  have HS3 := Lib.hid (HS2.out.below HA3.out.bel)
  obtain ⟨_, m0, m1, m2, m3, _⟩ := HS3.out
  clear m0 m2 m3
  go_wp2_with fail
  clear m1
  go_loopw [5, 31] (fun v i wr => ∃ k : Nat, i = .int .i64 (k : Nat) ∧ k ≤ X.n1 ∧ Hid (AccB w2 v (pre1 m k) wr)) (fun _ i _ => X.n1 - (intOf i).toNat)
  case atStart => exact ⟨0, rfl, Nat.zero_le _, HA3⟩
  case round =>
    obtain ⟨k, rfl, hk, hs⟩ := hrel
    obtain ⟨wo, rfl⟩ : ∃ wo : World, wo = wr := ⟨_, rfl⟩
    obtain ⟨v, rfl⟩ : ∃ v, v = u5 := ⟨_, rfl⟩
    have HSK := Lib.hid (HS2.out.below hs.out.bel)
    obtain ⟨fs, q0, q1, q2, q3, _⟩ := HSK.out
    have HCL := Lib.hid (pre1_len HLE.out k)
    by_cases hlt : k < X.n1
    · obtain ⟨c, hc⟩ : ∃ c, m.cs[k]? = some c := ⟨_, List.getElem?_eq_getElem (by rw [← HN1.out]; exact hlt)⟩
      have hcs := HLE.out.c c (List.mem_of_getElem? hc)
      have HP := Lib.hid (pre1_succ hc)
      obtain ⟨g, off, rfl, hgl, e0, e1, e2⟩ := rows3 fs.c hlt
      have hb : X.b k = c.1 := by rw [HX.out]; show (m.cs[k]?.getD _).1 = _; rw [hc]; rfl
      have hz : X.z k = c.2.1 := by rw [HX.out]; show (m.cs[k]?.getD _).2.1 = _; rw [hc]; rfl
      have ht : X.s k = c.2.2 := by rw [HX.out]; show (m.cs[k]?.getD _).2.2 = _; rw [hc]; rfl
      replace e0 : wo.cell? ⟨g, off + k * 3, none⟩ = some (.bool c.1) := by rw [← hb]; exact e0
      replace e1 : wo.cell? ⟨g, off + k * 3 + 1, none⟩ = some (.int .i64 c.2.1) := by rw [← hz]; exact e1
      replace e2 : wo.cell? ⟨g, off + k * 3 + 2, none⟩ = some (.string c.2.2) := by rw [← ht]; exact e2
      have HCN := Lib.hid (fun W => const_any c W hcs)
      have HEL := Lib.hid (encC_len hcs)
      have HELT := Lib.hid (encC_lt hcs)
      have hi0 : (0 : Int) ≤ (k : Int) := by omega
      have hi1 : (k : Int) < (X.n1 : Int) := by omega
      clear hb hz ht hc hcs fs q0 q2 q3
      have HL1 := Lib.hid (pre1_len HLE.out k)
      obtain ⟨E, hE⟩ : ∃ E, E = encC c := ⟨_, rfl⟩
      rw [← hE] at HP HEL HCN HELT
      have HO1 := Lib.hid (show (pre1 m k).length + E.length ≤ maxLen from by have := HL1.out; have := HEL.out; unfold maxLen; omega)
      have HO2 := Lib.hid (show ((pre1 m k).length + E.length) * 1 ≤ 140737488355328 from by have := HL1.out; have := HEL.out; omega)
      clear hE
      have HAW := Lib.hid (hs.out.keeps0 ((Keeps.refl _ wo).alloc (.cells #[.bool c.1, .int .i64 c.2.1, .string c.2.2] 63)))
      go_wp2_with fail
      refine (HCN.out _).mono ?_
      rintro en w4 ⟨v4, rfl, ha4⟩
      have HA4 := Lib.hid (HAW.out.below ha4.bel)
      obtain ⟨a4, p4, rfl, hh4⟩ := ha4.row.holdsB (fun y hy => HELT.out y hy)
      have HS4 := Lib.hid hh4.src
      obtain ⟨EL, hEL⟩ : ∃ EL, EL = E.length := ⟨_, rfl⟩
      have HEE := Lib.hid hEL
      rw [← hEL] at HS4 HO1 HO2 ⊢
      clear ha4 hh4 hEL
      go_wp2_with (at_builtin; refine wpList_row (by rfl) (.tmp 35) (.tmp 37) 26 rfl 5 i0 (.int .u8 0) 1 1 Try.underlying26 HI.out HZ0.out HZ1.out HZ2.out rfl (by decide) v _ (byteCells (pre1 m k)) rfl HA4.out.row (.slice a4 EL p4) EL (byteCells E) rfl HS4.out (byteCells_one _) HO1.out HO2.out ?_)
      intro v5 w5 hr5 hg5 hv5
      have HA5 : Hid (AccB w2 v5 (pre1 m (k + 1)) w5) := (show AccB w2 v5 (pre1 m (k + 1)) w5 from HP.out ▸ HA4.out.push0 (bs := E) HEE.out rfl hr5 hg5 hv5)
      clear hr5 hg5 hv5
      go_wp2
      go_roundw
      case rel => first | exact ⟨k + 1, by go_num, by omega, HA5⟩ | ((repeat apply Exists.intro); exact ⟨⟨k + 1, by go_num, by omega, HA5⟩, rfl⟩)
      case measure => simp [intOf]; omega
    · obtain rfl : k = X.n1 := by omega
      clear fs q0 q1 q2 q3
      have HL1 := Lib.hid (pre1_len HLE.out X.n1)
      have HO1 := Lib.hid (show (pre1 m X.n1).length + 1 ≤ maxLen from by have := HL1.out; unfold maxLen; omega)
      have HO2 := Lib.hid (show ((pre1 m X.n1).length + 1) * 1 ≤ 140737488355328 from by have := HL1.out; omega)
      obtain ⟨fs, q0, q1, q2, q3, _⟩ := HSK.out
      have h2N : ((X.n2 : Nat) : Int) ≤ 100 := by omega
      go_wp2_with (at_builtin; refine wpList_row (by rfl) (.tmp 40) (.tmp 45) 26 rfl 5 i0 (.int .u8 0) 1 1 Try.underlying26 HI.out HZ0.out HZ1.out HZ2.out rfl (by decide) v _ (byteCells (pre1 m X.n1)) rfl (hs.out.row.keeps0 ((Keeps.refl _ _).alloc _)) (.slice (some ⟨wo.heap.size, 0, none⟩) 1 1) 1 (byteCells [X.n2]) rfl (new_bytes _ [X.n2] _) (byteCells_one _) HO1.out HO2.out ?_)
      intro v4 w4 hr4 hg4 hv4
      have HA4 : Hid (AccB w2 v4 (pre2 m 0) w4) := (show AccB w2 v4 (pre2 m 0) w4 from by rw [pre2_zero, ← HN1.out, ← HN2.out]; exact (hs.out.keeps0 ((Keeps.refl _ _).alloc _)).push0 (bs := [X.n2]) rfl rfl hr4 hg4 (by simpa only [size_alloc] using hv4))
      clear hr4 hg4 hv4 fs q0 q1 q2 q3 hs hlt
      have HS4 := Lib.hid (HS2.out.below HA4.out.bel)
      obtain ⟨_, p0, p1, p2, p3, _⟩ := HS4.out
      clear p0 p1 p3
      go_wp2_with fail
      clear p2
      go_loopw [5, 50] (fun v i wr => ∃ k : Nat, i = .int .i64 (k : Nat) ∧ k ≤ X.n2 ∧ Hid (AccB w2 v (pre2 m k) wr)) (fun _ i _ => X.n2 - (intOf i).toNat)
      case atStart => exact ⟨0, rfl, Nat.zero_le _, HA4⟩
      case round =>
        obtain ⟨k, rfl, hk2, hs⟩ := hrel
        obtain ⟨wo, rfl⟩ : ∃ wo : World, wo = wr := ⟨_, rfl⟩
        obtain ⟨v, rfl⟩ : ∃ v, v = u5 := ⟨_, rfl⟩
        have HSK := Lib.hid (HS2.out.below hs.out.bel)
        obtain ⟨fs, q0, q1, q2, q3, hbw⟩ := HSK.out
        by_cases hlt : k < X.n2
        · obtain ⟨c, hc⟩ : ∃ c, m.fs[k]? = some c := ⟨_, List.getElem?_eq_getElem (by rw [← HN2.out]; exact hlt)⟩
          have hcs := HLE.out.f c (List.mem_of_getElem? hc)
          have hco := HOK.out.f c (List.mem_of_getElem? hc)
          have HP := Lib.hid (pre2_succ hc)
          have HHB := Lib.hid (HCD.out k c hc)
          obtain ⟨g, off, rfl, hgl, e0, e1, e2⟩ := rows3 fs.f hlt
          have hb : X.p k = c.1 := by rw [HX.out]; show (m.fs[k]?.getD _).1 = _; rw [hc]; rfl
          have hz : X.lo k = c.2.1 := by rw [HX.out]; show (m.fs[k]?.getD _).2.1 = _; rw [hc]; rfl
          have ht : X.cl k = c.2.2.length := by rw [HX.out]; show (m.fs[k]?.getD _).2.2.length = _; rw [hc]; rfl
          have ha : X.ca k = ca k := by rw [HX.out]; rfl
          have hcc : X.cc k = cc k := by rw [HX.out]; rfl
          obtain ⟨p, lo, l⟩ := c
          obtain ⟨p', rfl⟩ : ∃ p' : Nat, p = p' := ⟨p.toNat, by have := hco.1; dsimp only at this; omega⟩
          obtain ⟨lo', rfl⟩ : ∃ p' : Nat, lo = p' := ⟨lo.toNat, by have := hco.2; dsimp only at this; omega⟩
          obtain ⟨L, hL⟩ : ∃ L, L = l.length := ⟨_, rfl⟩
          obtain ⟨A, hA⟩ : ∃ A, A = ca k := ⟨_, rfl⟩
          obtain ⟨C, hC⟩ : ∃ C, C = cc k := ⟨_, rfl⟩
          dsimp only at hcs hco hb hz ht
          replace e0 : wo.cell? ⟨g, off + k * 3, none⟩ = some (.int .i64 (p' : Nat)) := by rw [← hb]; exact e0
          replace e1 : wo.cell? ⟨g, off + k * 3 + 1, none⟩ = some (.int .i64 (lo' : Nat)) := by rw [← hz]; exact e1
          replace e2 : wo.cell? ⟨g, off + k * 3 + 2, none⟩ = some (.slice A L C) := by rw [hL, hA, hC, ← ht, ← ha, ← hcc]; exact e2
          dsimp only at HHB
          rw [← hA, ← hC, ← hL] at HHB
          have hp1 : ((p' : Nat) : Int) ≤ 20 := hcs.2.1
          have hlo1 : ((lo' : Nat) : Int) ≤ 50 := hcs.2.2
          have hL1 : ((L : Nat) : Int) ≤ 4000 := by rw [hL]; have := hcs.1; omega
          have hi0 : (0 : Int) ≤ (k : Int) := by omega
          have hi1 : (k : Int) < (X.n2 : Int) := by omega
          have HLL := Lib.hid hL
          have HL2 := Lib.hid (pre2_len HLE.out k)
          have HO1 := Lib.hid (show (pre2 m k).length + 4 ≤ maxLen from by have := HL2.out; unfold maxLen; omega)
          have HO2 := Lib.hid (show ((pre2 m k).length + 4) * 1 ≤ 140737488355328 from by have := HL2.out; omega)
          obtain ⟨B, hB⟩ : ∃ B, B = pre2 m k ++ [p', lo', L % 256, L / 256] := ⟨_, rfl⟩
          have HO3 := Lib.hid (show B.length + L ≤ maxLen from by rw [hB, List.length_append]; simp only [List.length_cons, List.length_nil]; have := HL2.out; unfold maxLen; omega)
          have HO4 := Lib.hid (show (B.length + L) * 1 ≤ 140737488355328 from by rw [hB, List.length_append]; simp only [List.length_cons, List.length_nil]; have := HL2.out; omega)
          have HEC := Lib.hid (show pre2 m (k + 1) = B ++ l from by rw [HP.out, hB, List.append_assoc, hL]; rfl)
          have HBE := Lib.hid hB
          have HQB := Lib.hid (heap_alloc_at wo (.cells #[.int .i64 (p' : Nat), .int .i64 (lo' : Nat), .slice A L C] 61))
          obtain ⟨Q, hQ⟩ : ∃ Q, Q = wo.heap.size := ⟨_, rfl⟩
          have HQ := Lib.hid hQ
          clear hb hz ht ha hcc hc hcs hco fs q0 q1 q3 hL hA hC hB hQ hbw
          go_wp2_with (at_builtin; refine wpList_row (by rfl) (.tmp 54) (.tmp 70) 26 rfl 5 i0 (.int .u8 0) 1 1 Try.underlying26 HI.out HZ0.out HZ1.out HZ2.out rfl (by decide) v _ (byteCells (pre2 m k)) rfl (hs.out.row.keeps0 (((Keeps.refl _ _).alloc _).alloc _)) (.slice (some ⟨wo.heap.size + 1, 0, none⟩) 4 4) 4 (byteCells [p', lo', L % 256, L / 256]) rfl (new_bytes1 _ _ [p', lo', L % 256, L / 256] _) (byteCells_one _) HO1.out HO2.out ?_)
          intro v4 w4 hr4 hg4 hv4
          have HA4 : Hid (AccB w2 v4 B w4) := (show AccB w2 v4 B w4 from HBE.out ▸ (hs.out.keeps0 (((Keeps.refl _ _).alloc _).alloc _)).push0 (bs := [p', lo', L % 256, L / 256]) rfl rfl hr4 hg4 (by simpa only [size_alloc] using hv4))
          have hb4 : w4.heap[Q]? = some (.cells #[.int .i64 (p' : Nat), .int .i64 (lo' : Nat), .slice A L C] 61 (0, 0)) := hs.out.blk HQ.out HQB.out ((Keeps.refl _ _).alloc _) hg4
          have k2 : w4.cell? ⟨Q, 2, none⟩ = some (.slice A L C) := cell_of_block hb4
          have HSC := Lib.hid ((HHB.out.below (HS2.out.below HA4.out.bel).bel).src)
          clear hr4 hg4 hv4 hb4 e0 e1 e2
          rw [← HQ.out]
          go_wp2_with (at_builtin; refine wpList_row (by rfl) (.tmp 72) (.tmp 74) 26 rfl 5 i0 (.int .u8 0) 1 1 Try.underlying26 HI.out HZ0.out HZ1.out HZ2.out rfl (by decide) v4 _ (byteCells B) rfl HA4.out.row (.slice A L C) L (byteCells l) rfl HSC.out (byteCells_one _) HO3.out HO4.out ?_)
          intro v5 w5 hr5 hg5 hv5
          have HA5 : Hid (AccB w2 v5 (pre2 m (k + 1)) w5) := (show AccB w2 v5 (pre2 m (k + 1)) w5 from HEC.out ▸ HA4.out.push0 (bs := l) HLL.out rfl hr5 hg5 hv5)
          clear hr5 hg5 hv5 k2
          go_wp2
          go_roundw
          case rel => first | exact ⟨k + 1, by go_num, by omega, HA5⟩ | ((repeat apply Exists.intro); exact ⟨⟨k + 1, by go_num, by omega, HA5⟩, rfl⟩)
          case measure => simp [intOf]; omega
        · obtain rfl : k = X.n2 := by omega
          clear fs q0 q1 q2 q3 hbw
          have HL1 := Lib.hid (pre2_len HLE.out X.n2)
          have HO1 := Lib.hid (show (pre2 m X.n2).length + 1 ≤ maxLen from by have := HL1.out; unfold maxLen; omega)
          have HO2 := Lib.hid (show ((pre2 m X.n2).length + 1) * 1 ≤ 140737488355328 from by have := HL1.out; omega)
          obtain ⟨fs, q0, q1, q2, q3, _⟩ := HSK.out
          have h3N : ((X.n3 : Nat) : Int) ≤ 100 := by omega
          go_wp2_with (at_builtin; refine wpList_row (by rfl) (.tmp 77) (.tmp 82) 26 rfl 5 i0 (.int .u8 0) 1 1 Try.underlying26 HI.out HZ0.out HZ1.out HZ2.out rfl (by decide) v _ (byteCells (pre2 m X.n2)) rfl (hs.out.row.keeps0 ((Keeps.refl _ _).alloc _)) (.slice (some ⟨wo.heap.size, 0, none⟩) 1 1) 1 (byteCells [X.n3]) rfl (new_bytes _ [X.n3] _) (byteCells_one _) HO1.out HO2.out ?_)
          intro v4 w4 hr4 hg4 hv4
          have HA4 : Hid (AccB w2 v4 (pre3 m 0) w4) := (show AccB w2 v4 (pre3 m 0) w4 from by rw [pre3_zero, ← HN2.out, ← HN3.out]; exact (hs.out.keeps0 ((Keeps.refl _ _).alloc _)).push0 (bs := [X.n3]) rfl rfl hr4 hg4 (by simpa only [size_alloc] using hv4))
          clear hr4 hg4 hv4 fs q0 q1 q2 q3 hs hlt
          have HS4 := Lib.hid (HS2.out.below HA4.out.bel)
          obtain ⟨_, p0, p1, p2, p3, _⟩ := HS4.out
          clear p0 p1 p2
          go_wp2_with fail
          clear p3
          go_loopw [5, 87] (fun v i wr => ∃ k : Nat, i = .int .i64 (k : Nat) ∧ k ≤ X.n3 ∧ Hid (AccB w2 v (pre3 m k) wr)) (fun _ i _ => X.n3 - (intOf i).toNat)
          case atStart => exact ⟨0, rfl, Nat.zero_le _, HA4⟩
          case round =>
            obtain ⟨k, rfl, hk3, hs⟩ := hrel
            obtain ⟨wo, rfl⟩ : ∃ wo : World, wo = wr := ⟨_, rfl⟩
            obtain ⟨v, rfl⟩ : ∃ v, v = u5 := ⟨_, rfl⟩
            have HSK := Lib.hid (HS2.out.below hs.out.bel)
            obtain ⟨fs, q0, q1, q2, q3, hbw⟩ := HSK.out
            by_cases hlt : k < X.n3
            · obtain ⟨c, hc⟩ : ∃ c, m.ks[k]? = some c := ⟨_, List.getElem?_eq_getElem (by rw [← HN3.out]; exact hlt)⟩
              have hcs := HLE.out.k c (List.mem_of_getElem? hc)
              have hco := HOK.out.k c (List.mem_of_getElem? hc)
              have HP := Lib.hid (pre3_succ hc)
              obtain ⟨g, off, rfl, hgl, e0, e1⟩ := rows2 fs.k hlt
              have hb : X.fi k = c.1 := by rw [HX.out]; show (m.ks[k]?.getD _).1 = _; rw [hc]; rfl
              have hz : X.en k = c.2 := by rw [HX.out]; show (m.ks[k]?.getD _).2 = _; rw [hc]; rfl
              obtain ⟨p, e⟩ := c
              dsimp only at hcs hco hb hz
              obtain ⟨p', rfl⟩ : ∃ p' : Nat, p = p' := ⟨p.toNat, by omega⟩
              obtain ⟨e', he'⟩ : ∃ e' : Nat, e + 1 = e' := ⟨(e + 1).toNat, by omega⟩
              replace e0 : wo.cell? ⟨g, off + k * 2, none⟩ = some (.int .i64 (p' : Nat)) := by rw [← hb]; exact e0
              replace e1 : wo.cell? ⟨g, off + k * 2 + 1, none⟩ = some (.int .i64 e) := by rw [← hz]; exact e1
              have hp1 : ((p' : Nat) : Int) ≤ 255 := hcs.1
              have he1 : ((e' : Nat) : Int) ≤ 100 := by omega
              have hi0 : (0 : Int) ≤ (k : Int) := by omega
              have hi1 : (k : Int) < (X.n3 : Int) := by omega
              have he2 : -1 ≤ e := by omega
              have he3 : e ≤ 99 := by omega
              have HL2 := Lib.hid (pre3_len HLE.out k)
              have HO1 := Lib.hid (show (pre3 m k).length + 2 ≤ maxLen from by have := HL2.out; unfold maxLen; omega)
              have HO2 := Lib.hid (show ((pre3 m k).length + 2) * 1 ≤ 140737488355328 from by have := HL2.out; omega)
              have HEC := Lib.hid (show pre3 m (k + 1) = pre3 m k ++ [p', e'] from by rw [HP.out]; unfold encK; rw [he']; rfl)
              clear hb hz hc hcs hco fs q0 q1 q2 hbw
              go_wp2_with (at_builtin; refine wpList_row (by rfl) (.tmp 91) (.tmp 99) 26 rfl 5 i0 (.int .u8 0) 1 1 Try.underlying26 HI.out HZ0.out HZ1.out HZ2.out rfl (by decide) v _ (byteCells (pre3 m k)) rfl (hs.out.row.keeps0 (((Keeps.refl _ _).alloc _).alloc _)) (.slice (some ⟨wo.heap.size + 1, 0, none⟩) 2 2) 2 (byteCells [p', e']) rfl (new_bytes1 _ _ [p', e'] _) (byteCells_one _) HO1.out HO2.out ?_)
              intro v4 w4 hr4 hg4 hv4
              have HA5 : Hid (AccB w2 v4 (pre3 m (k + 1)) w4) := (show AccB w2 v4 (pre3 m (k + 1)) w4 from HEC.out ▸ (hs.out.keeps0 (((Keeps.refl _ _).alloc _).alloc _)).push0 (bs := [p', e']) rfl rfl hr4 hg4 (by simpa only [size_alloc] using hv4))
              clear hr4 hg4 hv4 he'
              go_wp2
              go_roundw
              case rel => first | exact ⟨k + 1, by go_num, by omega, HA5⟩ | ((repeat apply Exists.intro); exact ⟨⟨k + 1, by go_num, by omega, HA5⟩, rfl⟩)
              case measure => simp [intOf]; omega
            · obtain rfl : k = X.n3 := by omega
              have HF : Hid (AccB w v (enc m) wo) := (show AccB w v (enc m) wo from by
                have hh := hs.out
                rw [← pre3_enc, ← HN3.out]
                exact ⟨hh.row, fun g hg => Nat.le_trans HS2.out.bel.size (hh.new g hg), hbw⟩)
              clear hs hbw fs
              go_wp2
              go_ret2
              exact ⟨v, rfl, HF.out⟩
end
end Go.Proofs.Yteipnfnbepnpjaa
