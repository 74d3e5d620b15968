/- the reference's Module, of any module that may be: the bytes of its writing. -/
import Derived.Test.YteipnfnbepnpjaaModLawG
import Derived.Test.YteipnfnbepnpjaaRowStr
import Derived.Test.YteipnfnbepnpjaaModRefR
import Derived.Test.YteipnfnbepnpjaaModBytes1
import Derived.Deep.RegionLaw
import Derived.IntWalk
namespace Go.Proofs.Yteipnfnbepnpjaa
open Go.RowKit Go.Maps
set_option linter.unusedVariables false
theorem src_dr {w : World} {sv : Value} {m size : Nat} {news : List Value} (h : Src w sv m size news) : Src w.drew sv m size news := by
  rcases h with h | ⟨ad, c, h1, h2, h3⟩
  · exact .inl h
  · exact .inr ⟨ad, c, h1, h2, h3⟩
theorem AccB.keeps0 {w wr w1 : World} {v : Value} {acc : List Nat} (h : AccB w v acc wr) (k : Keeps [] wr w1) : AccB w v acc w1 :=
  h.below (k.below (Nat.le_refl _) fun _ h => absurd h List.not_mem_nil)
theorem RowS.keeps0 {w w1 : World} {size n : Nat} {v : Value} {xs : List Value} (h : RowS w size v n xs) (k : Keeps [] w w1) : RowS w1 size v n xs :=
  h.keeps k fun _ _ => List.not_mem_nil
/-- a block beside the row that grew -/
theorem AccB.blk {w wo W1 Wd w4 : World} {v : Value} {acc : List Nat} {Q : Nat} {ob : Obj} (h : AccB w v acc wo) (hQ : Q = wo.heap.size) (hb : W1.heap[wo.heap.size]? = some ob) (k : Keeps [] W1 Wd) (hg : Wd.grownBy w4 v.ownBlock) : w4.heap[Q]? = some ob := by
  subst hQ
  have hd := k.at hb List.not_mem_nil
  exact (hg.block _ (Array.getElem?_eq_some_iff.1 hd).1 (fun e => by have := h.row.lt _ e.symm; omega)).trans hd
theorem HoldsB.src {w : World} {a : Option Addr} {len cap : Nat} {l : List Nat} (h : HoldsB w a len cap l) : Src w (.slice a len cap) len 1 (byteCells l) := by
  have he := h.eq
  have hl := h.le
  cases a with
  | none =>
    have hc := h.nil rfl
    subst hc
    obtain rfl : len = 0 := by omega
    obtain rfl : l = [] := List.length_eq_zero_iff.1 he.symm
    exact .inl ⟨rfl, rfl, rfl⟩
  | some ad =>
    refine .inr ⟨ad, cap, rfl, by unfold byteCells; rw [List.length_map, he, Nat.mul_one], fun j u hu => ?_⟩
    unfold byteCells at hu
    rw [List.getElem?_map] at hu
    cases hy : l[j]? with
    | none => rw [hy] at hu; cases hu
    | some y =>
      rw [hy] at hu
      cases hu
      obtain ⟨g, off, e, _, hc⟩ := h.cell j y hy
      cases e
      have e : (⟨g, off, none⟩ : Addr).add j = ⟨g, off + j, none⟩ := by unfold Addr.add; split <;> simp_all
      rw [e]; exact hc
theorem and255 (a : Nat) (h : a ≤ 65535) : bits .and .i64 (a : Int) 255 = ((a % 256 : Nat) : Int) := by
  show IntKind.i64.wrap ((BitVec.ofInt 64 (a : Int) &&& BitVec.ofInt 64 ((255 : Nat) : Int)).toNat : Int) = _
  rw [BitVec.toNat_and, ofInt64 a (by omega), ofInt64 255 (by omega), IntKind.wrap_i64]
  have h1 : a &&& 255 = a % 256 := Nat.and_two_pow_sub_one_eq_mod a 8
  rw [h1]
  omega
theorem and255u (a : Nat) (h : a < 18446744073709551616) : bits .and .u64 (a : Int) 255 = ((a % 256 : Nat) : Int) := by
  show IntKind.u64.wrap ((BitVec.ofInt 64 (a : Int) &&& BitVec.ofInt 64 ((255 : Nat) : Int)).toNat : Int) = _
  rw [BitVec.toNat_and, ofIntU a h, ofIntU 255 (by omega)]
  have h1 : a &&& 255 = a % 256 := Nat.and_two_pow_sub_one_eq_mod a 8
  rw [h1]
  exact IntWalk.u64_in _ (by omega)
theorem u64w (z : Int) : IntKind.u64.wrap z = ((u64N z : Nat) : Int) := by
  rw [show IntKind.u64.wrap z = z % 18446744073709551616 by rw [IntKind.wrap_u64]]
  unfold u64N; omega
theorem u64N_lt (z : Int) : u64N z < 18446744073709551616 := by unfold u64N; omega
theorem shr8 (z : Int) (j : Nat) : IntKind.u64.wrap z / 2 ^ (8 * j) = ((u64N z / 256 ^ j : Nat) : Int) := by
  have e : (2 : Int) ^ (8 * j) = ((256 ^ j : Nat) : Int) := by
    rw [show (256 : Nat) ^ j = 2 ^ (8 * j) from by rw [Nat.pow_mul]]
    push_cast
    rfl
  rw [u64w, e, Int.natCast_ediv]
theorem byte_at (z : Int) (j : Nat) : bits .and .u64 (IntKind.u64.wrap z / 2 ^ (8 * j)) 255 % 256 = ((u64N z / 256 ^ j % 256 : Nat) : Int) := by
  rw [shr8, and255u _ (Nat.lt_of_le_of_lt (Nat.div_le_self _ _) (u64N_lt z))]
  omega
/-- how the writing ends -/
def RmDone (w : World) (bs : List Nat) (en : Ending) (W : World) : Prop := ∃ v, en = .returned (.tuple #[v, .int .i64 0]) ∧ AccB w v bs W
theorem rm_none (m : ModX) (a1 a2 a3 : Option Addr) (w : World) (f : ModS w m a1 a2 a3) (hr : m.rightE ≠ 0) :
    Calls Try.prog 28 #[modXV m a1 a2 a3] w fun e w' => e = .returned (.tuple #[.slice none 0 0, .int .i64 (m.rightE : Nat)]) ∧ Below w.heap.size w w' := by
  have HM := Lib.hid (MxAt.made f 47)
  obtain ⟨gm, hgm⟩ : ∃ gm, gm = w.heap.size := ⟨_, rfl⟩
  obtain ⟨w1, hw1⟩ : ∃ w1, w1 = w.alloc (.cells #[.int .i64 m.G, .slice a1 m.n1 m.c1, .slice a2 m.n2 m.c2, .slice a3 m.n3 m.c3] 47) := ⟨_, rfl⟩
  have HW1 := Lib.hid hw1
  have HGM := Lib.hid hgm
  rw [← hgm, ← hw1] at HM
  have HR := Lib.hid (refRight_any w1 HM.out.f)
  have hb : ((m.rightE : Int) != 0) = true := by simpa using hr
  generalize m.rightE = E at HR hb ⊢
  clear f hgm hw1 hr
  unfold modXV
  go_enter Try.func28, Try.ntmps28
  go_wp2_with fail
  rw [← HW1.out, ← HGM.out]
  refine HR.out.mono ?_
  rintro en w2 ⟨rfl, hb2⟩
  have HB2 := Lib.hid (HM.out.bel.trans (hb2.mono HM.out.bel.size))
  clear hb2
  go_wp2
  go_ret2
  exact ⟨rfl, HB2.out⟩
section
variable {m : AM} {a1 a2 a3 : Option Addr} {c1 c2 c3 : Nat} {ca : Nat → Option Addr} {cc : Nat → Nat}
set_option maxRecDepth 100000 in
set_option maxHeartbeats 8000000 in
theorem rm_any (w : World) (f : ModS w (m.x c1 c2 c3 ca cc) a1 a2 a3) (hcd : ∀ i f, m.fs[i]? = some f → HoldsB w (ca i) f.2.2.length (cc i) f.2.2) (hr : m.rightE = 0) (ok : AMok m) :
    Calls Try.prog 28 #[modXV (m.x c1 c2 c3 ca cc) a1 a2 a3] w (RmDone w (enc m)) := by
  have HLE := Lib.hid (amle hr)
  have HOK := Lib.hid ok
  obtain ⟨X, hX⟩ : ∃ X, X = m.x c1 c2 c3 ca cc := ⟨_, rfl⟩
  have HX := Lib.hid hX
  have hr' : X.rightE = 0 := by rw [hX]; exact hr
  have hG : X.G = m.G := by rw [hX]; rfl
  have hn1 : X.n1 = m.cs.length := by rw [hX]; rfl
  have hn2 : X.n2 = m.fs.length := by rw [hX]; rfl
  have hn3 : X.n3 = m.ks.length := by rw [hX]; rfl
  have HN1 := Lib.hid hn1
  have HN2 := Lib.hid hn2
  have HN3 := Lib.hid hn3
  rw [← hX] at f ⊢
  have HM := Lib.hid (MxAt.made f 47)
  obtain ⟨gm, hgm⟩ : ∃ gm, gm = w.heap.size := ⟨_, rfl⟩
  obtain ⟨w1, hw1⟩ : ∃ w1, w1 = w.alloc (.cells #[.int .i64 X.G, .slice a1 X.n1 X.c1, .slice a2 X.n2 X.c2, .slice a3 X.n3 X.c3] 47) := ⟨_, rfl⟩
  have HW1 := Lib.hid hw1
  have HGM := Lib.hid hgm
  rw [← hgm, ← hw1] at HM
  have HR : Hid (Calls Try.prog 26 #[modXV X a1 a2 a3] w1 (RrDone w1 0)) := (show Calls _ _ _ _ _ from by have := refRight_any w1 HM.out.f; rwa [hr'] at this)
  have g0 : 0 ≤ X.G := by rw [hG]; exact ok.g
  have g1 : X.G ≤ 255 := by rw [hG]; exact HLE.out.g
  have l1 : X.n1 ≤ 200 := by rw [hn1]; exact HLE.out.n1
  have l2 : X.n2 ≤ 100 := by rw [hn2]; exact HLE.out.n2
  have l3 : X.n3 ≤ 100 := by rw [hn3]; exact HLE.out.n3
  have HGN : Hid (((m.G.toNat : Nat) : Int) = X.G) := (show ((m.G.toNat : Nat) : Int) = X.G by rw [hG]; have := ok.g; omega)
  obtain ⟨i0, hi, hz0, hz1, hz2⟩ := info_parts byteInfo
  have HI := Lib.hid hi
  have HZ0 := Lib.hid hz0
  have HZ1 := Lib.hid hz1
  have HZ2 := Lib.hid hz2
  have HCD := Lib.hid hcd
  clear f hgm hw1 hr hr' hG hn1 hn2 hn3 hX ok hi hz0 hz1 hz2 hcd
  unfold modXV
  go_enter Try.func28, Try.ntmps28
  go_wp2_with fail
  rw [← HW1.out, ← HGM.out]
  refine HR.out.mono ?_
  rintro en w2 ⟨rfl, hb2⟩
  have HS2 := Lib.hid (HM.out.below hb2)
  clear hb2
  have hcv : (convert 26 26 (.slice (some ⟨w2.heap.size, 0, none⟩) 3 3)).run Try.prog (w2.alloc (.cells #[.int .u8 68, .int .u8 67, .int .u8 49] 5)) = .ok (.slice (some ⟨w2.heap.size, 0, none⟩) 3 3) (w2.alloc (.cells #[.int .u8 68, .int .u8 67, .int .u8 49] 5 (3, 4))) := Go.Lib.run_convert_bytes_const w2 26 5 #[.int .u8 68, .int .u8 67, .int .u8 49] 3 3 Try.underlying26 Try.underlying5
  obtain ⟨_, m0, m1, m2, m3, _⟩ := HS2.out
  have lm : gm < w2.heap.size := World.block_lt_of_cell? w2 _ m0
  have HMK : Hid (∀ C, ∀ j u, (byteCells [68, 67, 49])[j]? = some u → ((w2.alloc (.cells #[.int .u8 68, .int .u8 67, .int .u8 49] 5 (3, 4))).alloc (.cells C 5)).cell? ((⟨w2.heap.size, 0, none⟩ : Addr).add j) = some u) := (show ∀ C, ∀ j u, _ from fun C j u hu => by
    have h : ((w2.alloc (.cells #[.int .u8 68, .int .u8 67, .int .u8 49] 5 (3, 4))).alloc (.cells C 5)).heap[w2.heap.size]? = some (.cells #[.int .u8 68, .int .u8 67, .int .u8 49] 5 (3, 4)) := by
      rw [heap_alloc_lt _ _ (by rw [size_alloc]; omega)]; exact heap_alloc_at _ _
    have e : (⟨w2.heap.size, 0, none⟩ : Addr).add j = ⟨w2.heap.size, j, none⟩ := by unfold Addr.add; split <;> simp_all
    rw [e, ← hu]
    simp [World.cell?, h, byteCells])
  have HSZ : Hid (∀ C t, (w2.alloc (.cells C t (3, 4))).heap.size = w2.heap.size + 1) := (show ∀ C t, _ from fun _ _ => size_alloc _ _)
  have HP0 := Lib.hid (show [68, 67, 49] ++ [m.G.toNat, X.n1] = pre1 m 0 from by unfold pre1; rw [HN1.out]; simp)
  have HNB : Hid (∀ t, (Obj.cells #[.int .u8 X.G, .int .u8 (X.n1 : Nat)] t) = .cells (byteCells [m.G.toNat, X.n1]).toArray t) := (show ∀ t, _ from fun t => by rw [← HGN.out]; rfl)
  go_wp2_with (at_builtin; rw [HNB.out]; refine wpList_append_grows _ rfl (.tmp 18) (.tmp 26) 26 rfl 5 i0 (.int .u8 0) 1 1 Try.underlying26 HI.out HZ0.out HZ1.out HZ2.out rfl (by decide) (some ⟨w2.heap.size, 0, none⟩) 3 3 (byteCells [68, 67, 49]) rfl (fun e => by cases e) rfl (fun b hb j u hu => by cases hb; exact HMK.out _ j u hu) ⟨w2.heap.size + 1, 0, none⟩ 2 2 (byteCells [m.G.toNat, X.n1]) rfl rfl (by rw [← HSZ.out]; exact new_cells _ [m.G.toNat, X.n1] _) (byteCells_one _) (by decide) (by decide) (by decide) ?_)
  intro v3 w3 hr3 hg3
  have HA3 : Hid (AccB w2 v3 (pre1 m 0) w3) := (show AccB w2 v3 (pre1 m 0) w3 from HP0.out ▸ acc_grown (by omega) hr3 hg3)
  clear hr3 hg3 HMK HSZ HNB hcv m0 m1 m2 m3 lm
  go_wp2_with fail
  go_loopw [5, 6] (fun v i wr => ∃ k : Nat, i = .int .i64 (k : Nat) ∧ k ≤ X.n1 ∧ Hid (AccB w2 v (pre1 m k) wr)) (fun _ i _ => X.n1 - (intOf i).toNat)
  case atStart => exact ⟨0, rfl, Nat.zero_le _, HA3⟩
  case round =>
    obtain ⟨k, rfl, hk, hs⟩ := hrel
    obtain ⟨wo, rfl⟩ : ∃ wo : World, wo = wr := ⟨_, rfl⟩
    obtain ⟨v, rfl⟩ : ∃ v, v = u5 := ⟨_, rfl⟩
    have HSK := Lib.hid (HS2.out.below hs.out.bel)
    obtain ⟨fs, q0, q1, q2, q3, _⟩ := HSK.out
    have HCL := Lib.hid (pre1_len HLE.out k)
    by_cases hlt : k < X.n1
    · obtain ⟨c, hc⟩ : ∃ c, m.cs[k]? = some c := ⟨_, List.getElem?_eq_getElem (by rw [← HN1.out]; exact hlt)⟩
      have hcs := HLE.out.c c (List.mem_of_getElem? hc)
      have HP := Lib.hid (pre1_succ hc)
      obtain ⟨g, off, rfl, hgl, e0, e1, e2⟩ := rows3 fs.c hlt
      have hb : X.b k = c.1 := by rw [HX.out]; show (m.cs[k]?.getD _).1 = _; rw [hc]; rfl
      have hz : X.z k = c.2.1 := by rw [HX.out]; show (m.cs[k]?.getD _).2.1 = _; rw [hc]; rfl
      have ht : X.s k = c.2.2 := by rw [HX.out]; show (m.cs[k]?.getD _).2.2 = _; rw [hc]; rfl
      obtain ⟨b, z, t⟩ := c
      replace e0 : wo.cell? ⟨g, off + k * 3, none⟩ = some (.bool b) := by rw [← show X.b k = b from hb]; exact e0
      replace e1 : wo.cell? ⟨g, off + k * 3 + 1, none⟩ = some (.int .i64 z) := by rw [← show X.z k = z from hz]; exact e1
      replace e2 : wo.cell? ⟨g, off + k * 3 + 2, none⟩ = some (.string t) := by rw [← show X.s k = t from ht]; exact e2
      have hts : t.size ≤ 255 := hcs
      have hts1 : ((t.size : Nat) : Int) ≤ 255 := by omega
      have hts0 : (0 : Int) ≤ ((t.size : Nat) : Int) := by omega
      have hi0 : (0 : Int) ≤ (k : Int) := by omega
      have hi1 : (k : Int) < (X.n1 : Int) := by omega
      clear hb hz ht hc hcs fs q0 q2 q3
      have HL1 := Lib.hid (pre1_len HLE.out k)
      cases b
      · have HO1 := Lib.hid (show (pre1 m k).length + 1 ≤ maxLen from by have := HL1.out; unfold maxLen; omega)
        have HO2 := Lib.hid (show ((pre1 m k).length + 1) * 1 ≤ 140737488355328 from by have := HL1.out; omega)
        obtain ⟨u, hu⟩ : ∃ u, u = u64N z := ⟨_, rfl⟩
        have HU := Lib.hid hu
        have HEC := Lib.hid (show pre1 m (k + 1) = pre1 m k ++ (0 :: (leB 8 u).take 8) from by rw [HP.out, List.take_of_length_le (by rw [length_leB]; omega), hu]; rfl)
        have HB1 := Lib.hid (heap_alloc_at wo (.cells #[.bool false, .int .i64 z, .string t] 63))
        obtain ⟨Q, hQ⟩ : ∃ Q, Q = wo.heap.size := ⟨_, rfl⟩
        have HQ := Lib.hid hQ
        clear hQ hts hu
        go_wp2_with (at_builtin; refine wpList_row (by rfl) (.tmp 52) (.tmp 53) 26 rfl 5 i0 (.int .u8 0) 1 1 Try.underlying26 HI.out HZ0.out HZ1.out HZ2.out rfl (by decide) v _ (byteCells (pre1 m k)) rfl (hs.out.row.keeps0 (((Keeps.refl _ _).alloc _).alloc _)) (.slice (some ⟨wo.heap.size + 1, 0, none⟩) 1 1) 1 (byteCells [0]) rfl (new_bytes1 _ _ [0] _) (byteCells_one _) HO1.out HO2.out ?_)
        intro v4 w4 hr4 hg4 hv4
        have HA4 : Hid (AccB w2 v4 (pre1 m k ++ (0 :: (leB 8 u).take 0)) w4) := (show AccB w2 v4 (pre1 m k ++ [0]) w4 from (hs.out.keeps0 (((Keeps.refl _ _).alloc _).alloc _)).push0 (bs := [0]) rfl rfl hr4 hg4 (by simpa only [size_alloc] using hv4))
        have HQ4 : Hid (w4.heap[Q]? = some (.cells #[.bool false, .int .i64 z, .string t] 63 (0, 0))) := (show w4.heap[Q]? = some (.cells #[.bool false, .int .i64 z, .string t] 63 (0, 0)) from hs.out.blk HQ.out HB1.out ((Keeps.refl _ _).alloc _) hg4)
        have HNE : Hid (∀ g, v4.ownBlock = some g → g ≠ Q) := (show ∀ g, v4.ownBlock = some g → g ≠ Q from fun g hg => by
          have hq := HQ.out
          rcases hv4 with hv4 | ⟨g', hv4, hge⟩
          · have := hs.out.row.lt g (by rw [← hv4]; exact hg); omega
          · rw [hv4] at hg; cases hg; omega)
        clear hr4 hg4 hv4
        rw [← HQ.out]
        go_wp2_with fail
        go_loopw [5, 8] (fun v i wr => ∃ j : Nat, i = .int .i64 (j : Nat) ∧ j ≤ 8 ∧ Hid (AccB w2 v (pre1 m k ++ (0 :: (leB 8 u).take j)) wr ∧ wr.heap[Q]? = some (.cells #[.bool false, .int .i64 z, .string t] 63 (0, 0)) ∧ ∀ g, v.ownBlock = some g → g ≠ Q)) (fun _ i _ => 8 - (intOf i).toNat)
        case atStart => exact ⟨0, rfl, by omega, HA4.out, HQ4.out, HNE.out⟩
        case round =>
          obtain ⟨j, rfl, hj, hs5⟩ := hrel
          obtain ⟨wp, rfl⟩ : ∃ wp : World, wp = wr := ⟨_, rfl⟩
          obtain ⟨v5, rfl⟩ : ∃ v, v = u5 := ⟨_, rfl⟩
          have c1 : wp.cell? ⟨Q, 1, none⟩ = some (.int .i64 z) := cell_of_block hs5.out.2.1
          by_cases hj8 : j < 8
          · have hj0 : (0 : Int) ≤ (j : Int) := by omega
            have hj1 : (j : Int) < 8 := by omega
            obtain ⟨y, hy⟩ : ∃ y, y = u / 256 ^ j % 256 := ⟨_, rfl⟩
            have hnum : bits .and .u64 (IntKind.u64.wrap z / 2 ^ (8 * j)) 255 % 256 = ((y : Nat) : Int) := by rw [byte_at, hy, HU.out]
            obtain ⟨A, hA⟩ : ∃ A, A = pre1 m k ++ (0 :: (leB 8 u).take j) := ⟨_, rfl⟩
            have HLS := Lib.hid (show pre1 m k ++ (0 :: (leB 8 u).take (j + 1)) = A ++ [y] from by rw [hA, leB_succ 8 u j hj8, hy]; simp)
            have HL2 := Lib.hid (show A.length ≤ 51414 from by rw [hA, List.length_append, List.length_cons, List.length_take]; have := HL1.out; have := length_leB 8 u; omega)
            have HO3 := Lib.hid (show A.length + 1 ≤ maxLen from by have := HL2.out; unfold maxLen; omega)
            have HO4 := Lib.hid (show (A.length + 1) * 1 ≤ 140737488355328 from by have := HL2.out; omega)
            rw [← hA] at hs5
            have HS5 := Lib.hid hs5.out
            clear hy hA hs5
            go_wp2_with (at_builtin; refine wpList_row (by rfl) (.tmp 59) (.tmp 69) 26 rfl 5 i0 (.int .u8 0) 1 1 Try.underlying26 HI.out HZ0.out HZ1.out HZ2.out rfl (by decide) v5 _ (byteCells A) rfl (HS5.out.1.row.keeps0 ((Keeps.refl _ _).alloc _)) (.slice (some ⟨wp.heap.size, 0, none⟩) 1 1) 1 (byteCells [y]) rfl (new_bytes _ [y] _) (byteCells_one _) HO3.out HO4.out ?_)
            intro v6 w6 hr6 hg6 hv6
            have HA6 : Hid (AccB w2 v6 (pre1 m k ++ (0 :: (leB 8 u).take (j + 1))) w6 ∧ w6.heap[Q]? = some (.cells #[.bool false, .int .i64 z, .string t] 63 (0, 0)) ∧ ∀ g, v6.ownBlock = some g → g ≠ Q) :=
              (show AccB w2 v6 (pre1 m k ++ (0 :: (leB 8 u).take (j + 1))) w6 ∧ w6.heap[Q]? = some (.cells #[.bool false, .int .i64 z, .string t] 63 (0, 0)) ∧ ∀ g, v6.ownBlock = some g → g ≠ Q from by
                obtain ⟨s1, s2, s3⟩ := HS5.out
                have hQl := (Array.getElem?_eq_some_iff.1 s2).1
                refine ⟨HLS.out ▸ (s1.keeps0 ((Keeps.refl _ _).alloc _)).push0 (bs := [y]) rfl rfl hr6 hg6 (by simpa only [size_alloc] using hv6), (hg6.block Q (by rw [size_alloc]; omega) (fun e => s3 Q e.symm rfl)).trans (((Keeps.refl [] wp).alloc _).at s2 List.not_mem_nil), fun g hg => ?_⟩
                rcases hv6 with hv6 | ⟨g', hv6, hge⟩
                · exact s3 g (by rw [← hv6]; exact hg)
                · rw [hv6] at hg; cases hg; omega)
            clear hr6 hg6 hv6 hnum c1
            go_wp2
            go_roundw
            case rel => first | exact ⟨j + 1, by go_num, by omega, HA6⟩ | ((repeat apply Exists.intro); exact ⟨⟨j + 1, by go_num, by omega, HA6⟩, rfl⟩)
            case measure => simp [intOf]; omega
          · obtain rfl : j = 8 := by omega
            have HA7 : Hid (AccB w2 v5 (pre1 m (k + 1)) wp) := (show AccB w2 v5 (pre1 m (k + 1)) wp from HEC.out ▸ hs5.out.1)
            clear hj8 c1
            go_wp2
            go_roundw
            case rel => first | exact ⟨k + 1, by go_num, by omega, HA7⟩ | ((repeat apply Exists.intro); exact ⟨⟨k + 1, by go_num, by omega, HA7⟩, rfl⟩)
            case measure => simp [intOf]; omega
      · have HO1 := Lib.hid (show (pre1 m k).length + 2 ≤ maxLen from by have := HL1.out; unfold maxLen; omega)
        have HO2 := Lib.hid (show ((pre1 m k).length + 2) * 1 ≤ 140737488355328 from by have := HL1.out; omega)
        have HO3 := Lib.hid (show (pre1 m k ++ [1, t.size]).length + t.size ≤ maxLen from by rw [List.length_append]; simp only [List.length_cons, List.length_nil]; have := HL1.out; unfold maxLen; omega)
        have HO4 := Lib.hid (show (pre1 m k ++ [1, t.size]).length + t.size ≤ 140737488355328 from by rw [List.length_append]; simp only [List.length_cons, List.length_nil]; have := HL1.out; omega)
        have HEC := Lib.hid (show pre1 m (k + 1) = pre1 m k ++ [1, t.size] ++ bsOf t from by rw [HP.out, List.append_assoc]; rfl)
        obtain ⟨W1, hW1⟩ : ∃ W1, W1 = wo.alloc (.cells #[.bool true, .int .i64 z, .string t] 63) := ⟨_, rfl⟩
        have HW := Lib.hid hW1
        have HK1 : Hid (Keeps [] wo W1) := (show Keeps [] wo W1 by rw [hW1]; exact (Keeps.refl _ _).alloc _)
        have HB1 : Hid (W1.heap[wo.heap.size]? = some (.cells #[.bool true, .int .i64 z, .string t] 63 (0, 0))) := (show W1.heap[wo.heap.size]? = some (.cells #[.bool true, .int .i64 z, .string t] 63 (0, 0)) by rw [hW1]; exact heap_alloc_at _ _)
        obtain ⟨Q, hQ⟩ : ∃ Q, Q = wo.heap.size := ⟨_, rfl⟩
        have HQ := Lib.hid hQ
        clear hW1 hQ hts
        go_wp2_with fail
        rw [← HW.out, ← HQ.out]
        obtain ⟨b0, b1, b2⟩ := And.intro (cell_of_block (i := 0) HB1.out) (And.intro (cell_of_block (i := 1) HB1.out) (cell_of_block (i := 2) HB1.out))
        rw [← HQ.out] at b0 b1 b2
        have hcells : W1.cell? ⟨Q, 2, none⟩ = some (.string t) := b2
        clear b0 b1 b2
        have hQlt : Q < W1.heap.size := World.block_lt_of_cell? W1 _ hcells
        have hwt : IntKind.u8.wrap ((t.size : Nat) : Int) = ((t.size : Nat) : Int) := IntWalk.u8_in _ (by omega)
        go_region_law (first
          | (refine step_row (by rfl) (.tmp 42) (.tmp 47) 26 (by rfl) 5 i0 (.int .u8 0) 1 1 Try.underlying26 HI.out HZ0.out HZ1.out HZ2.out rfl (by decide) v _ (byteCells (pre1 m k)) (by rfl) (hs.out.row.keeps0 (HK1.out.trans (by repeat (first | exact Keeps.refl _ _ | refine Keeps.drew ?_ | refine Keeps.alloc ?_ _)))) _ 2 (byteCells [1, t.size]) (by rfl) (by repeat (first | exact new_bytes _ [1, t.size] _ | refine src_dr ?_)) (byteCells_one _) HO1.out HO2.out ?_
             intro v4 w4 hr4 hg4 hv4
             have hA4 : AccB w2 v4 (pre1 m k ++ [1, t.size]) w4 := (hs.out.keeps0 (HK1.out.trans (by repeat (first | exact Keeps.refl _ _ | refine Keeps.drew ?_ | refine Keeps.alloc ?_ _)))).push0 (bs := [1, t.size]) rfl rfl hr4 hg4 hv4
             have q4 : w4.cell? ⟨Q, 2, none⟩ = some (.string t) := cell_of_block (hs.out.blk HQ.out HB1.out (by repeat (first | exact Keeps.refl _ _ | refine Keeps.drew ?_ | refine Keeps.alloc ?_ _)) hg4))
          | (refine step_row_str (by rfl) (.tmp 48) (.tmp 50) 26 9 (by rfl) 5 i0 Try.underlying26 Try.underlying9 HI.out HZ0.out HZ1.out HZ2.out v4 _ (byteCells (pre1 m k ++ [1, t.size])) (by rfl) (hA4.row.keeps0 (by repeat (first | exact Keeps.refl _ _ | refine Keeps.drew ?_ | refine Keeps.alloc ?_ _))) t (by rfl) HO3.out HO4.out ?_
             intro v5 w5 hr5 hg5 hv5)
          | fail)
        all_goals
          have HA5 : Hid (AccB w2 v5 (pre1 m (k + 1)) w5) := (show AccB w2 v5 (pre1 m (k + 1)) w5 from HEC.out ▸ (hA4.keeps0 (by repeat (first | exact Keeps.refl _ _ | refine Keeps.drew ?_))).push0 (bs := bsOf t) (length_bsOf t).symm rfl (byteCells_app _ _ ▸ hr5) hg5 hv5)
          clear hr4 hg4 hv4 hr5 hg5 hv5 hA4 q4 hcells hwt
          go_wp2
          go_roundw
          case rel => first | exact ⟨k + 1, by go_num, by omega, HA5⟩ | ((repeat apply Exists.intro); exact ⟨⟨k + 1, by go_num, by omega, HA5⟩, rfl⟩)
          case measure => simp [intOf]; omega
    · obtain rfl : k = X.n1 := by omega
      clear fs q0 q1 q2 q3
      have HL1 := Lib.hid (pre1_len HLE.out X.n1)
      have HO1 := Lib.hid (show (pre1 m X.n1).length + 1 ≤ maxLen from by have := HL1.out; unfold maxLen; omega)
      have HO2 := Lib.hid (show ((pre1 m X.n1).length + 1) * 1 ≤ 140737488355328 from by have := HL1.out; omega)
      obtain ⟨fs, q0, q1, q2, q3, _⟩ := HSK.out
      have h2N : ((X.n2 : Nat) : Int) ≤ 100 := by omega
      go_wp2_with (at_builtin; refine wpList_row (by rfl) (.tmp 71) (.tmp 76) 26 rfl 5 i0 (.int .u8 0) 1 1 Try.underlying26 HI.out HZ0.out HZ1.out HZ2.out rfl (by decide) v _ (byteCells (pre1 m X.n1)) rfl (hs.out.row.keeps0 ((Keeps.refl _ _).alloc _)) (.slice (some ⟨wo.heap.size, 0, none⟩) 1 1) 1 (byteCells [X.n2]) rfl (new_bytes _ [X.n2] _) (byteCells_one _) HO1.out HO2.out ?_)
      intro v4 w4 hr4 hg4 hv4
      have HA4 : Hid (AccB w2 v4 (pre2 m 0) w4) := (show AccB w2 v4 (pre2 m 0) w4 from by rw [pre2_zero, ← HN1.out, ← HN2.out]; exact (hs.out.keeps0 ((Keeps.refl _ _).alloc _)).push0 (bs := [X.n2]) rfl rfl hr4 hg4 (by simpa only [size_alloc] using hv4))
      clear hr4 hg4 hv4 fs q0 q1 q2 q3 hs hlt
      go_wp2_with fail
      go_loopw [5, 9] (fun v i wr => ∃ k : Nat, i = .int .i64 (k : Nat) ∧ k ≤ X.n2 ∧ Hid (AccB w2 v (pre2 m k) wr)) (fun _ i _ => X.n2 - (intOf i).toNat)
      case atStart => exact ⟨0, rfl, Nat.zero_le _, HA4⟩
      case round =>
        obtain ⟨k, rfl, hk2, hs⟩ := hrel
        obtain ⟨wo, rfl⟩ : ∃ wo : World, wo = wr := ⟨_, rfl⟩
        obtain ⟨v, rfl⟩ : ∃ v, v = u5 := ⟨_, rfl⟩
        have HSK := Lib.hid (HS2.out.below hs.out.bel)
        obtain ⟨fs, q0, q1, q2, q3, hbw⟩ := HSK.out
        by_cases hlt : k < X.n2
        · obtain ⟨c, hc⟩ : ∃ c, m.fs[k]? = some c := ⟨_, List.getElem?_eq_getElem (by rw [← HN2.out]; exact hlt)⟩
          have hcs := HLE.out.f c (List.mem_of_getElem? hc)
          have hco := HOK.out.f c (List.mem_of_getElem? hc)
          have HP := Lib.hid (pre2_succ hc)
          have HHB := Lib.hid (HCD.out k c hc)
          obtain ⟨g, off, rfl, hgl, e0, e1, e2⟩ := rows3 fs.f hlt
          have hb : X.p k = c.1 := by rw [HX.out]; show (m.fs[k]?.getD _).1 = _; rw [hc]; rfl
          have hz : X.lo k = c.2.1 := by rw [HX.out]; show (m.fs[k]?.getD _).2.1 = _; rw [hc]; rfl
          have ht : X.cl k = c.2.2.length := by rw [HX.out]; show (m.fs[k]?.getD _).2.2.length = _; rw [hc]; rfl
          have ha : X.ca k = ca k := by rw [HX.out]; rfl
          have hcc : X.cc k = cc k := by rw [HX.out]; rfl
          obtain ⟨p, lo, l⟩ := c
          obtain ⟨p', rfl⟩ : ∃ p' : Nat, p = p' := ⟨p.toNat, by have := hco.1; dsimp only at this; omega⟩
          obtain ⟨lo', rfl⟩ : ∃ p' : Nat, lo = p' := ⟨lo.toNat, by have := hco.2; dsimp only at this; omega⟩
          obtain ⟨L, hL⟩ : ∃ L, L = l.length := ⟨_, rfl⟩
          obtain ⟨A, hA⟩ : ∃ A, A = ca k := ⟨_, rfl⟩
          obtain ⟨C, hC⟩ : ∃ C, C = cc k := ⟨_, rfl⟩
          dsimp only at hcs hco hb hz ht
          replace e0 : wo.cell? ⟨g, off + k * 3, none⟩ = some (.int .i64 (p' : Nat)) := by rw [← hb]; exact e0
          replace e1 : wo.cell? ⟨g, off + k * 3 + 1, none⟩ = some (.int .i64 (lo' : Nat)) := by rw [← hz]; exact e1
          replace e2 : wo.cell? ⟨g, off + k * 3 + 2, none⟩ = some (.slice A L C) := by rw [hL, hA, hC, ← ht, ← ha, ← hcc]; exact e2
          dsimp only at HHB
          rw [← hA, ← hC, ← hL] at HHB
          have hp1 : ((p' : Nat) : Int) ≤ 20 := hcs.2.1
          have hlo1 : ((lo' : Nat) : Int) ≤ 50 := hcs.2.2
          have hL1 : ((L : Nat) : Int) ≤ 4000 := by rw [hL]; have := hcs.1; omega
          have hi0 : (0 : Int) ≤ (k : Int) := by omega
          have hi1 : (k : Int) < (X.n2 : Int) := by omega
          have HLL := Lib.hid hL
          have HL2 := Lib.hid (pre2_len HLE.out k)
          have HO1 := Lib.hid (show (pre2 m k).length + 4 ≤ maxLen from by have := HL2.out; unfold maxLen; omega)
          have HO2 := Lib.hid (show ((pre2 m k).length + 4) * 1 ≤ 140737488355328 from by have := HL2.out; omega)
          obtain ⟨B, hB⟩ : ∃ B, B = pre2 m k ++ [p', lo', L % 256, L / 256] := ⟨_, rfl⟩
          have HO3 := Lib.hid (show B.length + L ≤ maxLen from by rw [hB, List.length_append]; simp only [List.length_cons, List.length_nil]; have := HL2.out; unfold maxLen; omega)
          have HO4 := Lib.hid (show (B.length + L) * 1 ≤ 140737488355328 from by rw [hB, List.length_append]; simp only [List.length_cons, List.length_nil]; have := HL2.out; omega)
          have HEC := Lib.hid (show pre2 m (k + 1) = B ++ l from by rw [HP.out, hB, List.append_assoc, hL]; rfl)
          have HBE := Lib.hid hB
          have h255 := and255 L (by omega)
          have HQB := Lib.hid (heap_alloc_at wo (.cells #[.int .i64 (p' : Nat), .int .i64 (lo' : Nat), .slice A L C] 61))
          obtain ⟨Q, hQ⟩ : ∃ Q, Q = wo.heap.size := ⟨_, rfl⟩
          have HQ := Lib.hid hQ
          clear hb hz ht ha hcc hc hcs hco fs q0 q1 q3 hL hA hC hB hQ hbw
          go_wp2_with (at_builtin; refine wpList_row (by rfl) (.tmp 90) (.tmp 107) 26 rfl 5 i0 (.int .u8 0) 1 1 Try.underlying26 HI.out HZ0.out HZ1.out HZ2.out rfl (by decide) v _ (byteCells (pre2 m k)) rfl (hs.out.row.keeps0 (((Keeps.refl _ _).alloc _).alloc _)) (.slice (some ⟨wo.heap.size + 1, 0, none⟩) 4 4) 4 (byteCells [p', lo', L % 256, L / 256]) rfl (new_bytes1 _ _ [p', lo', L % 256, L / 256] _) (byteCells_one _) HO1.out HO2.out ?_)
          intro v4 w4 hr4 hg4 hv4
          have HA4 : Hid (AccB w2 v4 B w4) := (show AccB w2 v4 B w4 from HBE.out ▸ (hs.out.keeps0 (((Keeps.refl _ _).alloc _).alloc _)).push0 (bs := [p', lo', L % 256, L / 256]) rfl rfl hr4 hg4 (by simpa only [size_alloc] using hv4))
          have hb4 : w4.heap[Q]? = some (.cells #[.int .i64 (p' : Nat), .int .i64 (lo' : Nat), .slice A L C] 61 (0, 0)) := hs.out.blk HQ.out HQB.out ((Keeps.refl _ _).alloc _) hg4
          have k2 : w4.cell? ⟨Q, 2, none⟩ = some (.slice A L C) := cell_of_block hb4
          have HSC := Lib.hid ((HHB.out.below (HS2.out.below HA4.out.bel).bel).src)
          clear hr4 hg4 hv4 hb4 h255 e0 e1 e2
          rw [← HQ.out]
          go_wp2_with (at_builtin; refine wpList_row (by rfl) (.tmp 109) (.tmp 111) 26 rfl 5 i0 (.int .u8 0) 1 1 Try.underlying26 HI.out HZ0.out HZ1.out HZ2.out rfl (by decide) v4 _ (byteCells B) rfl HA4.out.row (.slice A L C) L (byteCells l) rfl HSC.out (byteCells_one _) HO3.out HO4.out ?_)
          intro v5 w5 hr5 hg5 hv5
          have HA5 : Hid (AccB w2 v5 (pre2 m (k + 1)) w5) := (show AccB w2 v5 (pre2 m (k + 1)) w5 from HEC.out ▸ HA4.out.push0 (bs := l) HLL.out rfl hr5 hg5 hv5)
          clear hr5 hg5 hv5 k2
          go_wp2
          go_roundw
          case rel => first | exact ⟨k + 1, by go_num, by omega, HA5⟩ | ((repeat apply Exists.intro); exact ⟨⟨k + 1, by go_num, by omega, HA5⟩, rfl⟩)
          case measure => simp [intOf]; omega
        · obtain rfl : k = X.n2 := by omega
          clear fs q0 q1 q2 q3 hbw
          have HL1 := Lib.hid (pre2_len HLE.out X.n2)
          have HO1 := Lib.hid (show (pre2 m X.n2).length + 1 ≤ maxLen from by have := HL1.out; unfold maxLen; omega)
          have HO2 := Lib.hid (show ((pre2 m X.n2).length + 1) * 1 ≤ 140737488355328 from by have := HL1.out; omega)
          obtain ⟨fs, q0, q1, q2, q3, _⟩ := HSK.out
          have h3N : ((X.n3 : Nat) : Int) ≤ 100 := by omega
          go_wp2_with (at_builtin; refine wpList_row (by rfl) (.tmp 113) (.tmp 118) 26 rfl 5 i0 (.int .u8 0) 1 1 Try.underlying26 HI.out HZ0.out HZ1.out HZ2.out rfl (by decide) v _ (byteCells (pre2 m X.n2)) rfl (hs.out.row.keeps0 ((Keeps.refl _ _).alloc _)) (.slice (some ⟨wo.heap.size, 0, none⟩) 1 1) 1 (byteCells [X.n3]) rfl (new_bytes _ [X.n3] _) (byteCells_one _) HO1.out HO2.out ?_)
          intro v4 w4 hr4 hg4 hv4
          have HA4 : Hid (AccB w2 v4 (pre3 m 0) w4) := (show AccB w2 v4 (pre3 m 0) w4 from by rw [pre3_zero, ← HN2.out, ← HN3.out]; exact (hs.out.keeps0 ((Keeps.refl _ _).alloc _)).push0 (bs := [X.n3]) rfl rfl hr4 hg4 (by simpa only [size_alloc] using hv4))
          clear hr4 hg4 hv4 fs q0 q1 q2 q3 hs hlt
          go_wp2_with fail
          go_loopw [5, 11] (fun v i wr => ∃ k : Nat, i = .int .i64 (k : Nat) ∧ k ≤ X.n3 ∧ Hid (AccB w2 v (pre3 m k) wr)) (fun _ i _ => X.n3 - (intOf i).toNat)
          case atStart => exact ⟨0, rfl, Nat.zero_le _, HA4⟩
          case round =>
            obtain ⟨k, rfl, hk3, hs⟩ := hrel
            obtain ⟨wo, rfl⟩ : ∃ wo : World, wo = wr := ⟨_, rfl⟩
            obtain ⟨v, rfl⟩ : ∃ v, v = u5 := ⟨_, rfl⟩
            have HSK := Lib.hid (HS2.out.below hs.out.bel)
            obtain ⟨fs, q0, q1, q2, q3, hbw⟩ := HSK.out
            by_cases hlt : k < X.n3
            · obtain ⟨c, hc⟩ : ∃ c, m.ks[k]? = some c := ⟨_, List.getElem?_eq_getElem (by rw [← HN3.out]; exact hlt)⟩
              have hcs := HLE.out.k c (List.mem_of_getElem? hc)
              have hco := HOK.out.k c (List.mem_of_getElem? hc)
              have HP := Lib.hid (pre3_succ hc)
              obtain ⟨g, off, rfl, hgl, e0, e1⟩ := rows2 fs.k hlt
              have hb : X.fi k = c.1 := by rw [HX.out]; show (m.ks[k]?.getD _).1 = _; rw [hc]; rfl
              have hz : X.en k = c.2 := by rw [HX.out]; show (m.ks[k]?.getD _).2 = _; rw [hc]; rfl
              obtain ⟨p, e⟩ := c
              dsimp only at hcs hco hb hz
              obtain ⟨p', rfl⟩ : ∃ p' : Nat, p = p' := ⟨p.toNat, by omega⟩
              obtain ⟨e', he'⟩ : ∃ e' : Nat, e + 1 = e' := ⟨(e + 1).toNat, by omega⟩
              replace e0 : wo.cell? ⟨g, off + k * 2, none⟩ = some (.int .i64 (p' : Nat)) := by rw [← hb]; exact e0
              replace e1 : wo.cell? ⟨g, off + k * 2 + 1, none⟩ = some (.int .i64 e) := by rw [← hz]; exact e1
              have hp1 : ((p' : Nat) : Int) ≤ 255 := hcs.1
              have he1 : ((e' : Nat) : Int) ≤ 100 := by omega
              have hi0 : (0 : Int) ≤ (k : Int) := by omega
              have hi1 : (k : Int) < (X.n3 : Int) := by omega
              have hwp : IntKind.u8.wrap ((p' : Nat) : Int) = ((p' : Nat) : Int) := IntWalk.u8_in _ (by omega)
              have hwe : IntKind.u8.wrap ((e' : Nat) : Int) = ((e' : Nat) : Int) := IntWalk.u8_in _ (by omega)
              have hws : IntKind.i64.wrap (e + 1) = ((e' : Nat) : Int) := by rw [IntWalk.i64_in _ (by omega), he']
              have HL2 := Lib.hid (pre3_len HLE.out k)
              have HO1 := Lib.hid (show (pre3 m k).length + 2 ≤ maxLen from by have := HL2.out; unfold maxLen; omega)
              have HO2 := Lib.hid (show ((pre3 m k).length + 2) * 1 ≤ 140737488355328 from by have := HL2.out; omega)
              have HEC := Lib.hid (show pre3 m (k + 1) = pre3 m k ++ [p', e'] from by rw [HP.out]; unfold encK; rw [he']; rfl)
              clear hb hz hc hcs hco fs q0 q1 q2 hbw he'
              go_wp2_with fail
              go_region_law (first
                | (refine step_row (by rfl) (.tmp 127) (.tmp 143) 26 (by rfl) 5 i0 (.int .u8 0) 1 1 Try.underlying26 HI.out HZ0.out HZ1.out HZ2.out rfl (by decide) v _ (byteCells (pre3 m k)) (by rfl) (hs.out.row.keeps0 (by repeat (first | exact Keeps.refl _ _ | refine Keeps.drew ?_ | refine Keeps.alloc ?_ _))) _ 2 (byteCells [p', e']) (by rfl) (by repeat (first | exact new_bytes _ [p', e'] _ | refine src_dr ?_)) (byteCells_one _) HO1.out HO2.out ?_
                   intro v4 w4 hr4 hg4 hv4
                   have hA4 : AccB w2 v4 (pre3 m k ++ [p', e']) w4 := (hs.out.keeps0 (by repeat (first | exact Keeps.refl _ _ | refine Keeps.drew ?_ | refine Keeps.alloc ?_ _))).push0 (bs := [p', e']) rfl rfl hr4 hg4 hv4)
                | fail)
              all_goals
                have HA5 : Hid (AccB w2 v4 (pre3 m (k + 1)) w4) := (show AccB w2 v4 (pre3 m (k + 1)) w4 from HEC.out ▸ hA4)
                clear hr4 hg4 hv4 hA4 hwp hwe hws
                go_wp2
                go_roundw
                case rel => first | exact ⟨k + 1, by go_num, by omega, HA5⟩ | ((repeat apply Exists.intro); exact ⟨⟨k + 1, by go_num, by omega, HA5⟩, rfl⟩)
                case measure => simp [intOf]; omega
            · obtain rfl : k = X.n3 := by omega
              have HF : Hid (AccB w v (enc m) wo) := (show AccB w v (enc m) wo from by
                have hh := hs.out
                rw [← pre3_enc, ← HN3.out]
                exact ⟨hh.row, fun g hg => Nat.le_trans HS2.out.bel.size (hh.new g hg), hbw⟩)
              clear hs hbw fs
              go_wp2
              go_ret2
              exact ⟨v, rfl, HF.out⟩
end
end Go.Proofs.Yteipnfnbepnpjaa
