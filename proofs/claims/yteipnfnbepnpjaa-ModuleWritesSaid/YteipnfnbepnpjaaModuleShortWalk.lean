/- The walk of the law ModuleShort: it answers true for every input. -/
import Derived.Test.YteipnfnbepnpjaaModRefM
import Derived.Test.YteipnfnbepnpjaaModArg
import Derived.Test.YteipnfnbepnpjaaModSmall
import Derived.Test.YteipnfnbepnpjaaModAlive
import Derived.Test.YteipnfnbepnpjaaModRead2
namespace Go.Proofs.Yteipnfnbepnpjaa
open Go.RowKit Go.Maps
set_option linter.unusedVariables false
theorem HoldsB.take {w : World} {a : Option Addr} {len cap : Nat} {l : List Nat} (h : HoldsB w a len cap l) {n : Nat} (hn : n ≤ len) : HoldsB w a n cap (l.take n) := by
  have he := h.eq
  refine ⟨by rw [List.length_take]; omega, Nat.le_trans hn h.le, h.max, h.nil, fun i y hy => ?_, fun y hy => h.lt y (List.mem_of_mem_take hy)⟩
  rw [List.getElem?_take] at hy
  split at hy
  · exact h.cell i y hy
  · cases hy
theorem HoldsB.ltA {w : World} {v : Value} {a : Option Addr} {n cap : Nat} {xs : List Value} (h : RowS w 1 v n xs) (e : v = .slice a n cap) : ∀ g off, a = some ⟨g, off, none⟩ → g < w.heap.size := fun g off ha => h.lt g (by rw [e, ha]; rfl)
set_option maxRecDepth 100000 in
set_option maxHeartbeats 4000000 in
theorem moduleShort.bad (m : ModX) (a1 a2 a3 : Option Addr) (n : Int) (w : World) (f : ModS w m a1 a2 a3) (hr : m.rightE ≠ 0) :
    Calls Try.prog 9 #[modXV m a1 a2 a3, .int .i64 n] w fun e w' => e = .returned (.bool true) ∧ Below w.heap.size w w' := by
  have HM := Lib.hid (MxAt.made f 47)
  obtain ⟨gm, hgm⟩ : ∃ gm, gm = w.heap.size := ⟨_, rfl⟩
  obtain ⟨w1, hw1⟩ : ∃ w1, w1 = w.alloc (.cells #[.int .i64 m.G, .slice a1 m.n1 m.c1, .slice a2 m.n2 m.c2, .slice a3 m.n3 m.c3] 47) := ⟨_, rfl⟩
  have HW1 := Lib.hid hw1
  have HGM := Lib.hid hgm
  rw [← hgm, ← hw1] at HM
  have HR := Lib.hid (fun W (h : ModS W m a1 a2 a3) => rm_none m a1 a2 a3 W h hr)
  have HS := Lib.hid (fun W (h : ModS W m a1 a2 a3) => small_any W h)
  have HA := Lib.hid (fun W => alive20 W)
  have d1 : ((m.rightE : Int) != 0) = true := by simpa using hr
  generalize m.rightE = E at HR d1
  clear f hgm hw1 hr
  unfold modXV at HR HS ⊢
  go_enter Try.func9, Try.ntmps9
  go_wp2_with fail
  rw [← HW1.out, ← HGM.out]
  refine (HA.out _).mono ?_
  rintro e wa ⟨rfl, hba⟩
  have HMa := Lib.hid (HM.out.below hba)
  clear hba
  obtain ⟨_, m0, m1, m2, m3, _⟩ := HMa.out
  go_wp2_with fail
  refine (HR.out _ HMa.out.f).mono ?_
  rintro e wb ⟨rfl, hbb⟩
  have HMb := Lib.hid (HMa.out.below hbb)
  clear hbb m0 m1 m2 m3
  obtain ⟨_, m0, m1, m2, m3, _⟩ := HMb.out
  go_wp2_with fail
  refine (HS.out _ HMb.out.f).mono ?_
  rintro e wc ⟨he, hbc⟩
  have HBc := Lib.hid (HMb.out.bel.trans (hbc.mono HMb.out.bel.size))
  clear hbc
  rcases he with rfl | rfl
  · go_wp2
    go_ret
    exact ⟨rfl, HBc.out⟩
  · go_wp2
    go_ret
    exact ⟨rfl, HBc.out⟩
section
variable {m : AM} {a1 a2 a3 : Option Addr} {c1 c2 c3 : Nat} {ca : Nat → Option Addr} {cc : Nat → Nat}
set_option maxRecDepth 100000 in
set_option maxHeartbeats 4000000 in
theorem moduleShort.good (n : Int) (w : World) (f : ModS w (m.x c1 c2 c3 ca cc) a1 a2 a3) (hcd : ∀ i f, m.fs[i]? = some f → HoldsB w (ca i) f.2.2.length (cc i) f.2.2) (hr : m.rightE = 0) (ok : AMok m) (hcl : ∀ f ∈ m.fs, ∀ y ∈ f.2.2, y < 256) :
    Calls Try.prog 9 #[modXV (m.x c1 c2 c3 ca cc) a1 a2 a3, .int .i64 n] w fun e w' => e = .returned (.bool true) ∧ Below w.heap.size w w' := by
  obtain ⟨X, hX⟩ : ∃ X, X = m.x c1 c2 c3 ca cc := ⟨_, rfl⟩
  have HR : Hid (∀ W, Below w.heap.size w W → ModS W X a1 a2 a3 → Calls Try.prog 28 #[modXV X a1 a2 a3] W (RmDone W (enc m))) := (show ∀ W, Below w.heap.size w W → ModS W X a1 a2 a3 → _ from fun W hb h => by rw [hX] at h ⊢; exact rm_any W h (fun i f hf => (hcd i f hf).below hb) hr ok)
  rw [← hX] at f ⊢
  have HM := Lib.hid (MxAt.made f 47)
  obtain ⟨gm, hgm⟩ : ∃ gm, gm = w.heap.size := ⟨_, rfl⟩
  obtain ⟨w1, hw1⟩ : ∃ w1, w1 = w.alloc (.cells #[.int .i64 X.G, .slice a1 X.n1 X.c1, .slice a2 X.n2 X.c2, .slice a3 X.n3 X.c3] 47) := ⟨_, rfl⟩
  have HW1 := Lib.hid hw1
  have HGM := Lib.hid hgm
  rw [← hgm, ← hw1] at HM
  have HS := Lib.hid (fun W (h : ModS W X a1 a2 a3) => small_any W h)
  have HA := Lib.hid (fun W => alive20 W)
  have HN := Lib.hid (fun e w => num20_any e w)
  obtain ⟨bs, hbs⟩ : ∃ bs, bs = enc m := ⟨_, rfl⟩
  have HLT : Hid (∀ y ∈ bs, y < 256) := (show ∀ y ∈ bs, y < 256 from by rw [hbs]; exact enc_lt (amle hr) ok hcl)
  have hlen : bs.length ≤ 452007 := by rw [hbs, ← pre3_enc]; exact pre3_len (amle hr) _
  have HSH : Hid (∀ n, n < bs.length → readM (bs.take n) = (AM.none, 7)) := (show ∀ n, n < bs.length → readM (bs.take n) = (AM.none, 7) from by rw [hbs]; exact fun n hn => read_short m ok n hn)
  have HMO : Hid (readM (bs ++ [0]) = (AM.none, 8)) := (show readM (bs ++ [0]) = (AM.none, 8) from by rw [hbs]; exact read_more m ok)
  obtain ⟨L, hL⟩ : ∃ L, L = bs.length := ⟨_, rfl⟩
  have HL := Lib.hid hL
  rw [← hbs] at HR
  rw [← hL] at hlen
  obtain ⟨i0, hi, hz0, hz1, hz2⟩ := info_parts byteInfo
  have HI := Lib.hid hi
  have HZ0 := Lib.hid hz0
  have HZ1 := Lib.hid hz1
  have HZ2 := Lib.hid hz2
  clear f hgm hw1 hr ok hcl hcd hX hbs hL hi hz0 hz1 hz2
  unfold modXV at HR HS ⊢
  rcases (by omega : n < 0 ∨ (L : Int) ≤ n ∨ (0 ≤ n ∧ n < (L : Int))) with hn | hn | ⟨hn0, hn1⟩
  · have d1 : decide (n < 0) = true := decide_eq_true hn
    go_enter Try.func9, Try.ntmps9
    go_wp2_with fail
    rw [← HW1.out, ← HGM.out]
    refine (HA.out _).mono ?_
    rintro e wa ⟨rfl, hba⟩
    have HMa := Lib.hid (HM.out.below hba)
    clear hba
    obtain ⟨_, m0, m1, m2, m3, _⟩ := HMa.out
    go_wp2_with fail
    refine (HR.out _ HMa.out.bel HMa.out.f).mono ?_
    rintro e wb ⟨v, rfl, hab⟩
    have HMb := Lib.hid (HMa.out.below hab.bel)
    obtain ⟨a, cap, rfl, hh⟩ := hab.row.holdsB HLT.out
    rw [← HL.out]
    clear hh hab m0 m1 m2 m3
    obtain ⟨_, m0, m1, m2, m3, _⟩ := HMb.out
    go_wp2_with fail
    refine (HS.out _ HMb.out.f).mono ?_
    rintro e wc ⟨he, hbc⟩
    have HBc := Lib.hid (HMb.out.bel.trans (hbc.mono HMb.out.bel.size))
    clear hbc
    rcases he with rfl | rfl
    · go_wp2
      go_ret
      exact ⟨rfl, HBc.out⟩
    · go_wp2
      go_ret
      exact ⟨rfl, HBc.out⟩
  · have d1 : decide (n < 0) = false := decide_eq_false (by omega)
    have d2 : decide ((L : Int) ≤ n) = true := decide_eq_true hn
    go_enter Try.func9, Try.ntmps9
    go_wp2_with fail
    rw [← HW1.out, ← HGM.out]
    refine (HA.out _).mono ?_
    rintro e wa ⟨rfl, hba⟩
    have HMa := Lib.hid (HM.out.below hba)
    clear hba
    obtain ⟨_, m0, m1, m2, m3, _⟩ := HMa.out
    go_wp2_with fail
    refine (HR.out _ HMa.out.bel HMa.out.f).mono ?_
    rintro e wb ⟨v, rfl, hab⟩
    have HMb := Lib.hid (HMa.out.below hab.bel)
    obtain ⟨a, cap, rfl, hh⟩ := hab.row.holdsB HLT.out
    rw [← HL.out]
    clear hh hab m0 m1 m2 m3
    obtain ⟨_, m0, m1, m2, m3, _⟩ := HMb.out
    go_wp2_with fail
    refine (HS.out _ HMb.out.f).mono ?_
    rintro e wc ⟨he, hbc⟩
    have HBc := Lib.hid (HMb.out.bel.trans (hbc.mono HMb.out.bel.size))
    clear hbc
    rcases he with rfl | rfl
    · go_wp2
      go_ret
      exact ⟨rfl, HBc.out⟩
    · go_wp2
      go_ret
      exact ⟨rfl, HBc.out⟩
  · obtain ⟨k, rfl⟩ := Int.eq_ofNat_of_zero_le hn0
    have d1 : decide ((k : Int) < 0) = false := decide_eq_false (by omega)
    have d2 : decide ((L : Int) ≤ (k : Int)) = false := decide_eq_false (by omega)
    have d3 : decide (L ≤ k) = false := decide_eq_false (by omega)
    have hkl : k < L := by omega
    have HKL := Lib.hid hkl
    go_enter Try.func9, Try.ntmps9
    go_wp2_with fail
    rw [← HW1.out, ← HGM.out]
    refine (HA.out _).mono ?_
    rintro e wa ⟨rfl, hba⟩
    have HMa := Lib.hid (HM.out.below hba)
    clear hba
    obtain ⟨_, m0, m1, m2, m3, _⟩ := HMa.out
    go_wp2_with fail
    refine (HR.out _ HMa.out.bel HMa.out.f).mono ?_
    rintro e wb ⟨v, rfl, hab⟩
    have HMb := Lib.hid (HMa.out.below hab.bel)
    obtain ⟨a, cap, rfl, hh⟩ := hab.row.holdsB HLT.out
    have HLB := Lib.hid (HoldsB.ltA hab.row rfl)
    rw [← HL.out] at hh ⊢
    have HHB := Lib.hid hh
    have hc1 := hh.le
    have hc2 := hh.max
    clear hh hab m0 m1 m2 m3
    obtain ⟨_, m0, m1, m2, m3, _⟩ := HMb.out
    go_wp2_with fail
    refine (HS.out _ HMb.out.f).mono ?_
    rintro e wc ⟨he, hbc⟩
    have HMc := Lib.hid (HMb.out.below hbc)
    have HHC := Lib.hid (HHB.out.below hbc)
    have HLC : Hid (∀ g off, a = some ⟨g, off, none⟩ → g < wc.heap.size) := (show ∀ g off, a = some ⟨g, off, none⟩ → g < wc.heap.size from fun g off h => Nat.lt_of_lt_of_le (HLB.out g off h) hbc.size)
    clear hbc
    rcases he with rfl | rfl
    · have HRD : Hid (Calls Try.prog 31 #[.slice a k cap] wc (RdDone wc (AM.none, 7))) := (show Calls _ _ _ _ _ from by
        have := read_any a k cap (bs.take k) wc (HHC.out.take (Nat.le_of_lt HKL.out)) (by rw [List.length_take]; omega) HLC.out
        rwa [HSH.out k (by rw [← HL.out]; exact HKL.out)] at this)
      go_wp2_with fail
      refine HRD.out.mono ?_
      rintro en w3 ⟨v3, rfl, hm3, hb3⟩
      obtain ⟨r1, k1, r2, k2, r3, k3, ra, rc, rfl, _, _⟩ := hm3.at_
      have HB3 := Lib.hid (HMc.out.bel.trans (hb3.mono HMc.out.bel.size))
      have HHD := Lib.hid ((HHC.out.below hb3))
      have HO1 := Lib.hid (show 0 + L ≤ maxLen from by unfold maxLen; omega)
      have HO2 := Lib.hid (show (0 + L) * 1 ≤ 140737488355328 from by omega)
      have HO3 := Lib.hid (show 0 + L + 1 ≤ maxLen from by unfold maxLen; omega)
      have HO4 := Lib.hid (show (0 + L + 1) * 1 ≤ 140737488355328 from by omega)
      clear hm3 hb3 HRD
      unfold modXV AM.x
      dsimp only
      go_wp2_with (at_builtin; refine wpList_row (by rfl) (.const (.slice none 0 0)) (.tmp 48) 26 rfl 5 i0 (.int .u8 0) 1 1 Try.underlying26 HI.out HZ0.out HZ1.out HZ2.out rfl (by decide) (.slice none 0 0) 0 [] rfl (RowS.nil _ _) (.slice a L cap) L (byteCells bs) rfl (HHD.out.below ((Below.refl _ _).alloc (Nat.le_refl _) _)).src (byteCells_one _) HO1.out HO2.out ?_)
      intro v5 w5 hr5 hg5 hv5
      have hA5 := (AccB.start _).push0 (bs := bs) (acc2 := bs) HL.out rfl (by rw [List.length_nil, Nat.zero_add]; exact hr5) hg5 (by simpa only [size_alloc] using hv5)
      have HA5 := Lib.hid hA5
      have HB5 : Hid (Below w.heap.size w w5) := (show Below w.heap.size w w5 from (HB3.out.trans ((Below.refl _ _).alloc HB3.out.size _)).trans (hA5.bel.mono (by rw [size_alloc]; have := HB3.out.size; omega)))
      have HO5 := Lib.hid (show bs.length + 1 ≤ maxLen from by rw [← HL.out]; unfold maxLen; omega)
      have HO6 := Lib.hid (show (bs.length + 1) * 1 ≤ 140737488355328 from by rw [← HL.out]; omega)
      clear hr5 hg5 hv5 hA5
      go_wp2_with (at_builtin; refine wpList_row (by rfl) (.tmp 49) (.tmp 50) 26 rfl 5 i0 (.int .u8 0) 1 1 Try.underlying26 HI.out HZ0.out HZ1.out HZ2.out rfl (by decide) v5 _ (byteCells bs) rfl (HA5.out.row.keeps0 ((Keeps.refl _ _).alloc _)) (.slice (some ⟨w5.heap.size, 0, none⟩) 1 1) 1 (byteCells [0]) rfl (new_bytes _ [0] _) (byteCells_one _) HO5.out HO6.out ?_)
      intro v6 w6 hr6 hg6 hv6
      have hA6 := (HA5.out.keeps0 ((Keeps.refl _ _).alloc _)).push0 (bs := [0]) rfl rfl hr6 hg6 (by simpa only [size_alloc] using hv6)
      have HB6 : Hid (Below w.heap.size w w6) := (show Below w.heap.size w w6 from (HB3.out.trans ((Below.refl _ _).alloc HB3.out.size _)).trans (hA6.bel.mono (by rw [size_alloc]; have := HB3.out.size; omega)))
      obtain ⟨a6, cap6, rfl, hh6⟩ := hA6.row.holdsB (by intro y hy; rcases List.mem_append.1 hy with hy | hy; exact HLT.out y hy; simp at hy; omega)
      have HRD : Hid (Calls Try.prog 31 #[.slice a6 (bs ++ [0]).length cap6] w6 (RdDone w6 (AM.none, 8))) := (show Calls _ _ _ _ _ from by
        have := read_any a6 _ cap6 (bs ++ [0]) w6 hh6 (by rw [List.length_append, ← HL.out]; simp; omega) (HoldsB.ltA hA6.row rfl)
        rwa [HMO.out] at this)
      clear hr6 hg6 hv6 hh6 hA6
      generalize (bs ++ [0]).length = L6 at HRD ⊢
      go_wp2_with fail
      refine HRD.out.mono ?_
      rintro en w7 ⟨v7, rfl, hm7, hb7⟩
      obtain ⟨s1, j1, s2, j2, s3, j3, sa, sc, rfl, _, _⟩ := hm7.at_
      have HB7 := Lib.hid (HB6.out.trans (hb7.mono HB6.out.size))
      clear hm7 hb7 HRD
      unfold modXV AM.x
      dsimp only
      go_wp2_with fail
      refine (HN.out _ _).mono ?_
      rintro e w8 ⟨rfl, rfl⟩
      go_wp2_with fail
      refine (HN.out _ _).mono ?_
      rintro e w9 ⟨rfl, rfl⟩
      go_wp2
      go_ret
      exact ⟨rfl, HB7.out.trans ((Below.refl _ _).alloc HB7.out.size _)⟩
    · go_wp2
      go_ret
      exact ⟨rfl, HMc.out.bel⟩
end
/-- what is told of the argument 0 -/
def moduleShort.arg0 (w : World) (F : Nat → Value) : Prop := ModArg w F
theorem moduleShort.walk (F0 : Nat → Value) (a1 : Int) (w : World) (w0 : moduleShort.arg0 w F0) (w1 : (Lit.int .i64 a1).wf = true) :
    Calls Try.prog 9 #[.agg #[F0 0, F0 1, F0 2, F0 3], .int .i64 a1] w fun e w' => e = .returned (.bool true) ∧ Below w.heap.size w w' := by
  obtain ⟨m, hm, hz⟩ := ams_of w0
  obtain ⟨b1, c1, b2, c2, b3, c3, ca, cc, e, hs, hc⟩ := hm.at_
  rw [e]
  by_cases hr : m.rightE = 0
  · exact moduleShort.good a1 w hs hc hr (amok hr hz) (fun f hf y hy => by
      obtain ⟨i, hi, e⟩ := mem_at hf
      exact (hc i f e).lt y hy)
  · exact moduleShort.bad _ _ _ _ a1 w hs hr
end Go.Proofs.Yteipnfnbepnpjaa
