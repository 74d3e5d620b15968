/- The walk of the law ModuleWrites: it answers true for every input. -/
import Derived.Test.YteipnfnbepnpjaaModuleShortWalk
import Derived.Test.YteipnfnbepnpjaaModBytes
import Derived.Test.YteipnfnbepnpjaaModSame
namespace Go.Proofs.Yteipnfnbepnpjaa
open Go.RowKit Go.Maps
set_option linter.unusedVariables false
theorem holds_nil (w : World) : HoldsB w none 0 0 [] := ⟨rfl, Nat.le_refl _, by decide, fun _ => rfl, fun i y h => by simp at h, fun y h => by simp at h⟩
set_option maxRecDepth 100000 in
set_option maxHeartbeats 4000000 in
theorem moduleWrites.bad (m : ModX) (a1 a2 a3 : Option Addr) (w : World) (f : ModS w m a1 a2 a3) (hr : m.rightE ≠ 0) :
    Calls Try.prog 7 #[modXV m a1 a2 a3] w fun e w' => e = .returned (.bool true) ∧ Below w.heap.size w w' := by
  have HM := Lib.hid (MxAt.made f 47)
  obtain ⟨gm, hgm⟩ : ∃ gm, gm = w.heap.size := ⟨_, rfl⟩
  obtain ⟨w1, hw1⟩ : ∃ w1, w1 = w.alloc (.cells #[.int .i64 m.G, .slice a1 m.n1 m.c1, .slice a2 m.n2 m.c2, .slice a3 m.n3 m.c3] 47) := ⟨_, rfl⟩
  have HW1 := Lib.hid hw1
  have HGM := Lib.hid hgm
  rw [← hgm, ← hw1] at HM
  have HRM := Lib.hid (fun W (h : ModS W m a1 a2 a3) => rm_none m a1 a2 a3 W h hr)
  have HMB := Lib.hid (fun W (h : ModS W m a1 a2 a3) => mb_none m a1 a2 a3 W h hr)
  have HRR := Lib.hid (fun W (h : ModS W m a1 a2 a3) => refRight_any W h)
  have HRT := Lib.hid (fun W (h : ModS W m a1 a2 a3) => right_any W h)
  have HS := Lib.hid (fun W (h : ModS W m a1 a2 a3) => small_any W h)
  have HA := Lib.hid (fun W => alive20 W)
  have HN := Lib.hid (fun e w => num20_any e w)
  have d1 : ((m.rightE : Int) != 0) = true := by simpa using hr
  generalize m.rightE = E at HRM HMB HRR HRT d1
  clear f hgm hw1 hr
  unfold modXV at HRM HMB HRR HRT HS ⊢
  go_enter Try.func7, Try.ntmps7
  go_wp2_with fail
  rw [← HW1.out, ← HGM.out]
  refine (HA.out _).mono ?_
  rintro e wa ⟨rfl, hba⟩
  have HMa := Lib.hid (HM.out.below hba)
  clear hba
  obtain ⟨_, m0, m1, m2, m3, _⟩ := HMa.out
  go_wp2_with fail
  refine (HS.out _ HMa.out.f).mono ?_
  rintro e wb ⟨he, hbb⟩
  have HMb := Lib.hid (HMa.out.below hbb)
  clear hbb m0 m1 m2 m3
  obtain ⟨_, m0, m1, m2, m3, _⟩ := HMb.out
  rcases he with rfl | rfl
  · go_wp2_with fail
    refine (HRR.out _ HMb.out.f).mono ?_
    rintro e wc ⟨rfl, hbc⟩
    have HMc := Lib.hid (HMb.out.below hbc)
    clear hbc m0 m1 m2 m3
    obtain ⟨_, m0, m1, m2, m3, _⟩ := HMc.out
    go_wp2_with fail
    refine (HMB.out _ HMc.out.f).mono ?_
    rintro e wd ⟨rfl, hbd⟩
    have HMd := Lib.hid (HMc.out.below hbd)
    clear hbd m0 m1 m2 m3
    obtain ⟨_, m0, m1, m2, m3, _⟩ := HMd.out
    go_wp2_with fail
    refine (HRM.out _ HMd.out.f).mono ?_
    rintro e we ⟨rfl, hbe⟩
    have HMe := Lib.hid (HMd.out.below hbe)
    clear hbe m0 m1 m2 m3
    obtain ⟨_, m0, m1, m2, m3, _⟩ := HMe.out
    go_wp2_with fail
    refine (HRT.out _ HMe.out.f).mono ?_
    rintro e wf ⟨rfl, hbf⟩
    have HMf := Lib.hid (HMe.out.below hbf)
    clear hbf m0 m1 m2 m3
    have v1 := (holds_nil wf).conv
    generalize strOf [] = S at v1
    go_wp2_with fail
    refine (HN.out _ _).mono ?_
    rintro e wg ⟨rfl, rfl⟩
    go_wp2_with fail
    refine (HN.out _ _).mono ?_
    rintro e wg ⟨rfl, rfl⟩
    go_wp2
    go_ret
    exact ⟨rfl, HMf.out.bel⟩
  · go_wp2
    go_ret
    exact ⟨rfl, HMb.out.bel⟩
section
variable {m : AM} {a1 a2 a3 : Option Addr} {c1 c2 c3 : Nat} {ca : Nat → Option Addr} {cc : Nat → Nat}
set_option maxRecDepth 100000 in
set_option maxHeartbeats 4000000 in
theorem moduleWrites.good (w : World) (f : ModS w (m.x c1 c2 c3 ca cc) a1 a2 a3) (hcd : ∀ i f, m.fs[i]? = some f → HoldsB w (ca i) f.2.2.length (cc i) f.2.2) (hr : m.rightE = 0) (ok : AMok m) (hcl : ∀ f ∈ m.fs, ∀ y ∈ f.2.2, y < 256) :
    Calls Try.prog 7 #[modXV (m.x c1 c2 c3 ca cc) a1 a2 a3] w fun e w' => e = .returned (.bool true) ∧ Below w.heap.size w w' := by
  obtain ⟨X, hX⟩ : ∃ X, X = m.x c1 c2 c3 ca cc := ⟨_, rfl⟩
  have hr' : X.rightE = 0 := by rw [hX]; exact hr
  have HR : Hid (∀ W, Below w.heap.size w W → ModS W X a1 a2 a3 → Calls Try.prog 28 #[modXV X a1 a2 a3] W (RmDone W (enc m))) := (show ∀ W, Below w.heap.size w W → ModS W X a1 a2 a3 → _ from fun W hb h => by rw [hX] at h ⊢; exact rm_any W h (fun i f hf => (hcd i f hf).below hb) hr ok)
  have HMB : Hid (∀ W, Below w.heap.size w W → ModS W X a1 a2 a3 → Calls Try.prog 27 #[modXV X a1 a2 a3] W (RmDone W (enc m))) := (show ∀ W, Below w.heap.size w W → ModS W X a1 a2 a3 → _ from fun W hb h => by rw [hX] at h ⊢; exact mb_any W h (fun i f hf => (hcd i f hf).below hb) hr ok)
  have HSM : Hid (∀ W v, Below w.heap.size w W → ModS W X a1 a2 a3 → AMS W m v → Calls Try.prog 32 #[v, modXV X a1 a2 a3] W fun e w' => e = .returned (.bool true) ∧ Below W.heap.size W w') := (show ∀ W v, Below w.heap.size w W → ModS W X a1 a2 a3 → AMS W m v → _ from fun W v hb h ha => by rw [hX] at h ⊢; exact sameMod_any m _ _ W ha ⟨⟨a1, c1, a2, c2, a3, c3, ca, cc, rfl, h, fun i f hf => (hcd i f hf).below hb⟩⟩)
  have HRR : Hid (∀ W, ModS W X a1 a2 a3 → Calls Try.prog 26 #[modXV X a1 a2 a3] W (RrDone W 0)) := (show ∀ W, ModS W X a1 a2 a3 → _ from fun W h => by have := refRight_any W h; rwa [hr'] at this)
  have HRT : Hid (∀ W, ModS W X a1 a2 a3 → Calls Try.prog 30 #[modXV X a1 a2 a3] W fun e w' => e = .returned (.int .i64 0) ∧ Below W.heap.size W w') := (show ∀ W, ModS W X a1 a2 a3 → _ from fun W h => by have := right_any W h; rwa [hr'] at this)
  rw [← hX] at f ⊢
  have HM := Lib.hid (MxAt.made f 47)
  obtain ⟨gm, hgm⟩ : ∃ gm, gm = w.heap.size := ⟨_, rfl⟩
  obtain ⟨w1, hw1⟩ : ∃ w1, w1 = w.alloc (.cells #[.int .i64 X.G, .slice a1 X.n1 X.c1, .slice a2 X.n2 X.c2, .slice a3 X.n3 X.c3] 47) := ⟨_, rfl⟩
  have HW1 := Lib.hid hw1
  have HGM := Lib.hid hgm
  rw [← hgm, ← hw1] at HM
  have HS := Lib.hid (fun W (h : ModS W X a1 a2 a3) => small_any W h)
  have HA := Lib.hid (fun W => alive20 W)
  have HN := Lib.hid (fun e w => num20_any e w)
  obtain ⟨bs, hbs⟩ : ∃ bs, bs = enc m := ⟨_, rfl⟩
  have HLT : Hid (∀ y ∈ bs, y < 256) := (show ∀ y ∈ bs, y < 256 from by rw [hbs]; exact enc_lt (amle hr) ok hcl)
  have hlen : bs.length ≤ 452007 := by rw [hbs, ← pre3_enc]; exact pre3_len (amle hr) _
  have HRE : Hid (readM bs = (m, 0)) := (show readM bs = (m, 0) from by rw [hbs]; exact read_enc m ok hr)
  obtain ⟨L, hL⟩ : ∃ L, L = bs.length := ⟨_, rfl⟩
  have HL := Lib.hid hL
  rw [← hbs] at HR HMB
  rw [← hL] at hlen
  clear f hgm hw1 hr hr' ok hcl hcd hX hbs hL
  unfold modXV at HR HMB HSM HRR HRT HS ⊢
  go_enter Try.func7, Try.ntmps7
  go_wp2_with fail
  rw [← HW1.out, ← HGM.out]
  refine (HA.out _).mono ?_
  rintro e wa ⟨rfl, hba⟩
  have HMa := Lib.hid (HM.out.below hba)
  clear hba
  obtain ⟨_, m0, m1, m2, m3, _⟩ := HMa.out
  go_wp2_with fail
  refine (HS.out _ HMa.out.f).mono ?_
  rintro e wb ⟨he, hbb⟩
  have HMb := Lib.hid (HMa.out.below hbb)
  clear hbb m0 m1 m2 m3
  obtain ⟨_, m0, m1, m2, m3, _⟩ := HMb.out
  rcases he with rfl | rfl
  · go_wp2_with fail
    refine (HRR.out _ HMb.out.f).mono ?_
    rintro e wc ⟨rfl, hbc⟩
    have HMc := Lib.hid (HMb.out.below hbc)
    clear hbc m0 m1 m2 m3
    obtain ⟨_, m0, m1, m2, m3, _⟩ := HMc.out
    go_wp2_with fail
    refine (HMB.out _ HMc.out.bel HMc.out.f).mono ?_
    rintro e wd ⟨v1, rfl, hab⟩
    have HMd := Lib.hid (HMc.out.below hab.bel)
    obtain ⟨a, cap, rfl, hh⟩ := hab.row.holdsB HLT.out
    have HLB := Lib.hid (HoldsB.ltA hab.row rfl)
    rw [← HL.out] at hh ⊢
    have HHd := Lib.hid hh
    have hc1 := hh.le
    have hc2 := hh.max
    clear hh hab m0 m1 m2 m3
    obtain ⟨_, m0, m1, m2, m3, _⟩ := HMd.out
    go_wp2_with fail
    refine (HR.out _ HMd.out.bel HMd.out.f).mono ?_
    rintro e we ⟨v2, rfl, hae⟩
    have HMe := Lib.hid (HMd.out.below hae.bel)
    have HHe := Lib.hid (HHd.out.below hae.bel)
    have HLe : Hid (∀ g off, a = some ⟨g, off, none⟩ → g < we.heap.size) := (show ∀ g off, a = some ⟨g, off, none⟩ → g < we.heap.size from fun g off h => Nat.lt_of_lt_of_le (HLB.out g off h) hae.bel.size)
    obtain ⟨a', cap', rfl, hh⟩ := hae.row.holdsB HLT.out
    rw [← HL.out] at hh ⊢
    have HH' := Lib.hid hh
    clear hh hae m0 m1 m2 m3
    obtain ⟨_, m0, m1, m2, m3, _⟩ := HMe.out
    go_wp2_with fail
    refine (HRT.out _ HMe.out.f).mono ?_
    rintro e wf ⟨rfl, hbf⟩
    have HMf := Lib.hid (HMe.out.below hbf)
    have HHf := Lib.hid (HHe.out.below hbf)
    have HLf : Hid (∀ g off, a = some ⟨g, off, none⟩ → g < wf.heap.size) := (show ∀ g off, a = some ⟨g, off, none⟩ → g < wf.heap.size from fun g off h => Nat.lt_of_lt_of_le (HLe.out g off h) hbf.size)
    have v1 := HHf.out.conv
    have v2 := (HH'.out.below hbf).conv
    clear hbf m0 m1 m2 m3
    obtain ⟨_, m0, m1, m2, m3, _⟩ := HMf.out
    generalize strOf bs = S at v1 v2
    go_wp2_with fail
    refine (HN.out _ _).mono ?_
    rintro e wg ⟨rfl, rfl⟩
    go_wp2_with fail
    refine (HN.out _ _).mono ?_
    rintro e wg ⟨rfl, rfl⟩
    clear v1 v2
    have HRD : Hid (Calls Try.prog 31 #[.slice a L cap] wf (RdDone wf (m, 0))) := (show Calls _ _ _ _ _ from by
      have := read_any a L cap bs wf HHf.out (by rw [← HL.out]; omega) HLf.out
      rwa [HRE.out] at this)
    go_wp2_with fail
    refine HRD.out.mono ?_
    rintro en w3 ⟨v3, rfl, hm3, hb3⟩
    have HM3 := Lib.hid (HMf.out.below hb3)
    have HA3 := Lib.hid hm3
    obtain ⟨r1, k1, r2, k2, r3, k3, ra, rc, rfl, _, _⟩ := hm3.at_
    clear hm3 hb3 HRD m0 m1 m2 m3
    obtain ⟨_, m0, m1, m2, m3, _⟩ := HM3.out
    have hgl : gm < w3.heap.size := World.block_lt_of_cell? w3 _ m0
    unfold modXV AM.x at HA3 ⊢
    dsimp only at HA3 ⊢
    obtain ⟨W4, hW4⟩ : ∃ W4, W4 = w3.alloc (.cells #[.int .i64 m.G, .slice r1 m.cs.length k1, .slice r2 m.fs.length k2, .slice r3 m.ks.length k3] 47) := ⟨_, rfl⟩
    have hB4 : Below w3.heap.size w3 W4 := by rw [hW4]; exact (Below.refl _ _).alloc (Nat.le_refl _) _
    have HM4 := Lib.hid (HM3.out.below hB4)
    have HA4 := Lib.hid (HA3.out.below hB4)
    have HW4 := Lib.hid hW4
    clear hB4 hW4
    go_wp2_with fail
    rw [← HW4.out]
    refine (HN.out _ _).mono ?_
    rintro e w8 ⟨rfl, rfl⟩
    have hQ := heap_alloc_at w3 (.cells #[.int .i64 m.G, .slice r1 m.cs.length k1, .slice r2 m.fs.length k2, .slice r3 m.ks.length k3] 47)
    rw [← HW4.out] at hQ
    have k0 : W4.cell? ⟨w3.heap.size, 0, none⟩ = some (.int .i64 m.G) := cell_of_block hQ
    have k1' : W4.cell? ⟨w3.heap.size, 1, none⟩ = some (.slice r1 m.cs.length k1) := cell_of_block hQ
    have k2' : W4.cell? ⟨w3.heap.size, 2, none⟩ = some (.slice r2 m.fs.length k2) := cell_of_block hQ
    have k3' : W4.cell? ⟨w3.heap.size, 3, none⟩ = some (.slice r3 m.ks.length k3) := cell_of_block hQ
    clear m0 m1 m2 m3 hQ
    obtain ⟨_, m0, m1, m2, m3, _⟩ := HM4.out
    have HSM4 := Lib.hid (HSM.out W4 _ HM4.out.bel HM4.out.f HA4.out)
    go_wp2_with fail
    refine HSM4.out.mono ?_
    rintro e w9 ⟨rfl, hb9⟩
    have HB9 := Lib.hid (HM4.out.bel.trans (hb9.mono HM4.out.bel.size))
    clear hb9
    go_wp2
    go_ret
    exact ⟨rfl, HB9.out⟩
  · go_wp2
    go_ret
    exact ⟨rfl, HMb.out.bel⟩
end
/-- what is told of the argument 0 -/
def moduleWrites.arg0 (w : World) (F : Nat → Value) : Prop := ModArg w F
theorem moduleWrites.walk (F0 : Nat → Value) (w : World) (w0 : moduleWrites.arg0 w F0) :
    Calls Try.prog 7 #[.agg #[F0 0, F0 1, F0 2, F0 3]] w fun e w' => e = .returned (.bool true) ∧ Below w.heap.size w w' := by
  obtain ⟨m, hm, hz⟩ := ams_of w0
  obtain ⟨b1, c1, b2, c2, b3, c3, ca, cc, e, hs, hc⟩ := hm.at_
  rw [e]
  by_cases hr : m.rightE = 0
  · exact moduleWrites.good w hs hc hr (amok hr hz) (fun f hf y hy => by
      obtain ⟨i, hi, e⟩ := mem_at hf
      exact (hc i f e).lt y hy)
  · exact moduleWrites.bad _ _ _ _ w hs hr
end Go.Proofs.Yteipnfnbepnpjaa
