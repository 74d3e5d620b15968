/- the reference's Wrong: the objects of which what is said is not so. -/
import Derived.Test.YtogifanooleppaaAudRefC
namespace Go.Proofs.Ytogifanooleppaa
open Go.RowKit Go.Maps
set_option linter.unusedVariables false

theorem not_own {r y n : Nat} {q q' : Option Nat} (hq : ∀ g, q' = some g → q = some g ∨ n ≤ g) (hlt : y < n) (hy : y ∉ r :: q.toList) : y ∉ r :: q'.toList := fun hm => by
  rcases List.mem_cons.1 hm with rfl | hm
  · exact hy (by simp)
  · cases hq' : q' with
    | none => rw [hq'] at hm; simp at hm
    | some g =>
      rw [hq'] at hm
      simp at hm
      rcases hq g hq' with h | h
      · exact hy (by rw [h, hm]; simp)
      · omega
/-- where the reference's Wrong stands: out, known, z -/
structure RgAt (B r0 r1 r2 : Nat) (q0 q1 q2 : Option Nat) (l0 l1 l2 : List Int) (T0 T1 T2 : Int → Bool) (vc : Value) (D : List Int) (w0 wr : World) : Prop where
  h0 : HpAt B r0 q0 l0 T0 wr
  h1 : HpAt B r1 q1 l1 T1 wr
  h2 : HpAt B r2 q2 l2 T2 wr
  d01 : ∀ x ∈ r1 :: q1.toList, x ∉ r0 :: q0.toList
  d02 : ∀ x ∈ r2 :: q2.toList, x ∉ r0 :: q0.toList
  d12 : ∀ x ∈ r2 :: q2.toList, x ∉ r1 :: q1.toList
  cts : RowS wr 1 vc D.length (intC D)
  c0 : ∀ g, vc.ownBlock = some g → g ∉ r0 :: q0.toList ∧ g ∉ r1 :: q1.toList ∧ g ∉ r2 :: q2.toList
  bel : Below B w0 wr
  le : B ≤ wr.heap.size
section
variable {B r0 r1 r2 n : Nat} {q0 q1 q2 : Option Nat} {l0 l1 l2 D : List Int} {T0 T1 T2 T' : Int → Bool} {vc : Value} {w0 wr w1 : World}
theorem RgAt.below (h : RgAt B r0 r1 r2 q0 q1 q2 l0 l1 l2 T0 T1 T2 vc D w0 wr) (hb : Below wr.heap.size wr w1) : RgAt B r0 r1 r2 q0 q1 q2 l0 l1 l2 T0 T1 T2 vc D w0 w1 :=
  ⟨h.h0.below hb, h.h1.below hb, h.h2.below hb, h.d01, h.d02, h.d12, h.cts.keeps (Keeps.of_below hb (Nat.le_refl _) []) fun _ _ => List.not_mem_nil, h.c0, h.bel.trans (hb.mono h.le), Nat.le_trans h.le hb.size⟩
theorem RgAt.step0 (h : RgAt B r0 r1 r2 q0 q1 q2 l0 l1 l2 T0 T1 T2 vc D w0 wr) (s : HpStep B r0 q0 n T' wr w1) : ∃ q l, RgAt B r0 r1 r2 q q1 q2 l l1 l2 T' T1 T2 vc D w0 w1 ∧ l.length ≤ n := by
  obtain ⟨q', l', hp, hl, hq, hk⟩ := s
  exact ⟨q', l', ⟨hp, h.h1.keeps hk h.d01, h.h2.keeps hk h.d02, fun x hx => not_own hq (h.h1.ref.lt x hx) (h.d01 x hx), fun x hx => not_own hq (h.h2.ref.lt x hx) (h.d02 x hx), h.d12, h.cts.keeps hk fun g hg => (h.c0 g hg).1,
    fun g hg => ⟨not_own hq (h.cts.lt g hg) (h.c0 g hg).1, (h.c0 g hg).2⟩, below_keeps h.bel hk h.le h.h0.own, Nat.le_trans h.le hk.size⟩, hl⟩
theorem RgAt.step1 (h : RgAt B r0 r1 r2 q0 q1 q2 l0 l1 l2 T0 T1 T2 vc D w0 wr) (s : HpStep B r1 q1 n T' wr w1) : ∃ q l, RgAt B r0 r1 r2 q0 q q2 l0 l l2 T0 T' T2 vc D w0 w1 ∧ l.length ≤ n := by
  obtain ⟨q', l', hp, hl, hq, hk⟩ := s
  have hd : ∀ x ∈ r0 :: q0.toList, x ∉ r1 :: q1.toList := fun x hx hm => h.d01 x hm hx
  exact ⟨q', l', ⟨h.h0.keeps hk hd, hp, h.h2.keeps hk h.d12, fun x hx hm => not_own hq (h.h0.ref.lt x hm) (hd x hm) hx, h.d02, fun x hx => not_own hq (h.h2.ref.lt x hx) (h.d12 x hx), h.cts.keeps hk fun g hg => (h.c0 g hg).2.1,
    fun g hg => ⟨(h.c0 g hg).1, not_own hq (h.cts.lt g hg) (h.c0 g hg).2.1, (h.c0 g hg).2.2⟩, below_keeps h.bel hk h.le h.h1.own, Nat.le_trans h.le hk.size⟩, hl⟩
theorem RgAt.step2 (h : RgAt B r0 r1 r2 q0 q1 q2 l0 l1 l2 T0 T1 T2 vc D w0 wr) (s : HpStep B r2 q2 n T' wr w1) : ∃ q l, RgAt B r0 r1 r2 q0 q1 q l0 l1 l T0 T1 T' vc D w0 w1 ∧ l.length ≤ n := by
  obtain ⟨q', l', hp, hl, hq, hk⟩ := s
  have hd0 : ∀ x ∈ r0 :: q0.toList, x ∉ r2 :: q2.toList := fun x hx hm => h.d02 x hm hx
  have hd1 : ∀ x ∈ r1 :: q1.toList, x ∉ r2 :: q2.toList := fun x hx hm => h.d12 x hm hx
  exact ⟨q', l', ⟨h.h0.keeps hk hd0, h.h1.keeps hk hd1, hp, h.d01, fun x hx hm => not_own hq (h.h0.ref.lt x hm) (hd0 x hm) hx, fun x hx hm => not_own hq (h.h1.ref.lt x hm) (hd1 x hm) hx, h.cts.keeps hk fun g hg => (h.c0 g hg).2.2,
    fun g hg => ⟨(h.c0 g hg).1, (h.c0 g hg).2.1, not_own hq (h.cts.lt g hg) (h.c0 g hg).2.2⟩, below_keeps h.bel hk h.le h.h2.own, Nat.le_trans h.le hk.size⟩, hl⟩
end
theorem addB_same {T : Int → Bool} {x : Int} (h : T x = true) : addB T x = T := funext fun y => by
  unfold addB
  by_cases e : y = x
  · subst e; rw [h]; simp
  · rw [decide_eq_false e]; rfl
/-- what out holds when i of z's numbers have been looked at -/
def outN (l : List ObjV) (zeros l2 : List Int) (i : Nat) (y : Int) : Bool := outF l zeros l.length y || (decide (y ∈ l2.take i) && !knF l l.length y)
theorem outN_next {l : List ObjV} {zeros l2 : List Int} {i : Nat} (h : i < l2.length) : outN l zeros l2 (i + 1) = if knF l l.length (hg l2 i) then outN l zeros l2 i else addB (outN l zeros l2 i) (hg l2 i) := by
  have hm : ∀ y, y ∈ l2.take (i + 1) ↔ y ∈ l2.take i ∨ y = hg l2 i := fun y => by
    rw [List.take_add_one, hg_some h, List.mem_append]; simp
  by_cases hk : knF l l.length (hg l2 i) = true
  · rw [if_pos hk]
    funext y
    unfold outN
    by_cases e : y = hg l2 i
    · subst e; rw [hk]; simp
    · rw [show decide (y ∈ l2.take (i + 1)) = decide (y ∈ l2.take i) by rw [decide_eq_decide, hm]; simp [e]]
  · rw [if_neg hk]
    have hk' : knF l l.length (hg l2 i) = false := by simpa using hk
    funext y
    unfold outN addB
    by_cases e : y = hg l2 i
    · subst e
      rw [hk', decide_eq_true ((hm _).2 (.inr rfl))]
      simp
    · rw [show decide (y ∈ l2.take (i + 1)) = decide (y ∈ l2.take i) by rw [decide_eq_decide, hm]; simp [e], decide_eq_false e]
      rfl
theorem outN_all {l : List ObjV} {zeros l2 : List Int} (h : ∀ y, y ∈ l2 ↔ decide (y ∈ zeros) = true) (y : Int) : outN l zeros l2 l2.length y = wrongP l zeros y := by
  rw [← outZ_all]
  unfold outN outZ
  rw [List.take_length, List.take_length, show decide (y ∈ l2) = decide (y ∈ zeros) by rw [Bool.eq_iff_iff, decide_eq_true_iff]; exact h y]
set_option maxRecDepth 100000 in
set_option maxHeartbeats 8000000 in
theorem rwrong_any (a a2 : Option Addr) (len cap len2 cap2 : Nat) (l : List ObjV) (zeros S : List Int) (w : World) (h : ObjsAt w a len cap l) (h2 : NumsAt w a2 len2 cap2 zeros) (hl : len + len2 + refsN l ≤ 524288) (hS : S.Pairwise (· < ·)) (hm : ∀ x, x ∈ S ↔ wrongP l zeros x = true) :
    Calls Try.prog 42 #[.slice a len cap, .slice a2 len2 cap2] w (RowDone w S) := by
  have HO := Lib.hid h
  have HR := Lib.hid h2
  have hlen := h.size
  have hlen2 := h2.size
  have HCP := Lib.hid h.le
  have HCP2 := Lib.hid h2.ints.le
  have HSM := Lib.hid (And.intro hS hm)
  obtain ⟨B, hB⟩ : ∃ B, B = w.heap.size := ⟨_, rfl⟩
  have HB := Lib.hid hB
  have HSB : Hid (∀ W, Below B w W → B ≤ W.heap.size) := (show ∀ W, Below B w W → B ≤ W.heap.size from fun W hb => by rw [HB.out]; exact hb.size)
  obtain ⟨w1, hw1⟩ : ∃ w1, w1 = ((w.alloc (.cells #[.slice none 0 0] 60)).alloc (.cells #[.slice none 0 0] 60)).alloc (.cells #[.slice none 0 0] 60) := ⟨_, rfl⟩
  obtain ⟨r0, hr0⟩ : ∃ r0, r0 = w.heap.size := ⟨_, rfl⟩
  have HM0 : Hid (RgAt B r0 (r0 + 1) (r0 + 1 + 1) none none none [] [] [] (outF l zeros 0) (knF l 0) (fun y => decide (y ∈ zeros.take 0)) (.slice none 0 0) [] w w1) := (show RgAt B r0 (r0 + 1) (r0 + 1 + 1) none none none [] [] [] (outF l zeros 0) (knF l 0) (fun y => decide (y ∈ zeros.take 0)) (.slice none 0 0) [] w w1 by
    have e1 := size_alloc w (.cells #[.slice none 0 0] 60)
    have e2 := size_alloc (w.alloc (.cells #[.slice none 0 0] 60)) (.cells #[.slice none 0 0] 60)
    have k : ∀ W : World, Below W.heap.size W (W.alloc (.cells #[.slice none 0 0] 60)) := fun W => (Below.refl _ _).alloc (Nat.le_refl _) _
    have t0 : outF l zeros 0 = fun _ => false := funext fun y => by simp [outF, firstO]
    have t1 : knF l 0 = fun _ => false := funext fun y => by simp [knF, firstO]
    have t2 : (fun y : Int => decide (y ∈ zeros.take 0)) = fun _ => false := funext fun y => by simp
    rw [t0, t1, t2, hw1, hr0]
    have n0 := ((hp_new (B := B) w (by omega)).below (k _)).below (k _)
    have n1 := (hp_new (B := B) (w.alloc (.cells #[.slice none 0 0] 60)) (by omega)).below (k _)
    have n2 := hp_new (B := B) ((w.alloc (.cells #[.slice none 0 0] 60)).alloc (.cells #[.slice none 0 0] 60)) (by omega)
    rw [e1] at n1
    rw [e2, e1] at n2
    refine ⟨n0, n1, n2, fun x hx => ?_, fun x hx => ?_, fun x hx => ?_, RowS.nil _ _, fun g hg => (by cases hg), ?_, by simp; omega⟩
    · simp at hx ⊢; omega
    · simp at hx ⊢; omega
    · simp at hx ⊢; omega
    · rw [hB]
      exact (((Below.refl _ w).alloc (Nat.le_refl _) _).alloc (by simp) _).alloc (by simp; omega) _)
  have HW1 := Lib.hid hw1
  have HR0 := Lib.hid hr0
  clear h h2 hS hm hB hw1 hr0
  go_enter Try.func42, Try.ntmps42
  go_wp2_with fail
  rw [← HW1.out, ← HR0.out]
  generalize hr1 : r0 + 1 = r1 at HM0 ⊢
  generalize hr2 : r1 + 1 = r2 at HM0 ⊢
  clear hr1 hr2
  go_loopw [8] (fun i wr => ∃ (k : Nat) (q2 : Option Nat) (l2 : List Int), i = .int .i64 (k : Nat) ∧ k ≤ len2 ∧ Hid (RgAt B r0 r1 r2 none none q2 [] [] l2 (outF l zeros 0) (knF l 0) (fun y => decide (y ∈ zeros.take k)) (.slice none 0 0) [] w wr ∧ l2.length ≤ k)) (fun i _ => len2 - (intOf i).toNat)
  case atStart => exact ⟨0, none, [], rfl, Nat.zero_le _, ⟨HM0.out, Nat.le_refl _⟩⟩
  case round =>
    obtain ⟨k, q2, l2, rfl, hk, hs⟩ := hrel
    obtain ⟨wo, rfl⟩ : ∃ wo : World, wo = wr := ⟨_, rfl⟩
    by_cases hlt : k < len2
    · obtain ⟨b, off, rfl, hbl, hcell0⟩ := HR.out.at hlt
      have hcell := (hs.out.1.bel.cell (p := ⟨b, off + k, none⟩) (by rw [HB.out]; exact hbl)).trans hcell0
      have hi0 : (0 : Int) ≤ (k : Int) := by omega
      have hi1 : (k : Int) < (len2 : Int) := by omega
      have HP := Lib.hid (hpPush (hg zeros k) wo hs.out.1.h2 (by have := hs.out.2; omega) hs.out.1.le)
      have HT : Hid (addB (fun y => decide (y ∈ zeros.take k)) (hg zeros k) = fun y => decide (y ∈ zeros.take (k + 1))) := (show addB (fun y => decide (y ∈ zeros.take k)) (hg zeros k) = fun y => decide (y ∈ zeros.take (k + 1)) from funext fun y => by
        rw [List.take_add_one, hg_some (by omega)]
        unfold addB
        rw [Bool.eq_iff_iff]
        simp only [Option.toList_some, List.mem_append, List.mem_singleton, decide_eq_true_eq, Bool.or_eq_true]
        exact Or.comm)
      generalize hg zeros k = x at hcell HP HT
      clear hcell0
      go_wp2_with fail
      refine HP.out.mono ?_
      rintro e w3 ⟨rfl, hst⟩
      obtain ⟨q3, l3, hg3, hl3⟩ := hs.out.1.step2 hst
      rw [HT.out] at hg3
      have HG3 : Hid (RgAt B r0 r1 r2 none none q3 [] [] l3 (outF l zeros 0) (knF l 0) (fun y => decide (y ∈ zeros.take (k + 1))) (.slice none 0 0) [] w w3 ∧ l3.length ≤ k + 1) := ⟨hg3, by have := hs.out.2; omega⟩
      clear hst hg3 hl3
      go_wp2
      go_roundw
      case rel => first | exact ⟨k + 1, _, _, by go_num, by omega, HG3⟩ | ((repeat apply Exists.intro); exact ⟨⟨k + 1, _, _, by go_num, by omega, HG3⟩, rfl⟩)
      case measure => simp [intOf]; omega
    · obtain rfl : k = len2 := by omega
      have HCT := Lib.hid (rcounts_any a len cap l wo (HO.out.below (by rw [← HB.out]; exact hs.out.1.bel)) (by omega))
      clear hlt
      go_wp2_with fail
      refine HCT.out.mono ?_
      rintro e w3 ⟨vc, rfl, hr3, hg3, hb3⟩
      obtain ⟨D, hD⟩ : ∃ D, D = l.map fun o => ((countR l o.h : Nat) : Int) := ⟨_, rfl⟩
      have HDL : Hid (D.length = len ∧ ∀ j o, l[j]? = some o → hg D j = ((countR l o.h : Nat) : Int)) := (show D.length = len ∧ ∀ j o, l[j]? = some o → hg D j = ((countR l o.h : Nat) : Int) from ⟨by rw [hD, List.length_map]; exact hlen, fun j o ho => by unfold hg; rw [hD, List.getElem?_map, ho]; rfl⟩)
      rw [← hD] at hr3
      have HZL : Hid (l2.length ≤ k) := hs.out.2
      have HWG : Hid (RgAt B r0 r1 r2 none none q2 [] [] l2 (outF l zeros 0) (knF l 0) (fun y => decide (y ∈ zeros)) vc D w w3) := (show RgAt B r0 r1 r2 none none q2 [] [] l2 (outF l zeros 0) (knF l 0) (fun y => decide (y ∈ zeros)) vc D w w3 by
        have hz := hs.out.1.below hb3
        rw [List.take_of_length_le (by omega)] at hz
        have hlt := hs.out.1
        exact ⟨hz.h0, hz.h1, hz.h2, hz.d01, hz.d02, hz.d12, hr3, fun g hg => by
          have hge := hg3 g hg
          exact ⟨fun hm => by have := hlt.h0.ref.lt g hm; omega, fun hm => by have := hlt.h1.ref.lt g hm; omega, fun hm => by have := hlt.h2.ref.lt g hm; omega⟩, hz.bel, hz.le⟩)
      obtain ⟨ac, cc, rfl, _, _, _, _⟩ := hr3.read
      rw [HDL.out.1] at HWG ⊢
      clear hr3 hg3 hb3 hs HM0 HCT hD
      go_wp2_with fail
      go_loopw [10] (fun i wr => ∃ (j : Nat) (q0 q1 : Option Nat) (l0 l1 : List Int), i = .int .i64 (j : Nat) ∧ j ≤ len ∧ Hid (RgAt B r0 r1 r2 q0 q1 q2 l0 l1 l2 (outF l zeros j) (knF l j) (fun y => decide (y ∈ zeros)) (.slice ac len cc) D w wr ∧ l0.length ≤ j ∧ l1.length ≤ j)) (fun i _ => len - (intOf i).toNat)
      case atStart => exact ⟨0, none, none, [], [], rfl, Nat.zero_le _, ⟨HWG.out, Nat.le_refl _, Nat.le_refl _⟩⟩
      case round =>
        obtain ⟨j, q0, q1, l0, l1, rfl, hj, hs⟩ := hrel
        obtain ⟨wo, rfl⟩ : ∃ wo : World, wo = wr := ⟨_, rfl⟩
        by_cases hjl : j < len
        · obtain ⟨o, ho⟩ : ∃ o, l[j]? = some o := ⟨l[j]'(by omega), List.getElem?_eq_getElem (by omega)⟩
          obtain ⟨b, off, rfl, hbl, c0, c1, c2, c3, c4⟩ := obj_at HO.out hs.out.1.bel HB.out ho
          have hi0 : (0 : Int) ≤ (j : Int) := by omega
          have hi1 : (j : Int) < (len : Int) := by omega
          have hcts := hs.out.1.cts
          rw [HDL.out.1] at hcts
          obtain ⟨gq, offq, rfl, hgq, hcq⟩ := row_cell hcts HDL.out.1.symm hjl
          rw [HDL.out.2 j o ho] at hcq
          obtain ⟨kb, hkb⟩ : ∃ kb, knF l j o.h = kb := ⟨_, rfl⟩
          obtain ⟨zb, hzb⟩ : ∃ zb, decide (o.h ∈ zeros) = zb := ⟨_, rfl⟩
          obtain ⟨cn, hcn⟩ : ∃ cn, countR l o.h = cn := ⟨_, rfl⟩
          rw [hcn] at hcq
          have HNXK : Hid (knF l (j + 1) = addB (knF l j) o.h) := knF_next ho
          have HNXO : Hid (outF l zeros (j + 1) = if kb = false ∧ wrongI o cn zb = true then addB (outF l zeros j) o.h else outF l zeros j) := (show outF l zeros (j + 1) = if kb = false ∧ wrongI o cn zb = true then addB (outF l zeros j) o.h else outF l zeros j by
            cases kb with
            | true => rw [if_neg (by simp)]; exact outF_same ho hkb
            | false =>
              cases hwI : wrongI o cn zb with
              | true => rw [if_pos ⟨rfl, rfl⟩]; exact outF_yes ho hkb (by rw [hcn, hzb]; exact hwI)
              | false => rw [if_neg (by simp)]; exact outF_no ho hkb (by rw [hcn, hzb]; exact hwI))
          obtain ⟨wx, hwx⟩ : ∃ wx, wx = wo.alloc (.cells #[.int .i64 o.h, .int .i64 o.k, .int .i64 o.c, .bool o.s, .slice o.ra o.rl o.rc] 47) := ⟨_, rfl⟩
          have hbx : Below wo.heap.size wo wx := by rw [hwx]; exact (Below.refl _ _).alloc (Nat.le_refl _) _
          have HXC : Hid (wx.heap[wo.heap.size]? = some (.cells #[.int .i64 o.h, .int .i64 o.k, .int .i64 o.c, .bool o.s, .slice o.ra o.rl o.rc] 47 (0, 0))) := (show _ by rw [hwx]; exact heap_alloc_at _ _)
          have HGX := Lib.hid (And.intro (hs.out.1.below hbx) hs.out.2)
          have HFR : Hid ((∀ x ∈ r0 :: q0.toList, x < wo.heap.size) ∧ (∀ x ∈ r1 :: q1.toList, x < wo.heap.size) ∧ gq < wo.heap.size ∧ gq ∉ r1 :: q1.toList) := (show (∀ x ∈ r0 :: q0.toList, x < wo.heap.size) ∧ (∀ x ∈ r1 :: q1.toList, x < wo.heap.size) ∧ gq < wo.heap.size ∧ gq ∉ r1 :: q1.toList from ⟨hs.out.1.h0.ref.lt, hs.out.1.h1.ref.lt, hgq, (hs.out.1.c0 gq rfl).2.1⟩)
          have HCQ : Hid (wx.cell? ⟨gq, offq + j, none⟩ = some (.int .i64 (cn : Nat))) := (show wx.cell? ⟨gq, offq + j, none⟩ = some (.int .i64 (cn : Nat)) from (hbx.cell (p := ⟨gq, offq + j, none⟩) hgq).trans hcq)
          have HWX := Lib.hid hwx
          clear hs hcts hcq ho hcn hwx hbx
          cases kb with
          | true =>
            have HKN := Lib.hid (hpNo o.h wx HGX.out.1.h1 (by have := HGX.out.2.2; omega) hkb)
            have HF : Hid (RgAt B r0 r1 r2 q0 q1 q2 l0 l1 l2 (outF l zeros (j + 1)) (knF l (j + 1)) (fun y => decide (y ∈ zeros)) (.slice (some ⟨gq, offq, none⟩) len cc) D w wx ∧ l0.length ≤ j + 1 ∧ l1.length ≤ j + 1) := (show _ ∧ _ ∧ _ by
              rw [HNXK.out, HNXO.out, if_neg (by simp), addB_same hkb]
              exact ⟨HGX.out.1, by have := HGX.out.2.1; omega, by have := HGX.out.2.2; omega⟩)
            clear hkb hzb
            go_wp2_with fail
            rw [← HWX.out]
            refine HKN.out.mono ?_
            rintro e w5 ⟨rfl, rfl⟩
            go_wp2
            go_roundw
            case rel => first | exact ⟨j + 1, _, _, _, _, by go_num, by omega, HF⟩ | ((repeat apply Exists.intro); exact ⟨⟨j + 1, _, _, _, _, by go_num, by omega, HF⟩, rfl⟩)
            case measure => simp [intOf]; omega
          | false =>
            have HKY := Lib.hid (hpYes o.h wx HGX.out.1.h1 (by have := HGX.out.2.2; omega) HGX.out.1.le hkb)
            clear hkb
            go_wp2_with fail
            rw [← HWX.out]
            refine HKY.out.mono ?_
            rintro e w5 ⟨rfl, hst⟩
            obtain ⟨q3, l3, hg5, hl3⟩ := HGX.out.1.step1 hst
            rw [← HNXK.out] at hg5
            obtain ⟨_, _, _, _, _, hk5⟩ := hst
            have hx5 := hk5.at HXC.out (fun hm => by have := HFR.out.2.1 _ hm; omega)
            have HX5 := Lib.hid hx5
            have hq5 : w5.cell? ⟨gq, offq + j, none⟩ = some (.int .i64 (cn : Nat)) := (World.cell?_of_block (hk5.block gq (by have h1 := HFR.out.2.2.1; have h2 := (Array.getElem?_eq_some_iff.1 HXC.out).1; omega) HFR.out.2.2.2)).trans HCQ.out
            have e0 : w5.cell? ⟨wo.heap.size, 0, none⟩ = some (.int .i64 o.h) := cell_of_block hx5
            have e2 : w5.cell? ⟨wo.heap.size, 2, none⟩ = some (.int .i64 o.c) := cell_of_block hx5
            have e3 : w5.cell? ⟨wo.heap.size, 3, none⟩ = some (.bool o.s) := cell_of_block hx5
            have HG5 := Lib.hid (And.intro hg5 (show l0.length ≤ j ∧ l3.length ≤ j + 1 from ⟨HGX.out.2.1, by have := HGX.out.2.2; omega⟩))
            have HZH := Lib.hid (hpHas o.h w5 hg5.h2 (by have := HZL.out; omega))
            rw [hzb] at HZH
            clear hg5 hl3 hk5 hx5 hzb HKY
            go_wp2_with fail
            refine HZH.out.mono ?_
            rintro e w6 ⟨rfl, rfl⟩
            have HPO := Lib.hid (fun n => hpPush o.h (w5.drewN n) (HG5.out.1.below (bel_drewN (Below.refl _ _) n)).h0 (by have := HG5.out.2.1; omega) (HG5.out.1.below (bel_drewN (Below.refl _ _) n)).le)
            have HGN := Lib.hid (fun n => HG5.out.1.below (bel_drewN (Below.refl w5.heap.size w5) n))
            have HLS := Lib.hid HG5.out.2
            obtain ⟨oh, ok, oc, os, ora, orl, orc, orefs⟩ := o
            dsimp only at e0 e2 e3 HNXO HPO HNXK
            obtain ⟨b1, hb1⟩ : ∃ b1, (oc != (cn : Int)) = b1 := ⟨_, rfl⟩
            obtain ⟨b2, hb2⟩ : ∃ b2, (oc == 0) = b2 := ⟨_, rfl⟩
            have HNO : Hid (outF l zeros (j + 1) = if (if os then zb else b1 || (zb != b2)) = true then addB (outF l zeros j) oh else outF l zeros j) := (show _ = _ by
              rw [HNXO.out, ← hb1, ← hb2]
              unfold wrongI
              simp)
            clear HGX HXC HFR HCQ HNXO HNXK HZH HG5 HWX c0 c1 c2 c3 c4
            cases os <;> cases b1 <;> cases b2 <;> cases zb
            all_goals
              first
                | (have HNT : Hid (outF l zeros (j + 1) = outF l zeros j) := (show _ = _ by rw [HNO.out]; rfl)
                   have HF : Hid (∀ n, RgAt B r0 r1 r2 q0 q3 q2 l0 l3 l2 (outF l zeros (j + 1)) (knF l (j + 1)) (fun y => decide (y ∈ zeros)) (.slice (some ⟨gq, offq, none⟩) len cc) D w (w5.drewN n) ∧ l0.length ≤ j + 1 ∧ l3.length ≤ j + 1) := (show ∀ n, _ from fun n => by
                     rw [HNT.out]
                     exact ⟨HGN.out n, by have := HLS.out.1; omega, HLS.out.2⟩)
                   clear HNO HNT HPO HGN HLS)
                | (have HNT : Hid (outF l zeros (j + 1) = addB (outF l zeros j) oh) := (show _ = _ by rw [HNO.out]; rfl)
                   clear HNO)
            all_goals
              go_wp2_with fail
              go_quiet (fail)
            all_goals
              first
                | (go_wp2
                   go_roundw
                   case rel => first | exact ⟨j + 1, _, _, _, _, by go_num, by omega, HF.out _⟩ | ((repeat apply Exists.intro); exact ⟨⟨j + 1, _, _, _, _, by go_num, by omega, HF.out _⟩, rfl⟩)
                   case measure => simp [intOf]; omega)
                | (go_wp2_with fail
                   refine (HPO.out _).mono ?_
                   rintro e w8 ⟨rfl, hst⟩
                   obtain ⟨q4, l4, hg8, hl4⟩ := (HGN.out _).step0 hst
                   rw [← HNT.out] at hg8
                   have HF : Hid (RgAt B r0 r1 r2 q4 q3 q2 l4 l3 l2 (outF l zeros (j + 1)) (knF l (j + 1)) (fun y => decide (y ∈ zeros)) (.slice (some ⟨gq, offq, none⟩) len cc) D w w8 ∧ l4.length ≤ j + 1 ∧ l3.length ≤ j + 1) := (show _ ∧ _ ∧ _ from ⟨hg8, by have := HLS.out.1; omega, HLS.out.2⟩)
                   clear hst hg8 hl4
                   go_wp2
                   go_roundw
                   case rel => first | exact ⟨j + 1, _, _, _, _, by go_num, by omega, HF⟩ | ((repeat apply Exists.intro); exact ⟨⟨j + 1, _, _, _, _, by go_num, by omega, HF⟩, rfl⟩)
                   case measure => simp [intOf]; omega)
        · obtain rfl : j = len := by omega
          have HSZ : Hid (RgAt B r0 r1 r2 q0 q1 q2 l0 l1 l2 (outN l zeros l2 0) (knF l l.length) (fun y => decide (y ∈ zeros)) (.slice ac j cc) D w wo ∧ l0.length ≤ j) := (show RgAt B r0 r1 r2 q0 q1 q2 l0 l1 l2 (outN l zeros l2 0) (knF l l.length) (fun y => decide (y ∈ zeros)) (.slice ac j cc) D w wo ∧ l0.length ≤ j by
            have e : outN l zeros l2 0 = outF l zeros l.length := funext fun y => by simp [outN]
            rw [e, hlen]; exact ⟨hs.out.1, hs.out.2.1⟩)
          have HL1 : Hid (l1.length ≤ j) := hs.out.2.2
          clear hjl hs HWG
          go_wp2_with fail
          go_loopw [13] (fun i wr => ∃ (i2 : Nat) (q0 : Option Nat) (l0 : List Int), i = .int .i64 (i2 : Nat) ∧ i2 ≤ l2.length ∧ Hid (RgAt B r0 r1 r2 q0 q1 q2 l0 l1 l2 (outN l zeros l2 i2) (knF l l.length) (fun y => decide (y ∈ zeros)) (.slice ac j cc) D w wr ∧ l0.length ≤ j + i2)) (fun i _ => l2.length - (intOf i).toNat)
          case atStart => exact ⟨0, _, _, rfl, Nat.zero_le _, ⟨HSZ.out.1, HSZ.out.2⟩⟩
          case round =>
            obtain ⟨i2, q0, l0, rfl, hi2, hs⟩ := hrel
            obtain ⟨wi, rfl⟩ : ∃ wi : World, wi = wr := ⟨_, rfl⟩
            obtain ⟨az, cz, cz0, _, _, _, _, _, hrd⟩ := hs.out.1.h2.ref.read
            by_cases hil : i2 < l2.length
            · obtain ⟨gz, offz, rfl, hcz⟩ := hrd i2 _ (hg_some hil)
              have hi0 : (0 : Int) ≤ (i2 : Int) := by omega
              have hi1 : (i2 : Int) < (l2.length : Int) := by omega
              have HKH := Lib.hid (hpHas (hg l2 i2) wi hs.out.1.h1 (by have := HL1.out; omega))
              have HNX := Lib.hid (outN_next (l := l) (zeros := zeros) hil)
              have HPP := Lib.hid (hpPush (hg l2 i2) wi hs.out.1.h0 (by have := hs.out.2; have := HZL.out; omega) hs.out.1.le)
              have HS := hs
              generalize hg l2 i2 = y at hcz HKH HNX HPP
              clear hrd hs
              cases hkb : knF l l.length y with
              | true =>
                rw [hkb] at HKH
                rw [hkb, if_pos rfl] at HNX
                have HF : Hid (RgAt B r0 r1 r2 q0 q1 q2 l0 l1 l2 (outN l zeros l2 (i2 + 1)) (knF l l.length) (fun y => decide (y ∈ zeros)) (.slice ac j cc) D w wi ∧ l0.length ≤ j + (i2 + 1)) := (show _ ∧ _ by rw [HNX.out]; exact ⟨HS.out.1, by have := HS.out.2; omega⟩)
                clear hkb HPP
                go_wp2_with (go_at_call 49; refine HKH.out.mono ?_; rintro e w' ⟨rfl, rfl⟩)
                go_roundw
                case rel => first | exact ⟨i2 + 1, _, _, by go_num, by omega, HF⟩ | ((repeat apply Exists.intro); exact ⟨⟨i2 + 1, _, _, by go_num, by omega, HF⟩, rfl⟩)
                case measure => simp [intOf]; omega
              | false =>
                rw [hkb] at HKH
                rw [hkb, if_neg (by simp)] at HNX
                clear hkb
                go_wp2_with (first
                  | (go_at_call 49; refine HKH.out.mono ?_; rintro e w' ⟨rfl, rfl⟩)
                  | (go_at_call 46; refine HPP.out.mono ?_; rintro e w8 ⟨rfl, hst⟩; obtain ⟨q4, l4, hg8, hl4⟩ := HS.out.1.step0 hst; rw [← HNX.out] at hg8; have HF : Hid (RgAt B r0 r1 r2 q4 q1 q2 l4 l1 l2 (outN l zeros l2 (i2 + 1)) (knF l l.length) (fun y => decide (y ∈ zeros)) (.slice ac j cc) D w w8 ∧ l4.length ≤ j + (i2 + 1)) := (show _ ∧ _ from ⟨hg8, by have := HS.out.2; omega⟩); clear hst hg8 hl4))
                go_roundw
                case rel => first | exact ⟨i2 + 1, _, _, by go_num, by omega, HF⟩ | ((repeat apply Exists.intro); exact ⟨⟨i2 + 1, _, _, by go_num, by omega, HF⟩, rfl⟩)
                case measure => simp [intOf]; omega
            · obtain rfl : i2 = l2.length := by omega
              obtain ⟨ao, co, hc0, _, hq0, _, _, hrow, _⟩ := hs.out.1.h0.ref.read
              have hle : l0 = S := rise_one hs.out.1.h0.rise HSM.out.1 fun x => by
                rw [hs.out.1.h0.mem x, HSM.out.2 x, outN_all hs.out.1.h2.mem]
              have HF : Hid (RowDone w S (.returned (.slice ao l0.length co)) wi) := (show RowDone w S (.returned (.slice ao l0.length co)) wi from
                ⟨_, rfl, by rw [← hle]; exact hrow, fun g hg => by
                  rw [hq0] at hg
                  have := hs.out.1.h0.own g (by rw [hg]; simp)
                  rw [← HB.out]; exact this, by rw [← HB.out]; exact hs.out.1.bel⟩)
              clear hs hrd hrow hle hil
              go_wp2
              go_ret
              exact HF.out
end Go.Proofs.Ytogifanooleppaa
