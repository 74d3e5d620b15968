/- container/heap's down and Pop over a row of numbers compute what they say. -/
import Derived.Test.YtfiddodlpppdhaaArUp
namespace Go.Proofs.Ytfiddodlpppdhaa
open Go.RowKit Go.Maps
set_option linter.unusedVariables false

section
variable {p o : Nat} {ty : TypeId} {cs : Array Value} {q : Option Nat} {l l' : List Int} {w w' : World}
def SomeBool (e : Ending) : Prop := ∃ b, e = .returned (.bool b)
/-- where down stands -/
structure DownAt (w : World) (p o : Nat) (ty : TypeId) (cs : Array Value) (q : Option Nat) (l : List Int) (i m : Nat) (l' : List Int) (wr : World) : Prop where
  row : RowAt wr p o ty cs q l'
  perm : l'.Perm l
  inv : DownInv l' i m
  tail : ∀ k, m ≤ k → hg l' k = hg l k
  keep : Keeps q.toList w wr
/-- what down does -/
def DownDone (w : World) (p o : Nat) (ty : TypeId) (cs : Array Value) (q : Option Nat) (l : List Int) (m : Nat) (w' : World) : Prop :=
  ∃ l', RowAt w' p o ty cs q l' ∧ l'.Perm l ∧ HeapN l' m ∧ (∀ k, m ≤ k → hg l' k = hg l k) ∧ Keeps q.toList w w'
theorem DownAt.step {a : Option Addr} {n cap i j m : Nat} {wr w2 : World} (h : DownAt w p o ty cs q l i m l' wr) (hc : cs[o]? = some (.slice a n cap)) (hj : Lesser l' i m j) (hs : hg l' j < hg l' i) {k : Nat}
    (hr : RowS w2 1 (.slice a n cap) n (intC (swapL l' i j))) (hk : Keeps (Value.slice a n cap).ownBlock.toList (wr.drewN k) w2) : DownAt w p o ty cs q l j m (swapL l' i j) w2 := by
  obtain ⟨_, _, hn, hq⟩ := h.row.look hc
  rw [hq] at hk
  have hm := h.inv.1
  have hjm := hj.2.1
  have hij : i < j := by rcases hj.1 with h | h <;> omega
  have k2 : Keeps q.toList wr w2 := ((Keeps.refl _ wr).drewN k).trans hk
  refine ⟨h.row.swapped hc hr (swapL_len _ _ _) k2, (swapL_perm (by omega) (by omega)).trans h.perm, h.inv.step hj hs, fun y hy => ?_, h.keep.trans k2⟩
  rw [swapL_tail (n := m) (by omega) hjm hm y hy]
  exact h.tail y hy
set_option maxRecDepth 100000 in
set_option maxHeartbeats 4000000 in
theorem heapDown_any (i0 m : Nat) (w : World) (h : RowAt w p o ty cs q l) (hj : DownInv l i0 m) (hl : l.length ≤ 1048576) (hi0 : i0 ≤ 1048576) :
    Calls Try.prog 66 #[.iface 92 (.pointer (some ⟨p, o, none⟩)), .int .i64 (i0 : Nat), .int .i64 (m : Nat)] w fun e w' => SomeBool e ∧ DownDone w p o ty cs q l m w' := by
  obtain ⟨a, cap, _, hcs, _, _, _, _, _, _⟩ := h.read
  have hml := hj.1
  have HCS := Lib.hid hcs
  have H0 : Hid (DownAt w p o ty cs q l i0 m l w) := (show DownAt w p o ty cs q l i0 m l w from ⟨h, List.Perm.refl _, hj, fun _ _ => rfl, Keeps.refl _ _⟩)
  generalize l.length = n at hcs HCS hl hml
  have hm1 := m_less p o (.slice a n cap)
  have hm2 := m_swap p o (.slice a n cap)
  clear h hj hcs
  go_enter Try.func66, Try.ntmps66
  go_wp2_with fail
  go_loopw [7] (fun iv wr => ∃ (i : Nat) (l' : List Int), iv = .int .i64 (i : Nat) ∧ i ≤ 1048576 ∧ Hid (DownAt w p o ty cs q l i m l' wr)) (fun iv _ => m - (intOf iv).toNat)
  case atStart => exact ⟨i0, l, rfl, hi0, H0⟩
  case round =>
    obtain ⟨i, l', rfl, hib, hu⟩ := hrel
    obtain ⟨wo, rfl⟩ : ∃ wo : World, wo = wr := ⟨_, rfl⟩
    obtain ⟨c0, hrow, hlen, hown⟩ := hu.out.row.look HCS.out
    have hl2 : l'.length ≤ 1048576 := by omega
    have HLE := Lib.hid hlen
    have HROW := Lib.hid hrow
    have HL2 := Lib.hid hl2
    clear hrow hown hlen hl2
    obtain ⟨j1, hj1⟩ : ∃ j1 : Nat, 2 * (i : Int) + 1 = (j1 : Int) := ⟨2 * i + 1, by omega⟩
    obtain ⟨j2, hj2⟩ : ∃ j2 : Nat, (j1 : Int) + 1 = (j2 : Int) := ⟨j1 + 1, by omega⟩
    have hb0 : ¬ ((j1 : Int) < 0) := by omega
    by_cases h0 : m ≤ j1
    · have HD : Hid (DownDone w p o ty cs q l m wo) := (show DownDone w p o ty cs q l m wo from ⟨l', hu.out.row, hu.out.perm, hu.out.inv.stop0 (by omega), hu.out.tail, hu.out.keep⟩)
      have hb1 : (m : Int) ≤ (j1 : Int) := by omega
      clear hu
      go_wp2
      go_ret
      exact ⟨⟨_, rfl⟩, HD.out⟩
    · have hb1 : ¬ ((m : Int) ≤ (j1 : Int)) := by omega
      have HI1 : Hid (i < l'.length) := (show i < l'.length by rw [← HLE.out]; omega)
      have HJ1 : Hid (j1 < l'.length) := (show j1 < l'.length by rw [← HLE.out]; omega)
      by_cases h2 : j2 < m
      · have hb2 : (j2 : Int) < (m : Int) := by omega
        have HJ2 : Hid (j2 < l'.length) := (show j2 < l'.length by rw [← HLE.out]; omega)
        have HL0 := Lib.hid (rowLess_n j2 j1 wo HROW.out HLE.out HJ2.out HJ1.out HL2.out)
        by_cases hs0 : hg l' j2 < hg l' j1
        · have hd0 : decide (hg l' j2 < hg l' j1) = true := decide_eq_true hs0
          rw [hd0] at HL0
          have HLC : Hid (Lesser l' i m j2) := (show Lesser l' i m j2 from ⟨by omega, h2, fun k k1 k2 k3 => by
            rcases (by omega : k = j1 ∨ k = j2) with rfl | rfl
            · omega
            · exact Int.le_refl _⟩)
          clear hs0 hd0
          go_wp2_with fail
          refine HL0.out.mono ?_
          rintro e w1 ⟨rfl, k0, rfl⟩
          have c1 : (wo.drewN k0).cell? ⟨p, o, none⟩ = some (.slice a n cap) := c0
          have hrd : RowS (wo.drewN k0) 1 (.slice a n cap) l'.length (intC l') := HROW.out.keeps ((Keeps.refl [] wo).drewN k0) fun _ _ => List.not_mem_nil
          have HL3 := Lib.hid (rowLess_n j2 i (wo.drewN k0) hrd HLE.out HJ2.out HI1.out HL2.out)
          clear hrd
          by_cases hs : hg l' j2 < hg l' i
          · have hd : decide (hg l' j2 < hg l' i) = true := decide_eq_true hs
            have HSS := Lib.hid hs
            rw [hd] at HL3
            clear hs hd
            go_wp2_with fail
            refine HL3.out.mono ?_
            rintro e w1 ⟨rfl, k1, rfl⟩
            rw [World.drewN_drewN]
            have c2 : (wo.drewN (k0 + k1)).cell? ⟨p, o, none⟩ = some (.slice a n cap) := c0
            have HSW := Lib.hid (rowSwap_n i j2 (wo.drewN (k0 + k1)) (HROW.out.keeps ((Keeps.refl [] wo).drewN _) fun _ _ => List.not_mem_nil) HLE.out HI1.out HJ2.out HL2.out)
            go_wp2_with fail
            refine HSW.out.mono ?_
            rintro e w2 ⟨rfl, hr2, hk2⟩
            have HU2 : Hid (DownAt w p o ty cs q l j2 m (swapL l' i j2) w2) := (show _ from hu.out.step HCS.out HLC.out HSS.out hr2 hk2)
            have HJB : Hid (j2 ≤ 1048576) := (show j2 ≤ 1048576 by have := HJ2.out; have := HL2.out; omega)
            clear hr2 hk2
            go_wp2
            go_roundw
            case rel => first | exact ⟨j2, _, rfl, HJB.out, HU2⟩ | ((repeat apply Exists.intro); exact ⟨⟨j2, _, rfl, HJB.out, HU2⟩, rfl⟩)
            case measure => simp [intOf]; omega
          · have hd : decide (hg l' j2 < hg l' i) = false := decide_eq_false hs
            have HD : Hid (∀ k, DownDone w p o ty cs q l m (wo.drewN k)) := (show ∀ k, DownDone w p o ty cs q l m (wo.drewN k) from fun k => ⟨l', hu.out.row.drewN k, hu.out.perm, hu.out.inv.stop HLC.out hs, hu.out.tail, hu.out.keep.drewN k⟩)
            rw [hd] at HL3
            clear hs hd
            go_wp2_with fail
            refine HL3.out.mono ?_
            rintro e w1 ⟨rfl, k1, rfl⟩
            rw [World.drewN_drewN]
            go_wp2
            go_ret
            exact ⟨⟨_, rfl⟩, HD.out _⟩
        · have hd0 : decide (hg l' j2 < hg l' j1) = false := decide_eq_false hs0
          rw [hd0] at HL0
          have HLC : Hid (Lesser l' i m j1) := (show Lesser l' i m j1 from ⟨by omega, by omega, fun k k1 k2 k3 => by
            rcases (by omega : k = j1 ∨ k = j2) with rfl | rfl
            · exact Int.le_refl _
            · omega⟩)
          clear hs0 hd0
          go_wp2_with fail
          refine HL0.out.mono ?_
          rintro e w1 ⟨rfl, k0, rfl⟩
          have c1 : (wo.drewN k0).cell? ⟨p, o, none⟩ = some (.slice a n cap) := c0
          have hrd : RowS (wo.drewN k0) 1 (.slice a n cap) l'.length (intC l') := HROW.out.keeps ((Keeps.refl [] wo).drewN k0) fun _ _ => List.not_mem_nil
          have HL3 := Lib.hid (rowLess_n j1 i (wo.drewN k0) hrd HLE.out HJ1.out HI1.out HL2.out)
          clear hrd
          by_cases hs : hg l' j1 < hg l' i
          · have hd : decide (hg l' j1 < hg l' i) = true := decide_eq_true hs
            have HSS := Lib.hid hs
            rw [hd] at HL3
            clear hs hd
            go_wp2_with fail
            refine HL3.out.mono ?_
            rintro e w1 ⟨rfl, k1, rfl⟩
            rw [World.drewN_drewN]
            have c2 : (wo.drewN (k0 + k1)).cell? ⟨p, o, none⟩ = some (.slice a n cap) := c0
            have HSW := Lib.hid (rowSwap_n i j1 (wo.drewN (k0 + k1)) (HROW.out.keeps ((Keeps.refl [] wo).drewN _) fun _ _ => List.not_mem_nil) HLE.out HI1.out HJ1.out HL2.out)
            go_wp2_with fail
            refine HSW.out.mono ?_
            rintro e w2 ⟨rfl, hr2, hk2⟩
            have HU2 : Hid (DownAt w p o ty cs q l j1 m (swapL l' i j1) w2) := (show _ from hu.out.step HCS.out HLC.out HSS.out hr2 hk2)
            have HJB : Hid (j1 ≤ 1048576) := (show j1 ≤ 1048576 by have := HJ1.out; have := HL2.out; omega)
            clear hr2 hk2
            go_wp2
            go_roundw
            case rel => first | exact ⟨j1, _, rfl, HJB.out, HU2⟩ | ((repeat apply Exists.intro); exact ⟨⟨j1, _, rfl, HJB.out, HU2⟩, rfl⟩)
            case measure => simp [intOf]; omega
          · have hd : decide (hg l' j1 < hg l' i) = false := decide_eq_false hs
            have HD : Hid (∀ k, DownDone w p o ty cs q l m (wo.drewN k)) := (show ∀ k, DownDone w p o ty cs q l m (wo.drewN k) from fun k => ⟨l', hu.out.row.drewN k, hu.out.perm, hu.out.inv.stop HLC.out hs, hu.out.tail, hu.out.keep.drewN k⟩)
            rw [hd] at HL3
            clear hs hd
            go_wp2_with fail
            refine HL3.out.mono ?_
            rintro e w1 ⟨rfl, k1, rfl⟩
            rw [World.drewN_drewN]
            go_wp2
            go_ret
            exact ⟨⟨_, rfl⟩, HD.out _⟩
      · have hb2 : ¬ ((j2 : Int) < (m : Int)) := by omega
        have HLC : Hid (Lesser l' i m j1) := (show Lesser l' i m j1 from ⟨by omega, by omega, fun k k1 k2 k3 => by
          rcases (by omega : k = j1 ∨ k = j2) with rfl | rfl
          · exact Int.le_refl _
          · omega⟩)
        have c1 : wo.cell? ⟨p, o, none⟩ = some (.slice a n cap) := c0
        have hrd : RowS wo 1 (.slice a n cap) l'.length (intC l') := HROW.out.keeps (Keeps.refl [] wo) fun _ _ => List.not_mem_nil
        have HL3 := Lib.hid (rowLess_n j1 i wo hrd HLE.out HJ1.out HI1.out HL2.out)
        clear hrd
        by_cases hs : hg l' j1 < hg l' i
        · have hd : decide (hg l' j1 < hg l' i) = true := decide_eq_true hs
          have HSS := Lib.hid hs
          rw [hd] at HL3
          clear hs hd
          go_wp2_with fail
          refine HL3.out.mono ?_
          rintro e w1 ⟨rfl, k1, rfl⟩
          have c2 : (wo.drewN k1).cell? ⟨p, o, none⟩ = some (.slice a n cap) := c0
          have HSW := Lib.hid (rowSwap_n i j1 (wo.drewN k1) (HROW.out.keeps ((Keeps.refl [] wo).drewN _) fun _ _ => List.not_mem_nil) HLE.out HI1.out HJ1.out HL2.out)
          go_wp2_with fail
          refine HSW.out.mono ?_
          rintro e w2 ⟨rfl, hr2, hk2⟩
          have HU2 : Hid (DownAt w p o ty cs q l j1 m (swapL l' i j1) w2) := (show _ from hu.out.step HCS.out HLC.out HSS.out hr2 hk2)
          have HJB : Hid (j1 ≤ 1048576) := (show j1 ≤ 1048576 by have := HJ1.out; have := HL2.out; omega)
          clear hr2 hk2
          go_wp2
          go_roundw
          case rel => first | exact ⟨j1, _, rfl, HJB.out, HU2⟩ | ((repeat apply Exists.intro); exact ⟨⟨j1, _, rfl, HJB.out, HU2⟩, rfl⟩)
          case measure => simp [intOf]; omega
        · have hd : decide (hg l' j1 < hg l' i) = false := decide_eq_false hs
          have HD : Hid (∀ k, DownDone w p o ty cs q l m (wo.drewN k)) := (show ∀ k, DownDone w p o ty cs q l m (wo.drewN k) from fun k => ⟨l', hu.out.row.drewN k, hu.out.perm, hu.out.inv.stop HLC.out hs, hu.out.tail, hu.out.keep.drewN k⟩)
          rw [hd] at HL3
          clear hs hd
          go_wp2_with fail
          refine HL3.out.mono ?_
          rintro e w1 ⟨rfl, k1, rfl⟩
          go_wp2
          go_ret
          exact ⟨⟨_, rfl⟩, HD.out _⟩
/-- what Pop does -/
def PopDone (w : World) (p o : Nat) (ty : TypeId) (cs : Array Value) (q : Option Nat) (l : List Int) (w' : World) : Prop :=
  ∃ l' v q', RowAt w' p o ty (cs.setIfInBounds o v) q' l' ∧ (hg l 0 :: l').Perm l ∧ HeapN l' l'.length ∧ (∀ g, q' = some g → q = some g ∨ w.heap.size ≤ g) ∧ Keeps (p :: q.toList) w w'
set_option maxRecDepth 100000 in
set_option maxHeartbeats 2000000 in
theorem heapPop_any (n : Nat) (w : World) (h : RowAt w p o ty cs q l) (hp : HeapN l l.length) (hn : l.length = n + 1) (hl : n < 1048576) :
    Calls Try.prog 56 #[.iface 92 (.pointer (some ⟨p, o, none⟩))] w fun e w' => e = .returned (.iface 3 (.int .i64 (hg l 0))) ∧ PopDone w p o ty cs q l w' := by
  obtain ⟨a, cap, c0, hcs, _, hown, _, _, hrow, _⟩ := h.read
  have H := Lib.hid h
  have HCS := Lib.hid hcs
  have HOWN := Lib.hid hown
  have HP := Lib.hid hp
  have HN := Lib.hid hn
  have HSW := Lib.hid (rowSwap_n 0 n w hrow rfl (by omega) (by omega) (by omega))
  have HSTEP := Lib.hid (fun (w1 : World) (hr : RowS w1 1 (.slice a l.length cap) l.length (intC (swapL l 0 n))) (hk : Keeps (Value.slice a l.length cap).ownBlock.toList w w1) => (show RowAt w1 p o ty cs q (swapL l 0 n) from h.swapped hcs hr (swapL_len _ _ _) (by rw [hown] at hk; exact hk)))
  have HFIN := Lib.hid (fun (w1 w2 w3 : World) (l2 : List Int) (hk : Keeps (Value.slice a l.length cap).ownBlock.toList w w1) (h1 : l2.Perm (swapL l 0 n)) (h2 : HeapN l2 n) (h4 : ∀ k, n ≤ k → hg l2 k = hg (swapL l 0 n) k) (hk2 : Keeps q.toList w1 w2) (ht : Turned w2 p o ty cs q (l2.take n) w3) => (show PopDone w p o ty cs q l w3 by
    obtain ⟨v, q', t1, t2, t3⟩ := ht
    have hlen : l2.length = n + 1 := by rw [h1.length_eq, swapL_len, hn]
    have hx : hg l2 n = hg l 0 := by rw [h4 n (Nat.le_refl _), hg_swap (by omega) (by omega), if_pos rfl]
    have hps : (swapL l 0 n).Perm l := swapL_perm (by omega) (by omega)
    have hsn := take_snoc hlen
    rw [hown] at hk
    have s1 := hk.size
    have s2 := hk2.size
    refine ⟨l2.take n, v, q', t1, ?_, h2.take (by omega), fun g hg' => ?_, ?_⟩
    · have e : (hg l 0 :: l2.take n).Perm (l2.take n ++ [hg l2 n]) := by
        rw [hx]
        exact (List.perm_append_singleton _ _).symm
      rw [← hsn] at e
      exact e.trans (h1.trans hps)
    · rcases t2 g hg' with h | h
      · exact .inl h
      · exact .inr (by omega)
    · exact ((hk.trans hk2).mono (by intro y hy; simp [hy])).trans t3))
  have hm1 := m_len p o (.slice a l.length cap) w c0
  have hm2 := m_swap p o (.slice a l.length cap) w c0
  have hm3 := m_pop p o
  rw [hn] at c0 hm1 hm2 HSW HSTEP HFIN hcs HCS
  clear h hp hown hrow hcs
  go_enter Try.func56, Try.ntmps56
  go_wp2_with fail
  refine (rowLen_any _ _ _ _).mono ?_
  rintro e w0 ⟨rfl, rfl⟩
  go_wp2_with fail
  refine HSW.out.mono ?_
  rintro e w1 ⟨rfl, hr1, hk1⟩
  have HK1 := Lib.hid hk1
  have HR1 := Lib.hid (HSTEP.out w1 hr1 hk1)
  have HDN := Lib.hid (heapDown_any 0 n w1 HR1.out (HP.out.popped HN.out) (by rw [swapL_len]; have := HN.out; omega) (by omega))
  clear hr1 hk1 hm1 hm2
  go_wp2_with fail
  refine HDN.out.mono ?_
  rintro e w2 ⟨⟨b, rfl⟩, l2, hr2, hp2, hh2, ht2, hk2⟩
  have hlen2 : l2.length = n + 1 := by rw [hp2.length_eq, swapL_len]; exact HN.out
  have hx2 : hg l2 n = hg l 0 := by
    have := HN.out
    rw [ht2 n (Nat.le_refl _), hg_swap (by omega) (by omega), if_pos rfl]
  have HPP : Hid (Calls Try.prog 111 #[.pointer (some ⟨p, o, none⟩)] w2 fun e w' => e = .returned (.iface 3 (.int .i64 (hg l 0))) ∧ Turned w2 p o ty cs q (l2.take n) w') := (show _ by
    rw [← hx2]
    exact rowPop_any (hg l2 n) w2 (by rw [← take_snoc hlen2]; exact hr2) (by simp; omega))
  have HF := Lib.hid (fun w3 => HFIN.out w1 w2 w3 l2 HK1.out hp2 hh2 ht2 hk2)
  clear hr2 hp2 hh2 ht2 hk2 hlen2 hx2
  go_wp2_with fail
  refine HPP.out.mono ?_
  rintro e w3 ⟨rfl, ht⟩
  have HD := Lib.hid (HF.out w3 ht)
  clear ht
  go_wp2
  go_ret
  exact ⟨rfl, HD.out⟩
end
end Go.Proofs.Ytfiddodlpppdhaa
