/- the reference's Heap: a rising list; Has, Push, Drop, Pop; SameInts. -/
import Derived.Test.YtogifanooleppaaAccI
import Derived.Test.YtogifanooleppaaRefGive
import Derived.Deep.RegionHeld3
namespace Go.Proofs.Ytogifanooleppaa
open Go.RowKit
set_option linter.unusedVariables false

/-- block r is the reference's Heap that holds l -/
def RefH (w : World) (r : Nat) (q : Option Nat) (l : List Int) : Prop := ∃ v ty, RowAt w r 0 ty #[v] q l
section
variable {r : Nat} {q : Option Nat} {l : List Int} {w w' : World}
theorem RefH.keeps {L : List Nat} (h : RefH w r q l) (k : Keeps L w w') (hn : ∀ x ∈ r :: q.toList, x ∉ L) : RefH w' r q l := by
  obtain ⟨v, ty, h⟩ := h
  exact ⟨v, ty, h.keeps k (hn r (by simp)) (fun g hg => hn g (by simp [hg]))⟩
theorem RefH.below (h : RefH w r q l) (hb : Below w.heap.size w w') : RefH w' r q l := h.keeps (Keeps.of_below hb (Nat.le_refl _) []) fun _ _ => List.not_mem_nil
theorem RefH.lt (h : RefH w r q l) : ∀ x ∈ r :: q.toList, x < w.heap.size := by
  obtain ⟨v, ty, h⟩ := h
  intro x hx
  simp at hx
  rcases hx with rfl | hx
  · exact h.lt.1
  · exact h.lt.2 x hx
theorem RefH.read (h : RefH w r q l) : ∃ a cap, w.cell? ⟨r, 0, none⟩ = some (.slice a l.length cap) ∧ w.frozen? ⟨r, 0, none⟩ = false ∧ (Value.slice a l.length cap).ownBlock = q ∧ l.length ≤ cap ∧ cap ≤ 9223372036854775807 ∧ RowS w 1 (.slice a l.length cap) l.length (intC l) ∧
    ∀ i x, l[i]? = some x → ∃ g off, a = some ⟨g, off, none⟩ ∧ w.cell? ⟨g, off + i, none⟩ = some (.int .i64 x) := by
  obtain ⟨v, ty, h⟩ := h
  obtain ⟨a, cap, h1, h2, h3, h4, h5, h6, h7, h8⟩ := h.read
  exact ⟨a, cap, h1, h3, h4, h5, h6, h7, fun i x hx => by obtain ⟨g, off, e1, e2, _⟩ := h8 i x hx; exact ⟨g, off, e1, e2⟩⟩
/-- what a call that may turn the list leaves -/
def RDone (w : World) (r : Nat) (q : Option Nat) (l' : List Int) (w' : World) : Prop :=
  ∃ q', RefH w' r q' l' ∧ (∀ g, q' = some g → q = some g ∨ w.heap.size ≤ g) ∧ Keeps (r :: q.toList) w w'
theorem RefH.same (h : RefH w r q l) : RDone w r q l w := ⟨q, h, fun g hg => .inl hg, Keeps.refl _ _⟩
theorem RefH.made (h : RefH w r q l) {w1 : World} {l' : List Int} {v' : Value} (hb : Below w.heap.size w w1) (hr : RowS w1 1 v' l'.length (intC l')) (hq : ∀ g, v'.ownBlock = some g → w.heap.size ≤ g) : RDone w r q l' (w1.setCell ⟨r, 0, none⟩ v') := by
  obtain ⟨v, ty, h⟩ := h
  obtain ⟨v2, q', h1, h2, h3⟩ := h.turned (l' := l') hr (Keeps.of_below hb (Nat.le_refl _) _) (fun g hg => .inr (hq g hg))
  exact ⟨q', ⟨v2, ty, by simpa using h1⟩, h2, h3⟩
theorem rhHas_any (x : Int) (w : World) (h : RefH w r q l) (hl : l.length ≤ 1048576) :
    Calls Try.prog 49 #[.pointer (some ⟨r, 0, none⟩), .int .i64 x] w fun e w' => e = .returned (.bool (decide (x ∈ l))) ∧ w = w' := by
  obtain ⟨a0, cap, c0, _, _, h5, _, _, hr⟩ := h.read
  have HR := Lib.hid hr
  obtain ⟨bb, hbb⟩ : ∃ bb, bb = decide (x ∈ l) := ⟨_, rfl⟩
  have HBB := Lib.hid hbb
  rw [← hbb]
  clear hr h hbb
  go_enter Try.func49, Try.ntmps49
  go_wp2
  go_loop [5] (fun i => ∃ k : Nat, i = .int .i64 (k : Nat) ∧ k ≤ l.length ∧ Hid (∀ y ∈ l.take k, y ≠ x)) (fun i => l.length - (intOf i).toNat)
  case atStart => exact ⟨0, rfl, Nat.zero_le _, fun r hr => by simp at hr⟩
  case round =>
    obtain ⟨k, rfl, hk, hd⟩ := hrel
    by_cases hlt : k < l.length
    · obtain ⟨y, hy⟩ : ∃ y, l[k]? = some y := ⟨_, List.getElem?_eq_getElem hlt⟩
      obtain ⟨g, off, rfl, d0⟩ := HR.out k y hy
      have HY := Lib.hid hy
      have hi0 : (0 : Int) ≤ (k : Int) := by omega
      have hi1 : (k : Int) < (l.length : Int) := by omega
      clear hy
      by_cases hx : y = x
      · obtain rfl : bb = true := HBB.out.trans (decide_eq_true (by rw [← hx]; exact List.mem_of_getElem? HY.out))
        have hb : (y == x) = true := by rw [beq_iff_eq]; exact hx
        clear hx
        go_wp2
        go_ret
        exact ⟨rfl, rfl⟩
      · have hb : (y == x) = false := by rw [beq_eq_false_iff_ne]; exact hx
        have HD : Hid (∀ y ∈ l.take (k + 1), y ≠ x) := (show ∀ y ∈ l.take (k + 1), y ≠ x by
          intro z hz
          rw [List.take_add_one, HY.out, List.mem_append] at hz
          rcases hz with hz | hz
          · exact hd.out z hz
          · cases List.mem_singleton.1 hz
            exact hx)
        clear hx hd
        go_wp2
        go_round
        case rel => exact ⟨k + 1, by go_num, by omega, HD⟩
        case measure => simp [intOf]; omega
    · obtain rfl : k = l.length := by omega
      obtain rfl : bb = false := HBB.out.trans (decide_eq_false (fun hx => hd.out x (by rw [List.take_length]; exact hx) rfl))
      clear hlt hd
      go_wp2
      go_ret
      exact ⟨rfl, rfl⟩
/-- parts of a row, as what is appended, in whatever world that came -/
theorem RefH.part {g off cap : Nat} (h : RefH w r q l) (hc : w.cell? ⟨r, 0, none⟩ = some (.slice (some ⟨g, off, none⟩) l.length cap)) {W : World} (hb : Below w.heap.size w W) :
    (∀ k c, k ≤ l.length → Src W (.slice (some ⟨g, off, none⟩) k c) k 1 (intC (l.take k))) ∧ (∀ k c, k ≤ l.length → Src W (.slice (some ⟨g, off + k, none⟩) (l.length - k) c) (l.length - k) 1 (intC (l.drop k))) := by
  obtain ⟨a, cap', e, _, _, _, _, hrow, _⟩ := h.read
  rw [hc] at e
  cases e
  obtain ⟨a', cap2, e, _, _, _, r4⟩ := hrow.read
  cases e
  have hcells : ∀ (j : Nat) u, (intC l)[j]? = some u → W.cell? ⟨g, off + j, none⟩ = some u := by
    intro j u hu
    obtain ⟨b, o, e2, e3, e4⟩ := r4 j u hu
    cases e2
    exact (hb.cell (p := ⟨g, off + j, none⟩) e3).trans e4
  have hadd : ∀ o j, (⟨g, o, none⟩ : Addr).add j = ⟨g, o + j, none⟩ := by intro o j; unfold Addr.add; split <;> simp_all
  refine ⟨fun k c hk => .inr ⟨_, _, rfl, by rw [intC_len, List.length_take]; omega, fun j u hu => ?_⟩, fun k c hk => .inr ⟨_, _, rfl, by rw [intC_len, List.length_drop]; omega, fun j u hu => ?_⟩⟩
  · rw [hadd]
    refine hcells j u ?_
    unfold intC at hu ⊢
    rw [List.map_take, List.getElem?_take] at hu
    split at hu
    · exact hu
    · cases hu
  · rw [hadd, Nat.add_assoc]
    refine hcells _ u ?_
    unfold intC at hu ⊢
    rw [List.map_drop, List.getElem?_drop] at hu
    exact hu
theorem intC_one (l : List Int) : ∀ u ∈ intC l, u.oneCell' = true := by
  intro u hu
  obtain ⟨x, _, rfl⟩ := List.mem_map.1 hu
  rfl
theorem src_end {W : World} {a : Addr} {c n : Nat} (hn : n = 0) : Src W (.slice (some a) n c) n 1 [] := by
  subst hn
  exact .inr ⟨a, c, rfl, rfl, fun j u hu => by simp at hu⟩
/-- what Pop does -/
def RPop (w : World) (r : Nat) (q : Option Nat) (l : List Int) (en : Ending) (w' : World) : Prop :=
  (l = [] ∧ en = .returned (.tuple #[.int .i64 0, .bool false]) ∧ w' = w) ∨ ∃ x t, l = x :: t ∧ en = .returned (.tuple #[.int .i64 x, .bool true]) ∧ RDone w r q t w'
set_option maxRecDepth 100000 in
set_option maxHeartbeats 1000000 in
theorem rhPop_any (w : World) (h : RefH w r q l) (hl : l.length ≤ 1048576) :
    Calls Try.prog 47 #[.pointer (some ⟨r, 0, none⟩)] w (RPop w r q l) := by
  obtain ⟨a0, cap, c0, f0, _, h5, h6, _, hr⟩ := h.read
  have hp := h.lt r (by simp)
  obtain ⟨i0, hi, hz0, hz1, hz2⟩ := info_parts leastInfo1
  have HI := Lib.hid hi
  have HZ0 := Lib.hid hz0
  have HZ1 := Lib.hid hz1
  have HZ2 := Lib.hid hz2
  have H := Lib.hid h
  clear h hi hz0 hz1 hz2
  cases l with
  | nil =>
    simp only [List.length_nil] at c0
    clear hr
    go_enter Try.func47, Try.ntmps47
    go_wp2
    go_ret2
    exact .inl ⟨rfl, rfl, rfl⟩
  | cons x t =>
    obtain ⟨g, off, rfl, d0⟩ := hr 0 x rfl
    rw [Nat.add_zero] at d0
    have hz : (((x :: t).length : Nat) : Int) ≠ 0 := by rw [List.length_cons]; omega
    have hz2 : ((((x :: t).length : Nat) : Int) == 0) = false := by rw [beq_eq_false_iff_ne]; exact hz
    have hi1 : (0 : Int) < (((x :: t).length : Nat) : Int) := by rw [List.length_cons]; omega
    have hi2 : (1 : Int) ≤ (((x :: t).length : Nat) : Int) := by rw [List.length_cons]; omega
    have HS := Lib.hid (fun W hb => H.out.part c0 (W := W) hb)
    have HO1 : Hid (0 + t.length ≤ maxLen) := (show 0 + t.length ≤ maxLen by rw [List.length_cons] at hl; unfold maxLen; omega)
    have HO2 : Hid ((0 + t.length) * 8 ≤ 140737488355328) := (show (0 + t.length) * 8 ≤ 140737488355328 by rw [List.length_cons] at hl; omega)
    have hn1 : (x :: t).length - 1 = t.length := by simp
    have HF := Lib.hid (fun (W : World) (v : Value) (hg : w.grownBy W (Value.slice none 0 0).ownBlock) (hr2 : RowS W 1 v t.length (intC t)) (hv : v.ownBlock = (Value.slice none 0 0).ownBlock ∨ ∃ g, v.ownBlock = some g ∧ w.heap.size ≤ g) =>
      (show W.cell? ⟨r, 0, none⟩ = some (.slice (some ⟨g, off, none⟩) (x :: t).length cap) ∧ W.frozen? ⟨r, 0, none⟩ = false ∧ RPop w r q (x :: t) (.returned (.tuple #[.int .i64 x, .bool true])) (W.setCell ⟨r, 0, none⟩ v) by
        have hb : Below w.heap.size w W := ⟨hg.os, hg.tape, hg.output, hg.size, fun k hk => hg.block k hk (by simp [Value.ownBlock])⟩
        refine ⟨(hb.cell (p := ⟨r, 0, none⟩) hp).trans c0, (World.frozen?_of_block (hb.block r hp)).trans f0, .inr ⟨x, t, rfl, rfl, H.out.made hb hr2 fun g hg' => ?_⟩⟩
        rcases hv with hv | ⟨g2, hv, hge⟩
        · rw [hv] at hg'; cases hg'
        · rw [hv] at hg'; cases hg'; exact hge))
    generalize hL : (x :: t).length = n at *
    have HN1 := Lib.hid hn1
    clear hr hL h6 hz hn1
    by_cases hcap : cap = 1
    · subst hcap
      have hn : n = 1 := by omega
      subst hn
      obtain rfl : t = [] := List.length_eq_zero_iff.1 (by have := HN1.out; omega)
      go_enter Try.func47, Try.ntmps47
      go_wp2_with (at_builtin; refine wpList_row (by rfl) (.const (.slice none 0 0)) (.tmp 22) 23 rfl 3 i0 (.int .i64 0) 1 8 Try.underlying23 HI.out HZ0.out HZ1.out HZ2.out rfl (by decide) (.slice none 0 0) 0 [] rfl (RowS.nil _ _) _ 0 [] (by rfl) (src_end rfl) (intC_one []) HO1.out HO2.out ?_)
      intro v1 w1 hr1 hg1 hv1
      obtain ⟨q1, q2, q3⟩ := HF.out w1 v1 hg1 hr1 hv1
      obtain ⟨a2, cap2, rfl, _⟩ := hr1.read
      have HQ := Lib.hid q3
      clear hr1 hg1 hv1 q3
      go_wp2
      go_ret2
      exact HQ.out
    · have hcap2 : ¬ (1 = cap) := fun e => hcap e.symm
      go_enter Try.func47, Try.ntmps47
      go_wp2_with (at_builtin; refine wpList_row (by rfl) (.const (.slice none 0 0)) (.tmp 22) 23 rfl 3 i0 (.int .i64 0) 1 8 Try.underlying23 HI.out HZ0.out HZ1.out HZ2.out rfl (by decide) (.slice none 0 0) 0 [] rfl (RowS.nil _ _) (.slice (some ⟨g, off + 1, none⟩) (n - 1) (cap - 1)) t.length (intC t) (by rfl) (by rw [← HN1.out]; exact (HS.out _ (Below.refl _ _)).2 1 _ (by omega)) (intC_one _) HO1.out HO2.out ?_)
      intro v1 w1 hr1 hg1 hv1
      obtain ⟨q1, q2, q3⟩ := HF.out w1 v1 hg1 hr1 hv1
      obtain ⟨a2, cap2, rfl, _⟩ := hr1.read
      have HQ := Lib.hid q3
      clear hr1 hg1 hv1 q3
      go_wp2
      go_ret2
      exact HQ.out
theorem drop_cut {l : List Int} {k : Nat} {x : Int} (h : l[k]? = some x) (hn : ∀ y ∈ l.take k, y ≠ x) : l.erase x = l.take k ++ l.drop (k + 1) := by
  have hk := (List.getElem?_eq_some_iff.1 h).1
  have e : l = l.take k ++ x :: l.drop (k + 1) := by
    conv => lhs; rw [← List.take_append_drop k l]
    rw [List.drop_eq_getElem_cons hk, (List.getElem?_eq_some_iff.1 h).2]
  have hx : x ∉ l.take k := fun hm => hn x hm rfl
  conv => lhs; rw [e]
  rw [List.erase_append_right _ hx, List.erase_cons_head]
set_option maxRecDepth 100000 in
set_option maxHeartbeats 2000000 in
theorem rhDrop_any (x : Int) (w : World) (h : RefH w r q l) (hl : l.length ≤ 1048576) :
    Calls Try.prog 48 #[.pointer (some ⟨r, 0, none⟩), .int .i64 x] w fun e w' => e = .returned (.bool (decide (x ∈ l))) ∧ RDone w r q (l.erase x) w' := by
  obtain ⟨a0, cap, c0, f0, _, h5, h6, _, hr⟩ := h.read
  have hp := h.lt r (by simp)
  obtain ⟨i0, hi, hz0, hz1, hz2⟩ := info_parts leastInfo1
  have HI := Lib.hid hi
  have HZ0 := Lib.hid hz0
  have HZ1 := Lib.hid hz1
  have HZ2 := Lib.hid hz2
  have H := Lib.hid h
  have HR := Lib.hid hr
  obtain ⟨bb, hbb⟩ : ∃ bb, bb = decide (x ∈ l) := ⟨_, rfl⟩
  have HBB := Lib.hid hbb
  rw [← hbb]
  clear h hi hz0 hz1 hz2 hr hbb
  go_enter Try.func48, Try.ntmps48
  go_wp2
  go_loop [5] (fun i => ∃ k : Nat, i = .int .i64 (k : Nat) ∧ k ≤ l.length ∧ Hid (∀ y ∈ l.take k, y ≠ x)) (fun i => l.length - (intOf i).toNat)
  case atStart => exact ⟨0, rfl, Nat.zero_le _, fun r hr => by simp at hr⟩
  case round =>
    obtain ⟨k, rfl, hk, hd⟩ := hrel
    by_cases hlt : k < l.length
    · obtain ⟨y, hy⟩ : ∃ y, l[k]? = some y := ⟨_, List.getElem?_eq_getElem hlt⟩
      obtain ⟨g, off, rfl, d0⟩ := HR.out k y hy
      have HY := Lib.hid hy
      have hi0 : (0 : Int) ≤ (k : Int) := by omega
      have hi1 : (k : Int) < (l.length : Int) := by omega
      clear hy
      by_cases hx : y = x
      · obtain rfl : bb = true := HBB.out.trans (decide_eq_true (by rw [← hx]; exact List.mem_of_getElem? HY.out))
        have hb : (y == x) = true := by rw [beq_iff_eq]; exact hx
        have HE : Hid (l.erase x = l.take k ++ l.drop (k + 1)) := (show l.erase x = l.take k ++ l.drop (k + 1) from drop_cut (by rw [← hx]; exact HY.out) hd.out)
        have hk1 : (0 : Int) ≤ (k : Int) + 1 := by omega
        have hk2 : (k : Int) + 1 ≤ (l.length : Int) := by omega
        have hk3 : (k : Int) ≤ (cap : Int) := by omega
        have hk4 : (k : Int) ≤ (k : Int) + 1 := by omega
        have hw1 : IntKind.i64.wrap ((k : Int) + 1) = (k : Int) + 1 := IntWalk.i64_in _ (by omega)
        have hw2 : ((k : Int) + 1).toNat = k + 1 := by omega
        have HS := Lib.hid (fun W hb => H.out.part c0 (W := W) hb)
        have HO1 : Hid (0 + k ≤ maxLen) := (show 0 + k ≤ maxLen by unfold maxLen; omega)
        have HO2 : Hid ((0 + k) * 8 ≤ 140737488355328) := (show (0 + k) * 8 ≤ 140737488355328 by omega)
        have HO5 : Hid (0 + k + (l.length - (k + 1)) ≤ maxLen) := (show 0 + k + (l.length - (k + 1)) ≤ maxLen by unfold maxLen; omega)
        have HO6 : Hid ((0 + k + (l.length - (k + 1))) * 8 ≤ 140737488355328) := (show (0 + k + (l.length - (k + 1))) * 8 ≤ 140737488355328 by omega)
        have HB1 := Lib.hid (fun (w1 : World) (hg : w.drew.grownBy w1 (Value.slice none 0 0).ownBlock) => (show Below w.heap.size w w1 ∧ w1.cell? ⟨r, 0, none⟩ = some (.slice (some ⟨g, off, none⟩) l.length cap) ∧ w1.frozen? ⟨r, 0, none⟩ = false by
          have hb : Below w.heap.size w w1 := ⟨hg.os, hg.tape, hg.output, hg.size, fun k hk => hg.block k hk (by simp [Value.ownBlock])⟩
          exact ⟨hb, (hb.cell (p := ⟨r, 0, none⟩) hp).trans c0, (World.frozen?_of_block (hb.block r hp)).trans f0⟩))
        have HB2 := Lib.hid (fun (w1 w2 : World) (v1 : Value) (hb : Below w.heap.size w w1) (hv : v1.ownBlock = (Value.slice none 0 0).ownBlock ∨ ∃ g, v1.ownBlock = some g ∧ w.drew.heap.size ≤ g) (hg : w1.grownBy w2 v1.ownBlock) => (show Below w.heap.size w w2 ∧ w2.cell? ⟨r, 0, none⟩ = some (.slice (some ⟨g, off, none⟩) l.length cap) ∧ w2.frozen? ⟨r, 0, none⟩ = false by
          have hb2 : Below w.heap.size w w2 := hb.trans ⟨hg.os, hg.tape, hg.output, hg.size, fun k hk => hg.block k (Nat.lt_of_lt_of_le hk hb.size) (fun e => by
            rcases hv with hv | ⟨g, hv, hge⟩
            · rw [hv] at e; cases e
            · rw [hv] at e; cases e; exact absurd hk (Nat.not_lt.2 hge))⟩
          exact ⟨hb2, (hb2.cell (p := ⟨r, 0, none⟩) hp).trans c0, (World.frozen?_of_block (hb2.block r hp)).trans f0⟩))
        have HF := Lib.hid (fun (w1 w2 : World) (v1 v2 : Value) (hb : Below w.heap.size w w2) (hv : v1.ownBlock = (Value.slice none 0 0).ownBlock ∨ ∃ g, v1.ownBlock = some g ∧ w.drew.heap.size ≤ g) (hs : w.heap.size ≤ w1.heap.size) (hr2 : RowS w2 1 v2 (0 + k + (l.length - (k + 1))) ([] ++ intC (l.take k) ++ intC (l.drop (k + 1)))) (hv2 : v2.ownBlock = v1.ownBlock ∨ ∃ g, v2.ownBlock = some g ∧ w1.heap.size ≤ g) =>
          (show RDone w r q (l.erase x) (w2.setCell ⟨r, 0, none⟩ v2) by
            rw [HE.out]
            refine H.out.made hb ?_ fun g hg' => ?_
            · have e : (l.take k ++ l.drop (k + 1)).length = 0 + k + (l.length - (k + 1)) := by simp; omega
              rw [e]
              unfold intC at hr2 ⊢
              rw [List.map_append]
              simpa using hr2
            · rcases hv2 with hv2 | ⟨g2, hv2, hge⟩
              · rw [hv2] at hg'
                rcases hv with hv | ⟨g2, hv, hge⟩
                · rw [hv] at hg'; cases hg'
                · rw [hv] at hg'; cases hg'; exact hge
              · rw [hv2] at hg'; cases hg'; omega))
        clear hx
        by_cases hcap : cap = k + 1
        · have HL0 : Hid (l.length - (k + 1) = 0 ∧ intC (l.drop (k + 1)) = []) := (show _ ∧ _ from ⟨by omega, by rw [List.drop_eq_nil_of_le (by omega)]; rfl⟩)
          go_wp2_with fail
          go_region_law (first
            | (refine step_row (by rfl) (.const (.slice none 0 0)) (.tmp 30) 23 (by rfl) 3 i0 (.int .i64 0) 1 8 Try.underlying23 HI.out HZ0.out HZ1.out HZ2.out rfl (by decide) (.slice none 0 0) 0 [] (by rfl) (RowS.nil _ _) _ k (intC (l.take k)) (by rfl) ((HS.out _ ((Below.refl _ _).drew)).1 k _ (by omega)) (intC_one _) HO1.out HO2.out ?_
               intro v1 w1 hr1 hg1 hv1
               obtain ⟨b1, q1, q2⟩ := HB1.out w1 hg1)
            | (refine step_row (by rfl) (.tmp 31) (.tmp 38) 23 (by rfl) 3 i0 (.int .i64 0) 1 8 Try.underlying23 HI.out HZ0.out HZ1.out HZ2.out rfl (by decide) v1 (0 + k) ([] ++ intC (l.take k)) (by rfl) hr1 _ (l.length - (k + 1)) (intC (l.drop (k + 1))) (by rfl) (by rw [HL0.out.2]; exact src_end HL0.out.1) (intC_one _) HO5.out HO6.out ?_
               intro v2 w2 hr2 hg2 hv2
               obtain ⟨b2, p1, p2⟩ := HB2.out w1 w2 v1 b1 hv1 hg2
               obtain ⟨a2, cap2, rfl, _⟩ := hr2.read))
          all_goals
            have HQ0 := HF.out w1 w2 v1 _ b2 hv1 b1.size hr2 hv2
            rw [Nat.zero_add] at HQ0
            have HQ := Lib.hid HQ0
            clear HQ0 hr1 hg1 hv1 hr2 hg2 hv2 b1 b2 q1 q2
            go_wp2
            go_ret
            exact ⟨rfl, HQ.out⟩
        · have hcap2 : ¬ (k + 1 = cap) := fun e => hcap e.symm
          go_wp2_with fail
          go_region_law (first
            | (refine step_row (by rfl) (.const (.slice none 0 0)) (.tmp 30) 23 (by rfl) 3 i0 (.int .i64 0) 1 8 Try.underlying23 HI.out HZ0.out HZ1.out HZ2.out rfl (by decide) (.slice none 0 0) 0 [] (by rfl) (RowS.nil _ _) _ k (intC (l.take k)) (by rfl) ((HS.out _ ((Below.refl _ _).drew)).1 k _ (by omega)) (intC_one _) HO1.out HO2.out ?_
               intro v1 w1 hr1 hg1 hv1
               obtain ⟨b1, q1, q2⟩ := HB1.out w1 hg1)
            | (refine step_row (by rfl) (.tmp 31) (.tmp 38) 23 (by rfl) 3 i0 (.int .i64 0) 1 8 Try.underlying23 HI.out HZ0.out HZ1.out HZ2.out rfl (by decide) v1 (0 + k) ([] ++ intC (l.take k)) (by rfl) hr1 _ (l.length - (k + 1)) (intC (l.drop (k + 1))) (by rfl) ((HS.out _ b1).2 (k + 1) _ (by omega)) (intC_one _) HO5.out HO6.out ?_
               intro v2 w2 hr2 hg2 hv2
               obtain ⟨b2, p1, p2⟩ := HB2.out w1 w2 v1 b1 hv1 hg2
               obtain ⟨a2, cap2, rfl, _⟩ := hr2.read))
          all_goals
            have HQ0 := HF.out w1 w2 v1 _ b2 hv1 b1.size hr2 hv2
            rw [Nat.zero_add] at HQ0
            have HQ := Lib.hid HQ0
            clear HQ0 hr1 hg1 hv1 hr2 hg2 hv2 b1 b2 q1 q2
            go_wp2
            go_ret
            exact ⟨rfl, HQ.out⟩
      · have hb : (y == x) = false := by rw [beq_eq_false_iff_ne]; exact hx
        have HD : Hid (∀ y ∈ l.take (k + 1), y ≠ x) := (show ∀ y ∈ l.take (k + 1), y ≠ x by
          intro z hz
          rw [List.take_add_one, HY.out, List.mem_append] at hz
          rcases hz with hz | hz
          · exact hd.out z hz
          · cases List.mem_singleton.1 hz
            exact hx)
        clear hx hd
        go_wp2
        go_round
        case rel => exact ⟨k + 1, by go_num, by omega, HD⟩
        case measure => simp [intOf]; omega
    · obtain rfl : k = l.length := by omega
      have hn : x ∉ l := fun hx => hd.out x (by rw [List.take_length]; exact hx) rfl
      obtain rfl : bb = false := HBB.out.trans (decide_eq_false hn)
      have HQ : Hid (RDone w r q (l.erase x) w) := (show RDone w r q (l.erase x) w by rw [List.erase_of_not_mem hn]; exact H.out.same)
      clear hlt hd hn
      go_wp2
      go_ret
      exact ⟨rfl, HQ.out⟩
end
end Go.Proofs.Ytogifanooleppaa
