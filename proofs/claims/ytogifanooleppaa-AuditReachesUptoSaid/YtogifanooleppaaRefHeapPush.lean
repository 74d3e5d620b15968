/- the reference's Heap: Push. -/
import Derived.Test.YtogifanooleppaaRefHeap
namespace Go.Proofs.Ytogifanooleppaa
open Go.RowKit
set_option linter.unusedVariables false

section
variable {r : Nat} {q : Option Nat} {l : List Int} {w w' : World}
/-- a number goes into a rising list -/
def insL (l : List Int) (x : Int) (k : Nat) : List Int := l.take k ++ (x :: l.drop k)
theorem insL_len (l : List Int) (x : Int) {k : Nat} (hk : k ≤ l.length) : (insL l x k).length = k + 1 + (l.length - k) := by unfold insL; simp; omega
theorem mem_insL {l : List Int} {x y : Int} {k : Nat} : y ∈ insL l x k ↔ y = x ∨ y ∈ l := by
  unfold insL
  rw [List.mem_append, List.mem_cons]
  conv => rhs; rw [← List.take_append_drop k l, List.mem_append]
  constructor
  · rintro (h | h | h)
    · exact .inr (.inl h)
    · exact .inl h
    · exact .inr (.inr h)
  · rintro (h | h | h)
    · exact .inr (.inl h)
    · exact .inl h
    · exact .inr (.inr h)
/-- where it goes in -/
def InAt (l : List Int) (x : Int) (k : Nat) : Prop := k ≤ l.length ∧ (∀ y ∈ l.take k, y < x) ∧ ∀ y, l[k]? = some y → ¬ y < x
theorem insL_rising {l : List Int} {x : Int} {k : Nat} (hl : l.Pairwise (· < ·)) (hx : x ∉ l) (h : InAt l x k) : (insL l x k).Pairwise (· < ·) := by
  obtain ⟨h1, h2, h3⟩ := h
  have hs : ((l.take k) ++ (l.drop k)).Pairwise (· < ·) := by rw [List.take_append_drop]; exact hl
  rw [List.pairwise_append] at hs
  obtain ⟨s1, s2, s3⟩ := hs
  have hd : ∀ y ∈ l.drop k, x < y := by
    by_cases hk : k < l.length
    · rw [List.drop_eq_getElem_cons hk] at s2 ⊢
      rw [List.pairwise_cons] at s2
      have hk0 := h3 l[k] (List.getElem?_eq_getElem hk)
      have hne : l[k] ≠ x := fun e => hx (e ▸ List.getElem_mem hk)
      intro y hy
      rcases List.mem_cons.1 hy with rfl | hy
      · omega
      · have := s2.1 y hy; omega
    · rw [List.drop_eq_nil_of_le (by omega)]
      intro y hy; cases hy
  unfold insL
  rw [List.pairwise_append, List.pairwise_cons]
  refine ⟨s1, ⟨hd, s2⟩, fun a ha b hb => ?_⟩
  rcases List.mem_cons.1 hb with rfl | hb
  · exact h2 a ha
  · exact s3 a ha b hb
/-- what Push does -/
def RPush (w : World) (r : Nat) (q : Option Nat) (l : List Int) (x : Int) (en : Ending) (w' : World) : Prop :=
  (x ∈ l ∧ en = .returned (.bool false) ∧ w' = w) ∨ (x ∉ l ∧ en = .returned (.bool true) ∧ ∃ k, InAt l x k ∧ RDone w r q (insL l x k) w')
theorem below_nil {W w1 : World} (hb : Below w.heap.size w W) (hg : W.grownBy w1 (Value.slice none 0 0).ownBlock) : Below w.heap.size w w1 :=
  hb.trans ⟨hg.os, hg.tape, hg.output, hg.size, fun k hk => hg.block k (Nat.lt_of_lt_of_le hk hb.size) (by simp [Value.ownBlock])⟩
theorem below_own1 {W w1 : World} {v : Value} (hb : Below w.heap.size w W) (hg : W.grownBy w1 v.ownBlock) (hv : ∀ g, v.ownBlock = some g → w.heap.size ≤ g) : Below w.heap.size w w1 :=
  hb.trans ⟨hg.os, hg.tape, hg.output, hg.size, fun k hk => hg.block k (Nat.lt_of_lt_of_le hk hb.size) (fun e => by have := hv k e.symm; omega)⟩
theorem own_far {W : World} {v v1 : Value} (hb : Below w.heap.size w W) (hv1 : ∀ g, v1.ownBlock = some g → w.heap.size ≤ g) (hv : v.ownBlock = v1.ownBlock ∨ ∃ g, v.ownBlock = some g ∧ W.heap.size ≤ g) : ∀ g, v.ownBlock = some g → w.heap.size ≤ g := by
  intro g hg
  rcases hv with hv | ⟨g2, hv, hge⟩
  · exact hv1 g (by rw [← hv]; exact hg)
  · rw [hv] at hg; cases hg; exact Nat.le_trans hb.size hge
theorem none_far (n : Nat) : ∀ g, (Value.slice none 0 0).ownBlock = some g → n ≤ g := fun g h => by cases h
theorem src_grown {W w1 : World} {sv : Value} {n : Nat} {xs : List Value} (h : Src W sv n 1 xs) (hg : W.grownBy w1 (Value.slice none 0 0).ownBlock) : Src w1 sv n 1 xs := by
  rcases h with h | ⟨ad, c, h1, h2, h3⟩
  · exact .inl h
  · exact .inr ⟨ad, c, h1, h2, fun j u hu => by
      have := h3 j u hu
      exact (World.cell?_of_block (hg.block _ (World.block_lt_of_cell? W _ this) (by simp [Value.ownBlock]))).trans this⟩
theorem row_alloc {W : World} {v : Value} {n : Nat} {xs : List Value} (h : RowS W 1 v n xs) (ob : Obj) : RowS (W.alloc ob) 1 v n xs := h.keeps ((Keeps.refl [] _).alloc _) fun _ _ => List.not_mem_nil
set_option maxRecDepth 100000 in
set_option maxHeartbeats 4000000 in
theorem rhPush_any (x : Int) (w : World) (h : RefH w r q l) (hl : l.length < 1048576) :
    Calls Try.prog 46 #[.pointer (some ⟨r, 0, none⟩), .int .i64 x] w (RPush w r q l x) := by
  obtain ⟨a0, cap, c0, f0, hq0, h5, h6, hrow, hr⟩ := h.read
  have hp := h.lt r (by simp)
  obtain ⟨i0, hi, hz0, hz1, hz2⟩ := info_parts leastInfo1
  have HI := Lib.hid hi
  have HZ0 := Lib.hid hz0
  have HZ1 := Lib.hid hz1
  have HZ2 := Lib.hid hz2
  have H := Lib.hid h
  have HR := Lib.hid hr
  have HH := Lib.hid (rhHas_any x w h (by omega))
  have HROW := Lib.hid hrow
  clear h hi hz0 hz1 hz2 hr hq0 hrow
  by_cases hm : x ∈ l
  · rw [show decide (x ∈ l) = true from decide_eq_true hm] at HH
    have HM := Lib.hid hm
    clear hm
    go_enter Try.func46, Try.ntmps46
    go_wp2_with fail
    refine HH.out.mono ?_
    rintro e w1 ⟨rfl, rfl⟩
    go_wp2
    go_ret
    exact .inl ⟨HM.out, rfl, rfl⟩
  · rw [show decide (x ∈ l) = false from decide_eq_false hm] at HH
    have HM := Lib.hid hm
    clear hm
    go_enter Try.func46, Try.ntmps46
    go_wp2_with fail
    refine HH.out.mono ?_
    rintro e w1 ⟨rfl, rfl⟩
    go_wp2_with fail
    go_loop [5] (fun i => ∃ k : Nat, i = .int .i64 (k : Nat) ∧ k ≤ l.length ∧ Hid (∀ y ∈ l.take k, y < x)) (fun i => l.length - (intOf i).toNat)
    case atStart => exact ⟨0, rfl, Nat.zero_le _, fun r hr => by simp at hr⟩
    case round =>
      obtain ⟨k, rfl, hk, hd⟩ := hrel
      by_cases hgo : ∃ y, l[k]? = some y ∧ y < x
      · obtain ⟨y, hy, hyx⟩ := hgo
        have hlt : k < l.length := (List.getElem?_eq_some_iff.1 hy).1
        obtain ⟨g, off, rfl, d0⟩ := HR.out k y hy
        have hi0 : (0 : Int) ≤ (k : Int) := by omega
        have hi1 : (k : Int) < (l.length : Int) := by omega
        have HD : Hid (∀ y ∈ l.take (k + 1), y < x) := (show ∀ y ∈ l.take (k + 1), y < x by
          intro z hz
          rw [List.take_add_one, hy, List.mem_append] at hz
          rcases hz with hz | hz
          · exact hd.out z hz
          · cases List.mem_singleton.1 hz
            exact hyx)
        clear hy hd
        go_wp2
        go_round
        case rel => exact ⟨k + 1, by go_num, by omega, HD⟩
        case measure => simp [intOf]; omega
      · have HIN : Hid (InAt l x k) := (show InAt l x k from ⟨hk, hd.out, fun y hy hlt => hgo ⟨y, hy, hlt⟩⟩)
        clear hd
        have HO1 : Hid (0 + k ≤ maxLen) := (show 0 + k ≤ maxLen by unfold maxLen; omega)
        have HO2 : Hid ((0 + k) * 8 ≤ 140737488355328) := (show (0 + k) * 8 ≤ 140737488355328 by omega)
        have HO3 : Hid (0 + k + 1 ≤ maxLen) := (show 0 + k + 1 ≤ maxLen by unfold maxLen; omega)
        have HO4 : Hid ((0 + k + 1) * 8 ≤ 140737488355328) := (show (0 + k + 1) * 8 ≤ 140737488355328 by omega)
        have HO5 : Hid (0 + k + 1 + (l.length - k) ≤ maxLen) := (show 0 + k + 1 + (l.length - k) ≤ maxLen by unfold maxLen; omega)
        have HO6 : Hid ((0 + k + 1 + (l.length - k)) * 8 ≤ 140737488355328) := (show (0 + k + 1 + (l.length - k)) * 8 ≤ 140737488355328 by omega)
        have HF := Lib.hid (fun (w3 : World) (v3 : Value) (hb : Below w.heap.size w w3) (hr3 : RowS w3 1 v3 (0 + k + 1 + (l.length - k)) ([] ++ intC (l.take k) ++ [.int .i64 x] ++ intC (l.drop k))) (hv3 : ∀ g, v3.ownBlock = some g → w.heap.size ≤ g) =>
          (show RPush w r q l x (.returned (.bool true)) (w3.setCell ⟨r, 0, none⟩ v3) by
            refine .inr ⟨HM.out, rfl, k, HIN.out, H.out.made hb ?_ hv3⟩
            rw [insL_len l x hk]
            unfold insL intC at *
            rw [List.map_append, List.map_cons]
            simpa using hr3))
        have hk1 : (k : Int) ≤ (l.length : Int) := by omega
        have hk0 : (0 : Int) ≤ (k : Int) := by omega
        have hk3 : (k : Int) ≤ (cap : Int) := by omega
        have HEND : (k = l.length ∧ a0 = none) ∨ (k = l.length ∧ (∃ g off, a0 = some ⟨g, off, none⟩) ∧ cap = k) ∨ (k = l.length ∧ (∃ g off, a0 = some ⟨g, off, none⟩) ∧ cap ≠ k) ∨ (k < l.length ∧ ∃ y, l[k]? = some y ∧ ¬ y < x) := by
          by_cases hlt : k < l.length
          · exact .inr (.inr (.inr ⟨hlt, _, List.getElem?_eq_getElem hlt, fun h => hgo ⟨_, List.getElem?_eq_getElem hlt, h⟩⟩))
          · have hke : k = l.length := by omega
            cases ha : a0 with
            | none => exact .inl ⟨hke, rfl⟩
            | some ad =>
              obtain ⟨a', cap', e, _, _, _, r4⟩ := HROW.out.read
              cases e
              have hform : ∃ g off, ad = ⟨g, off, none⟩ := by
                rcases HROW.out.2 with ⟨e2, _⟩ | ⟨g, off, cap2, cur, e2, e3, _⟩
                · rw [ha] at e2; cases e2
                · rw [ha] at e3; cases e3; exact ⟨g, off, rfl⟩
              obtain ⟨g, off, rfl⟩ := hform
              by_cases hc : cap = k
              · exact .inr (.inl ⟨hke, ⟨g, off, rfl⟩, hc⟩)
              · exact .inr (.inr (.inl ⟨hke, ⟨g, off, rfl⟩, hc⟩))
        clear hgo
        rcases HEND with ⟨he, rfl⟩ | ⟨he, ⟨g, off, rfl⟩, hcap⟩ | ⟨he, ⟨g, off, rfl⟩, hcap⟩ | ⟨hlt, y, hy, hyx⟩
        · have hl0 : l.length = 0 ∧ cap = 0 := by
            obtain ⟨a', cap', e, _, _, e2, _⟩ := HROW.out.read
            cases e
            exact e2 rfl
          obtain ⟨hl1, rfl⟩ := hl0
          obtain rfl : l = [] := List.length_eq_zero_iff.1 hl1
          simp only [List.length_nil] at he
          subst he
          simp only [List.length_nil] at c0
          clear hl1 hk hk0 hk1 hk3 h5 h6
          have hk0 : True := trivial
          have HB := Lib.hid (fun (W : World) (hb : Below w.heap.size w W) => (show W.cell? ⟨r, 0, none⟩ = some (.slice none 0 0) ∧ W.frozen? ⟨r, 0, none⟩ = false ∧ r < W.heap.size from ⟨(hb.cell (p := ⟨r, 0, none⟩) hp).trans c0, (World.frozen?_of_block (hb.block r hp)).trans f0, Nat.lt_of_lt_of_le hp hb.size⟩))
          go_wp2_with fail
          go_region_law (first
            | (refine step_row (by rfl) (.const (.slice none 0 0)) (.tmp 35) 23 (by rfl) 3 i0 (.int .i64 0) 1 8 Try.underlying23 HI.out HZ0.out HZ1.out HZ2.out rfl (by decide) (.slice none 0 0) 0 [] (by rfl) (RowS.nil _ _) _ 0 [] (by rfl) (.inl ⟨rfl, rfl, rfl⟩) (intC_one []) HO1.out HO2.out ?_
               intro v1 w1 hr1 hg1 hv1
               have b1 : Below w.heap.size w w1 := by first | exact below_nil ((Below.refl _ _).drew) hg1 | exact below_nil (((Below.refl _ _).alloc (Nat.le_refl _) _).drew) hg1
               have n1 : ∀ g, v1.ownBlock = some g → w.heap.size ≤ g := by first | exact own_far ((Below.refl _ _).drew) (none_far _) hv1 | exact own_far (((Below.refl _ _).alloc (Nat.le_refl _) _).drew) (none_far _) hv1
               obtain ⟨q1, q2, p1⟩ := HB.out w1 b1)
            | (refine step_row (by rfl) (.tmp 36) (.tmp 38) 23 (by rfl) 3 i0 (.int .i64 0) 1 8 Try.underlying23 HI.out HZ0.out HZ1.out HZ2.out rfl (by decide) v1 _ _ (by rfl) (by first | exact hr1 | exact row_alloc hr1 _) _ 1 [.int .i64 x] (by rfl) (by first | exact new_one _ _ _ | exact src_grown (src_drew (new_one w _ _)) hg1) (one_of rfl) HO3.out HO4.out ?_
               intro v2 w2 hr2 hg2 hv2
               have b2 : Below w.heap.size w w2 := by first | exact below_own1 b1 hg2 n1 | exact below_own1 (b1.alloc b1.size _) hg2 n1
               have n2 : ∀ g, v2.ownBlock = some g → w.heap.size ≤ g := by first | exact own_far b1 n1 hv2 | exact own_far (b1.alloc b1.size _) n1 hv2
               obtain ⟨q3, q4, p2⟩ := HB.out w2 b2)
            | (refine step_row (by rfl) (.tmp 39) (.tmp 45) 23 (by rfl) 3 i0 (.int .i64 0) 1 8 Try.underlying23 HI.out HZ0.out HZ1.out HZ2.out rfl (by decide) v2 _ _ (by rfl) hr2 _ 0 [] (by rfl) (.inl ⟨rfl, rfl, rfl⟩) (intC_one []) HO5.out HO6.out ?_
               intro v3 w3 hr3 hg3 hv3
               have b3 := below_own1 b2 hg3 n2
               have n3 := own_far b2 n2 hv3
               obtain ⟨q5, q6, p3⟩ := HB.out w3 b3
               obtain ⟨a3, cap3, rfl, _⟩ := hr3.read))
          all_goals
            have HQ0 := HF.out w3 _ b3 hr3 n3
            have HQ := Lib.hid HQ0
            clear hr1 hg1 hv1 hr2 hg2 hv2 hr3 hg3 hv3 b1 b2 b3 n1 n2 n3 q1 q2 q3 q4 q5 q6 p1 p2 p3 HQ0
            go_wp2
            go_ret
            exact HQ.out
        · subst he
          subst hcap
          have HL0 : Hid (l.length - l.length = 0 ∧ intC (l.drop l.length) = []) := (show _ ∧ _ from ⟨by omega, by rw [List.drop_eq_nil_of_le (Nat.le_refl _)]; rfl⟩)
          have HS := Lib.hid (fun W hb => H.out.part c0 (W := W) hb)
          have HB := Lib.hid (fun (W : World) (hb : Below w.heap.size w W) => (show W.cell? ⟨r, 0, none⟩ = some (.slice (some ⟨g, off, none⟩) l.length l.length) ∧ W.frozen? ⟨r, 0, none⟩ = false ∧ r < W.heap.size from ⟨(hb.cell (p := ⟨r, 0, none⟩) hp).trans c0, (World.frozen?_of_block (hb.block r hp)).trans f0, Nat.lt_of_lt_of_le hp hb.size⟩))
          go_wp2_with fail
          go_region_law (first
            | (refine step_row (by rfl) (.const (.slice none 0 0)) (.tmp 35) 23 (by rfl) 3 i0 (.int .i64 0) 1 8 Try.underlying23 HI.out HZ0.out HZ1.out HZ2.out rfl (by decide) (.slice none 0 0) 0 [] (by rfl) (RowS.nil _ _) _ l.length (intC (l.take l.length)) (by rfl) ((HS.out _ (by first | exact (Below.refl _ _).drew | exact ((Below.refl _ _).alloc (Nat.le_refl _) _).drew)).1 l.length _ (Nat.le_refl _)) (intC_one _) HO1.out HO2.out ?_
               intro v1 w1 hr1 hg1 hv1
               have b1 : Below w.heap.size w w1 := by first | exact below_nil ((Below.refl _ _).drew) hg1 | exact below_nil (((Below.refl _ _).alloc (Nat.le_refl _) _).drew) hg1
               have n1 : ∀ g, v1.ownBlock = some g → w.heap.size ≤ g := by first | exact own_far ((Below.refl _ _).drew) (none_far _) hv1 | exact own_far (((Below.refl _ _).alloc (Nat.le_refl _) _).drew) (none_far _) hv1
               obtain ⟨q1, q2, p1⟩ := HB.out w1 b1)
            | (refine step_row (by rfl) (.tmp 36) (.tmp 38) 23 (by rfl) 3 i0 (.int .i64 0) 1 8 Try.underlying23 HI.out HZ0.out HZ1.out HZ2.out rfl (by decide) v1 (0 + l.length) ([] ++ intC (l.take l.length)) (by rfl) (by first | exact hr1 | exact row_alloc hr1 _) _ 1 [.int .i64 x] (by rfl) (by first | exact new_one _ _ _ | exact src_grown (src_drew (new_one w _ _)) hg1) (one_of rfl) HO3.out HO4.out ?_
               intro v2 w2 hr2 hg2 hv2
               have b2 : Below w.heap.size w w2 := by first | exact below_own1 b1 hg2 n1 | exact below_own1 (b1.alloc b1.size _) hg2 n1
               have n2 : ∀ g, v2.ownBlock = some g → w.heap.size ≤ g := by first | exact own_far b1 n1 hv2 | exact own_far (b1.alloc b1.size _) n1 hv2
               obtain ⟨q3, q4, p2⟩ := HB.out w2 b2)
            | (refine step_row (by rfl) (.tmp 39) (.tmp 45) 23 (by rfl) 3 i0 (.int .i64 0) 1 8 Try.underlying23 HI.out HZ0.out HZ1.out HZ2.out rfl (by decide) v2 (0 + l.length + 1) ([] ++ intC (l.take l.length) ++ [.int .i64 x]) (by rfl) hr2 _ 0 [] (by rfl) (src_end rfl) (intC_one []) HO3.out HO4.out ?_
               intro v3 w3 hr3 hg3 hv3
               have b3 := below_own1 b2 hg3 n2
               have n3 := own_far b2 n2 hv3
               obtain ⟨q5, q6, p3⟩ := HB.out w3 b3
               obtain ⟨a3, cap3, rfl, _⟩ := hr3.read))
          all_goals
            have HQ0 := HF.out w3 _ b3 (by rw [HL0.out.1, HL0.out.2]; exact hr3) n3
            rw [Nat.zero_add] at HQ0
            have HQ := Lib.hid HQ0
            clear hr1 hg1 hv1 hr2 hg2 hv2 hr3 hg3 hv3 b1 b2 b3 n1 n2 n3 q1 q2 q3 q4 q5 q6 p1 p2 p3 HQ0
            go_wp2
            go_ret
            exact HQ.out
        · subst he
          have hcap2 : ¬ l.length = cap := fun e => hcap e.symm
          have HL0 : Hid (l.length - l.length = 0 ∧ intC (l.drop l.length) = []) := (show _ ∧ _ from ⟨by omega, by rw [List.drop_eq_nil_of_le (Nat.le_refl _)]; rfl⟩)
          have HS := Lib.hid (fun W hb => H.out.part c0 (W := W) hb)
          have HB := Lib.hid (fun (W : World) (hb : Below w.heap.size w W) => (show W.cell? ⟨r, 0, none⟩ = some (.slice (some ⟨g, off, none⟩) l.length cap) ∧ W.frozen? ⟨r, 0, none⟩ = false ∧ r < W.heap.size from ⟨(hb.cell (p := ⟨r, 0, none⟩) hp).trans c0, (World.frozen?_of_block (hb.block r hp)).trans f0, Nat.lt_of_lt_of_le hp hb.size⟩))
          go_wp2_with fail
          go_region_law (first
            | (refine step_row (by rfl) (.const (.slice none 0 0)) (.tmp 35) 23 (by rfl) 3 i0 (.int .i64 0) 1 8 Try.underlying23 HI.out HZ0.out HZ1.out HZ2.out rfl (by decide) (.slice none 0 0) 0 [] (by rfl) (RowS.nil _ _) _ l.length (intC (l.take l.length)) (by rfl) ((HS.out _ (by first | exact (Below.refl _ _).drew | exact ((Below.refl _ _).alloc (Nat.le_refl _) _).drew)).1 l.length _ (Nat.le_refl _)) (intC_one _) HO1.out HO2.out ?_
               intro v1 w1 hr1 hg1 hv1
               have b1 : Below w.heap.size w w1 := by first | exact below_nil ((Below.refl _ _).drew) hg1 | exact below_nil (((Below.refl _ _).alloc (Nat.le_refl _) _).drew) hg1
               have n1 : ∀ g, v1.ownBlock = some g → w.heap.size ≤ g := by first | exact own_far ((Below.refl _ _).drew) (none_far _) hv1 | exact own_far (((Below.refl _ _).alloc (Nat.le_refl _) _).drew) (none_far _) hv1
               obtain ⟨q1, q2, p1⟩ := HB.out w1 b1)
            | (refine step_row (by rfl) (.tmp 36) (.tmp 38) 23 (by rfl) 3 i0 (.int .i64 0) 1 8 Try.underlying23 HI.out HZ0.out HZ1.out HZ2.out rfl (by decide) v1 (0 + l.length) ([] ++ intC (l.take l.length)) (by rfl) (by first | exact hr1 | exact row_alloc hr1 _) _ 1 [.int .i64 x] (by rfl) (by first | exact new_one _ _ _ | exact src_grown (src_drew (new_one w _ _)) hg1) (one_of rfl) HO3.out HO4.out ?_
               intro v2 w2 hr2 hg2 hv2
               have b2 : Below w.heap.size w w2 := by first | exact below_own1 b1 hg2 n1 | exact below_own1 (b1.alloc b1.size _) hg2 n1
               have n2 : ∀ g, v2.ownBlock = some g → w.heap.size ≤ g := by first | exact own_far b1 n1 hv2 | exact own_far (b1.alloc b1.size _) n1 hv2
               obtain ⟨q3, q4, p2⟩ := HB.out w2 b2)
            | (refine step_row (by rfl) (.tmp 39) (.tmp 45) 23 (by rfl) 3 i0 (.int .i64 0) 1 8 Try.underlying23 HI.out HZ0.out HZ1.out HZ2.out rfl (by decide) v2 (0 + l.length + 1) ([] ++ intC (l.take l.length) ++ [.int .i64 x]) (by rfl) hr2 _ 0 [] (by rfl) (src_end rfl) (intC_one []) HO3.out HO4.out ?_
               intro v3 w3 hr3 hg3 hv3
               have b3 := below_own1 b2 hg3 n2
               have n3 := own_far b2 n2 hv3
               obtain ⟨q5, q6, p3⟩ := HB.out w3 b3
               obtain ⟨a3, cap3, rfl, _⟩ := hr3.read))
          all_goals
            have HQ0 := HF.out w3 _ b3 (by rw [HL0.out.1, HL0.out.2]; exact hr3) n3
            rw [Nat.zero_add] at HQ0
            have HQ := Lib.hid HQ0
            clear hr1 hg1 hv1 hr2 hg2 hv2 hr3 hg3 hv3 b1 b2 b3 n1 n2 n3 q1 q2 q3 q4 q5 q6 p1 p2 p3 HQ0
            go_wp2
            go_ret
            exact HQ.out
        · obtain ⟨g, off, rfl, d0⟩ := HR.out k y hy
          have HS := Lib.hid (fun W hb => H.out.part c0 (W := W) hb)
          have HLE : Hid (k ≤ l.length) := hk
          have hcap : ¬ cap = k := by omega
          have hcap2 : ¬ k = cap := by omega
          have hi1 : (k : Int) < (l.length : Int) := by omega
          have hyx2 : decide (y < x) = false := decide_eq_false hyx
          clear hy hyx
          have HB := Lib.hid (fun (W : World) (hb : Below w.heap.size w W) => (show W.cell? ⟨r, 0, none⟩ = some (.slice (some ⟨g, off, none⟩) l.length cap) ∧ W.frozen? ⟨r, 0, none⟩ = false ∧ r < W.heap.size from ⟨(hb.cell (p := ⟨r, 0, none⟩) hp).trans c0, (World.frozen?_of_block (hb.block r hp)).trans f0, Nat.lt_of_lt_of_le hp hb.size⟩))
          go_wp2_with fail
          go_region_law (first
            | (refine step_row (by rfl) (.const (.slice none 0 0)) (.tmp 35) 23 (by rfl) 3 i0 (.int .i64 0) 1 8 Try.underlying23 HI.out HZ0.out HZ1.out HZ2.out rfl (by decide) (.slice none 0 0) 0 [] (by rfl) (RowS.nil _ _) _ k (intC (l.take k)) (by rfl) ((HS.out _ (by first | exact (Below.refl _ _).drew | exact ((Below.refl _ _).alloc (Nat.le_refl _) _).drew)).1 k _ HLE.out) (intC_one _) HO1.out HO2.out ?_
               intro v1 w1 hr1 hg1 hv1
               have b1 : Below w.heap.size w w1 := by first | exact below_nil ((Below.refl _ _).drew) hg1 | exact below_nil (((Below.refl _ _).alloc (Nat.le_refl _) _).drew) hg1
               have n1 : ∀ g, v1.ownBlock = some g → w.heap.size ≤ g := by first | exact own_far ((Below.refl _ _).drew) (none_far _) hv1 | exact own_far (((Below.refl _ _).alloc (Nat.le_refl _) _).drew) (none_far _) hv1
               obtain ⟨q1, q2, p1⟩ := HB.out w1 b1)
            | (refine step_row (by rfl) (.tmp 36) (.tmp 38) 23 (by rfl) 3 i0 (.int .i64 0) 1 8 Try.underlying23 HI.out HZ0.out HZ1.out HZ2.out rfl (by decide) v1 (0 + k) ([] ++ intC (l.take k)) (by rfl) (by first | exact hr1 | exact row_alloc hr1 _) _ 1 [.int .i64 x] (by rfl) (by first | exact new_one _ _ _ | exact src_grown (src_drew (new_one w _ _)) hg1) (one_of rfl) HO3.out HO4.out ?_
               intro v2 w2 hr2 hg2 hv2
               have b2 : Below w.heap.size w w2 := by first | exact below_own1 b1 hg2 n1 | exact below_own1 (b1.alloc b1.size _) hg2 n1
               have n2 : ∀ g, v2.ownBlock = some g → w.heap.size ≤ g := by first | exact own_far b1 n1 hv2 | exact own_far (b1.alloc b1.size _) n1 hv2
               obtain ⟨q3, q4, p2⟩ := HB.out w2 b2)
            | (refine step_row (by rfl) (.tmp 39) (.tmp 45) 23 (by rfl) 3 i0 (.int .i64 0) 1 8 Try.underlying23 HI.out HZ0.out HZ1.out HZ2.out rfl (by decide) v2 (0 + k + 1) ([] ++ intC (l.take k) ++ [.int .i64 x]) (by rfl) hr2 _ (l.length - k) (intC (l.drop k)) (by rfl) ((HS.out _ b2).2 k _ HLE.out) (intC_one _) HO5.out HO6.out ?_
               intro v3 w3 hr3 hg3 hv3
               have b3 := below_own1 b2 hg3 n2
               have n3 := own_far b2 n2 hv3
               obtain ⟨q5, q6, p3⟩ := HB.out w3 b3
               obtain ⟨a3, cap3, rfl, _⟩ := hr3.read))
          all_goals
            have HQ0 := HF.out w3 _ b3 hr3 n3
            rw [Nat.zero_add] at HQ0
            have HQ := Lib.hid HQ0
            clear hr1 hg1 hv1 hr2 hg2 hv2 hr3 hg3 hv3 b1 b2 b3 n1 n2 n3 q1 q2 q3 q4 q5 q6 p1 p2 p3 HQ0
            go_wp2
            go_ret
            exact HQ.out
end
end Go.Proofs.Ytogifanooleppaa
