/- the reference's Set: a row of bools. -/
import Derived.Test.YtkfgpgllpegleaaDoorSetRun
import Derived.Test.YtkfgpgllpegleaaDoorLst
import Derived.Test.YtkfgpgllpegleaaDoorRef
namespace Go.Proofs.YtkfgpgllpegleaaDoor
open Go.RowKit
set_option linter.unusedVariables false

/-- block p is the reference's Set of the numbers below n: block g holds what is there -/
structure RefS (w : World) (p g n : Nat) (S : Nat → Bool) : Prop where
  small : n ≤ 1000000
  ne : p ≠ g
  head : ∃ T, w.heap[p]? = some (.cells #[.slice (some ⟨g, 0, none⟩) n n] T (0, 0))
  row : ∃ cs T, w.heap[g]? = some (.cells cs T (0, 0)) ∧ cs.size = n ∧ ∀ i, i < n → cs[i]? = some (.bool (S i))
section
variable {w w' : World} {p g n : Nat} {S S' : Nat → Bool}
theorem RefS.keeps {l : List Nat} (h : RefS w p g n S) (k : Keeps l w w') (hp : p ∉ l) (hg : g ∉ l) : RefS w' p g n S := by
  obtain ⟨h1, h2, ⟨T, h3⟩, cs, T', h4, h5⟩ := h
  exact ⟨h1, h2, ⟨T, k.at h3 hp⟩, cs, T', k.at h4 hg, h5⟩
theorem RefS.drewN (h : RefS w p g n S) (k : Nat) : RefS (w.drewN k) p g n S := ⟨h.small, h.ne, h.head, h.row⟩
theorem RefS.drew (h : RefS w p g n S) : RefS w.drew p g n S := ⟨h.small, h.ne, h.head, h.row⟩
theorem RefS.below (h : RefS w p g n S) (hb : Below w.heap.size w w') : RefS w' p g n S := h.keeps (Keeps.of_below hb (Nat.le_refl _) []) List.not_mem_nil List.not_mem_nil
theorem RefS.congr (h : RefS w p g n S) (hs : ∀ i, i < n → S i = S' i) : RefS w p g n S' := by
  obtain ⟨h1, h2, h3, cs, T', h4, h5, h6⟩ := h
  exact ⟨h1, h2, h3, cs, T', h4, h5, fun i hi => by rw [h6 i hi, hs i hi]⟩
theorem RefS.lt (h : RefS w p g n S) : p < w.heap.size ∧ g < w.heap.size := by
  obtain ⟨h1, h2, ⟨T, h3⟩, cs, T', h4, _⟩ := h
  exact ⟨(Array.getElem?_eq_some_iff.1 h3).1, (Array.getElem?_eq_some_iff.1 h4).1⟩
theorem RefS.cell (h : RefS w p g n S) : w.cell? ⟨p, 0, none⟩ = some (.slice (some ⟨g, 0, none⟩) n n) := by
  obtain ⟨T, hp⟩ := h.head
  rw [cell_of_block hp]
  rfl
theorem RefS.at (h : RefS w p g n S) {k : Nat} (hk : k < n) : w.cell? ⟨g, k, none⟩ = some (.bool (S k)) ∧ w.frozen? ⟨g, k, none⟩ = false := by
  obtain ⟨cs, T, hg, _, h1⟩ := h.row
  exact ⟨by rw [cell_of_block hg]; exact h1 k hk, free_of_block hg⟩
theorem RefS.set (h : RefS w p g n S) {k : Nat} (hk : k < n) (b : Bool) : RefS (w.setCell ⟨g, k, none⟩ (.bool b)) p g n (fun j => if j = k then b else S j) := by
  obtain ⟨h1, h2, ⟨T, h3⟩, cs, T', h4, h5, h6⟩ := h
  refine ⟨h1, h2, ⟨T, (setCell_other _ h2).trans h3⟩, _, T', setCell_block h4 _, by simpa using h5, fun i hi => ?_⟩
  rw [Array.getElem?_setIfInBounds]
  by_cases e : k = i
  · subst e; rw [if_pos rfl, if_pos (by omega), if_pos rfl]
  · rw [if_neg e, if_neg (by omega)]; exact h6 i hi

theorem rshas_in (k : Nat) (w : World) (h : RefS w p g n S) (hk : k < n) :
    Calls Tryd.prog 15 #[.pointer (some ⟨p, 0, none⟩), .int .i64 (k : Nat)] w fun e w' => e = .returned (.bool (S k)) ∧ w = w' := by
  have hc := h.cell
  obtain ⟨hx, _⟩ := h.at hk
  have hn := h.small
  clear h
  go_enter Tryd.func15, Tryd.ntmps15
  go_wp2
  go_ret
  exact ⟨rfl, rfl⟩
theorem rshas_out (i : Int) (w : World) (h : RefS w p g n S) (hi : ¬ (0 ≤ i ∧ i < n)) :
    Calls Tryd.prog 15 #[.pointer (some ⟨p, 0, none⟩), .int .i64 i] w fun e w' => e = .returned (.bool false) ∧ w = w' := by
  have hc := h.cell
  have hn := h.small
  clear h
  by_cases h0 : i < 0
  · go_enter Tryd.func15, Tryd.ntmps15
    go_wp2
    go_ret
    exact ⟨rfl, rfl⟩
  · have h1 : (n : Int) ≤ i := by omega
    go_enter Tryd.func15, Tryd.ntmps15
    go_wp2
    go_ret
    exact ⟨rfl, rfl⟩
theorem rshas_any (i : Int) (w : World) (h : RefS w p g n S) :
    Calls Tryd.prog 15 #[.pointer (some ⟨p, 0, none⟩), .int .i64 i] w fun e w' => e = .returned (.bool (hasB n S i)) ∧ w = w' := by
  by_cases hi : 0 ≤ i ∧ i < n
  · obtain ⟨k, rfl⟩ := Int.eq_ofNat_of_zero_le hi.1
    exact (rshas_in k w h (by omega)).mono fun _ _ q => ⟨q.1.trans (ret_bool (by unfold hasB; simp; omega)), q.2⟩
  · exact (rshas_out i w h hi).mono fun _ _ q => ⟨q.1.trans (ret_bool (by unfold hasB; rw [decide_eq_false hi]; rfl)), q.2⟩
theorem rsadd_any (i : Int) (w : World) (h : RefS w p g n S) :
    Calls Tryd.prog 9 #[.pointer (some ⟨p, 0, none⟩), .int .i64 i] w fun e w' => e = .returned (.bool (mayB n i && !S i.toNat)) ∧ RefS w' p g n (fun j => if (0 ≤ i ∧ i < n) ∧ j = i.toNat then true else S j) ∧ Keeps [g] w w' := by
  have hc := h.cell
  have hn := h.small
  by_cases hi : 0 ≤ i ∧ i < n
  · obtain ⟨k, rfl⟩ := Int.eq_ofNat_of_zero_le hi.1
    have hk : k < n := by omega
    obtain ⟨hx, hf⟩ := h.at hk
    have F := Lib.hid (h.set hk true)
    have H := Lib.hid h
    cases hS : S k
    · rw [hS] at hx
      have E : Hid (RefS (w.setCell ⟨g, k, none⟩ (.bool true)) p g n (fun j => if (0 ≤ (k : Int) ∧ (k : Int) < n) ∧ j = (k : Int).toNat then true else S j)) := (show _ from F.out.congr fun j _ => by
        by_cases e : j = k
        · rw [if_pos e, if_pos ⟨by omega, by simpa using e⟩]
        · rw [if_neg e, if_neg (fun q => e (by simpa using q.2))])
      have HB : Hid ((mayB n (k : Int) && !S (k : Int).toNat) = true) := (show (mayB n (k : Int) && !S (k : Int).toNat) = true by unfold mayB; rw [decide_eq_true (by omega)]; simp [hS])
      clear h hS hi
      go_enter Tryd.func9, Tryd.ntmps9
      go_wp2
      go_ret
      exact ⟨ret_bool HB.out.symm, E.out, (Keeps.refl [g] w).setCell (.inl (List.mem_singleton_self _)) _⟩
    · rw [hS] at hx
      have E : Hid (RefS w p g n (fun j => if (0 ≤ (k : Int) ∧ (k : Int) < n) ∧ j = (k : Int).toNat then true else S j)) := (show _ from H.out.congr fun j _ => by
        by_cases e : j = k
        · rw [if_pos ⟨by omega, by simpa using e⟩, e, hS]
        · rw [if_neg (fun q => e (by simpa using q.2))])
      have HB : Hid ((mayB n (k : Int) && !S (k : Int).toNat) = false) := (show (mayB n (k : Int) && !S (k : Int).toNat) = false by simp [hS])
      clear h hS hi
      go_enter Tryd.func9, Tryd.ntmps9
      go_wp2
      go_ret
      exact ⟨ret_bool HB.out.symm, E.out, Keeps.refl _ _⟩
  · have E : Hid (RefS w p g n (fun j => if (0 ≤ i ∧ i < n) ∧ j = i.toNat then true else S j)) := (show _ from h.congr fun j _ => by rw [if_neg fun q => hi q.1])
    have HB : Hid ((mayB n i && !S i.toNat) = false) := (show (mayB n i && !S i.toNat) = false by unfold mayB; rw [decide_eq_false hi]; rfl)
    clear h
    generalize (fun j => if (0 ≤ i ∧ i < n) ∧ j = i.toNat then true else S j) = S' at E ⊢
    generalize (mayB n i && !S i.toNat) = bb at HB ⊢
    by_cases h0 : i < 0
    · clear hi
      go_enter Tryd.func9, Tryd.ntmps9
      go_wp2
      go_ret
      exact ⟨ret_bool HB.out.symm, E.out, Keeps.refl _ _⟩
    · have h1 : (n : Int) ≤ i := by omega
      clear hi
      go_enter Tryd.func9, Tryd.ntmps9
      go_wp2
      go_ret
      exact ⟨ret_bool HB.out.symm, E.out, Keeps.refl _ _⟩
theorem rsdrop_any (i : Int) (w : World) (h : RefS w p g n S) :
    Calls Tryd.prog 11 #[.pointer (some ⟨p, 0, none⟩), .int .i64 i] w fun e w' => e = .returned (.bool (hasB n S i)) ∧ RefS w' p g n (fun j => if (0 ≤ i ∧ i < n) ∧ j = i.toNat then false else S j) ∧ Keeps [g] w w' := by
  have C := Lib.hid (rshas_any i w h)
  have hc := h.cell
  have hn := h.small
  cases hb : hasB n S i
  · have C1 : Hid (Calls Tryd.prog 15 #[.pointer (some ⟨p, 0, none⟩), .int .i64 i] w fun e w' => e = .returned (.bool false) ∧ w = w') := (show _ from by have := C.out; rw [hb] at this; exact this)
    have E : Hid (RefS w p g n (fun j => if (0 ≤ i ∧ i < n) ∧ j = i.toNat then false else S j)) := (show _ from h.congr fun j _ => by
      by_cases q : (0 ≤ i ∧ i < n) ∧ j = i.toNat
      · rw [if_pos q, q.2]; unfold hasB at hb; rw [decide_eq_true q.1] at hb; simpa using hb
      · rw [if_neg q])
    clear h hb C
    go_enter Tryd.func11, Tryd.ntmps11
    go_wp2_with (go_at_call 15; refine C1.out.mono ?_; rintro e w' ⟨rfl, rfl⟩)
    go_ret
    exact ⟨rfl, E.out, Keeps.refl _ _⟩
  · have hi : 0 ≤ i ∧ i < n := by unfold hasB at hb; simp at hb; exact hb.1
    obtain ⟨k, rfl⟩ := Int.eq_ofNat_of_zero_le hi.1
    have hk : k < n := by omega
    have C1 : Hid (Calls Tryd.prog 15 #[.pointer (some ⟨p, 0, none⟩), .int .i64 (k : Nat)] w fun e w' => e = .returned (.bool true) ∧ w = w') := (show _ from by have := C.out; rw [hb] at this; exact this)
    obtain ⟨hx, hf⟩ := h.at hk
    have F := Lib.hid (h.set hk false)
    have E : Hid (RefS (w.setCell ⟨g, k, none⟩ (.bool false)) p g n (fun j => if (0 ≤ (k : Int) ∧ (k : Int) < n) ∧ j = (k : Int).toNat then false else S j)) := (show _ from F.out.congr fun j _ => by
      by_cases e : j = k
      · rw [if_pos e, if_pos ⟨by omega, by simpa using e⟩]
      · rw [if_neg e, if_neg (fun q => e (by simpa using q.2))])
    clear h hb hi C
    go_enter Tryd.func11, Tryd.ntmps11
    go_wp2_with (go_at_call 15; refine C1.out.mono ?_; rintro e w' ⟨rfl, rfl⟩)
    go_ret
    exact ⟨rfl, E.out, (Keeps.refl [g] w).setCell (.inl (List.mem_singleton_self _)) _⟩
end
end Go.Proofs.YtkfgpgllpegleaaDoor
