/- line's Has computes what it says. -/
import Derived.Test.YtkfgpgllpegleaaLine
namespace Go.Proofs.Ytkfgpgllpegleaa
open Go.RowKit
set_option linter.unusedVariables false

theorem cellsL_get : ∀ (l : List (Int × Nat)) (k : Nat) (x : Int × Nat), l[k]? = some x → (cellsL l)[k * 2]? = some (.int .i64 x.1) ∧ (cellsL l)[k * 2 + 1]? = some (.int .i64 (x.2 : Nat))
  | [], _, _, h => by simp at h
  | y :: r, 0, x, h => by
    simp only [List.getElem?_cons_zero, Option.some.injEq] at h
    subst h
    exact ⟨rfl, rfl⟩
  | y :: r, k + 1, x, h => by
    rw [List.getElem?_cons_succ] at h
    have := cellsL_get r k x h
    rw [show (k + 1) * 2 = k * 2 + 2 by omega]
    exact this

theorem hasOne_any (a n at_ : Int) (c : Nat) (w : World) (hc : w.cell? ⟨c, 0, none⟩ = some (.int .i64 at_)) (hl : c < w.heap.size) :
    Calls Try.prog 47 #[.agg #[.int .i64 a, .int .i64 n], .pointer (some ⟨c, 0, none⟩)] w fun e w' => e = .returned (.bool (a == at_)) ∧ Below w.heap.size w w' := by
  go_enter Try.func47, Try.ntmps47
  go_wp2
  go_ret
  exact ⟨rfl, (Below.refl _ _).alloc (Nat.le_refl _) _⟩

/-- where a thing stands in a line, or below 0 -/
def StandsIn (l : List (Int × Nat)) (at_ : Int) (r : Int) : Prop := (r = -1 ∧ ∀ x ∈ l, x.1 ≠ at_) ∨ (0 ≤ r ∧ ∃ x ∈ l, x.1 = at_)
/-- what looking for one answers -/
def SomeIndex (l : List (Int × Nat)) (at_ : Int) (w : World) (e : Ending) (w' : World) : Prop := ∃ r, e = .returned (.int .i64 r) ∧ StandsIn l at_ r ∧ Below w.heap.size w w'

theorem indexOf_any (l : List (Int × Nat)) (at_ : Int) (v : Value) (c : Nat) (w : World) (hv : RowS w 2 v l.length (cellsL l)) (hlen : l.length ≤ 1048576) (hc : w.cell? ⟨c, 0, none⟩ = some (.int .i64 at_)) (hl : c < w.heap.size) :
    Calls Try.prog 55 #[v, .func (Fn.func 47) #[] #[.pointer (some ⟨c, 0, none⟩)]] w (SomeIndex l at_ w) := by
  obtain ⟨a1, k1, rfl, h1, h2, h3, h4⟩ := hv.read
  have H4 := Lib.hid h4
  have HC := Lib.hid hc
  have hcells := line_cells
  clear hv h4 h3 h2 hc
  go_enter Try.func55, Try.ntmps55
  go_wp2_with fail
  go_loopw [8] (fun i wr => ∃ k : Nat, k ≤ l.length ∧ i = .int .i64 k ∧ Hid (∀ j x, j < k → l[j]? = some x → x.1 ≠ at_) ∧ Below w.heap.size w wr) (fun i _ => l.length - (intOf i).toNat)
  case atStart => exact ⟨0, Nat.zero_le _, rfl, fun _ _ h => absurd h (by omega), Below.refl _ _⟩
  case round =>
    obtain ⟨k, hk, rfl, hno, hbr⟩ := hrel
    have HBr := Lib.hid hbr
    clear hbr
    by_cases hlt : k < l.length
    · obtain ⟨x, hx⟩ : ∃ x, l[k]? = some x := ⟨_, List.getElem?_eq_getElem hlt⟩
      obtain ⟨e1, e2⟩ := cellsL_get l k x hx
      obtain ⟨b, off, rfl, hbl, g1⟩ := H4.out _ _ e1
      obtain ⟨b', off', e', _, g2⟩ := H4.out _ _ e2
      cases e'
      have f1 : wr.cell? ⟨b, off + k * 2, none⟩ = some (.int .i64 x.1) := (HBr.out.cell (p := ⟨b, off + k * 2, none⟩) hbl).trans g1
      have f2 : wr.cell? ⟨b, off + k * 2 + 1, none⟩ = some (.int .i64 (x.2 : Nat)) := (HBr.out.cell (p := ⟨b, off + k * 2 + 1, none⟩) hbl).trans (by rw [← g2, Nat.add_assoc])
      have fc : Hid (wr.cell? ⟨c, 0, none⟩ = some (.int .i64 at_)) := (HBr.out.cell (p := ⟨c, 0, none⟩) hl).trans HC.out
      have lc : Hid (c < wr.heap.size) := Nat.lt_of_lt_of_le hl HBr.out.size
      have HX := Lib.hid hx
      clear g1 g2 e1 e2 hx
      by_cases heq : x.1 = at_
      · have hz : (x.1 == at_) = true := by simpa using heq
        have HE := Lib.hid heq
        clear heq
        go_wp2_with fail
        refine (hasOne_any _ _ at_ c _ fc.out lc.out).mono ?_
        rintro en w2 ⟨rfl, hb2⟩
        have HB2 := Lib.hid (HBr.out.trans (hb2.mono HBr.out.size))
        clear hb2
        go_wp2
        go_ret
        exact ⟨_, rfl, .inr ⟨by omega, x, List.mem_of_getElem? HX.out, HE.out⟩, HB2.out⟩
      · have hz : (x.1 == at_) = false := by simpa using heq
        have HN : Hid (∀ j y, j < k + 1 → l[j]? = some y → y.1 ≠ at_) := (show ∀ j y, j < k + 1 → l[j]? = some y → y.1 ≠ at_ from fun j y hj hy => by
          by_cases hjk : j = k
          · subst hjk
            rw [HX.out] at hy
            cases hy
            exact heq
          · exact hno.out j y (by omega) hy)
        clear heq
        go_wp2_with fail
        refine (hasOne_any _ _ at_ c _ fc.out lc.out).mono ?_
        rintro en w2 ⟨rfl, hb2⟩
        have HB2 := Lib.hid (HBr.out.trans (hb2.mono HBr.out.size))
        clear hb2
        go_wp2
        go_roundw
        case rel => first | exact ⟨k + 1, by omega, by go_num, HN, HB2.out⟩ | ((repeat apply Exists.intro); exact ⟨⟨k + 1, by omega, by go_num, HN, HB2.out⟩, rfl⟩)
        case measure => simp [intOf]; omega
    · have hkl : k = l.length := by omega
      have HN : Hid (∀ x ∈ l, x.1 ≠ at_) := (show ∀ x ∈ l, x.1 ≠ at_ from fun x hx => by
        obtain ⟨j, hj⟩ := List.mem_iff_getElem?.1 hx
        exact hno.out j x (by have := (List.getElem?_eq_some_iff.1 hj).1; omega) hj)
      clear hkl
      go_wp2
      go_ret
      exact ⟨_, rfl, .inl ⟨rfl, HN.out⟩, HBr.out⟩
/-- does one wait -/
def hasL (l : List (Int × Nat)) (at_ : Int) : Bool := l.any fun x => x.1 == at_
/-- it is where it says -/
theorem hasL_of {l : List (Int × Nat)} {at_ r : Int} (h : StandsIn l at_ r) : (decide (0 ≤ r)) = hasL l at_ := by
  unfold hasL
  rcases h with ⟨rfl, h⟩ | ⟨h, x, hx, he⟩
  · rw [show (l.any fun x => x.1 == at_) = false from by simpa using h]; rfl
  · rw [show (l.any fun x => x.1 == at_) = true from List.any_eq_true.2 ⟨x, hx, by simpa using he⟩]
    simp [h]

theorem contains_any (l : List (Int × Nat)) (at_ : Int) (v : Value) (c : Nat) (w : World) (hv : RowS w 2 v l.length (cellsL l)) (hlen : l.length ≤ 1048576) (hc : w.cell? ⟨c, 0, none⟩ = some (.int .i64 at_)) (hl : c < w.heap.size) :
    Calls Try.prog 46 #[v, .func (Fn.func 47) #[] #[.pointer (some ⟨c, 0, none⟩)]] w fun e w' => e = .returned (.bool (hasL l at_)) ∧ Below w.heap.size w w' := by
  have C := Lib.hid (indexOf_any l at_ v c w hv hlen hc hl)
  clear hv hc hl hlen
  go_enter Try.func46, Try.ntmps46
  go_wp2_with fail
  refine (C.out).mono ?_
  rintro e w' ⟨r, rfl, hr, hb⟩
  have HR := Lib.hid hr
  have HB := Lib.hid hb
  clear hr hb
  go_wp2
  go_ret
  exact ⟨by rw [← hasL_of HR.out]; rfl, HB.out⟩

theorem hasLine_any {p bud : Nat} {q : Option Nat} {l : List (Int × Nat)} (at_ : Int) (w : World) (h : LineAt w p q bud l) :
    Calls Try.prog 30 #[.pointer (some ⟨p, 0, none⟩), .int .i64 at_] w fun e w' => e = .returned (.bool (hasL l at_)) ∧ Below w.heap.size w w' := by
  obtain ⟨T, v, hp, hv, hr⟩ := h.at_
  have hpl := (Array.getElem?_eq_some_iff.1 hp).1
  have k0 : Keeps [] w (w.alloc (.cells #[.int .i64 at_] 3)) := (Keeps.refl [] _).alloc _
  have c2 : w.cell? ⟨p, 2, none⟩ = some v := by rw [cell_of_block hp]; rfl
  have C := Lib.hid (contains_any l at_ v w.heap.size (w.alloc (.cells #[.int .i64 at_] 3)) (hr.keeps k0 fun _ _ => List.not_mem_nil) h.len (by rw [cell_of_block (heap_alloc_at _ _)]; rfl) (by rw [size_alloc]; omega))
  clear h hp hv hr k0
  go_enter Try.func30, Try.ntmps30
  go_wp2_with fail
  refine (C.out).mono ?_
  rintro e w' ⟨rfl, hb⟩
  have HB := Lib.hid hb
  clear hb
  go_wp2
  go_ret
  exact ⟨rfl, ((Below.refl _ _).alloc (Nat.le_refl _) _).trans (HB.out.mono (by rw [size_alloc]; omega))⟩
end Go.Proofs.Ytkfgpgllpegleaa
