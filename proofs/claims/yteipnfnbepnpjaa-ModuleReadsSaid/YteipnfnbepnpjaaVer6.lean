/- verify's check. -/
import Derived.Test.YteipnfnbepnpjaaVer5
import Derived.Deep.LoopGhost
namespace Go.Proofs.Yteipnfnbepnpjaa
open Go.RowKit Go.Maps
set_option linter.unusedVariables false

/-- what is known of heights, and of what is to be done -/
structure OkW (n : Nat) (h : List Int) (wk : List Nat) : Prop where
  len : h.length = n
  wk : ∀ k ∈ wk, k < n ∧ 0 ≤ hN h k ∧ hN h k ≤ 100
theorem comeN_ok {n : Nat} {h : List Int} {wk : List Nat} {j : Nat} {y : Int} (o : OkW n h wk) (hj : j < n) (h0 : 0 ≤ y) (h1 : y ≤ 100) : OkW n (comeN h wk j y).2.1 (comeN h wk j y).2.2 := by
  unfold comeN
  by_cases hneg : hN h j < 0
  · rw [if_pos hneg]
    refine ⟨by rw [List.length_set]; exact o.len, fun k hk => ?_⟩
    rw [List.mem_append, List.mem_singleton] at hk
    rcases hk with hk | rfl
    · obtain ⟨a, b, c⟩ := o.wk k hk
      have hne : j ≠ k := fun e => by subst e; omega
      have : hN (h.set j y) k = hN h k := by unfold hN; rw [List.getElem?_set_ne hne]
      rw [this]
      exact ⟨a, b, c⟩
    · have : hN (h.set k y) k = y := by unfold hN; rw [List.getElem?_set_self (by rw [o.len]; exact hj)]; rfl
      rw [this]
      exact ⟨hj, h0, h1⟩
  · rw [if_neg hneg]; exact o
theorem jumpN_ok {l : List InsT} {h : List Int} {wk : List Nat} {k : Nat} {y : Int} (o : OkW l.length h wk) (hp : (placeN l l.length (iN l k).2.2.1).isSome = true) (h0 : 0 ≤ y) : OkW l.length (jumpN l h wk k y).2.1 (jumpN l h wk k y).2.2 := by
  obtain ⟨j, hj⟩ := Option.isSome_iff_exists.1 hp
  have hlt := placeN_lt l _ _ _ hj
  unfold jumpN
  by_cases hb : 100 < y
  · rw [if_pos hb]; exact o
  · rw [if_neg hb, hj, Option.getD_some]
    split <;> exact comeN_ok o hlt h0 (by omega)
theorem elseN_ok {l : List InsT} {h : List Int} {wk : List Nat} {k : Nat} {y : Int} (o : OkW l.length h wk) (hp : jumpsN (iN l k).2.1 = true → (placeN l l.length (iN l k).2.2.1).isSome = true) (h0 : 0 ≤ y) : OkW l.length (elseN l h wk k y).2.1 (elseN l h wk k y).2.2 := by
  unfold elseN
  by_cases hj : jumpsN (iN l k).2.1 = false
  · rw [if_pos hj]; exact o
  · rw [if_neg hj]
    exact jumpN_ok o (hp (by simpa using hj)) (by split <;> omega)
theorem nextN_ok {l : List InsT} {h : List Int} {wk : List Nat} {k : Nat} (ok : OkL l) (o : OkW l.length h wk) (hk : k < l.length) (h1 : 0 ≤ hN h k) : OkW l.length (nextN l h wk k).2.1 (nextN l h wk k).2.2 := by
  have hx : l[k]? = some (iN l k) := by unfold iN; rw [List.getElem?_eq_getElem hk]; rfl
  have hp := ok.jump _ (List.mem_of_getElem? hx)
  unfold nextN
  by_cases hc : hN h k < ((effN 0 (iN l k).2.1 (iN l k).2.2.1 (iN l k).2.2.2).1 : Nat) ∨ 100 < behindN l h k
  · rw [if_pos hc]; exact o
  · rw [if_neg hc]
    have hb : 0 ≤ behindN l h k ∧ behindN l h k ≤ 100 := by
      rw [not_or] at hc
      refine ⟨?_, by omega⟩
      unfold behindN
      omega
    by_cases hf : fallsN (iN l k).2.1 = true
    · rw [if_pos hf]
      by_cases hl : k + 1 = l.length
      · rw [if_pos hl]; exact o
      · rw [if_neg hl]
        split
        · exact comeN_ok o (by omega) hb.1 hb.2
        · exact elseN_ok (comeN_ok o (by omega) hb.1 hb.2) hp hb.1
    · rw [if_neg hf]
      exact elseN_ok o hp hb.1
theorem nextN_wk {l : List InsT} {h : List Int} {wk : List Nat} {k : Nat} : (nextN l h wk k).2.2.length ≤ wk.length + 2 := by
  have c1 : ∀ (h : List Int) (wk : List Nat) (j : Nat) (y : Int), (comeN h wk j y).2.2.length ≤ wk.length + 1 := fun h wk j y => (comeN_len (h := h) (wk := wk) (k := j) y).2
  have c2 : ∀ (h : List Int) (wk : List Nat) (y : Int), (elseN l h wk k y).2.2.length ≤ wk.length + 1 := by
    intro h wk y
    unfold elseN
    by_cases hj : jumpsN (iN l k).2.1 = false
    · rw [if_pos hj]; exact Nat.le_succ _
    · rw [if_neg hj]
      generalize (if (iN l k).2.1 = 40 then y + 1 else y) = z
      unfold jumpN
      by_cases hb : 100 < z
      · rw [if_pos hb]; exact Nat.le_succ _
      · rw [if_neg hb]
        by_cases hc : (comeN h wk ((placeN l l.length (iN l k).2.2.1).getD 0) z).1 = false
        · rw [if_pos hc]; exact c1 _ _ _ _
        · rw [if_neg hc]; exact c1 _ _ _ _
  unfold nextN
  by_cases hc : hN h k < ((effN 0 (iN l k).2.1 (iN l k).2.2.1 (iN l k).2.2.2).1 : Nat) ∨ 100 < behindN l h k
  · rw [if_pos hc]; exact Nat.le_add_right _ _
  · rw [if_neg hc]
    by_cases hf : fallsN (iN l k).2.1 = true
    · rw [if_pos hf]
      by_cases hl : k + 1 = l.length
      · rw [if_pos hl]; exact Nat.le_add_right _ _
      · rw [if_neg hl]
        by_cases hd : (comeN h wk (k + 1) (behindN l h k)).1 = false
        · rw [if_pos hd]; exact Nat.le_trans (c1 _ _ _ _) (by omega)
        · rw [if_neg hd]; exact Nat.le_trans (c2 _ _ _) (by have := c1 h wk (k + 1) (behindN l h k); omega)
    · rw [if_neg hf]; exact Nat.le_trans (c2 _ _ _) (by omega)
theorem RowS.tail {w : World} {g off n cap : Nat} {u : Value} {xs : List Value} (h : RowS w 1 (.slice (some ⟨g, off, none⟩) (n + 1) cap) (n + 1) (u :: xs)) :
    (cap ≠ 1 → RowS w 1 (.slice (some ⟨g, off + 1, none⟩) n (cap - 1)) n xs) ∧ (cap = 1 → RowS w 1 (.slice (some ⟨g, off, none⟩) 0 0) 0 xs ∧ n = 0) := by
  obtain ⟨h1, h2⟩ := h
  rcases h2 with ⟨e, _⟩ | ⟨g', off', cap', cur, t, e, k1, k2, k3, k4, k5⟩
  · cases e
  · cases e
    have hx : xs.length = n := by simp at h1; omega
    refine ⟨fun _ => ⟨by rw [hx]; omega, .inr ⟨g, off + 1, cap - 1, cur, t, rfl, k1, by omega, by unfold maxLen at *; omega, by omega, fun j u hu => ?_⟩⟩, fun hc => ?_⟩
    · have := k5 (j + 1) u (by simpa using hu)
      rw [show off + 1 + j = off + (j + 1) by omega]; exact this
    · have hn : n = 0 := by omega
      have hx0 : xs = [] := List.length_eq_zero_iff.1 (by omega)
      subst hx0
      exact ⟨⟨rfl, .inr ⟨g, off, 0, cur, t, rfl, k1, Nat.le_refl _, Nat.zero_le _, by omega, fun j u hu => by simp at hu⟩⟩, hn⟩
section
variable {B pc fb mb N loc : Nat} {cv lv hv wv : Value} {l : List InsT} {h : List Int} {wk : List Nat} {w0 w w' : World}
theorem repl_step {n k : Nat} (hk : k < n) : (List.replicate k (-1 : Int) ++ List.replicate (n - k) 0).set k (-1) = List.replicate (k + 1) (-1) ++ List.replicate (n - (k + 1)) 0 := by
  rw [show n - k = (n - (k + 1)) + 1 by omega, List.replicate_succ, List.set_append_right _ _ (by simp)]
  simp [List.replicate_succ', List.append_assoc]
/-- what check does -/
def CheckDone (B : Nat) (R : Nat × Nat) (w0 : World) (en : Ending) (w' : World) : Prop := en = .returned (.tuple #[.int .i64 (R.1 : Nat), .int .i64 (R.2 : Nat)]) ∧ Below B w0 w'
/-- where the last loop stands -/
def RnAt (B pc fb mb N loc : Nat) (cv lv hv : Value) (l : List InsT) (F : Nat) (R : Nat × Nat) (gk : Nat) (h : List Int) (wk : List Nat) (w0 w : World) : Prop :=
  (∃ wv, CkS B pc fb mb N loc cv lv hv wv l h wk w0 w) ∧ runV l gk h wk = some R ∧ OkW l.length h wk ∧ wk.length + 2 * gk ≤ 1 + 2 * F
theorem runV_next {l : List InsT} {f k : Nat} {h : List Int} {wk : List Nat} {R : Nat × Nat} (hr : runV l f h (k :: wk) = some R) : ∃ f', f = f' + 1 ∧ ((nextN l h wk k).1.2 = 0 → runV l f' (nextN l h wk k).2.1 (nextN l h wk k).2.2 = some R) ∧ ((nextN l h wk k).1.2 ≠ 0 → R = (nextN l h wk k).1) := by
  cases f with
  | zero => cases hr
  | succ f =>
    refine ⟨f, rfl, fun h0 => ?_, fun h0 => ?_⟩
    · unfold runV at hr; rw [if_pos h0] at hr; exact hr
    · unfold runV at hr; rw [if_neg h0] at hr; cases hr; rfl
theorem runV_end {l : List InsT} {f : Nat} {h : List Int} {R : Nat × Nat} (hr : runV l f h [] = some R) : R = (0, 0) := by
  cases f with
  | zero => cases hr
  | succ f => unfold runV at hr; cases hr; rfl
theorem numsN_drop {loc : Nat} {l : List InsT} {k : Nat} {x : InsT} (hx : l[k]? = some x) (h : numsN loc l (l.drop k) = numsN loc l l) : (numbersN loc l x = 0 → numsN loc l (l.drop (k + 1)) = numsN loc l l) ∧ (numbersN loc l x ≠ 0 → numsN loc l l = some (x.1, numbersN loc l x)) := by
  have hk := (List.getElem?_eq_some_iff.1 hx).1
  have e : numsN loc l (x :: l.drop (k + 1)) = if numbersN loc l x = 0 then numsN loc l (l.drop (k + 1)) else some (x.1, numbersN loc l x) := rfl
  rw [List.drop_eq_getElem_cons hk, (List.getElem?_eq_some_iff.1 hx).2, e] at h
  refine ⟨fun h0 => ?_, fun h0 => ?_⟩
  · rw [if_pos h0] at h; exact h
  · rw [if_neg h0] at h; exact h.symm
theorem nums_jump {loc : Nat} {l : List InsT} : ∀ r : List InsT, numsN loc l r = none → ∀ x ∈ r, jumpsN x.2.1 = true → (placeN l l.length x.2.2.1).isSome = true
  | [], _, x, hx => by cases hx
  | i :: r, h, x, hx => by
    unfold numsN at h
    by_cases h0 : numbersN loc l i = 0
    · rw [if_pos h0] at h
      rcases List.mem_cons.1 hx with rfl | hx
      · intro hj
        unfold numbersN at h0
        split at h0
        · cases h0
        · split at h0
          · cases h0
          · next q =>
            rw [hj] at q
            cases hp : placeN l l.length x.2.2.1 with
            | none => rw [hp] at q; simp at q
            | some j => rfl
      · exact nums_jump r h x hx
    · rw [if_neg h0] at h; cases h
set_option maxRecDepth 100000 in
set_option maxHeartbeats 8000000 in
theorem check_any (F : Nat) (R : Nat × Nat) (w : World) (c : CkS B pc fb mb N loc cv lv hv (.slice none 0 0) l (List.replicate l.length 0) [] w0 w) (hll : l.length ≤ 4001) (hpos : 0 < l.length)
    (hnum : ∀ x ∈ l, x.1 ≤ 4001 ∧ x.2.1 < 44 ∧ x.2.2.1 ≤ 65535 ∧ x.2.2.2 ≤ 65535) (hloc : loc ≤ 1000) (hF : F ≤ 100000) (hR : checkN F loc l = some R) :
    Calls Try.prog 63 #[.pointer (some ⟨pc, 0, none⟩)] w (CheckDone B R w0) := by
  unfold CheckDone
  have HN := Lib.hid hnum
  have HR := Lib.hid hR
  have c7 : w.cell? ⟨pc, 7, none⟩ = some lv := c.cell 7
  obtain ⟨x0, hx0⟩ : ∃ x0, l[0]? = some x0 := ⟨_, List.getElem?_eq_getElem hpos⟩
  obtain ⟨lg, loff, lcap, hlv, hlg, hlc, hlm, _⟩ := c.ins hx0
  have HLV := Lib.hid hlv
  rw [hlv] at c7
  obtain ⟨a9, cap9, hve, hc1, hc2, _⟩ := c.hrow.read
  obtain ⟨hg9, off9, hae, hgl9, _⟩ := row_cell (by have := c.hrow; rw [hve] at this; exact this) rfl (show 0 < (List.replicate l.length (0 : Int)).length by rw [List.length_replicate]; exact hpos)
  subst hae
  rw [List.length_replicate] at hve hc1
  unfold maxLen at hc2
  have HHV := Lib.hid hve
  have HS0 : Hid (CkS B pc fb mb N loc cv lv hv (.slice none 0 0) l (List.replicate l.length 0) [] w0 w ∧ numsN loc l (l.drop 0) = numsN loc l l) := ⟨c, rfl⟩
  clear c hnum hR hlv hve hx0 hlg
  go_enter Try.func63, Try.ntmps63
  go_wp2_with fail
  go_loopw [16] (fun i wr => ∃ (k : Nat), i = .int .i64 (k : Nat) ∧ k ≤ l.length ∧ Hid (CkS B pc fb mb N loc cv lv hv (.slice none 0 0) l (List.replicate l.length 0) [] w0 wr ∧ numsN loc l (l.drop k) = numsN loc l l)) (fun i _ => l.length - (intOf i).toNat)
  case atStart => exact ⟨0, rfl, Nat.zero_le _, HS0⟩
  case round =>
    obtain ⟨k, rfl, hk, hs⟩ := hrel
    obtain ⟨wo, rfl⟩ : ∃ wo : World, wo = wr := ⟨_, rfl⟩
    by_cases hlt : k < l.length
    · obtain ⟨x, hx⟩ : ∃ x, l[k]? = some x := ⟨_, List.getElem?_eq_getElem hlt⟩
      obtain ⟨g2, off2, cap2, e2, _, _, _, d0, d1, d2, d3⟩ := hs.out.1.ins hx
      rw [HLV.out] at e2
      cases e2
      obtain ⟨o1, o2, o3, o4⟩ := HN.out x (List.mem_of_getElem? hx)
      have hi0 : (0 : Int) ≤ (k : Int) := by omega
      have hi1 : (k : Int) < (l.length : Int) := by omega
      obtain ⟨n1, n2⟩ := numsN_drop hx hs.out.2
      obtain ⟨w1, hw1⟩ : ∃ w1, w1 = wo.alloc (.cells #[.int .i64 (x.1 : Nat), .int .i64 (x.2.1 : Nat), .int .i64 (x.2.2.1 : Nat), .int .i64 (x.2.2.2 : Nat)] 30) := ⟨_, rfl⟩
      have HW1 := Lib.hid hw1
      have H1 := Lib.hid (hs.out.1.below (w' := w1) (by rw [hw1]; exact (Below.refl _ _).alloc (Nat.le_refl _) _))
      have H4 := Lib.hid (fun (w2 : World) (hb2 : Below w1.heap.size w1 w2) => (show _ from four_cells wo (.int .i64 (x.1 : Nat)) (.int .i64 (x.2.1 : Nat)) (.int .i64 (x.2.2.1 : Nat)) (.int .i64 (x.2.2.2 : Nat)) 30 (w2 := w2) (by rw [← HW1.out]; exact hb2)))
      have HC := Lib.hid (numbers_any x.1 x.2.1 x.2.2.1 x.2.2.2 o2 o3 o4 hloc H1.out)
      have N1 := Lib.hid n1
      have N2 := Lib.hid n2
      obtain ⟨nn, hnn⟩ : ∃ nn, nn = numbersN loc l x := ⟨_, rfl⟩
      rw [← hnn] at N1 N2
      rw [show (x.1, x.2.1, x.2.2.1, x.2.2.2) = x from rfl, ← hnn] at HC
      obtain ⟨t, op, a, b⟩ := x
      dsimp only at *
      clear hx hnn n1 n2 hw1
      rcases (by omega : nn = 0 ∨ nn ≠ 0) with h0 | h0
      · subst h0
        go_wp2_with fail
        rw [← HW1.out]
        refine HC.out.mono ?_
        rintro en w2 ⟨rfl, hb2⟩
        have HS2 : Hid (CkS B pc fb mb N loc cv lv hv (.slice none 0 0) l (List.replicate l.length 0) [] w0 w2 ∧ numsN loc l (l.drop (k + 1)) = numsN loc l l) := ⟨H1.out.below hb2, N1.out (by first | rfl | trivial)⟩
        clear hb2
        go_wp2
        go_roundw
        case rel => first | exact ⟨k + 1, by go_num, by omega, HS2⟩ | ((repeat apply Exists.intro); exact ⟨⟨k + 1, by go_num, by omega, HS2⟩, rfl⟩)
        case measure => simp [intOf]; omega
      · have hbn : ((nn : Int) != 0) = true := by rw [bne_iff_ne]; omega
        have HRE : Hid (R = (t, nn)) := (show R = (t, nn) by
          have := HR.out
          unfold checkN at this
          rw [N2.out h0] at this
          cases this; rfl)
        go_wp2_with fail
        rw [← HW1.out]
        refine HC.out.mono ?_
        rintro en w2 ⟨rfl, hb2⟩
        obtain ⟨i0, _, _, _, _, _⟩ := H4.out w2 hb2
        have HBL := Lib.hid (H1.out.below hb2).bel
        clear hb2
        go_wp2
        go_ret2
        rw [HRE.out]
        exact ⟨rfl, HBL.out⟩
    · obtain rfl : k = l.length := by omega
      have HNO : Hid (numsN loc l l = none) := (show numsN loc l l = none by
        have := hs.out.2
        rw [List.drop_length] at this
        rw [← this]; rfl)
      have HOK : Hid (OkL l) := ⟨hll, HN.out, nums_jump l HNO.out⟩
      have HRU : Hid (runV l F ((List.replicate l.length (-1)).set 0 0) [0] = some R) := (show _ by
        have := HR.out
        unfold checkN at this
        rw [HNO.out] at this
        exact this)
      have e7 : wo.cell? ⟨pc, 7, none⟩ = some lv := hs.out.1.cell 7
      rw [HLV.out] at e7
      have HT0 : Hid (CkS B pc fb mb N loc cv lv hv (.slice none 0 0) l (List.replicate 0 (-1 : Int) ++ List.replicate (l.length - 0) 0) [] w0 wo) := hs.out.1
      clear hlt hs
      go_wp2_with fail
      go_loopw [34] (fun i wr => ∃ (k : Nat), i = .int .i64 (k : Nat) ∧ k ≤ l.length ∧ Hid (CkS B pc fb mb N loc cv lv hv (.slice none 0 0) l (List.replicate k (-1 : Int) ++ List.replicate (l.length - k) 0) [] w0 wr)) (fun i _ => l.length - (intOf i).toNat)
      case atStart => exact ⟨0, rfl, Nat.zero_le _, HT0⟩
      case round =>
        obtain ⟨k, rfl, hk, hs⟩ := hrel
        obtain ⟨wp, rfl⟩ : ∃ wp : World, wp = wr := ⟨_, rfl⟩
        by_cases hlt : k < l.length
        · have f9 : wp.cell? ⟨pc, 9, none⟩ = some hv := hs.out.cell 9
          rw [HHV.out] at f9
          have hi0 : (0 : Int) ≤ (k : Int) := by omega
          have hi1 : (k : Int) < (l.length : Int) := by omega
          have hrow := hs.out.hrow
          have hlen : (List.replicate k (-1 : Int) ++ List.replicate (l.length - k) 0).length = l.length := by simp; omega
          rw [HHV.out, hlen] at hrow
          have hfr : wp.frozen? ⟨hg9, off9 + k, none⟩ = false := by
            rcases hrow.2 with ⟨e, _⟩ | ⟨g', off', cap', cur, e, he, hh, _⟩
            · cases e
            · cases he; exact free_of_block hh
          obtain ⟨_, _, e', hgl, hck⟩ := row_cell hrow hlen.symm hlt
          cases e'
          have HP : Hid (CkS B pc fb mb N loc cv lv hv (.slice none 0 0) l (List.replicate (k + 1) (-1 : Int) ++ List.replicate (l.length - (k + 1)) 0) [] w0 (wp.setCell ⟨hg9, off9 + k, none⟩ (.int .i64 (-1)))) := (show _ by
            have := (hs.out.put (k := k) (by rw [hlen]; exact HHV.out) (by rw [hlen]; exact hlt) (-1)).1
            rw [repl_step hlt] at this
            exact this)
          clear hrow hs hlen
          go_wp2
          go_roundw
          case rel => first | exact ⟨k + 1, by go_num, by omega, HP⟩ | ((repeat apply Exists.intro); exact ⟨⟨k + 1, by go_num, by omega, HP⟩, rfl⟩)
          case measure => simp [intOf]; omega
        · obtain rfl : k = l.length := by omega
          have hrep : List.replicate l.length (-1 : Int) ++ List.replicate (l.length - l.length) 0 = List.replicate l.length (-1) := by simp
          rw [hrep] at hs
          have HCM := Lib.hid (come_any 0 0 wp hs.out (by rw [List.length_replicate]; exact hpos) (by rw [List.length_replicate]; omega) (by simp) (by omega))
          have hcm : comeN (List.replicate l.length (-1 : Int)) [] 0 0 = (true, (List.replicate l.length (-1)).set 0 0, [0]) := by
            unfold comeN
            rw [if_pos (by unfold hN; rw [List.getElem?_replicate, if_pos hpos]; decide)]
            rfl
          rw [hcm] at HCM
          clear hlt hs hrep hcm
          go_wp2_with fail
          refine HCM.out.mono ?_
          rintro en w3 ⟨rfl, wv3, hc3, _, _⟩
          have HRN : Hid (RnAt B pc fb mb N loc cv lv hv l F R F ((List.replicate l.length (-1)).set 0 0) [0] w0 w3) := ⟨⟨wv3, hc3⟩, HRU.out, ⟨by simp, fun k hk => by
            cases List.mem_singleton.1 hk
            refine ⟨hpos, ?_, ?_⟩ <;> (unfold hN; rw [List.getElem?_set_self (by simpa using hpos)]; decide)⟩, by simp⟩
          clear hc3
          go_wp2_with fail
          go_loopg [8] F (fun gk _ wr => ∃ (h : List Int) (wk : List Nat), Hid (RnAt B pc fb mb N loc cv lv hv l F R gk h wk w0 wr))
          case atStart => exact ⟨_, _, HRN⟩
          case round =>
            obtain ⟨h, wk, hs⟩ := hrel
            obtain ⟨wq, rfl⟩ : ∃ wq : World, wq = wr := ⟨_, rfl⟩
            obtain ⟨⟨wv, hc⟩, hru, hok, hwl⟩ := hs.out
            have f10 : wq.cell? ⟨pc, 10, none⟩ = some wv := hc.cell 10
            have fr10 : wq.frozen? ⟨pc, 10, none⟩ = false := free_of_block hc.blk
            have HC := Lib.hid hc
            obtain ⟨wa, wcap, rfl, wr1, wr2, wr3, wr4⟩ := hc.wrow.read
            unfold maxLen at wr2
            cases wk with
            | nil =>
              have HRE := Lib.hid (runV_end hru)
              simp only [List.length_nil] at f10
              clear hs hc hru hok hwl wr3 wr4
              go_wp2
              go_ret2
              rw [HRE.out]
              exact ⟨rfl, HC.out.bel⟩
            | cons k0 rest =>
              obtain ⟨f', rfl, r1, r2⟩ := runV_next hru
              obtain ⟨ok1, ok2, ok3⟩ := hok.wk k0 (by simp)
              obtain ⟨wg, woff, rfl, wgl, wc0⟩ := wr4 0 (.int .i64 (k0 : Nat)) (by simp [natC, intC])
              rw [Nat.add_zero] at wc0
              have HRW := Lib.hid hc.wrow
              have HOW : Hid (OkW l.length h rest) := ⟨hok.len, fun k hk => hok.wk k (by simp [hk])⟩
              have HWL := Lib.hid hwl
              have HR1 := Lib.hid r1
              have HR2 := Lib.hid r2
              have hm1 : (0 : Int) < (((k0 :: rest).length : Nat) : Int) := by rw [List.length_cons]; omega
              have hm2 : (1 : Int) ≤ (((k0 :: rest).length : Nat) : Int) := by rw [List.length_cons]; omega
              have hm3 : (0 : Int) < ((rest.length : Nat) : Int) + 1 := by omega
              have hm4 : (1 : Int) ≤ ((rest.length : Nat) : Int) + 1 := by omega
              have HHL := Lib.hid hok.len
              have HK := Lib.hid (And.intro ok1 (And.intro ok2 ok3))
              have HQ := Lib.hid (fun (v2 : Value) (hr : RowS wq 1 v2 rest.length (natC rest)) (ho : v2.ownBlock = some wg) => (show CkS B pc fb mb N loc cv lv hv v2 l h rest w0 (wq.setCell ⟨pc, 10, none⟩ v2) from
                (HC.out.queue (w3 := wq) hr (Keeps.refl _ _) (fun g hg => by rw [ho] at hg; cases hg; exact .inl rfl)).1))
              have HNX := Lib.hid (fun (v2 : Value) (W : World) (c2 : CkS B pc fb mb N loc cv lv hv v2 l h rest w0 W) => next_any k0 W c2 HOK.out HK.out.1 HHL.out (by have := HWL.out; rw [List.length_cons] at this; omega) HK.out.2.1 HK.out.2.2)
              have HNK := Lib.hid (nextN_ok HOK.out HOW.out HK.out.1 HK.out.2.1)
              have HNW := Lib.hid (nextN_wk (l := l) (h := h) (wk := rest) (k := k0))
              obtain ⟨RR, hRR⟩ : ∃ RR, RR = nextN l h rest k0 := ⟨_, rfl⟩
              rw [← hRR] at HNX HNK HNW HR1 HR2
              have hlen0 : (k0 :: rest).length = rest.length + 1 := List.length_cons
              rw [hlen0] at f10 wr1
              have HT : Hid ((wcap ≠ 1 → RowS wq 1 (.slice (some ⟨wg, woff + 1, none⟩) rest.length (wcap - 1)) rest.length (natC rest)) ∧ (wcap = 1 → RowS wq 1 (.slice (some ⟨wg, woff, none⟩) 0 0) 0 (natC rest) ∧ rest.length = 0)) := (show _ from RowS.tail (u := .int .i64 (k0 : Nat)) HRW.out)
              clear hs hc hru hok hwl wr3 wr4 r1 r2 ok1 ok2 ok3 hRR hlen0
              rcases (by omega : RR.1.2 = 0 ∨ RR.1.2 ≠ 0) with h0 | h0
              · have HST := Lib.hid (fun (w5 : World) (v : Value) (c5 : CkS B pc fb mb N loc cv lv hv v l RR.2.1 RR.2.2 w0 w5) => (show RnAt B pc fb mb N loc cv lv hv l F R f' RR.2.1 RR.2.2 w0 w5 from ⟨⟨v, c5⟩, HR1.out h0, HNK.out, by have := HNW.out; have := HWL.out; rw [List.length_cons] at this; omega⟩))
                have hz : ((RR.1.2 : Nat) : Int) = 0 := by omega
                by_cases hcap : wcap = 1
                · subst hcap
                  obtain ⟨t1, t2⟩ := HT.out.2 rfl
                  rw [t2] at f10 wr1 hm3 hm4
                  have HNX2 := Lib.hid (HNX.out _ _ (HQ.out (.slice (some ⟨wg, woff, none⟩) 0 0) (by rw [t2]; exact t1) rfl))
                  unfold NextDone at HNX2
                  rw [hz] at HNX2
                  clear t1 t2 hz h0
                  go_wp2_with fail
                  refine HNX2.out.mono ?_
                  rintro en w5 ⟨rfl, v5, hc5⟩
                  have HS5 := Lib.hid (HST.out w5 v5 hc5)
                  clear hc5
                  go_wp2
                  go_roundg f'
                  case measure => omega
                  case rel => exact ⟨_, _, HS5⟩
                · have hcap2 : ¬ (1 = wcap) := fun e => hcap e.symm
                  have HNX2 := Lib.hid (HNX.out _ _ (HQ.out (.slice (some ⟨wg, woff + 1, none⟩) rest.length (wcap - 1)) (HT.out.1 hcap) rfl))
                  unfold NextDone at HNX2
                  rw [hz] at HNX2
                  clear hz h0
                  go_wp2_with fail
                  refine HNX2.out.mono ?_
                  rintro en w5 ⟨rfl, v5, hc5⟩
                  have HS5 := Lib.hid (HST.out w5 v5 hc5)
                  clear hc5
                  go_wp2
                  go_roundg f'
                  case measure => omega
                  case rel => exact ⟨_, _, HS5⟩
              · have HRE := Lib.hid (HR2.out h0)
                have hbn : ((RR.1.2 : Int) != 0) = true := by rw [bne_iff_ne]; omega
                by_cases hcap : wcap = 1
                · subst hcap
                  obtain ⟨t1, t2⟩ := HT.out.2 rfl
                  rw [t2] at f10 wr1 hm3 hm4
                  have HNX2 := Lib.hid (HNX.out _ _ (HQ.out (.slice (some ⟨wg, woff, none⟩) 0 0) (by rw [t2]; exact t1) rfl))
                  unfold NextDone at HNX2
                  clear t1 t2 h0
                  go_wp2_with fail
                  refine HNX2.out.mono ?_
                  rintro en w5 ⟨rfl, v5, hc5⟩
                  have HB5 := Lib.hid hc5.bel
                  clear hc5
                  go_wp2
                  go_ret2
                  rw [HRE.out]
                  exact ⟨rfl, HB5.out⟩
                · have hcap2 : ¬ (1 = wcap) := fun e => hcap e.symm
                  have HNX2 := Lib.hid (HNX.out _ _ (HQ.out (.slice (some ⟨wg, woff + 1, none⟩) rest.length (wcap - 1)) (HT.out.1 hcap) rfl))
                  unfold NextDone at HNX2
                  clear h0
                  go_wp2_with fail
                  refine HNX2.out.mono ?_
                  rintro en w5 ⟨rfl, v5, hc5⟩
                  have HB5 := Lib.hid hc5.bel
                  clear hc5
                  go_wp2
                  go_ret2
                  rw [HRE.out]
                  exact ⟨rfl, HB5.out⟩
end
end Go.Proofs.Yteipnfnbepnpjaa
