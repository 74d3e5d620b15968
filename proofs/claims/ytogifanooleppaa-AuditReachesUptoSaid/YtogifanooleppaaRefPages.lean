/- the reference's Pages: New, Of, used, Free. -/
import Derived.Test.YtogifanooleppaaPagesAlive
import Derived.Test.YtogifanooleppaaRow
import Derived.Test.YtogifanooleppaaRef
namespace Go.Proofs.Ytogifanooleppaa
open Go.RowKit Go.Maps
set_option linter.unusedVariables false

/-- runs as cells -/
def cellsR (l : List RunT) : List Value := l.flatMap fun r => [.int .i64 (r.1 : Nat), .int .i64 (r.2.1 : Nat), .int .i64 r.2.2]
theorem cellsR_len (l : List RunT) : (cellsR l).length = l.length * 3 := by
  induction l with
  | nil => rfl
  | cons x l ih => simp only [cellsR, List.flatMap_cons, List.length_append, List.length_cons] at ih ⊢; rw [ih]; simp; omega
theorem cellsR_app (l m : List RunT) : cellsR (l ++ m) = cellsR l ++ cellsR m := by simp [cellsR]
theorem cellsR_at {l : List RunT} {i : Nat} {x : RunT} (h : l[i]? = some x) : (cellsR l)[i * 3]? = some (.int .i64 (x.1 : Nat)) ∧ (cellsR l)[i * 3 + 1]? = some (.int .i64 (x.2.1 : Nat)) ∧ (cellsR l)[i * 3 + 2]? = some (.int .i64 x.2.2) := by
  induction l generalizing i with
  | nil => simp at h
  | cons y l ih =>
    simp only [cellsR, List.flatMap_cons]
    cases i with
    | zero =>
      simp at h
      subst h
      exact ⟨rfl, rfl, rfl⟩
    | succ i =>
      rw [List.getElem?_cons_succ] at h
      obtain ⟨h1, h2, h3⟩ := ih h
      simp only [cellsR] at h1 h2 h3
      refine ⟨?_, ?_, ?_⟩
      · rw [List.getElem?_append_right (by simp; omega), ← h1]; congr 1; simp; omega
      · rw [List.getElem?_append_right (by simp; omega), ← h2]; congr 1; simp; omega
      · rw [List.getElem?_append_right (by simp; omega), ← h3]; congr 1; simp; omega
theorem cellsR_drop (l : List RunT) (i : Nat) : (cellsR l).drop (i * 3) = cellsR (l.drop i) := by
  induction l generalizing i with
  | nil => simp [cellsR]
  | cons y l ih =>
    cases i with
    | zero => simp
    | succ i =>
      have := ih i
      simp only [cellsR, List.flatMap_cons, List.drop_succ_cons] at this ⊢
      rw [← this, show (i + 1) * 3 = 3 + i * 3 by omega, List.drop_append]
      simp
theorem cellsR_take (l : List RunT) (i : Nat) : (cellsR l).take (i * 3) = cellsR (l.take i) := by
  induction l generalizing i with
  | nil => simp [cellsR]
  | cons y l ih =>
    cases i with
    | zero => simp [cellsR]
    | succ i =>
      have := ih i
      have hc : cellsR (y :: l) = [.int .i64 (y.1 : Nat), .int .i64 (y.2.1 : Nat), .int .i64 y.2.2] ++ cellsR l := rfl
      have hd : cellsR (y :: l.take i) = [.int .i64 (y.1 : Nat), .int .i64 (y.2.1 : Nat), .int .i64 y.2.2] ++ cellsR (l.take i) := rfl
      rw [List.take_succ_cons, hc, hd, ← this, show (i + 1) * 3 = i * 3 + 1 + 1 + 1 by omega]
      rfl
theorem cellsR_one (l : List RunT) : ∀ x ∈ cellsR l, x.oneCell' = true := by
  intro x hx
  simp only [cellsR, List.mem_flatMap] at hx
  obtain ⟨r, _, hr⟩ := hx
  simp at hr
  rcases hr with rfl | rfl | rfl <;> rfl
/-- block p is the reference's Pages: n pages, the runs l, in the block q -/
structure RefP (w : World) (p n : Nat) (q : Option Nat) (l : List RunT) : Prop where
  at_ : ∃ ty v, w.heap[p]? = some (.cells #[.int .i64 (n : Nat), v] ty (0, 0)) ∧ v.ownBlock = q ∧ RowS w 3 v l.length (cellsR l)
  ne : q ≠ some p
  size : 1 ≤ n ∧ n ≤ 4096
  small : ∀ r ∈ l, r.1 ≤ 4096 ∧ r.2.1 ≤ 4096
  len : l.length ≤ 1048576
section
variable {w w' : World} {p n : Nat} {q : Option Nat} {l : List RunT}
theorem RefP.keeps {L : List Nat} (h : RefP w p n q l) (k : Keeps L w w') (hp : p ∉ L) (hq : ∀ g, q = some g → g ∉ L) : RefP w' p n q l := by
  obtain ⟨⟨ty, v, h1, h2, h3⟩, h4, h5, h6, h7⟩ := h
  exact ⟨⟨ty, v, k.at h1 hp, h2, h3.keeps k fun g hg => hq g (by rw [← h2]; exact hg)⟩, h4, h5, h6, h7⟩
theorem RefP.drewN (h : RefP w p n q l) (m : Nat) : RefP (w.drewN m) p n q l := h.keeps ((Keeps.refl [] w).drewN m) List.not_mem_nil fun _ _ => List.not_mem_nil
theorem RefP.below (h : RefP w p n q l) (hb : Below w.heap.size w w') : RefP w' p n q l := h.keeps (Keeps.of_below hb (Nat.le_refl _) []) List.not_mem_nil fun _ _ => List.not_mem_nil
theorem RefP.lt (h : RefP w p n q l) : p < w.heap.size ∧ ∀ g, q = some g → g < w.heap.size := by
  obtain ⟨⟨ty, v, h1, h2, h3⟩, _⟩ := h
  exact ⟨(Array.getElem?_eq_some_iff.1 h1).1, fun g hg => h3.lt g (by rw [h2]; exact hg)⟩
/-- what a walk reads -/
theorem RefP.read (h : RefP w p n q l) : ∃ a cap, w.cell? ⟨p, 0, none⟩ = some (.int .i64 (n : Nat)) ∧ w.cell? ⟨p, 1, none⟩ = some (.slice a l.length cap) ∧ w.frozen? ⟨p, 1, none⟩ = false ∧ (Value.slice a l.length cap).ownBlock = q ∧ l.length ≤ cap ∧ cap ≤ 9223372036854775807 ∧ RowS w 3 (.slice a l.length cap) l.length (cellsR l) ∧
    ∀ i r, l[i]? = some r → ∃ g off, a = some ⟨g, off, none⟩ ∧ w.cell? ⟨g, off + i * 3, none⟩ = some (.int .i64 (r.1 : Nat)) ∧ w.cell? ⟨g, off + i * 3 + 1, none⟩ = some (.int .i64 (r.2.1 : Nat)) ∧ w.cell? ⟨g, off + i * 3 + 2, none⟩ = some (.int .i64 r.2.2) := by
  obtain ⟨⟨ty, v, h1, h2, h3⟩, _⟩ := h
  obtain ⟨a, cap, rfl, r1, r2, r3, r4⟩ := h3.read
  refine ⟨a, cap, by rw [cell_of_block h1]; rfl, by rw [cell_of_block h1]; rfl, free_of_block h1, h2, r1, by simpa [maxLen] using r2, h3, fun i r hr => ?_⟩
  obtain ⟨c0, c1, c2⟩ := cellsR_at hr
  obtain ⟨g, off, ha, _, d0⟩ := r4 _ _ c0
  obtain ⟨_, _, ha1, _, d1⟩ := r4 _ _ c1
  obtain ⟨_, _, ha2, _, d2⟩ := r4 _ _ c2
  subst ha
  cases ha1
  cases ha2
  rw [← Nat.add_assoc] at d1 d2
  exact ⟨g, off, rfl, d0, d1, d2⟩
end
/-- is a number within a run? -/
def inRun (r : RunT) (x : Int) : Bool := decide ((r.1 : Int) ≤ x) && decide (x < (r.1 : Int) + (r.2.1 : Nat))
/-- the run that a number is in -/
def refOf (x : Int) : List RunT → RunT
  | [] => (0, 0, 0)
  | r :: l => if inRun r x then r else refOf x l
def refUsed (l : List RunT) (x : Int) : Bool := x == 0 || decide (0 < (refOf x l).2.1)
def sumN : List RunT → Nat
  | [] => 0
  | r :: l => r.2.1 + sumN l
section
variable {p n : Nat} {q : Option Nat} {l : List RunT}
set_option maxRecDepth 100000 in
set_option maxHeartbeats 1000000 in
theorem rof_any (x : Int) (w : World) (h : RefP w p n q l) :
    Calls Try.prog 32 #[.pointer (some ⟨p, 0, none⟩), .int .i64 x] w fun e w' => e = .returned (.tuple #[.int .i64 ((refOf x l).1 : Nat), .int .i64 ((refOf x l).2.1 : Nat), .int .i64 (refOf x l).2.2]) ∧ ∃ k, w' = w.drewN k := by
  obtain ⟨a, cap, _, c1, _, _, hc, hm, _, hr⟩ := h.read
  have HR := Lib.hid hr
  have HS := Lib.hid h.small
  obtain ⟨R, hR⟩ : ∃ R, R = refOf x l := ⟨_, rfl⟩
  have HRE := Lib.hid hR
  rw [← hR]
  clear h hr hR
  go_enter Try.func32, Try.ntmps32
  go_wp2
  go_loopw [7] (fun i wr => ∃ k m : Nat, i = .int .i64 (k : Nat) ∧ k ≤ l.length ∧ wr = w.drewN m ∧ Hid (R = refOf x (l.drop k))) (fun i _ => l.length - (intOf i).toNat)
  case atStart => exact ⟨0, 0, rfl, Nat.zero_le _, rfl, HRE.out⟩
  case round =>
    obtain ⟨k, m, rfl, hk, rfl, hd⟩ := hrel
    by_cases hlt : k < l.length
    · obtain ⟨r, hr⟩ : ∃ r, l[k]? = some r := ⟨_, List.getElem?_eq_getElem hlt⟩
      obtain ⟨g, off, rfl, d0, d1, d2⟩ := HR.out k r hr
      have hsm := HS.out r (List.mem_of_getElem? hr)
      have hdr : l.drop k = r :: l.drop (k + 1) := by
        rw [List.drop_eq_getElem_cons hlt]
        congr 1
        rw [List.getElem?_eq_getElem hlt] at hr
        exact Option.some.inj hr
      have HD : Hid (R = if inRun r x then r else refOf x (l.drop (k + 1))) := (show R = if inRun r x then r else refOf x (l.drop (k + 1)) by rw [hd.out, hdr]; rfl)
      obtain ⟨ra, rn, rm⟩ := r
      dsimp only at d0 d1 d2 hsm
      have hi0 : (0 : Int) ≤ (k : Int) := by omega
      have hi1 : (k : Int) < (l.length : Int) := by omega
      clear hr hdr hd
      rcases (by omega : x < (ra : Int) ∨ ((ra : Int) ≤ x ∧ (ra : Int) + (rn : Int) ≤ x) ∨ ((ra : Int) ≤ x ∧ x < (ra : Int) + (rn : Int))) with h1 | h1 | h1
      · have b1 : decide ((ra : Int) ≤ x) = false := by rw [decide_eq_false_iff_not]; omega
        have HD2 : Hid (R = refOf x (l.drop (k + 1))) := (show R = refOf x (l.drop (k + 1)) by rw [HD.out, if_neg (by unfold inRun; rw [b1]; simp)])
        clear h1
        go_wp2_with fail
        go_quiet (fail)
        go_wp2
        go_roundw
        case rel => first | exact ⟨k + 1, _, by go_num, by omega, World.drewN_drewN _ _ _, HD2⟩ | exact ⟨k + 1, _, by go_num, by omega, rfl, HD2⟩ | ((repeat apply Exists.intro); exact ⟨⟨k + 1, _, by go_num, by omega, rfl, HD2⟩, rfl⟩)
        case measure => simp [intOf]; omega
      · have b1 : decide ((ra : Int) ≤ x) = true := decide_eq_true h1.1
        have b2 : decide (x < (ra : Int) + (rn : Int)) = false := by rw [decide_eq_false_iff_not]; omega
        have HD2 : Hid (R = refOf x (l.drop (k + 1))) := (show R = refOf x (l.drop (k + 1)) by rw [HD.out, if_neg (by unfold inRun; rw [b1, b2]; simp)])
        obtain ⟨h1a, h1b⟩ := h1
        go_wp2_with fail
        go_quiet (fail)
        go_wp2
        go_roundw
        case rel => first | exact ⟨k + 1, _, by go_num, by omega, World.drewN_drewN _ _ _, HD2⟩ | exact ⟨k + 1, _, by go_num, by omega, rfl, HD2⟩ | ((repeat apply Exists.intro); exact ⟨⟨k + 1, _, by go_num, by omega, rfl, HD2⟩, rfl⟩)
        case measure => simp [intOf]; omega
      · have b1 : decide ((ra : Int) ≤ x) = true := decide_eq_true h1.1
        have b2 : decide (x < (ra : Int) + (rn : Int)) = true := decide_eq_true h1.2
        have HD2 : Hid (R = (ra, rn, rm)) := (show R = (ra, rn, rm) by rw [HD.out, if_pos (by unfold inRun; rw [b1, b2]; rfl)])
        obtain ⟨h1a, h1b⟩ := h1
        go_wp2_with fail
        go_quiet (fail)
        go_wp2_with fail
        go_quiet (fail)
        go_wp2
        go_ret3
        exact ⟨by rw [HD2.out]; rfl, _, by rw [World.drewN_drewN, World.drewN_drewN]⟩
    · obtain rfl : k = l.length := by omega
      have HD2 : Hid (R = (0, 0, 0)) := (show R = (0, 0, 0) by rw [hd.out, List.drop_length]; rfl)
      clear hlt
      go_wp2
      go_ret3
      exact ⟨by rw [HD2.out]; rfl, m, rfl⟩
theorem rused_any (x : Int) (w : World) (h : RefP w p n q l) :
    Calls Try.prog 58 #[.pointer (some ⟨p, 0, none⟩), .int .i64 x] w fun e w' => e = .returned (.bool (refUsed l x)) ∧ ∃ k, w' = w.drewN k := by
  have HO := Lib.hid (rof_any x w h)
  unfold refUsed
  generalize refOf x l = R at *
  clear h
  go_enter Try.func58, Try.ntmps58
  go_wp2_with fail
  refine HO.out.mono ?_
  rintro e w' ⟨rfl, k, rfl⟩
  go_wp2
  all_goals
    go_ret
    refine ⟨ret_bool ?_, k, rfl⟩
    simp [*]
    try omega
theorem rfree_any (w : World) (h : RefP w p n q l) (hs : sumN l ≤ n - 1) :
    Calls Try.prog 34 #[.pointer (some ⟨p, 0, none⟩)] w fun e w' => e = .returned (.int .i64 (n - 1 - sumN l : Nat)) ∧ w = w' := by
  obtain ⟨a, cap, c0, c1, _, _, hc, hm, _, hr⟩ := h.read
  have hsz := h.size
  have HR := Lib.hid hr
  have HS := Lib.hid hs
  clear h hr hs
  go_enter Try.func34, Try.ntmps34
  go_wp2
  go_loop [3, 4] (fun nv i => ∃ k f : Nat, i = .int .i64 (k : Nat) ∧ nv = .int .i64 (f : Nat) ∧ k ≤ l.length ∧ Hid (f + sumN l = n - 1 + sumN (l.drop k) ∧ sumN (l.drop k) ≤ sumN l)) (fun _ i => l.length - (intOf i).toNat)
  case atStart => exact ⟨0, n - 1, rfl, by rw [show ((n - 1 : Nat) : Int) = (n : Int) - 1 by omega], Nat.zero_le _, ⟨rfl, Nat.le_refl _⟩⟩
  case round =>
    obtain ⟨k, f, rfl, rfl, hk, hd⟩ := hrel
    by_cases hlt : k < l.length
    · obtain ⟨r, hr⟩ : ∃ r, l[k]? = some r := ⟨_, List.getElem?_eq_getElem hlt⟩
      obtain ⟨g, off, rfl, d0, d1, d2⟩ := HR.out k r hr
      have hdr : l.drop k = r :: l.drop (k + 1) := by
        rw [List.drop_eq_getElem_cons hlt]
        congr 1
        rw [List.getElem?_eq_getElem hlt] at hr
        exact Option.some.inj hr
      have hdo := hd.out
      rw [hdr, sumN] at hdo
      have hs := HS.out
      obtain ⟨ra, rn, rm⟩ := r
      dsimp only at d0 d1 d2 hdo
      have hfn : rn ≤ f ∧ f ≤ n := by omega
      have hsub : (f : Int) - (rn : Int) = ((f - rn : Nat) : Int) := by omega
      have HD : Hid ((f - rn) + sumN l = n - 1 + sumN (l.drop (k + 1)) ∧ sumN (l.drop (k + 1)) ≤ sumN l) := (show _ ∧ _ by omega)
      obtain ⟨hfa, hfb⟩ := hfn
      clear hr hdr hd hdo hs hsub
      go_wp2
      go_round
      case rel => exact ⟨k + 1, f - rn, by go_num, by rw [show ((f - rn : Nat) : Int) = (f : Int) - (rn : Int) by omega], by omega, HD⟩
      case measure => simp [intOf]; omega
    · obtain rfl : k = l.length := by omega
      have hdo := hd.out
      rw [List.drop_length, sumN] at hdo
      have HE : Hid (f = n - 1 - sumN l) := (show f = n - 1 - sumN l by omega)
      clear hlt hd hdo
      go_wp2
      go_ret
      exact ⟨by rw [HE.out]; rfl, rfl⟩
end
/-- a new one -/
def SomeRefP (n : Nat) (w : World) (en : Ending) (w' : World) : Prop := ∃ p, en = .returned (.pointer (some ⟨p, 0, none⟩)) ∧ RefP w' p n none [] ∧ w.heap.size ≤ p ∧ Below w.heap.size w w'
theorem rnew_any (a : Int) (w : World) : Calls Try.prog 26 #[.int .i64 a] w (SomeRefP (pagesN a) w) := by
  have HC := Lib.hid (fun w => cut_ref a 1 4096 w)
  have hN : 1 ≤ pagesN a ∧ pagesN a ≤ 4096 := by unfold pagesN; omega
  rw [show (if a < 1 then 1 else if 4096 < a then 4096 else a) = ((pagesN a : Nat) : Int) by unfold pagesN; split <;> (try split) <;> omega] at HC
  generalize pagesN a = N at *
  go_enter Try.func26, Try.ntmps26
  go_wp2_with fail
  refine (HC.out _).mono ?_
  rintro e w' ⟨rfl, rfl⟩
  go_wp2
  go_ret
  exact ⟨w.heap.size, rfl, ⟨⟨_, _, heap_alloc_at _ _, rfl, RowS.nil _ _⟩, by simp, hN, (fun _ h => by cases h), Nat.zero_le _⟩, Nat.le_refl _, (Below.refl _ _).alloc (Nat.le_refl _) _⟩
end Go.Proofs.Ytogifanooleppaa
