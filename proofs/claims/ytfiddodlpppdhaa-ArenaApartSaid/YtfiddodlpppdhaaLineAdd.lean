/- line's Add computes what it says. -/
import Derived.Test.YtfiddodlpppdhaaLine
namespace Go.Proofs.Ytfiddodlpppdhaa
open Go.RowKit
set_option linter.unusedVariables false

/-- those that go: as long as those that wait have more words than the budget, the first one -/
def goes (bud : Nat) : List (Int × Nat) → List Int
  | [] => []
  | x :: r => if bud < sumL (x :: r) then x.1 :: goes bud r else []
/-- those that stay -/
def stays (bud : Nat) : List (Int × Nat) → List (Int × Nat)
  | [] => []
  | x :: r => if bud < sumL (x :: r) then stays bud r else x :: r
/-- how many words a thing has, cut -/
def cutW (n : Int) : Nat := (max 0 (min n 1073741824)).toNat
theorem cutW_le (n : Int) : cutW n ≤ 1073741824 := by unfold cutW; omega
/-- the numbers of a list as cells -/
def intCells (l : List Int) : List Value := l.map (Value.int .i64)
theorem intCells_len (l : List Int) : (intCells l).length = l.length * 1 := by simp [intCells]
theorem intCells_snoc (l : List Int) (x : Int) : intCells (l ++ [x]) = intCells l ++ [.int .i64 x] := by simp [intCells]

/-- how many wait, as the memory says -/
def lineLen (p : Nat) (w : World) : Nat := match w.cell? ⟨p, 2, none⟩ with
  | some (.slice _ n _) => n
  | _ => 0
theorem LineAt.len_eq {w : World} {p bud : Nat} {q : Option Nat} {l : List (Int × Nat)} (h : LineAt w p q bud l) : lineLen p w = l.length := by
  obtain ⟨T, v, hp, hv, hr⟩ := h.at_
  unfold lineLen
  rw [cell_of_block hp]
  obtain ⟨a, cap, rfl, _⟩ := hr.read
  rfl

theorem LineAt.pushed {w w1 : World} {p bud : Nat} {q : Option Nat} {l : List (Int × Nat)} (h : LineAt w p q bud l) {a : Int} {n : Nat} (hn : n ≤ 1073741824) (hl : l.length + 1 ≤ 1048576) {o : Obj} {v' : Value}
    (hr : RowS w1 2 v' (l.length + 1) (cellsL l ++ [.int .i64 a, .int .i64 (n : Nat)])) (hg : (w.alloc o).grownBy w1 q) (hq : v'.ownBlock = q ∨ ∃ g, v'.ownBlock = some g ∧ (w.alloc o).heap.size ≤ g) :
    LineAt ((w1.setCell ⟨p, 2, none⟩ v').setCell ⟨p, 1, none⟩ (.int .i64 ((sumL l : Nat) + (n : Nat)))) p v'.ownBlock bud (l ++ [(a, n)]) ∧
    Keeps (p :: q.toList) w ((w1.setCell ⟨p, 2, none⟩ v').setCell ⟨p, 1, none⟩ (.int .i64 ((sumL l : Nat) + (n : Nat)))) := by
  have hpl := h.lt.1
  have hne : v'.ownBlock ≠ some p := by
    rcases hq with hq | ⟨g, hq, hge⟩
    · rw [hq]; exact h.ne
    · rw [hq]; intro e; cases e; rw [size_alloc] at hge; omega
  have k1 : Keeps (p :: q.toList) w w1 := (((Keeps.refl _ _).alloc o)).trans (Keeps.of_row hg (by intro g hg'; rw [hg']; simp))
  have k2 : Keeps (p :: q.toList) w ((w1.setCell ⟨p, 2, none⟩ v').setCell ⟨p, 1, none⟩ (.int .i64 ((sumL l : Nat) + (n : Nat)))) := (k1.setCell (.inl (by simp)) _).setCell (.inl (by simp)) _
  refine ⟨⟨h.budLe, ?_, hne, fun x hx => ?_, by simpa using hl⟩, k2⟩
  · obtain ⟨T, v, hp, hv, _⟩ := h.at_
    have hp0 : (w.alloc o).heap[p]? = w.heap[p]? := heap_alloc_lt w o hpl
    have hp1 : w1.heap[p]? = some (.cells #[.int .i64 (bud : Nat), .int .i64 (sumL l : Nat), v] T (0, 0)) := by
      rw [hg.block p (by rw [size_alloc]; omega) (fun e => h.ne e.symm), hp0]; exact hp
    have e1 := setCell_block (i := 2) hp1 v'
    have e2 := setCell_block (i := 1) e1 (.int .i64 ((sumL l : Nat) + (n : Nat)))
    refine ⟨T, v', ?_, rfl, ?_⟩
    · rw [e2]
      have e4 : ((sumL (l ++ [(a, n)]) : Nat) : Int) = (sumL l : Nat) + (n : Nat) := by rw [sumL_append]; simp [sumL]
      rw [e4]
      rfl
    · rw [List.length_append, cellsL_snoc]
      refine RowS.keeps (l := [p]) hr (((Keeps.refl _ _).setCell (.inl (by simp)) _).setCell (.inl (by simp)) _) fun g hg' hm => hne ?_
      cases List.mem_singleton.1 hm
      exact hg'
  · rw [List.mem_append] at hx
    rcases hx with hx | hx
    · exact h.small x hx
    · cases List.mem_singleton.1 hx; exact hn

/-- what Add does -/
def AddDone (p : Nat) (q : Option Nat) (bud : Nat) (l : List (Int × Nat)) (w : World) (en : Ending) (w' : World) : Prop :=
  ∃ v q', en = .returned v ∧ RowS w' 1 v (goes bud l).length (intCells (goes bud l)) ∧ (∀ g, v.ownBlock = some g → w.heap.size ≤ g ∧ q' ≠ some g) ∧ LineAt w' p q' bud (stays bud l) ∧ (q' = q ∨ ∃ g, q' = some g ∧ w.heap.size ≤ g) ∧ Keeps (p :: q.toList) w w'

theorem lineInfo2 : (Try.prog.info? 83).map (fun i => (i.zero, i.size, i.bytes)) = some (some (.agg #[.int .i64 0, .int .i64 0]), 2, 16) := by kernel_rfl
theorem lineInfo1 : (Try.prog.info? 3).map (fun i => (i.zero, i.size, i.bytes)) = some (some (.int .i64 0), 1, 8) := by kernel_rfl

theorem new_two (w : World) (u v : Value) (t : TypeId) : Src (w.alloc (.cells #[u, v] t)) (.slice (some ⟨w.heap.size, 0, none⟩) 1 1) 1 2 [u, v] := by
  refine .inr ⟨_, _, rfl, rfl, fun j x hx => ?_⟩
  have h := cell_of_block (i := j) (heap_alloc_at w (.cells #[u, v] t))
  have e : (⟨w.heap.size, 0, none⟩ : Addr).add j = ⟨w.heap.size, j, none⟩ := by unfold Addr.add; split <;> simp_all
  rw [e, h, ← hx]
  simp

theorem two_of {u v : Value} (h : u.oneCell' = true) (h' : v.oneCell' = true) : ∀ x ∈ [u, v], x.oneCell' = true := by
  intro x hx
  simp at hx
  rcases hx with rfl | rfl <;> assumption

theorem goes_len (bud : Nat) : ∀ l, (goes bud l).length ≤ l.length
  | [] => Nat.le_refl _
  | x :: r => by
    unfold goes
    have := goes_len bud r
    split <;> simp <;> omega
theorem goes_stop {bud : Nat} {l : List (Int × Nat)} (h : ¬ bud < sumL l) : goes bud l = [] ∧ stays bud l = l := by
  cases l with
  | nil => exact ⟨rfl, rfl⟩
  | cons x r => unfold goes stays; rw [if_neg h, if_neg h]; exact ⟨rfl, rfl⟩
theorem goes_on {bud : Nat} {x : Int × Nat} {r : List (Int × Nat)} (h : bud < sumL (x :: r)) : goes bud (x :: r) = x.1 :: goes bud r ∧ stays bud (x :: r) = stays bud r := by
  rw [goes, stays, if_pos h, if_pos h]; exact ⟨rfl, rfl⟩
theorem LineAt.drewN {w : World} {p bud : Nat} {q : Option Nat} {l : List (Int × Nat)} (h : LineAt w p q bud l) (m : Nat) : LineAt (w.drewN m) p q bud l :=
  h.keeps ((Keeps.refl [] w).drewN m) List.not_mem_nil fun _ _ => List.not_mem_nil
theorem RowS.drewN {w : World} {size n : Nat} {v : Value} {xs : List Value} (h : RowS w size v n xs) (m : Nat) : RowS (w.drewN m) size v n xs :=
  h.keeps ((Keeps.refl [] w).drewN m) fun _ _ => List.not_mem_nil

/-- where Add stands: some have gone -/
structure Going (w : World) (p : Nat) (q q1 : Option Nat) (bud B1 : Nat) (L : List (Int × Nat)) (o : Value) (wr : World) (l : List (Int × Nat)) (os : List Int) : Prop where
  line : LineAt wr p q1 bud l
  goes : goes bud L = os ++ goes bud l
  stays : stays bud L = stays bud l
  row : RowS wr 1 o os.length (intCells os)
  new : ∀ g, o.ownBlock = some g → B1 ≤ g
  keep : Keeps (p :: q.toList) w wr
  size : B1 ≤ wr.heap.size
theorem Going.step {w wr w2 w3 : World} {p bud B1 nq : Nat} {q q1 : Option Nat} {L : List (Int × Nat)} {o v2 : Value} {x : Int × Nat} {r : List (Int × Nat)} {os : List Int} (h : Going w p q q1 bud B1 L o wr (x :: r) os) (hb : bud < sumL (x :: r)) (hp1 : p < B1) (hq1 : ∀ g, q1 = some g → g < B1) (hB1 : w.heap.size ≤ B1)
    (hl : LineAt w2 p q1 bud r) (hk : Keeps [p] (wr.drewN nq) w2) {ob : Obj} (hr : RowS w3 1 v2 (os.length + 1) (intCells os ++ [.int .i64 x.1])) (hg : (w2.alloc ob).grownBy w3 o.ownBlock) (hv : v2.ownBlock = o.ownBlock ∨ ∃ g, v2.ownBlock = some g ∧ (w2.alloc ob).heap.size ≤ g) :
    Going w p q q1 bud B1 L v2 w3 r (os ++ [x.1]) := by
  obtain ⟨h1, h2⟩ := goes_on hb
  have hw2 : B1 ≤ w2.heap.size := Nat.le_trans h.size hk.size
  have hw3 : B1 ≤ w3.heap.size := Nat.le_trans hw2 (Nat.le_trans (by rw [size_alloc]; omega) hg.size)
  have k3 : Keeps o.ownBlock.toList w2 w3 := ((Keeps.refl _ _).alloc ob).trans (Keeps.of_row hg (by intro g hg'; rw [hg']; simp))
  have no : ∀ g, g < B1 → g ∉ o.ownBlock.toList := by
    intro g hlt hm
    cases ho : o.ownBlock with
    | none => rw [ho] at hm; simp at hm
    | some g' =>
      rw [ho] at hm
      simp at hm
      have := h.new g' ho
      omega
  have ha : intCells (os ++ [x.1]) = intCells os ++ [.int .i64 x.1] := intCells_snoc os x.1
  refine ⟨hl.keeps k3 (no p hp1) fun g hg' => no g (hq1 g hg'), by rw [h.goes, h1]; simp, by rw [h.stays, h2], by rw [ha]; simpa using hr, fun g hg' => ?_, ?_, hw3⟩
  · rcases hv with hv | ⟨g', hv, hge⟩
    · exact h.new g (by rw [← hv]; exact hg')
    · rw [hv] at hg'; cases hg'; rw [size_alloc] at hge; omega
  · have k4 : Keeps (p :: q.toList) w w2 := (h.keep.drewN nq).trans (hk.mono (by intro y hy; simp at hy; simp [hy]))
    exact k4.then k3 (fun y hy => .inr (by
      have : ¬ y < B1 := fun hlt => no y hlt hy
      omega))

set_option maxRecDepth 100000 in
set_option maxHeartbeats 2000000 in
theorem add_line {p bud : Nat} {q : Option Nat} {l : List (Int × Nat)} (a : Int) (m : Nat) (w : World) (h : LineAt w p q bud l) (hl : l.length + 1 ≤ 1048576) (hmn : m ≤ 1073741824) :
    Calls Try.prog 35 #[.pointer (some ⟨p, 0, none⟩), .int .i64 a, .int .i64 (m : Nat)] w (AddDone p q bud (l ++ [(a, m)]) w) := by
  have hsum := h.sum_le
  obtain ⟨i2, hi2, hz20, hz21, hz22⟩ := info_parts lineInfo2
  obtain ⟨i1, hi1, hz10, hz11, hz12⟩ := info_parts lineInfo1
  obtain ⟨T, v, hp, hv, hr⟩ := h.at_
  have c1 : w.cell? ⟨p, 1, none⟩ = some (.int .i64 (sumL l : Nat)) := by rw [cell_of_block hp]; rfl
  have c2 : w.cell? ⟨p, 2, none⟩ = some v := by rw [cell_of_block hp]; rfl
  have hpl := (Array.getElem?_eq_some_iff.1 hp).1
  have H := Lib.hid h
  have HP := Lib.hid hp
  have HV := Lib.hid hv
  have HR := Lib.hid hr
  have HL := Lib.hid hl
  have I2 := Lib.hid hi2
  have Z20 := Lib.hid hz20
  have Z21 := Lib.hid hz21
  have Z22 := Lib.hid hz22
  have I1 := Lib.hid hi1
  have Z10 := Lib.hid hz10
  have Z11 := Lib.hid hz11
  have Z12 := Lib.hid hz12
  have HM1 : Hid (l.length + 1 ≤ maxLen) := (show l.length + 1 ≤ maxLen by unfold maxLen; omega)
  have HM2 : Hid ((l.length + 1) * 16 ≤ 140737488355328) := (show (l.length + 1) * 16 ≤ 140737488355328 by omega)
  have hmx : (if 0 < m then ((m : Nat) : Int) else 0) = (m : Int) := by split <;> omega
  have hbud := h.budLe
  clear h hp hv hr hl hi2 hz20 hz21 hz22 hi1 hz10 hz11 hz12
  go_enter Try.func35, Try.ntmps35
  go_wp2_with (at_builtin; refine wpList_row (by rfl) (.tmp 15) (.tmp 19) 75 rfl 83 i2 (.agg #[.int .i64 0, .int .i64 0]) 2 16 Try.underlying75 I2.out Z20.out Z21.out Z22.out rfl (by decide) v l.length (cellsL l) rfl (HR.out.keeps ((Keeps.refl [] _).alloc _) (fun _ _ => List.not_mem_nil)) (.slice (some ⟨w.heap.size, 0, none⟩) 1 1) 1 [.int .i64 a, .int .i64 (m : Nat)] rfl (new_two _ _ _ _) (two_of rfl rfl) HM1.out HM2.out ?_)
  intro v1 w1 hr2 hg2 hq2
  obtain ⟨a1, k1, rfl, _⟩ := hr2.read
  rw [HV.out] at hg2 hq2
  have e0 : w.heap.size + 1 = (w.alloc (.cells #[.int .i64 a, .int .i64 (m : Nat)] 83)).heap.size := (size_alloc _ _).symm
  rw [e0] at hq2
  have pu := H.out.pushed hmn HL.out hr2 hg2 hq2
  have hp1 : w1.heap[p]? = some (.cells #[.int .i64 (bud : Nat), .int .i64 (sumL l : Nat), v] T (0, 0)) := by
    rw [hg2.block p (by rw [size_alloc]; omega) (fun e => H.out.ne e.symm), heap_alloc_lt _ _ hpl]; exact HP.out
  have d1 : w1.cell? ⟨p, 1, none⟩ = some (.int .i64 (sumL l : Nat)) := by rw [cell_of_block hp1]; rfl
  have d2 : w1.cell? ⟨p, 2, none⟩ = some v := by rw [cell_of_block hp1]; rfl
  have e1 : w1.frozen? ⟨p, 1, none⟩ = false := free_of_block hp1
  have e2 : w1.frozen? ⟨p, 2, none⟩ = false := free_of_block hp1
  have HQ2 : Hid ((Value.slice a1 (l.length + 1) k1).ownBlock = q ∨ ∃ g, (Value.slice a1 (l.length + 1) k1).ownBlock = some g ∧ w.heap.size ≤ g) := (show _ ∨ _ by
    rcases hq2 with hq2 | ⟨g, hq2, hge⟩
    · exact .inl hq2
    · exact .inr ⟨g, hq2, by rw [size_alloc] at hge; omega⟩)
  clear hr2 hg2 hq2 hp1 e0
  generalize hX : (w1.setCell ⟨p, 2, none⟩ (.slice a1 (l.length + 1) k1)).setCell ⟨p, 1, none⟩ (.int .i64 ((sumL l : Nat) + (m : Nat))) = X at pu
  have G0 : Hid (Going w p q (Value.slice a1 (l.length + 1) k1).ownBlock bud X.heap.size (l ++ [(a, m)]) (.slice none 0 0) X (l ++ [(a, m)]) []) :=
    (show Going w p q (Value.slice a1 (l.length + 1) k1).ownBlock bud X.heap.size (l ++ [(a, m)]) (.slice none 0 0) X (l ++ [(a, m)]) [] from ⟨pu.1, rfl, rfl, RowS.nil _ _, fun g hg => (by cases hg), pu.2, Nat.le_refl _⟩)
  have HP1 : Hid (p < X.heap.size) := pu.1.lt.1
  have HQ1 : Hid (∀ g, (Value.slice a1 (l.length + 1) k1).ownBlock = some g → g < X.heap.size) := pu.1.lt.2
  have HB1 : Hid (w.heap.size ≤ X.heap.size) := pu.2.size
  have HX := Lib.hid hX
  clear pu hX
  generalize hq1 : (Value.slice a1 (l.length + 1) k1).ownBlock = q1 at G0 HQ1 HQ2
  have HQ1E := Lib.hid hq1
  clear hq1
  go_wp2_with fail
  rw [HX.out]
  obtain ⟨B1, hB1⟩ : ∃ B1, B1 = X.heap.size := ⟨_, rfl⟩
  rw [← hB1] at G0 HP1 HQ1 HB1
  clear hB1
  go_loopw [7] (fun o wr => ∃ l' os, Going w p q q1 bud B1 (l ++ [(a, m)]) o wr l' os) (fun _ wr => lineLen p wr)
  case atStart => exact ⟨_, _, G0.out⟩
  case round =>
    obtain ⟨l', os, hgo⟩ := hrel
    have HG := Lib.hid hgo
    obtain ⟨T', v', hp', _, _⟩ := hgo.line.at_
    have k0 : wr.cell? ⟨p, 0, none⟩ = some (.int .i64 (bud : Nat)) := by rw [cell_of_block hp']; rfl
    have k1' : wr.cell? ⟨p, 1, none⟩ = some (.int .i64 (sumL l' : Nat)) := by rw [cell_of_block hp']; rfl
    have hs' := hgo.line.sum_le
    clear hgo hp'
    by_cases hb : bud < sumL l'
    · cases l' with
      | nil => simp [sumL] at hb
      | cons x r =>
        have HB := Lib.hid hb
        have hbd : decide (bud < sumL (x :: r)) = true := decide_eq_true hb
        generalize hS : sumL (x :: r) = S at k1' hs' hb hbd
        have HSS := Lib.hid hS
        clear hS
        have HO1 : Hid (os.length + 1 ≤ maxLen) := (show os.length + 1 ≤ maxLen by
          have h1 := goes_len bud (l ++ [(a, m)])
          rw [HG.out.goes] at h1
          simp at h1
          have := HL.out
          unfold maxLen; omega)
        have HO2 : Hid ((os.length + 1) * 8 ≤ 140737488355328) := (show (os.length + 1) * 8 ≤ 140737488355328 by
          have h1 := goes_len bud (l ++ [(a, m)])
          rw [HG.out.goes] at h1
          simp at h1
          have := HL.out
          omega)
        have F := Lib.hid (fun n => first_any (wr.drewN n) (HG.out.line.drewN n))
        go_wp2_with fail
        go_quiet (fail)
        go_wp2_with fail
        refine (F.out _).mono ?_
        rintro en w2 ⟨rfl, hl2, hk2⟩
        have HL2 := Lib.hid hl2
        have HK2 := Lib.hid hk2
        have HR2 : Hid (RowS w2 1 u7 os.length (intCells os)) := (HG.out.row.drewN _).keeps hk2 (fun g hg hm => by
          cases List.mem_singleton.1 hm
          have := HG.out.new _ hg
          have := HP1.out
          omega)
        clear hl2 hk2
        go_wp2_with (at_builtin; refine wpList_row (by rfl) (.tmp 40) (.tmp 43) 35 rfl 3 i1 (.int .i64 0) 1 8 Try.underlying35 I1.out Z10.out Z11.out Z12.out rfl (by decide) u7 os.length (intCells os) rfl (HR2.out.keeps ((Keeps.refl [] _).alloc _) (fun _ _ => List.not_mem_nil)) (.slice (some ⟨w2.heap.size, 0, none⟩) 1 1) 1 [.int .i64 x.1] rfl (new_one _ _ _) (one_of rfl) HO1.out HO2.out ?_)
        intro v3 w3 hr3 hg3 hv3
        have e3 : w2.heap.size + 1 = (w2.alloc (.cells #[.int .i64 x.1] 3)).heap.size := (size_alloc _ _).symm
        rw [e3] at hv3
        have G3 := Lib.hid (HG.out.step HB.out HP1.out HQ1.out HB1.out HL2.out HK2.out hr3 hg3 hv3)
        have M3 : Hid (lineLen p w3 < lineLen p wr) := (show lineLen p w3 < lineLen p wr by
          rw [G3.out.line.len_eq, HG.out.line.len_eq]; simp)
        clear hr3 hg3 hv3 e3
        go_wp2
        go_roundw
        case rel => first | exact ⟨_, _, G3.out⟩ | ((repeat apply Exists.intro); exact ⟨⟨_, _, G3.out⟩, rfl⟩)
        case measure => exact M3.out
    · have HBN := Lib.hid hb
      have hbd : decide (bud < sumL l') = false := decide_eq_false hb
      clear hb
      go_wp2_with fail
      go_quiet (fail)
      go_wp2
      go_ret
      obtain ⟨s1, s2⟩ := goes_stop HBN.out
      have eg := HG.out.goes
      rw [s1, List.append_nil] at eg
      have es := HG.out.stays
      rw [s2] at es
      refine ⟨u7, q1, rfl, ?_, fun g hg => ⟨?_, fun e => ?_⟩, ?_, HQ2.out, HG.out.keep.drewN _⟩
      · rw [eg]; exact HG.out.row.drewN _
      · have := HG.out.new g hg; have := HB1.out; omega
      · have h1 := HG.out.new g hg; have h2 := HQ1.out g e; omega
      · rw [es]; exact HG.out.line.drewN _
end Go.Proofs.Ytfiddodlpppdhaa
