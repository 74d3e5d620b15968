/- the reference's Take computes what it says. -/
import Derived.Test.YtogifanooleppaaRefPages
namespace Go.Proofs.Ytogifanooleppaa
open Go.RowKit Go.Maps
set_option linter.unusedVariables false

theorem refRunInfo : (Try.prog.info? 88).map (fun i => (i.zero, i.size, i.bytes)) = some (some (.agg #[.int .i64 0, .int .i64 0, .int .i64 0]), 3, 24) := by kernel_rfl
theorem new_three (w : World) (a b c : Value) (t : TypeId) : Src (w.alloc (.cells #[a, b, c] t)) (.slice (some ⟨w.heap.size, 0, none⟩) 1 1) 1 3 [a, b, c] := by
  refine .inr ⟨_, _, rfl, rfl, fun j x hx => ?_⟩
  have h := cell_of_block (i := j) (heap_alloc_at w (.cells #[a, b, c] t))
  have e : (⟨w.heap.size, 0, none⟩ : Addr).add j = ⟨w.heap.size, j, none⟩ := by unfold Addr.add; split <;> simp_all
  rw [e, h, ← hx]
  simp
theorem ints3_one (a b c : Int) : ∀ x ∈ [Value.int .i64 a, .int .i64 b, .int .i64 c], x.oneCell' = true := by
  intro x hx
  simp at hx
  rcases hx with rfl | rfl | rfl <;> rfl
theorem cellsR_snoc (l : List RunT) (r : RunT) : cellsR (l ++ [r]) = cellsR l ++ [.int .i64 (r.1 : Nat), .int .i64 (r.2.1 : Nat), .int .i64 r.2.2] := by rw [cellsR_app]; rfl
section
variable {p n : Nat} {q : Option Nat} {l : List RunT}
/-- a row put in its place -/
theorem RefP.turned' {w w1 : World} (h : RefP w p n q l) {l' : List RunT} {v' : Value} (hs : ∀ r ∈ l', r.1 ≤ 4096 ∧ r.2.1 ≤ 4096) (hl : l'.length ≤ 1048576)
    (hr : RowS w1 3 v' l'.length (cellsR l')) (hk : Keeps q.toList w w1) (hne : v'.ownBlock ≠ some p) :
    RefP (w1.setCell ⟨p, 1, none⟩ v') p n v'.ownBlock l' ∧ Keeps (p :: q.toList) w (w1.setCell ⟨p, 1, none⟩ v') := by
  have hpl := h.lt.1
  have hpq : p ∉ q.toList := by
    have := h.ne
    cases q with
    | none => simp
    | some g => simp; intro e; exact this (by rw [e])
  obtain ⟨ty, v, h1, _, _⟩ := h.at_
  have k1 : Keeps (p :: q.toList) w w1 := hk.mono (by intro x hx; simp [hx])
  refine ⟨⟨⟨ty, v', ?_, rfl, ?_⟩, hne, h.size, hs, hl⟩, k1.setCell (.inl (by simp)) _⟩
  · have e1 := setCell_block (i := 1) (hk.at h1 hpq) v'
    rw [e1]
    rfl
  · refine RowS.keeps (l := [p]) hr ((Keeps.refl _ _).setCell (.inl (by simp)) _) fun g hg' hm => hne ?_
    cases List.mem_singleton.1 hm
    exact hg'
theorem RefP.turned {w w1 : World} (h : RefP w p n q l) {l' : List RunT} {v' : Value} (hs : ∀ r ∈ l', r.1 ≤ 4096 ∧ r.2.1 ≤ 4096) (hl : l'.length ≤ 1048576)
    (hr : RowS w1 3 v' l'.length (cellsR l')) (hk : Keeps q.toList w w1) (hq : v'.ownBlock = q ∨ ∃ g, v'.ownBlock = some g ∧ w.heap.size ≤ g) :
    RefP (w1.setCell ⟨p, 1, none⟩ v') p n v'.ownBlock l' ∧ Keeps (p :: q.toList) w (w1.setCell ⟨p, 1, none⟩ v') := by
  have hpl := h.lt.1
  refine h.turned' hs hl hr hk ?_
  rcases hq with hq | ⟨g, hq, hge⟩
  · rw [hq]; exact h.ne
  · rw [hq]; intro e; cases e; omega
/-- what Take does -/
def RTook (p n : Nat) (q : Option Nat) (l : List RunT) (K : Nat) (mk R : Int) (w : World) (en : Ending) (w' : World) : Prop :=
  en = .returned (.int .i64 R) ∧ ((R = -1 ∧ RefP w' p n q l ∧ Keeps [] w w') ∨ ∃ (r : Nat) (q' : Option Nat), R = r ∧ RefP w' p n q' (l ++ [(r, K, mk)]) ∧ (q' = q ∨ ∃ g, q' = some g ∧ w.heap.size ≤ g) ∧ Keeps (p :: q.toList) w w')
theorem RTook.made {w w1 : World} {K r : Nat} {mk : Int} (h : RefP w p n q l) (hl : l.length < 1048576) (m : Nat) {o : Obj} {v' : Value} (hr : RowS w1 3 v' (l.length + 1) (cellsR l ++ [.int .i64 (r : Nat), .int .i64 (K : Nat), .int .i64 mk])) (hg : ((w.drewN m).alloc o).grownBy w1 q) (hq : v'.ownBlock = q ∨ ∃ g, v'.ownBlock = some g ∧ ((w.drewN m).alloc o).heap.size ≤ g) (hrk : r + K ≤ n) :
    RTook p n q l K mk (r : Int) w (.returned (.int .i64 (r : Nat))) (w1.setCell ⟨p, 1, none⟩ v') := by
  have hn := h.size
  have := h.turned (l' := l ++ [(r, K, mk)]) (v' := v') (w1 := w1) (by
      intro x hx
      rw [List.mem_append] at hx
      rcases hx with hx | hx
      · exact h.small x hx
      · cases List.mem_singleton.1 hx; exact ⟨by simp; omega, by simp; omega⟩) (by simp; omega) (by rw [List.length_append, cellsR_snoc]; exact hr)
    ((((Keeps.refl _ _).drewN m).alloc o).trans (Keeps.of_row hg (by intro g hg'; rw [hg']; simp))) (by
      rcases hq with hq | ⟨g, hq, hge⟩
      · exact .inl hq
      · exact .inr ⟨g, hq, by rw [size_alloc] at hge; have : (w.drewN m).heap.size = w.heap.size := rfl; omega⟩)
  refine ⟨rfl, .inr ⟨r, _, rfl, this.1, ?_, this.2⟩⟩
  rcases hq with hq | ⟨g, hq, hge⟩
  · exact .inl hq
  · exact .inr ⟨g, hq, by rw [size_alloc] at hge; have : (w.drewN m).heap.size = w.heap.size := rfl; omega⟩

set_option maxRecDepth 100000 in
set_option maxHeartbeats 2000000 in
theorem rtake_any (a : Int) (K : Nat) (mk R : Int) (w : World) (h : RefP w p n q l) (hK : (a < 1 ∧ K = 1) ∨ (1 ≤ a ∧ a = K)) (hK2 : a ≤ 9223372036854775807) (hl : l.length < 1048576) (hR : RunIs n (fun i => refUsed l (i : Int)) K R) :
    Calls Try.prog 28 #[.pointer (some ⟨p, 0, none⟩), .int .i64 a, .int .i64 mk] w (RTook p n q l K mk R w) := by
  obtain ⟨a0, cap, c0, c1, f1, hq0, _, _, hrow, _⟩ := h.read
  obtain ⟨i0, hi, hz0, hz1, hz2⟩ := info_parts refRunInfo
  have HI := Lib.hid hi
  have HZ0 := Lib.hid hz0
  have HZ1 := Lib.hid hz1
  have HZ2 := Lib.hid hz2
  have H := Lib.hid h
  have HL := Lib.hid hl
  have HRR := Lib.hid hR
  have HROW := Lib.hid hrow
  have HQ0 := Lib.hid hq0
  have hn := h.size
  have hp := h.lt.1
  have HU := Lib.hid (fun (k m : Nat) => rused_any (k : Int) (w.drewN m) (h.drewN m))
  have HO1 : Hid (l.length + 1 ≤ maxLen) := (show l.length + 1 ≤ maxLen by unfold maxLen; omega)
  have HO2 : Hid ((l.length + 1) * 24 ≤ 140737488355328) := (show (l.length + 1) * 24 ≤ 140737488355328 by omega)
  have hK1 : 1 ≤ K := by omega
  have hK3 : K ≤ 9223372036854775807 := by omega
  have HC1 := Lib.hid (fun (w2 : World) (h2 : w2.heap[p]? = w.heap[p]?) => (show w2.cell? ⟨p, 1, none⟩ = some (.slice a0 l.length cap) ∧ w2.frozen? ⟨p, 1, none⟩ = false by
    obtain ⟨ty, v, e1, _, _⟩ := h.at_
    have e2 := h2.trans e1
    have e3 : w.cell? ⟨p, 1, none⟩ = w2.cell? ⟨p, 1, none⟩ := by rw [cell_of_block e1, cell_of_block e2]
    exact ⟨e3 ▸ c1, free_of_block e2⟩))
  have HNE := Lib.hid h.ne
  clear h hi hz0 hz1 hz2 hl hR hrow hq0
  rcases hK with ⟨h1, rfl⟩ | ⟨h1, rfl⟩
  · go_enter Try.func28, Try.ntmps28
    go_wp2
    go_loopw [7, 8] (fun nv i wr => ∃ k row m : Nat, nv = .int .i64 (row : Nat) ∧ i = .int .i64 (k : Nat) ∧ k ≤ n ∧ wr = w.drewN m ∧ Hid (Scan (fun i => refUsed l (i : Int)) 1 k row)) (fun _ i _ => n - (intOf i).toNat)
    case atStart => exact ⟨0, 0, 0, rfl, rfl, Nat.zero_le _, rfl, Scan.start _ hK1⟩
    case round =>
      obtain ⟨k, row, m, rfl, rfl, hk, rfl, hs⟩ := hrel
      have hle := hs.out.le
      have hlt0 := hs.out.lt
      by_cases hlt : k < n
      · have D := Lib.hid (HU.out k m)
        by_cases hS : refUsed l (k : Int) = true
        · have HS := Lib.hid (hs.out.taken hS)
          have D2 := D.out
          rw [hS] at D2
          have D3 := Lib.hid D2
          have hz : ((0 : Int) == (1 : Int)) = false := by rw [beq_eq_false_iff_ne]; omega
          clear hS D D2 hs
          go_wp2_with fail
          refine D3.out.mono ?_
          rintro e w' ⟨rfl, m2, rfl⟩
          rw [World.drewN_drewN]
          go_wp2
          go_roundw
          case rel => first | exact ⟨k + 1, 0, _, rfl, by go_num, by omega, rfl, HS⟩ | ((repeat apply Exists.intro); exact ⟨⟨k + 1, 0, _, rfl, by go_num, by omega, rfl, HS⟩, rfl⟩)
          case measure => simp [intOf]; omega
        · have hS' : refUsed l (k : Int) = false := by simpa using hS
          have D2 := D.out
          rw [hS'] at D2
          have D3 := Lib.hid D2
          have HS' := Lib.hid hS'
          clear hS hS' D D2
          by_cases he : row + 1 = 1
          · have R1 := Lib.hid (hs.out.found HS'.out he hlt)
            obtain ⟨r, hr⟩ : ∃ r : Nat, (k : Int) - (1 : Int) + 1 = (r : Int) := ⟨k + 1 - 1, by omega⟩
            have HRE : Hid (R = (r : Int)) := (show R = (r : Int) by have := HRR.out.unique R1.out; omega)
            have HRN : Hid (r + 1 ≤ n) := (show r + 1 ≤ n by omega)
            have hz : (((row : Int) + 1) == (1 : Int)) = true := by rw [beq_iff_eq]; omega
            have hr0 : ((r : Nat) : Int) ≤ 4096 := by omega
            clear he hs
            go_wp2_with fail
            refine D3.out.mono ?_
            rintro e w' ⟨rfl, m2, rfl⟩
            rw [World.drewN_drewN]
            go_wp2_with (at_builtin; refine wpList_row (by rfl) (.tmp 31) (.tmp 39) 81 rfl 88 i0 (.agg #[.int .i64 0, .int .i64 0, .int .i64 0]) 3 24 Try.underlying81 HI.out HZ0.out HZ1.out HZ2.out rfl (by decide) (.slice a0 l.length cap) l.length (cellsR l) rfl (HROW.out.keeps (((Keeps.refl [] _).drewN _).alloc _) (fun _ _ => List.not_mem_nil)) (.slice (some ⟨w.heap.size, 0, none⟩) 1 1) 1 [.int .i64 (r : Nat), .int .i64 1, .int .i64 mk] rfl (new_three (w.drewN _) _ _ _ _) (ints3_one _ _ _) HO1.out HO2.out ?_)
            intro v2 w2 hr2 hg2 hv2
            obtain ⟨a2, cap2, rfl, _⟩ := hr2.read
            rw [HQ0.out] at hg2 hv2
            have e3 : ((w.drewN (m + m2)).alloc (.cells #[.int .i64 (r : Nat), .int .i64 1, .int .i64 mk] 88)).heap.size = w.heap.size + 1 := size_alloc _ _
            obtain ⟨q1, q2⟩ := HC1.out w2 (by
              rw [hg2.block p (by first | (rw [size_alloc]; show p < w.heap.size + 1; omega) | (show p < w.heap.size + 1; omega)) (fun e => HNE.out e.symm)]
              exact heap_alloc_lt (w.drewN _) _ hp)
            have RT := Lib.hid (RTook.made H.out HL.out _ hr2 hg2 (by first | exact hv2 | (rw [e3]; exact hv2)) HRN.out)
            clear hr2 hg2 hv2
            go_wp2
            go_ret
            rw [HRE.out]
            exact RT.out
          · have HS := Lib.hid (hs.out.more HS'.out he)
            have hz : (((row : Int) + 1) == (1 : Int)) = false := by rw [beq_eq_false_iff_ne]; omega
            clear he hs
            go_wp2_with fail
            refine D3.out.mono ?_
            rintro e w' ⟨rfl, m2, rfl⟩
            rw [World.drewN_drewN]
            go_wp2
            go_roundw
            case rel => first | exact ⟨k + 1, row + 1, _, by go_num, by go_num, by omega, rfl, HS⟩ | ((repeat apply Exists.intro); exact ⟨⟨k + 1, row + 1, _, by go_num, by go_num, by omega, rfl, HS⟩, rfl⟩)
            case measure => simp [intOf]; omega
      · obtain rfl : k = n := by omega
        have R1 := Lib.hid hs.out.over
        have HRE : Hid (R = -1) := (show R = -1 from HRR.out.unique R1.out)
        clear hs
        go_wp2
        go_ret
        rw [HRE.out]
        exact ⟨rfl, .inl ⟨rfl, H.out.drewN m, (Keeps.refl [] w).drewN m⟩⟩
  · go_enter Try.func28, Try.ntmps28
    go_wp2
    go_loopw [7, 8] (fun nv i wr => ∃ k row m : Nat, nv = .int .i64 (row : Nat) ∧ i = .int .i64 (k : Nat) ∧ k ≤ n ∧ wr = w.drewN m ∧ Hid (Scan (fun i => refUsed l (i : Int)) K k row)) (fun _ i _ => n - (intOf i).toNat)
    case atStart => exact ⟨0, 0, 0, rfl, rfl, Nat.zero_le _, rfl, Scan.start _ hK1⟩
    case round =>
      obtain ⟨k, row, m, rfl, rfl, hk, rfl, hs⟩ := hrel
      have hle := hs.out.le
      have hlt0 := hs.out.lt
      by_cases hlt : k < n
      · have D := Lib.hid (HU.out k m)
        by_cases hS : refUsed l (k : Int) = true
        · have HS := Lib.hid (hs.out.taken hS)
          have D2 := D.out
          rw [hS] at D2
          have D3 := Lib.hid D2
          have hz : ((0 : Int) == (K : Int)) = false := by rw [beq_eq_false_iff_ne]; omega
          clear hS D D2 hs
          go_wp2_with fail
          refine D3.out.mono ?_
          rintro e w' ⟨rfl, m2, rfl⟩
          rw [World.drewN_drewN]
          go_wp2
          go_roundw
          case rel => first | exact ⟨k + 1, 0, _, rfl, by go_num, by omega, rfl, HS⟩ | ((repeat apply Exists.intro); exact ⟨⟨k + 1, 0, _, rfl, by go_num, by omega, rfl, HS⟩, rfl⟩)
          case measure => simp [intOf]; omega
        · have hS' : refUsed l (k : Int) = false := by simpa using hS
          have D2 := D.out
          rw [hS'] at D2
          have D3 := Lib.hid D2
          have HS' := Lib.hid hS'
          clear hS hS' D D2
          by_cases he : row + 1 = K
          · have R1 := Lib.hid (hs.out.found HS'.out he hlt)
            obtain ⟨r, hr⟩ : ∃ r : Nat, (k : Int) - (K : Int) + 1 = (r : Int) := ⟨k + 1 - K, by omega⟩
            have HRE : Hid (R = (r : Int)) := (show R = (r : Int) by have := HRR.out.unique R1.out; omega)
            have HRN : Hid (r + K ≤ n) := (show r + K ≤ n by omega)
            have hz : (((row : Int) + 1) == (K : Int)) = true := by rw [beq_iff_eq]; omega
            have hr0 : ((r : Nat) : Int) ≤ 4096 := by omega
            clear he hs
            go_wp2_with fail
            refine D3.out.mono ?_
            rintro e w' ⟨rfl, m2, rfl⟩
            rw [World.drewN_drewN]
            go_wp2_with (at_builtin; refine wpList_row (by rfl) (.tmp 31) (.tmp 39) 81 rfl 88 i0 (.agg #[.int .i64 0, .int .i64 0, .int .i64 0]) 3 24 Try.underlying81 HI.out HZ0.out HZ1.out HZ2.out rfl (by decide) (.slice a0 l.length cap) l.length (cellsR l) rfl (HROW.out.keeps (((Keeps.refl [] _).drewN _).alloc _) (fun _ _ => List.not_mem_nil)) (.slice (some ⟨w.heap.size, 0, none⟩) 1 1) 1 [.int .i64 (r : Nat), .int .i64 (K : Nat), .int .i64 mk] rfl (new_three (w.drewN _) _ _ _ _) (ints3_one _ _ _) HO1.out HO2.out ?_)
            intro v2 w2 hr2 hg2 hv2
            obtain ⟨a2, cap2, rfl, _⟩ := hr2.read
            rw [HQ0.out] at hg2 hv2
            have e3 : ((w.drewN (m + m2)).alloc (.cells #[.int .i64 (r : Nat), .int .i64 (K : Nat), .int .i64 mk] 88)).heap.size = w.heap.size + 1 := size_alloc _ _
            obtain ⟨q1, q2⟩ := HC1.out w2 (by
              rw [hg2.block p (by first | (rw [size_alloc]; show p < w.heap.size + 1; omega) | (show p < w.heap.size + 1; omega)) (fun e => HNE.out e.symm)]
              exact heap_alloc_lt (w.drewN _) _ hp)
            have RT := Lib.hid (RTook.made H.out HL.out _ hr2 hg2 (by first | exact hv2 | (rw [e3]; exact hv2)) HRN.out)
            clear hr2 hg2 hv2
            go_wp2
            go_ret
            rw [HRE.out]
            exact RT.out
          · have HS := Lib.hid (hs.out.more HS'.out he)
            have hz : (((row : Int) + 1) == (K : Int)) = false := by rw [beq_eq_false_iff_ne]; omega
            clear he hs
            go_wp2_with fail
            refine D3.out.mono ?_
            rintro e w' ⟨rfl, m2, rfl⟩
            rw [World.drewN_drewN]
            go_wp2
            go_roundw
            case rel => first | exact ⟨k + 1, row + 1, _, by go_num, by go_num, by omega, rfl, HS⟩ | ((repeat apply Exists.intro); exact ⟨⟨k + 1, row + 1, _, by go_num, by go_num, by omega, rfl, HS⟩, rfl⟩)
            case measure => simp [intOf]; omega
      · obtain rfl : k = n := by omega
        have R1 := Lib.hid hs.out.over
        have HRE : Hid (R = -1) := (show R = -1 from HRR.out.unique R1.out)
        clear hs
        go_wp2
        go_ret
        rw [HRE.out]
        exact ⟨rfl, .inl ⟨rfl, H.out.drewN m, (Keeps.refl [] w).drewN m⟩⟩
end
end Go.Proofs.Ytogifanooleppaa
