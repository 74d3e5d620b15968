/- arena's New computes what it says. -/
import Derived.Test.YtfiddodlpppdhaaAsAlloc
import Derived.Deep.RegionLaw
namespace Go.Proofs.Ytfiddodlpppdhaa
open Go.RowKit Go.Maps
set_option linter.unusedVariables false
/-- a line's budget -/
def budN (b : Int) : Nat := (max 0 (min b 1073741824)).toNat
theorem lineNew_any (b : Int) (w : World) : Calls Try.prog 26 #[.int .i64 b] w (SomeLine (budN b) w) := by
  by_cases h : b < 0
  · have hb : budN b = 0 := by unfold budN; omega
    rw [hb]
    have h1 : ¬ 0 < b := by omega
    have h2 : b ≤ 0 := by omega
    have h3 : b < 1073741824 := by omega
    have h4 : b ≤ 1073741824 := by omega
    go_enter Try.func26, Try.ntmps26
    go_wp2
    go_ret
    exact made_line w 0 (by decide) _
  · by_cases h1 : b ≤ 1073741824
    · obtain ⟨k, rfl⟩ : ∃ k : Nat, b = k := ⟨b.toNat, by omega⟩
      rw [show budN k = k by unfold budN; omega]
      exact lineNew_in k w (by omega)
    · have hb : budN b = 1073741824 := by unfold budN; omega
      rw [hb]
      have h3 : 1073741824 < b := by omega
      go_enter Try.func26, Try.ntmps26
      go_wp2
      go_ret
      exact made_line w 1073741824 (by decide) _
/-- a new arena -/
def SomeAr (N bud : Nat) (w : World) (en : Ending) (w' : World) : Prop := ∃ pa, en = .returned (.pointer (some ⟨pa, 0, none⟩)) ∧ ArS (low w.heap.size) w' pa 0 (newA N bud) ∧ ArOk (newA N bud) ∧ Below w.heap.size w w'
theorem newA_ok {N bud : Nat} (h : 1 ≤ N ∧ N ≤ 4096) : ArOk (newA N bud) :=
  by
  refine ⟨h, ?_, ?_, ?_, ?_, ?_, ⟨[], by simp, rfl, fun x hx => by cases hx⟩, ?_⟩
  · intro x b hb; cases hb
  · intro c x hx; cases hx
  · intro x n hx; cases hx
  · simp [newA]
  · intro x b hb; cases hb
  · intro i a k mk hi; cases hi
theorem ar_info : (Try.prog.info? 38).map (fun i => (i.zero, i.size, i.bytes)) = some (some (.int .u64 0), 1, 8) := by kernel_rfl
theorem drew_heap_eq (w : World) : w.drew.heap = w.heap := rfl
theorem alloc_at' {w : World} {o : Obj} {k : Nat} (h : k = w.heap.size) : (w.alloc o).heap[k]? = some o := by subst h; exact heap_alloc_at _ _
/-- the parts that New lays, apart from each other -/
theorem made_ar {w X : World} {n bud gw p5 s5 g5 m5 p6 mb pa m : Nat} {Z : Array Value} (hZ : Z = madeCells (Value.int .u64 0).cells m) (hm : m = 64 * n) (hn : 1 ≤ n ∧ n ≤ 4096) (hpa : pa = X.heap.size)
    (hgw : X.heap[gw]? = some (.cells Z 38 (0, 0))) (q5 : PagesAt X p5 s5 g5 m5 n 0 (fun _ => none)) (q6 : LineAt X p6 none bud []) (hmb : X.heap[mb]? = some (.map #[] 0)) (hb : Below w.heap.size w X)
    (r1 : w.heap.size ≤ gw) (r5 : w.heap.size ≤ p5 ∧ w.heap.size ≤ s5 ∧ w.heap.size ≤ g5 ∧ w.heap.size ≤ m5) (r6 : w.heap.size ≤ p6) (rm : w.heap.size ≤ mb)
    (d1 : gw ≠ p6 ∧ gw ≠ mb ∧ p6 ≠ mb) (d2 : p5 ≠ gw ∧ p5 ≠ p6 ∧ p5 ≠ mb) (d3 : s5 ≠ gw ∧ s5 ≠ p6 ∧ s5 ≠ mb) (d4 : g5 ≠ gw ∧ g5 ≠ p6 ∧ g5 ≠ mb) (d5 : m5 ≠ gw ∧ m5 ≠ p6 ∧ m5 ≠ mb) :
    SomeAr n bud w (.returned (.pointer (some ⟨pa, 0, none⟩))) (X.alloc (.cells #[.slice (some ⟨gw, 0, none⟩) m m, .pointer (some ⟨p5, 0, none⟩), .pointer (some ⟨p6, 0, none⟩), .map (some mb), .slice none 0 0, .slice none 0 0, .slice none 0 0, .slice none 0 0, .slice none 0 0, .int .i64 0] 57)) := by
  have l5 := q5.lt
  have l6 := q6.lt.1
  have lg := (Array.getElem?_eq_some_iff.1 hgw).1
  have lm := (Array.getElem?_eq_some_iff.1 hmb).1
  have lw := hb.size
  subst hm
  obtain ⟨o, ho⟩ : ∃ o, o = Obj.cells #[.slice (some ⟨gw, 0, none⟩) (64 * n) (64 * n), .pointer (some ⟨p5, 0, none⟩), .pointer (some ⟨p6, 0, none⟩), .map (some mb), .slice none 0 0, .slice none 0 0, .slice none 0 0, .slice none 0 0, .slice none 0 0, .int .i64 0] 57 (0, 0) := ⟨_, rfl⟩
  have hb1 : Below X.heap.size X (X.alloc o) := (Below.refl _ _).alloc (Nat.le_refl _) o
  rw [← ho]
  refine ⟨pa, rfl, ⟨⟨gw, p5, s5, g5, m5, p6, none, mb, fun _ => .slice none 0 0, fun _ => 0⟩, fun g => if g = pa then 1 else if g = gw then 2 else if g = p5 ∨ g = s5 ∨ g = g5 ∨ g = m5 then 3 else if g = p6 then 4 else if g = mb then 5 else 0, ?_, fun g hg => ?_, ?_⟩, newA_ok hn, hb.trans (hb1.mono lw)⟩
  · refine ⟨?_, ⟨Z, ?_, ?_, ?_⟩, ?_, q5.below hb1, q6.keeps (Keeps.of_below hb1 (Nat.le_refl _) []) List.not_mem_nil (fun _ _ => List.not_mem_nil), ?_, ?_, ?_, ?_, ?_, ?_, ⟨?_, ?_⟩, ?_, ?_, ?_⟩
    · rw [hpa, heap_alloc_at, ho]; rfl
    · exact (heap_alloc_lt X o lg).trans hgw
    · rw [hZ]; exact (by simp [size_madeCells] : (madeCells (Value.int .u64 0).cells (64 * n)).size = 64 * n)
    · intro i hi
      have hi : i < 64 * n := hi
      rw [hZ, ← Array.getElem?_toList]
      show (madeCells #[Value.int .u64 0] (64 * n)).toList[i]? = _
      rw [toList_madeCells_one, List.getElem?_replicate, if_pos hi]
      rfl
    · intro i; show (Lit.int .u64 0).wf = true; decide
    · refine MapAt.congr (f := fun _ => none) ?_ (fun x _ => by unfold mapP newA; split <;> rfl)
      obtain ⟨D, ⟨es, clock, h1, h2⟩, h3⟩ := MapAt.made Try.prog X 3
      rw [heap_alloc_at] at h1
      cases h1
      exact ⟨D, ⟨_, _, (heap_alloc_lt X o lm).trans hmb, h2⟩, h3⟩
    · intro x b hb; cases hb
    · intro c hc
      refine ⟨[], RowS.nil _ _, (fun k h1 h2 => by simp at h2), List.nodup_nil, fun x => ⟨fun hx => (by cases hx), ?_⟩⟩
      rintro ⟨k, _, hf⟩; cases hf
    · exact if_pos rfl
    · show (if gw = pa then 1 else if gw = gw then 2 else _) = 2
      rw [if_neg (by omega), if_pos rfl]
    · refine ⟨?_, ?_, ?_, ?_⟩
      · show (if p5 = pa then 1 else if p5 = gw then 2 else if p5 = p5 ∨ _ then 3 else _) = 3
        rw [if_neg (by omega), if_neg (by omega), if_pos (by simp)]
      · show (if s5 = pa then 1 else if s5 = gw then 2 else if s5 = p5 ∨ s5 = s5 ∨ _ then 3 else _) = 3
        rw [if_neg (by omega), if_neg (by omega), if_pos (by simp)]
      · show (if g5 = pa then 1 else if g5 = gw then 2 else if g5 = p5 ∨ g5 = s5 ∨ g5 = g5 ∨ _ then 3 else _) = 3
        rw [if_neg (by omega), if_neg (by omega), if_pos (by simp)]
      · show (if m5 = pa then 1 else if m5 = gw then 2 else if m5 = p5 ∨ m5 = s5 ∨ m5 = g5 ∨ m5 = m5 then 3 else _) = 3
        rw [if_neg (by omega), if_neg (by omega), if_pos (by simp)]
    · show (if p6 = pa then 1 else if p6 = gw then 2 else if p6 = p5 ∨ p6 = s5 ∨ p6 = g5 ∨ p6 = m5 then 3 else if p6 = p6 then 4 else _) = 4
      rw [if_neg (by omega), if_neg (by omega), if_neg (by omega), if_pos rfl]
    · intro g hg; cases hg
    · show (if mb = pa then 1 else if mb = gw then 2 else if mb = p5 ∨ mb = s5 ∨ mb = g5 ∨ mb = m5 then 3 else if mb = p6 then 4 else if mb = mb then 5 else 0) = 5
      rw [if_neg (by omega), if_neg (by omega), if_neg (by omega), if_neg (by omega), if_pos rfl]
    · intro c hc g hg; cases hg
    · intro x b hb; cases hb
  · have hg : (if g = pa then 1 else if g = gw then 2 else if g = p5 ∨ g = s5 ∨ g = g5 ∨ g = m5 then 3 else if g = p6 then 4 else if g = mb then 5 else 0) ≠ 0 := hg
    show ¬ (g < w.heap.size)
    by_cases e1 : g = pa
    · omega
    · rw [if_neg e1] at hg
      by_cases e2 : g = gw
      · omega
      · rw [if_neg e2] at hg
        by_cases e3 : g = p5 ∨ g = s5 ∨ g = g5 ∨ g = m5
        · omega
        · rw [if_neg e3] at hg
          by_cases e4 : g = p6
          · omega
          · rw [if_neg e4] at hg
            by_cases e5 : g = mb
            · omega
            · rw [if_neg e5] at hg; exact absurd rfl hg
  · intro g hg
    have hg : g < w.heap.size := hg
    rw [size_alloc]; omega
theorem pagesN_bd (a : Int) : 1 ≤ pagesN a ∧ pagesN a ≤ 4096 := by unfold pagesN; omega
set_option maxRecDepth 100000 in
set_option maxHeartbeats 4000000 in
theorem arNew_at (a bud : Int) (w : World) : Calls Try.prog 12 #[.int .i64 a, .int .i64 bud] w (SomeAr (pagesN a) (budN bud) w) := by
  obtain ⟨i0, hi, hz0, hz1, hz2⟩ := info_parts ar_info
  obtain ⟨h1, h2⟩ := pagesN_bd a
  obtain ⟨n, hn⟩ : ∃ n, n = pagesN a := ⟨_, rfl⟩
  rw [← hn] at h1 h2 ⊢
  obtain ⟨m, hm⟩ : ∃ m, m = 64 * n := ⟨_, rfl⟩
  obtain ⟨Z, hZ⟩ : ∃ Z, Z = madeCells (Value.int .u64 0).cells m := ⟨_, rfl⟩
  have hw : IntKind.i64.wrap ((n : Int) * 64) = (m : Int) := by rw [IntWalk.i64_in _ (by omega)]; omega
  have hmk : ∀ W : World, (Instr.makeSlice 48 (.int .i64 (m : Int)) (.int .i64 (m : Int))).run Try.prog W = .ok (.slice (some ⟨W.heap.size, 0, none⟩) m m) (W.alloc (.cells Z 38)) := by
    intro W
    have := makes_len (P := Try.prog) 48 38 i0 (.int .u64 0) Try.underlying48 hi hz0 .i64 .i64 m m (Nat.le_refl _) (by rw [hz2]; omega) (by omega) W
    rw [hz1, Nat.mul_one, ← hZ] at this
    exact this
  have hmm := @run_makeMap Try.prog
  have HP := Lib.hid (fun w => pnew_any (n : Nat) w)
  rw [show pagesN (n : Nat) = n by unfold pagesN; omega] at HP
  have HL := Lib.hid (fun w => lineNew_any bud w)
  have HZ := Lib.hid hZ
  have HM := Lib.hid hm
  have HN := Lib.hid hn
  clear hi hz0 hz1 hz2 hZ hm hn
  go_enter Try.func12, Try.ntmps12
  go_upto_region 1 with (fail)
  go_cut [0] (fun v wx => v = .int .i64 (n : Nat) ∧ wx = w)
  case first =>
    have hn := HN.out
    unfold pagesN at hn
    by_cases g1 : a ≤ 4096
    · by_cases g2 : 1 < a
      · obtain rfl : a = (n : Int) := by omega
        clear hn HN
        go_wp2_with fail
        go_meet
        exact ⟨rfl, rfl⟩
      · obtain rfl : n = 1 := by omega
        clear hn HN
        have g3 : a ≤ 1 := by omega
        go_wp2_with fail
        go_meet
        exact ⟨rfl, rfl⟩
    · obtain rfl : n = 4096 := by omega
      clear hn HN
      have g3 : 4096 < a := by omega
      go_wp2_with fail
      go_meet
      exact ⟨rfl, rfl⟩
  case rest =>
    obtain ⟨rfl, rfl⟩ := hcut
    clear HN
    go_wp2_with fail
    go_region_law (first
      | (go_simp
         go_at_call 25
         refine (HP.out _).mono ?_
         rintro e w5 ⟨p5, s5, g5, m5, rfl, q5, r5, b5⟩)
      | (go_simp
         go_at_call 26
         refine (HL.out _).mono ?_
         rintro e w6 ⟨p6, rfl, q6, r6, b6⟩))
    all_goals
      rename_i K9 hK9
      apply hK9
      go_wp2
      go_ret
      have l5 := q5.lt
      have l6 := q6.lt.1
      have z5 := b5.size
      have z6 := b6.size
      try simp only [size_alloc] at l5 l6 z5 z6 r5 r6
      try simp only [drew_heap_eq] at l5 l6 z5 z6 r5 r6
      try simp only [size_alloc] at l5 l6 z5 z6 r5 r6
      refine made_ar HZ.out HM.out (And.intro h1 h2) (by simp) ?_ (q5.below ?_) (q6.keeps (Keeps.of_below ?_ (Nat.le_refl _) []) List.not_mem_nil (fun _ _ => List.not_mem_nil)) ?_ ?_ ?_ ?_ ?_ ?_ ?_ ?_ ?_ ?_ ?_
    all_goals try omega
    all_goals
      repeat first
        | exact Below.refl _ _
        | refine Below.alloc ?_ (by first | omega | ((repeat (first | rw [drew_heap_eq] | rw [size_alloc])) <;> omega)) _
        | refine Below.drew ?_
        | refine Below.trans ?_ (b6.mono (by first | omega | ((repeat (first | rw [drew_heap_eq] | rw [size_alloc])) <;> omega)))
        | refine Below.trans ?_ (b5.mono (by first | omega | ((repeat (first | rw [drew_heap_eq] | rw [size_alloc])) <;> omega)))
        | exact alloc_at' (by first | rfl | ((repeat (first | rw [drew_heap_eq] | rw [size_alloc])); done))
        | refine (heap_alloc_lt _ _ (by first | omega | ((repeat (first | rw [drew_heap_eq] | rw [size_alloc])) <;> omega))).trans ?_
        | refine (b6.block _ (by first | omega | ((repeat (first | rw [drew_heap_eq] | rw [size_alloc])) <;> omega))).trans ?_
        | refine (b5.block _ (by first | omega | ((repeat (first | rw [drew_heap_eq] | rw [size_alloc])) <;> omega))).trans ?_
        | rw [drew_heap_eq]
end Go.Proofs.Ytfiddodlpppdhaa
