/- verify's checker: where it stands; named, numbers, Places. -/
import Derived.Test.YteipnfnbepnpjaaVer1
import Derived.Test.YteipnfnbepnpjaaInts
import Derived.Deep.RegionHeld3
namespace Go.Proofs.Yteipnfnbepnpjaa
open Go.RowKit Go.Maps
set_option linter.unusedVariables false

/-- numbers as cells -/
abbrev natC (l : List Nat) : List Value := intC (l.map fun (k : Nat) => (k : Int))
/-- which instruction stands at a place, as a map's value -/
def placeZ (l : List InsT) (k : Nat) : Int → Option Value := fun x => if 0 ≤ x then (placeN l k x.toNat).map (fun (j : Nat) => Value.int .i64 (j : Nat)) else none
theorem placeZ_nat (l : List InsT) (k a : Nat) : placeZ l k (a : Nat) = (placeN l k a).map (fun (j : Nat) => Value.int .i64 (j : Nat)) := by
  unfold placeZ; rw [if_pos (by omega), Int.toNat_natCast]
theorem placeN_lt (l : List InsT) : ∀ (k x j : Nat), placeN l k x = some j → j < k
  | 0, x, j, h => by cases h
  | k + 1, x, j, h => by
    unfold placeN at h
    split at h
    · cases h; omega
    · have := placeN_lt l k x j h; omega
theorem placeZ_succ (l : List InsT) (k : Nat) (x : InsT) (h : l[k]? = some x) : (fun y => if y = ((x.1 : Nat) : Int) then some (Value.int .i64 ((k : Nat) : Int)) else placeZ l k y) = placeZ l (k + 1) := by
  funext y
  unfold placeZ
  by_cases hy : 0 ≤ y
  · obtain ⟨n, rfl⟩ := Int.eq_ofNat_of_zero_le hy
    rw [if_pos hy, if_pos hy, Int.toNat_natCast]
    show _ = Option.map _ (if l[k]?.map Prod.fst = some n then some k else placeN l k n)
    rw [h]
    by_cases hn : n = x.1
    · subst hn; simp
    · have h1 : ¬ ((n : Int) = ((x.1 : Nat) : Int)) := by omega
      have h2 : ¬ (x.1 = n) := fun e => hn e.symm
      simp [h1, h2]
  · rw [if_neg hy, if_neg hy, if_neg (by omega)]
/-- the checker in block pc: a module of one function (block fb) without parameters -/
structure CkS (B pc fb mb N loc : Nat) (cv lv hv wv : Value) (l : List InsT) (h : List Int) (wk : List Nat) (w0 w : World) : Prop where
  blk : w.heap[pc]? = some (.cells #[.int .i64 0, .slice none 0 0, .slice (some ⟨fb, 0, none⟩) 1 1, .slice none 0 0, .int .i64 0, .int .i64 (loc : Nat), cv, lv, .map (some mb), hv, wv] 101 (0, 0))
  fun_ : w.cell? ⟨fb, 0, none⟩ = some (.int .i64 0)
  row : RowS w 4 lv l.length (cellsI l)
  map : MapAt Try.prog w 3 mb N (placeZ l l.length)
  hrow : RowS w 1 hv h.length (intC h)
  wrow : RowS w 1 wv wk.length (natC wk)
  n1 : pc ≠ fb ∧ pc ≠ mb ∧ lv.ownBlock ≠ some pc
  n2 : ∀ g, hv.ownBlock = some g → g ≠ pc ∧ g ≠ fb ∧ g ≠ mb ∧ lv.ownBlock ≠ some g
  n3 : ∀ g, wv.ownBlock = some g → g ≠ pc ∧ g ≠ fb ∧ g ≠ mb ∧ lv.ownBlock ≠ some g ∧ hv.ownBlock ≠ some g
  b1 : B ≤ pc ∧ (∀ g, hv.ownBlock = some g → B ≤ g) ∧ (∀ g, wv.ownBlock = some g → B ≤ g)
  bel : Below B w0 w
section
variable {B pc fb mb N loc : Nat} {cv lv hv wv : Value} {l : List InsT} {h : List Int} {wk : List Nat} {w0 w w' : World}
theorem CkS.lt (k : CkS B pc fb mb N loc cv lv hv wv l h wk w0 w) : pc < w.heap.size := (Array.getElem?_eq_some_iff.1 k.blk).1
theorem CkS.size (k : CkS B pc fb mb N loc cv lv hv wv l h wk w0 w) : B ≤ w.heap.size := Nat.le_trans k.b1.1 (Nat.le_of_lt k.lt)
theorem CkS.below (k : CkS B pc fb mb N loc cv lv hv wv l h wk w0 w) (hb : Below w.heap.size w w') : CkS B pc fb mb N loc cv lv hv wv l h wk w0 w' := by
  have kk := Keeps.of_below hb (Nat.le_refl _) []
  have fl := World.block_lt_of_cell? w _ k.fun_
  exact ⟨kk.at k.blk List.not_mem_nil, (hb.cell (p := ⟨fb, 0, none⟩) fl).trans k.fun_, k.row.keeps kk (fun _ _ => List.not_mem_nil), k.map.keeps kk List.not_mem_nil, k.hrow.keeps kk (fun _ _ => List.not_mem_nil), k.wrow.keeps kk (fun _ _ => List.not_mem_nil), k.n1, k.n2, k.n3, k.b1, k.bel.trans (hb.mono k.size)⟩
theorem CkS.cell (k : CkS B pc fb mb N loc cv lv hv wv l h wk w0 w) (i : Nat) : w.cell? ⟨pc, i, none⟩ = (#[.int .i64 0, .slice none 0 0, .slice (some ⟨fb, 0, none⟩) 1 1, .slice none 0 0, .int .i64 0, .int .i64 (loc : Nat), cv, lv, .map (some mb), hv, wv] : Array Value)[i]? := cell_of_block k.blk
theorem CkS.ins (k : CkS B pc fb mb N loc cv lv hv wv l h wk w0 w) {i : Nat} {x : InsT} (hx : l[i]? = some x) : ∃ g off cap, lv = .slice (some ⟨g, off, none⟩) l.length cap ∧ g < w.heap.size ∧ l.length ≤ cap ∧ cap ≤ 9223372036854775807 ∧ w.cell? ⟨g, off + i * 4, none⟩ = some (.int .i64 (x.1 : Nat)) ∧ w.cell? ⟨g, off + i * 4 + 1, none⟩ = some (.int .i64 (x.2.1 : Nat)) ∧ w.cell? ⟨g, off + i * 4 + 2, none⟩ = some (.int .i64 (x.2.2.1 : Nat)) ∧ w.cell? ⟨g, off + i * 4 + 3, none⟩ = some (.int .i64 (x.2.2.2 : Nat)) := by
  obtain ⟨a, cap, rfl, h1, h2, h3, h4⟩ := k.row.read
  have c := fun j (hj : j < 4) => cellsI_at hx j hj
  obtain ⟨g, off, ha, hg, d0⟩ := h4 (i * 4 + 0) _ ((c 0 (by omega)).trans rfl)
  obtain ⟨_, _, e1, _, d1⟩ := h4 (i * 4 + 1) _ ((c 1 (by omega)).trans rfl)
  obtain ⟨_, _, e2, _, d2⟩ := h4 (i * 4 + 2) _ ((c 2 (by omega)).trans rfl)
  obtain ⟨_, _, e3, _, d3⟩ := h4 (i * 4 + 3) _ ((c 3 (by omega)).trans rfl)
  subst ha
  cases e1; cases e2; cases e3
  rw [Nat.add_zero] at d0
  exact ⟨g, off, cap, rfl, hg, h1, by simpa [maxLen] using h2, d0, by rw [Nat.add_assoc]; exact d1, by rw [Nat.add_assoc]; exact d2, by rw [Nat.add_assoc]; exact d3⟩
set_option maxRecDepth 100000 in
set_option maxHeartbeats 4000000 in
theorem named_any (t : Int) (op a b : Nat) (hop : op < 44) (ha : a ≤ 65535) (hb : b ≤ 65535) (hl : loc ≤ 1000) (k : CkS B pc fb mb N loc cv lv hv wv l h wk w0 w) :
    Calls Try.prog 67 #[.pointer (some ⟨pc, 0, none⟩), .agg #[.int .i64 t, .int .i64 (op : Nat), .int .i64 (a : Nat), .int .i64 (b : Nat)]] w fun e w' => e = .returned (.bool (namedN loc op a b)) ∧ Below w.heap.size w w' := by
  have c0 : w.cell? ⟨pc, 0, none⟩ = some (.int .i64 0) := k.cell 0
  have c1 : w.cell? ⟨pc, 1, none⟩ = some (.slice none 0 0) := k.cell 1
  have c2 : w.cell? ⟨pc, 2, none⟩ = some (.slice (some ⟨fb, 0, none⟩) 1 1) := k.cell 2
  have c3 : w.cell? ⟨pc, 3, none⟩ = some (.slice none 0 0) := k.cell 3
  have c5 : w.cell? ⟨pc, 5, none⟩ = some (.int .i64 (loc : Nat)) := k.cell 5
  have f0 := k.fun_
  have hpl := k.lt
  have hfl := World.block_lt_of_cell? w _ f0
  clear k
  have i0 : ¬ ((a : Int) < 0) := by omega
  have HB := Lib.hid (fun (o1 : Obj) (n : Nat) => (show Below w.heap.size w ((w.alloc o1).drewN n) from ⟨rfl, rfl, rfl, by simp [World.drewN], fun k hk => Below.heap_alloc w o1 k hk⟩))
  by_cases h1 : op = 1 ∨ op = 9 ∨ op = 10 ∨ op = 29
  · rcases h1 with rfl | rfl | rfl | rfl
    all_goals
      go_enter Try.func67, Try.ntmps67
      go_wp2_with fail
      go_quiet (fail)
      go_wp2
      go_ret
      exact ⟨rfl, HB.out _ _⟩
  by_cases h2 : op = 7 ∨ op = 8
  · rcases h2 with rfl | rfl
    all_goals
      go_enter Try.func67, Try.ntmps67
      go_wp2_with fail
      go_quiet (fail)
      go_wp2
      go_ret
      exact ⟨rfl, HB.out _ _⟩
  by_cases h3 : op = 21
  · subst h3
    go_enter Try.func67, Try.ntmps67
    go_wp2_with fail
    go_quiet (fail)
    go_wp2
    go_ret
    exact ⟨ret_bool2 (show decide ((a : Int) < 1) = decide (a = 0) by rw [decide_eq_decide]; omega), HB.out _ _⟩
  by_cases h4 : op = 35
  · subst h4
    by_cases h0 : a = 0
    · subst h0
      by_cases hb0 : b = 0
      · subst hb0
        go_enter Try.func67, Try.ntmps67
        go_wp2_with fail
        go_quiet (fail)
        go_wp2
        go_ret
        exact ⟨rfl, HB.out _ _⟩
      · have HR : Hid (namedN loc 35 0 b = false) := (show namedN loc 35 0 b = false by unfold namedN; simp [hb0])
        have HR2 : Hid (decide (b = 0) = false) := (show decide (b = 0) = false from decide_eq_false hb0)
        have i1 : ¬ (b : Int) ≤ 0 := by omega
        rw [HR.out]
        clear hb0
        go_enter Try.func67, Try.ntmps67
        go_wp2_with fail
        go_quiet (fail)
        go_wp2
        go_ret
        exact ⟨ret_bool2 HR2.out, HB.out _ _⟩
    · have HR : Hid (namedN loc 35 a b = false) := (show namedN loc 35 a b = false by unfold namedN; simp [h0])
      have i1 : decide ((a : Int) < 1) = false := by rw [decide_eq_false_iff_not]; omega
      have i2 : ¬ (a = 0) := h0
      rw [HR.out]
      go_enter Try.func67, Try.ntmps67
      go_wp2_with fail
      go_region
      all_goals
        go_wp2
        go_ret
        exact ⟨rfl, (((Below.refl _ w).alloc (Nat.le_refl _) _).drew)⟩
  have hm : op ∈ List.range 44 := by simp; omega
  simp only [List.range, List.range.loop, List.mem_cons, List.not_mem_nil, or_false] at hm
  rcases hm with rfl | rfl | rfl | rfl | rfl | rfl | rfl | rfl | rfl | rfl | rfl | rfl | rfl | rfl | rfl | rfl | rfl | rfl | rfl | rfl | rfl | rfl | rfl | rfl | rfl | rfl | rfl | rfl | rfl | rfl | rfl | rfl | rfl | rfl | rfl | rfl | rfl | rfl | rfl | rfl | rfl | rfl | rfl | rfl
  all_goals first | exact absurd (by decide) h1 | exact absurd (by decide) h2 | exact absurd rfl h3 | exact absurd rfl h4 | skip
  all_goals clear h1 h2 h3 h4 hop
  all_goals
    go_enter Try.func67, Try.ntmps67
    go_wp2
    go_ret
    exact ⟨rfl, (Below.refl _ _).alloc (Nat.le_refl _) _⟩
end
end Go.Proofs.Yteipnfnbepnpjaa
