/- pages: what a table is; New makes one. -/
import Derived.Test.YtfiddodlpppdhaaSetNew
import Derived.Test.YtfiddodlpppdhaaSetRun
import Derived.Test.YtfiddodlpppdhaaSetDrop
import Derived.Test.YtfiddodlpppdhaaMaps
namespace Go.Proofs.Ytfiddodlpppdhaa
open Go.RowKit Go.Maps
set_option linter.unusedVariables false

theorem pg_key : Keyed Try.prog 3 := int_keyed Try.underlying3
theorem pg_zero (w : World) : (zeroValue 96).run Try.prog w = .ok (.agg #[.int .i64 0, .int .i64 0, .int .i64 0]) w := by kernel_rfl

/-- pages that were taken together: the first one, how many, the mark -/
abbrev RunT := Nat × Nat × Int
def runV (r : RunT) : Value := .agg #[.int .i64 (r.1 : Nat), .int .i64 (r.2.1 : Nat), .int .i64 r.2.2]
def mapT (T : Nat → Option RunT) : Int → Option Value := fun x => if 0 ≤ x then (T x.toNat).map runV else none
theorem mapT_nat (T : Nat → Option RunT) (k : Nat) : mapT T (k : Int) = (T k).map runV := by
  unfold mapT
  rw [if_pos (by omega), Int.toNat_natCast]
/-- which pages are not free -/
def usedB (T : Nat → Option RunT) : Nat → Bool := fun i => i == 0 || (T i).isSome
/-- the runs are whole -/
def RunsOK (n : Nat) (T : Nat → Option RunT) : Prop := ∀ (i a k : Nat) (mk : Int), T i = some (a, k, mk) → 1 ≤ a ∧ a ≤ i ∧ i < a + k ∧ a + k ≤ n ∧ ∀ j, a ≤ j → j < a + k → T j = some (a, k, mk)
/-- block p is a Table: its set s (words g), its map m; T says with which run each page was taken -/
structure PagesAt (w : World) (p s g m n c : Nat) (T : Nat → Option RunT) : Prop where
  head : ∃ ty, w.heap[p]? = some (.cells #[.int .i64 (n : Nat), .pointer (some ⟨s, 0, none⟩), .map (some m)] ty (0, 0))
  set : SetAt w s g n (usedB T)
  runs : MapAt Try.prog w 3 m c (mapT T)
  ne : p ≠ s ∧ p ≠ g ∧ p ≠ m ∧ s ≠ m ∧ g ≠ m
  size : 1 ≤ n ∧ n ≤ 4096
  ok : RunsOK n T
section
variable {w w' : World} {p s g m n c : Nat} {T : Nat → Option RunT}
theorem PagesAt.keeps {l : List Nat} (h : PagesAt w p s g m n c T) (k : Keeps l w w') (hp : p ∉ l) (hs : s ∉ l) (hg : g ∉ l) (hm : m ∉ l) : PagesAt w' p s g m n c T := by
  obtain ⟨⟨ty, h1⟩, h2, h3, h4, h5, h6⟩ := h
  exact ⟨⟨ty, k.at h1 hp⟩, h2.keeps k hs hg, h3.keeps k hm, h4, h5, h6⟩
theorem PagesAt.drewN (h : PagesAt w p s g m n c T) (k : Nat) : PagesAt (w.drewN k) p s g m n c T :=
  h.keeps ((Keeps.refl [] w).drewN k) List.not_mem_nil List.not_mem_nil List.not_mem_nil List.not_mem_nil
theorem PagesAt.below (h : PagesAt w p s g m n c T) (hb : Below w.heap.size w w') : PagesAt w' p s g m n c T :=
  h.keeps (Keeps.of_below hb (Nat.le_refl _) []) List.not_mem_nil List.not_mem_nil List.not_mem_nil List.not_mem_nil
theorem PagesAt.mono (h : PagesAt w p s g m n c T) {c' : Nat} (hc : c ≤ c') : PagesAt w p s g m n c' T := ⟨h.head, h.set, h.runs.mono hc, h.ne, h.size, h.ok⟩
theorem PagesAt.cells (h : PagesAt w p s g m n c T) : w.cell? ⟨p, 0, none⟩ = some (.int .i64 (n : Nat)) ∧ w.cell? ⟨p, 1, none⟩ = some (.pointer (some ⟨s, 0, none⟩)) ∧ w.cell? ⟨p, 2, none⟩ = some (.map (some m)) := by
  obtain ⟨ty, hp⟩ := h.head
  rw [cell_of_block hp, cell_of_block hp, cell_of_block hp]
  exact ⟨rfl, rfl, rfl⟩
theorem PagesAt.lt (h : PagesAt w p s g m n c T) : p < w.heap.size ∧ s < w.heap.size ∧ g < w.heap.size ∧ m < w.heap.size := by
  obtain ⟨ty, hp⟩ := h.head
  exact ⟨(Array.getElem?_eq_some_iff.1 hp).1, h.set.lt.1, h.set.lt.2, h.runs.lt⟩
end
/-- how many pages a table has -/
def pagesN (n : Int) : Nat := (max 1 (min n 4096)).toNat
/-- a new table -/
def SomePages (n : Nat) (w : World) (en : Ending) (w' : World) : Prop :=
  ∃ p s g m, en = .returned (.pointer (some ⟨p, 0, none⟩)) ∧ PagesAt w' p s g m n 0 (fun _ => none) ∧ (w.heap.size ≤ p ∧ w.heap.size ≤ s ∧ w.heap.size ≤ g ∧ w.heap.size ≤ m) ∧ Below w.heap.size w w'
theorem pnew_made {w w1 w2 : World} {n s g : Nat} {ty : TypeId} (hn : 1 ≤ n ∧ n ≤ 4096) (hs : SetAt w1 s g n (fun _ => false)) (hsz : w.heap.size ≤ s ∧ w.heap.size ≤ g) (hb : Below w.heap.size w w1)
    (h2 : SetAt w2 s g n (fun j => if ((0 : Int) ≤ 0 ∧ (0 : Int) < (n : Int)) ∧ j = (0 : Int).toNat then true else false)) (hg : ((w1.alloc (.map #[] 0)).alloc (.cells #[.int .i64 (n : Nat), .pointer (some ⟨s, 0, none⟩), .map (some w1.heap.size)] ty)).grownBy w2 (some g)) :
    SomePages n w (.returned (.pointer (some ⟨w1.heap.size + 1, 0, none⟩))) w2 := by
  have hlt := hs.lt
  have hsz1 := hb.size
  have k : Keeps [g] _ w2 := Keeps.of_grown hg (by simp)
  refine ⟨w1.heap.size + 1, s, g, w1.heap.size, rfl, ⟨⟨ty, ?_⟩, h2.congr fun i hi => ?_, ?_, by omega, hn, fun i a k mk h => by cases h⟩, by omega, ?_⟩
  · refine k.at ?_ (by simp; omega)
    have := heap_alloc_at (w1.alloc (.map #[] 0)) (.cells #[.int .i64 (n : Nat), .pointer (some ⟨s, 0, none⟩), .map (some w1.heap.size)] ty)
    rwa [size_alloc] at this
  · unfold usedB
    by_cases h0 : i = 0
    · subst h0; simp; omega
    · simp [h0]
  · refine MapAt.congr (f := fun _ => none) ?_ (fun x _ => by unfold mapT; split <;> rfl)
    refine MapAt.keeps (l := [g]) ?_ k (by simp; omega)
    exact (MapAt.made Try.prog w1 3).same (heap_alloc_lt _ _ (by rw [size_alloc]; omega))
  · refine (((hb.alloc hb.size _).alloc (by rw [size_alloc]; omega) _).trans (k.below ?_ ?_))
    · rw [size_alloc, size_alloc]; omega
    · intro x hx; simp at hx; omega
set_option maxRecDepth 100000 in
theorem pnew_mid (n : Nat) (w : World) (hn1 : 1 < n) (hn2 : n ≤ 4096) : Calls Try.prog 25 #[.int .i64 (n : Nat)] w (SomePages n w) := by
  have hmm := @run_makeMap Try.prog
  have HN := Lib.hid (fun w => new_any (n : Nat) w (by omega))
  rw [show setN (n : Nat) = n by unfold setN; omega] at HN
  have h1 : (1 : Int) < (n : Int) := by omega
  go_enter Try.func25, Try.ntmps25
  go_wp2_with fail
  refine (HN.out _).mono ?_
  rintro en w1 ⟨s, g, rfl, hs, hs1, hs2, hb⟩
  have HS := Lib.hid hs
  have HSZ := Lib.hid (And.intro hs1 hs2)
  have HB := Lib.hid hb
  have hlt := hs.lt
  clear hs hs1 hs2 hb
  go_wp2_with fail
  refine (add_any 0 _ (HS.out.keeps (((Keeps.refl [] _).alloc _).alloc _) List.not_mem_nil List.not_mem_nil)).mono ?_
  rintro en w2 ⟨rfl, h2, hg⟩
  have HE := Lib.hid (pnew_made (by omega) HS.out HSZ.out HB.out h2 hg)
  clear h2 hg
  go_wp2
  go_ret
  exact HE.out
set_option maxRecDepth 100000 in
theorem pnew_low (a : Int) (w : World) (h1 : a ≤ 1) : Calls Try.prog 25 #[.int .i64 a] w (SomePages 1 w) := by
  have hmm := @run_makeMap Try.prog
  have HN := Lib.hid (fun w => new_any 1 w (by omega))
  rw [show setN 1 = 1 by unfold setN; omega] at HN
  have h2 : a ≤ 4096 := by omega
  go_enter Try.func25, Try.ntmps25
  go_wp2_with fail
  refine (HN.out _).mono ?_
  rintro en w1 ⟨s, g, rfl, hs, hs1, hs2, hb⟩
  have HS := Lib.hid hs
  have HSZ := Lib.hid (And.intro hs1 hs2)
  have HB := Lib.hid hb
  have hlt := hs.lt
  clear hs hs1 hs2 hb
  go_wp2_with fail
  refine (add_any 0 _ (HS.out.keeps (((Keeps.refl [] _).alloc _).alloc _) List.not_mem_nil List.not_mem_nil)).mono ?_
  rintro en w2 ⟨rfl, h2, hg⟩
  have HE := Lib.hid (pnew_made (by omega) HS.out HSZ.out HB.out h2 hg)
  clear h2 hg
  go_wp2
  go_ret
  exact HE.out
set_option maxRecDepth 100000 in
theorem pnew_high (a : Int) (w : World) (h1 : 4096 < a) : Calls Try.prog 25 #[.int .i64 a] w (SomePages 4096 w) := by
  have hmm := @run_makeMap Try.prog
  have HN := Lib.hid (fun w => new_any 4096 w (by omega))
  rw [show setN 4096 = 4096 by unfold setN; omega] at HN
  go_enter Try.func25, Try.ntmps25
  go_wp2_with fail
  refine (HN.out _).mono ?_
  rintro en w1 ⟨s, g, rfl, hs, hs1, hs2, hb⟩
  have HS := Lib.hid hs
  have HSZ := Lib.hid (And.intro hs1 hs2)
  have HB := Lib.hid hb
  have hlt := hs.lt
  clear hs hs1 hs2 hb
  go_wp2_with fail
  refine (add_any 0 _ (HS.out.keeps (((Keeps.refl [] _).alloc _).alloc _) List.not_mem_nil List.not_mem_nil)).mono ?_
  rintro en w2 ⟨rfl, h2, hg⟩
  have HE := Lib.hid (pnew_made (by omega) HS.out HSZ.out HB.out h2 hg)
  clear h2 hg
  go_wp2
  go_ret
  exact HE.out
theorem pnew_any (a : Int) (w : World) : Calls Try.prog 25 #[.int .i64 a] w (SomePages (pagesN a) w) := by
  by_cases h1 : a ≤ 1
  · rw [show pagesN a = 1 by unfold pagesN; omega]; exact pnew_low a w h1
  · by_cases h2 : a ≤ 4096
    · obtain ⟨n, rfl⟩ : ∃ n : Nat, a = n := ⟨a.toNat, by omega⟩
      rw [show pagesN n = n by unfold pagesN; omega]; exact pnew_mid n w (by omega) (by omega)
    · rw [show pagesN a = 4096 by unfold pagesN; omega]; exact pnew_high a w (by omega)
end Go.Proofs.Ytfiddodlpppdhaa
