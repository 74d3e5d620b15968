/- A row of numbers behind a pointer: least's Len, Less, Swap, Push, Pop compute what they say. -/
import Derived.Test.YtfiddodlpppdhaaRow
import Derived.Test.YtfiddodlpppdhaaChecked
import Derived.Test.YtfiddodlpppdhaaMaps
import Derived.Below
import Derived.Lib.Hide
import Derived.WalkLawsBesides
import Derived.Deep.RegionLaw
import Derived.IntWalk
import Derived.Test.YtfiddodlpppdhaaHeapMath
import Derived.Deep.RegionHeld3
namespace Go.Proofs.Ytfiddodlpppdhaa
open Go.RowKit Go.Maps
set_option linter.unusedVariables false

section
variable {P : Program} {w : World}
/-- append at a step of a region that draws its order -/
theorem step_row {ops : Array Oper} {o : Oper} {a : Act} {K : Act → World → Prop} {Q : Exit → Act → World → Prop} {E : Prop} (hgd : o.guard = none) (s x : Operand) (t : TypeId)
    (ho : o.op = .call { callee := .builtin .append, args := #[s, x], argTypes := #[t, t] })
    (e : TypeId) (i : TypeInfo) (z : Value) (size bytes : Nat) (ht : P.underlying t = some (.slice e)) (hi : P.info? e = some i) (hz : i.zero = some z)
    (hsize : i.size = size) (hby : i.bytes = bytes) (hzs : z.cells.size = size) (hsz : 0 < size)
    (v : Value) (n : Nat) (xs : List Value) (hs : a.eval s = v) (h : RowS w size v n xs)
    (sv : Value) (m : Nat) (news : List Value) (hx : a.eval x = sv) (hsrc : Src w sv m size news) (h1 : ∀ u ∈ news, u.oneCell' = true)
    (h63 : n + m ≤ maxLen) (hbytes : (n + m) * bytes ≤ 140737488355328)
    (hK : ∀ v' w', RowS w' size v' (n + m) (xs ++ news) → w.grownBy w' v.ownBlock → (v'.ownBlock = v.ownBlock ∨ ∃ g, v'.ownBlock = some g ∧ w.heap.size ≤ g) → K (a.put o.dst v') w') :
    if Region.wanted o (yielded ops a.tmps) = true then Oper.wp P o a w K Q else E := by
  have hw : Region.wanted o (yielded ops a.tmps) = true := by simp [Region.wanted, hgd]
  rw [if_pos hw]
  obtain ⟨v', w', hrun, h2, h3, h4⟩ := run_append_row (P := P) t o.type e i z size bytes ht hi hz hsize hby hzs hsz v n xs h sv m news hsrc h1 h63 hbytes
  unfold Oper.wp execOp
  simp only [ho, resolve, invoke, builtin, Sem.run_bind, Sem.run_pure, Result.andThen_ok, List.map_toArray, List.map_cons, List.map_nil, hs, hx, hrun]
  exact hK _ _ h2 h3 h4
end
/-- numbers as cells -/
def intC (l : List Int) : List Value := l.map (Value.int .i64)
theorem intC_len (l : List Int) : (intC l).length = l.length := by simp [intC]
theorem intC_at {l : List Int} {i : Nat} {x : Int} (h : l[i]? = some x) : (intC l)[i]? = some (.int .i64 x) := by unfold intC; rw [List.getElem?_map, h]; rfl
theorem intC_set (l : List Int) (i : Nat) (x : Int) : (intC l).set i (.int .i64 x) = intC (l.set i x) := by unfold intC; rw [List.map_set]
/-- the place o of the block p (its cells cs) is a row that holds l, in the block q -/
structure RowAt (w : World) (p o : Nat) (ty : TypeId) (cs : Array Value) (q : Option Nat) (l : List Int) : Prop where
  at_ : w.heap[p]? = some (.cells cs ty (0, 0))
  row : ∃ v, cs[o]? = some v ∧ v.ownBlock = q ∧ RowS w 1 v l.length (intC l)
  ne : q ≠ some p
section
variable {w w' : World} {p o : Nat} {ty : TypeId} {cs : Array Value} {q : Option Nat} {l : List Int}
theorem RowAt.keeps {L : List Nat} (h : RowAt w p o ty cs q l) (k : Keeps L w w') (hp : p ∉ L) (hq : ∀ g, q = some g → g ∉ L) : RowAt w' p o ty cs q l := by
  obtain ⟨h1, ⟨v, h2, h3, h4⟩, h5⟩ := h
  exact ⟨k.at h1 hp, ⟨v, h2, h3, h4.keeps k fun g hg => hq g (by rw [← h3]; exact hg)⟩, h5⟩
theorem RowAt.drewN (h : RowAt w p o ty cs q l) (m : Nat) : RowAt (w.drewN m) p o ty cs q l := h.keeps ((Keeps.refl [] w).drewN m) List.not_mem_nil fun _ _ => List.not_mem_nil
theorem RowAt.lt (h : RowAt w p o ty cs q l) : p < w.heap.size ∧ ∀ g, q = some g → g < w.heap.size := by
  obtain ⟨h1, ⟨v, h2, h3, h4⟩, _⟩ := h
  exact ⟨(Array.getElem?_eq_some_iff.1 h1).1, fun g hg => h4.lt g (by rw [h3]; exact hg)⟩
/-- what a walk reads -/
theorem RowAt.read (h : RowAt w p o ty cs q l) : ∃ a cap, w.cell? ⟨p, o, none⟩ = some (.slice a l.length cap) ∧ cs[o]? = some (.slice a l.length cap) ∧ w.frozen? ⟨p, o, none⟩ = false ∧ (Value.slice a l.length cap).ownBlock = q ∧ l.length ≤ cap ∧ cap ≤ 9223372036854775807 ∧ RowS w 1 (.slice a l.length cap) l.length (intC l) ∧
    ∀ i x, l[i]? = some x → ∃ g off, a = some ⟨g, off, none⟩ ∧ w.cell? ⟨g, off + i, none⟩ = some (.int .i64 x) ∧ w.frozen? ⟨g, off + i, none⟩ = false := by
  obtain ⟨h1, ⟨v, h2, h3, h4⟩, _⟩ := h
  obtain ⟨a, cap, rfl, r1, r2, r3, r4⟩ := h4.read
  refine ⟨a, cap, by rw [cell_of_block h1]; exact h2, h2, free_of_block h1, h3, r1, by simpa [maxLen] using r2, h4, fun i x hx => ?_⟩
  obtain ⟨g, off, rfl, _, d0⟩ := r4 _ _ (intC_at hx)
  rcases h4.2 with ⟨h0, _⟩ | ⟨g', off', cap', cur, e, he, hh, _⟩
  · cases h0
  · cases he
    exact ⟨g, off, rfl, d0, free_of_block hh⟩
end
/-- a cell of a row written -/
theorem RowS.set {w : World} {v : Value} {n g off cap : Nat} {xs : List Value} (h : RowS w 1 v n xs) (hv : v = .slice (some ⟨g, off, none⟩) n cap) {j : Nat} (hj : j < n) (u : Value) : RowS (w.setCell ⟨g, off + j, none⟩ u) 1 v n (xs.set j u) := by
  refine ⟨by rw [List.length_set]; exact h.1, ?_⟩
  rcases h.2 with ⟨h0, _⟩ | ⟨g', off', cap', cur, e, he, hh, h1, h2, h3, h4⟩
  · rw [hv] at h0; cases h0
  · rw [hv] at he
    cases he
    refine .inr ⟨g, off, cap, _, e, hv, setCell_block hh u, h1, h2, by simpa using h3, fun i y hy => ?_⟩
    rw [Array.getElem?_setIfInBounds]
    rw [List.getElem?_set] at hy
    by_cases hij : j = i
    · subst hij
      rw [if_pos rfl] at hy ⊢
      rw [if_pos (by omega)]
      have := h.1
      rw [if_pos (by omega)] at hy
      exact hy
    · rw [if_neg hij] at hy
      rw [if_neg (by omega)]
      exact h4 i y hy
section
variable {w : World} {l : List Int} {a : Option Addr} {cap : Nat}
theorem rowLen_any (w : World) (a : Option Addr) (n cap : Nat) : Calls Try.prog 55 #[.slice a n cap] w fun e w' => e = .returned (.int .i64 (n : Nat)) ∧ w = w' := by
  go_enter Try.func55, Try.ntmps55
  go_wp2
  go_ret
  exact ⟨rfl, rfl⟩
set_option maxRecDepth 100000 in
theorem rowLess_any (i j : Nat) (x y : Int) (w : World) (h : RowS w 1 (.slice a l.length cap) l.length (intC l)) (hi : l[i]? = some x) (hj : l[j]? = some y) (hl : l.length ≤ 1048576) :
    Calls Try.prog 108 #[.slice a l.length cap, .int .i64 (i : Nat), .int .i64 (j : Nat)] w fun e w' => e = .returned (.bool (decide (x < y))) ∧ ∃ k, w' = w.drewN k := by
  obtain ⟨a', cap', e, r1, r2, r3, r4⟩ := h.read
  cases e
  obtain ⟨g, off, rfl, hg, c0⟩ := r4 _ _ (intC_at hi)
  obtain ⟨g', off', e, _, c1⟩ := r4 _ _ (intC_at hj)
  cases e
  have hi1 := (List.getElem?_eq_some_iff.1 hi).1
  have hj1 := (List.getElem?_eq_some_iff.1 hj).1
  have b0 : (0 : Int) ≤ (i : Int) := by omega
  have b1 : (i : Int) < (l.length : Int) := by omega
  have b2 : (0 : Int) ≤ (j : Int) := by omega
  have b3 : (j : Int) < (l.length : Int) := by omega
  clear h hi hj r3 r4
  go_enter Try.func108, Try.ntmps108
  go_wp2_with fail
  go_quiet (fail)
  go_wp2
  go_ret
  exact ⟨rfl, _, rfl⟩
theorem swap_cells (l : List Int) {i j : Nat} {x y : Int} (hi : l[i]? = some x) (hj : l[j]? = some y) : ((intC l).set i (.int .i64 y)).set j (.int .i64 x) = intC (swapL l i j) := by
  unfold swapL
  rw [intC_set, intC_set, hi, hj]
  rfl
set_option maxRecDepth 100000 in
theorem rowSwap_any (i j : Nat) (w : World) (h : RowS w 1 (.slice a l.length cap) l.length (intC l)) (hi1 : i < l.length) (hj1 : j < l.length) (hl : l.length ≤ 1048576) :
    Calls Try.prog 109 #[.slice a l.length cap, .int .i64 (i : Nat), .int .i64 (j : Nat)] w fun e w' => e = .returned (.tuple #[]) ∧ RowS w' 1 (.slice a l.length cap) l.length (intC (swapL l i j)) ∧ Keeps (Value.slice a l.length cap).ownBlock.toList w w' := by
  obtain ⟨x, hi⟩ : ∃ x, l[i]? = some x := ⟨_, List.getElem?_eq_getElem hi1⟩
  obtain ⟨y, hj⟩ : ∃ y, l[j]? = some y := ⟨_, List.getElem?_eq_getElem hj1⟩
  obtain ⟨a', cap', e, r1, r2, r3, r4⟩ := h.read
  cases e
  obtain ⟨g, off, rfl, hg, c0⟩ := r4 _ _ (intC_at hi)
  obtain ⟨g', off', e, _, c1⟩ := r4 _ _ (intC_at hj)
  cases e
  have f0 : w.frozen? ⟨g, off + i, none⟩ = false := by
    rcases h.2 with ⟨h0, _⟩ | ⟨g', off', cap', cur, e, he, hh, _⟩
    · cases h0
    · cases he; exact free_of_block hh
  have f1 : w.frozen? ⟨g, off + j, none⟩ = false := by
    rcases h.2 with ⟨h0, _⟩ | ⟨g', off', cap', cur, e, he, hh, _⟩
    · cases h0
    · cases he; exact free_of_block hh
  have b0 : (0 : Int) ≤ (i : Int) := by omega
  have b1 : (i : Int) < (l.length : Int) := by omega
  have b2 : (0 : Int) ≤ (j : Int) := by omega
  have b3 : (j : Int) < (l.length : Int) := by omega
  have HE : Hid (RowS ((w.setCell ⟨g, off + i, none⟩ (.int .i64 y)).setCell ⟨g, off + j, none⟩ (.int .i64 x)).drew 1 (.slice (some ⟨g, off, none⟩) l.length cap) l.length (intC (swapL l i j)) ∧ Keeps [g] w ((w.setCell ⟨g, off + i, none⟩ (.int .i64 y)).setCell ⟨g, off + j, none⟩ (.int .i64 x)).drew) := (show _ ∧ _ by
    have h2 := (h.set rfl hi1 (.int .i64 y)).set rfl hj1 (.int .i64 x)
    rw [swap_cells l hi hj] at h2
    exact ⟨h2.keeps ((Keeps.refl [] _).drew) fun _ _ => List.not_mem_nil, (((Keeps.refl [g] w).setCell (.inl (by simp)) _).setCell (.inl (by simp)) _).drew⟩)
  by_cases hij : i = j
  · subst hij
    obtain rfl : y = x := Option.some.inj (hj.symm.trans hi)
    clear h hi hj r3 r4
    go_enter Try.func109, Try.ntmps109
    go_wp2_with fail
    go_region
    go_wp2
    go_end0
    exact ⟨rfl, HE.out⟩
  · have hne : off + i ≠ off + j := by omega
    have hne2 : off + j ≠ off + i := by omega
    clear h hi hj r3 r4
    go_enter Try.func109, Try.ntmps109
    go_wp2_with fail
    go_region
    go_wp2
    go_end0
    exact ⟨rfl, HE.out⟩
end
section
variable {p o : Nat} {ty : TypeId} {cs : Array Value} {q : Option Nat} {l : List Int}
theorem leastInfo1 : (Try.prog.info? 3).map (fun i => (i.zero, i.size, i.bytes)) = some (some (.int .i64 0), 1, 8) := by kernel_rfl
theorem src_drew {w : World} {sv : Value} {m size : Nat} {news : List Value} (h : Src w sv m size news) : Src w.drew sv m size news := by
  rcases h with h | ⟨ad, c, h1, h2, h3⟩
  · exact .inl h
  · exact .inr ⟨ad, c, h1, h2, h3⟩
theorem assert_int (v : Value) (w : World) : (Instr.typeAssert (.iface 3 v) 20 3 false).run Try.prog w = .ok v w := by kernel_rfl
/-- a row turned -/
def Turned (w : World) (p o : Nat) (ty : TypeId) (cs : Array Value) (q : Option Nat) (l' : List Int) (w' : World) : Prop :=
  ∃ v q', RowAt w' p o ty (cs.setIfInBounds o v) q' l' ∧ (∀ g, q' = some g → q = some g ∨ w.heap.size ≤ g) ∧ Keeps (p :: q.toList) w w'
theorem RowAt.turned {w w1 : World} (h : RowAt w p o ty cs q l) {l' : List Int} {v' : Value} (hr : RowS w1 1 v' l'.length (intC l')) (hk : Keeps q.toList w w1) (hq : ∀ g, v'.ownBlock = some g → q = some g ∨ w.heap.size ≤ g) :
    Turned w p o ty cs q l' (w1.setCell ⟨p, o, none⟩ v') := by
  have hpl := h.lt.1
  obtain ⟨h1, ⟨v, h2, h3, h4⟩, h5⟩ := h
  have ho := (Array.getElem?_eq_some_iff.1 h2).1
  have hne : v'.ownBlock ≠ some p := by
    intro e
    rcases hq p e with hq | hq
    · exact h5 hq
    · omega
  have hpq : p ∉ q.toList := by
    cases q with
    | none => simp
    | some g => simp; intro e; exact h5 (by rw [e])
  have k1 : Keeps (p :: q.toList) w w1 := hk.mono (by intro x hx; simp [hx])
  refine ⟨v', _, ⟨setCell_block (hk.at h1 hpq) v', ⟨v', by simp [ho], rfl, ?_⟩, hne⟩, hq, k1.setCell (.inl (by simp)) _⟩
  refine RowS.keeps (l := [p]) hr ((Keeps.refl _ _).setCell (.inl (by simp)) _) fun g hg' hm => hne ?_
  cases List.mem_singleton.1 hm
  exact hg'
set_option maxRecDepth 100000 in
set_option maxHeartbeats 1000000 in
theorem rowPush_any (x : Int) (w : World) (h : RowAt w p o ty cs q l) (hl : l.length < 1048576) :
    Calls Try.prog 112 #[.pointer (some ⟨p, o, none⟩), .iface 3 (.int .i64 x)] w fun e w' => e = .returned (.tuple #[]) ∧ Turned w p o ty cs q (l ++ [x]) w' := by
  obtain ⟨a, cap, c0, _, f0, hq, r1, r2, hr, _⟩ := h.read
  obtain ⟨i0, hi, hz0, hz1, hz2⟩ := info_parts leastInfo1
  have HI := Lib.hid hi
  have HZ0 := Lib.hid hz0
  have HZ1 := Lib.hid hz1
  have HZ2 := Lib.hid hz2
  have H := Lib.hid h
  have HR := Lib.hid hr
  have HQ := Lib.hid hq
  have hp := h.lt.1
  have HO1 : Hid (l.length + 1 ≤ maxLen) := (show l.length + 1 ≤ maxLen by unfold maxLen; omega)
  have HO2 : Hid ((l.length + 1) * 8 ≤ 140737488355328) := (show (l.length + 1) * 8 ≤ 140737488355328 by omega)
  have HC := Lib.hid (fun (o1 : Obj) (w2 : World) (hg : (w.alloc o1).drew.grownBy w2 q) => (show w2.cell? ⟨p, o, none⟩ = some (.slice a l.length cap) ∧ w2.frozen? ⟨p, o, none⟩ = false by
    have e1 : w2.heap[p]? = w.heap[p]? := (hg.block p (show p < (w.alloc o1).heap.size by rw [size_alloc]; omega) (fun e => H.out.ne e.symm)).trans (heap_alloc_lt _ _ hp)
    exact ⟨(World.cell?_of_block e1).trans c0, (World.frozen?_of_block e1).trans f0⟩))
  have hta := assert_int
  clear h hi hz0 hz1 hz2 hr hq
  go_enter Try.func112, Try.ntmps112
  go_wp2_with fail
  go_region_law (first | (refine step_row (by rfl) (.tmp 7) (.tmp 10) 54 (by rfl) 3 i0 (.int .i64 0) 1 8 Try.underlying54 HI.out HZ0.out HZ1.out HZ2.out rfl (by decide) (.slice a l.length cap) l.length (intC l) (by rfl) (HR.out.keeps (((Keeps.refl [] w).alloc _).drew) fun _ _ => List.not_mem_nil) _ 1 [.int .i64 x] (by rfl) (src_drew (new_one w _ _)) (one_of rfl) HO1.out HO2.out ?_
                          intro v2 w2 hr2 hg2 hv2
                          obtain ⟨a2, cap2, rfl, _⟩ := hr2.read
                          rw [HQ.out] at hg2 hv2
                          have q2 := HC.out _ w2 hg2))
  all_goals
    have HT := Lib.hid (H.out.turned (l' := l ++ [x]) (w1 := w2) (by rw [List.length_append]; unfold intC at hr2 ⊢; rw [List.map_append]; exact hr2) ((((Keeps.refl _ w).alloc _).drew).trans (Keeps.of_row hg2 (by intro g hg'; rw [hg']; simp))) (fun g hg' => by
      rcases hv2 with hv2 | ⟨g2, hv2, hge⟩
      · exact .inl (hv2.symm.trans hg')
      · rw [hv2] at hg'; cases hg'; exact .inr (Nat.le_trans (by show w.heap.size ≤ (w.alloc _).heap.size; rw [size_alloc]; omega) hge)))
    clear hr2 hg2 hv2 q2
    go_wp2
    go_end0
    exact ⟨rfl, HT.out⟩
set_option maxRecDepth 100000 in
theorem rowPop_any (x : Int) (w : World) (h : RowAt w p o ty cs q (l ++ [x])) (hl : l.length < 1048576) :
    Calls Try.prog 111 #[.pointer (some ⟨p, o, none⟩)] w fun e w' => e = .returned (.iface 3 (.int .i64 x)) ∧ Turned w p o ty cs q l w' := by
  obtain ⟨a, cap, c0, _, f0, hq, r1, r2, hr, hc⟩ := h.read
  obtain ⟨g, off, rfl, d0, _⟩ := hc l.length x (by simp)
  have e0 : (l ++ [x]).length = l.length + 1 := by simp
  rw [e0] at c0 r1
  have HT : Hid (Turned w p o ty cs q l (w.setCell ⟨p, o, none⟩ (.slice (some ⟨g, off, none⟩) l.length cap))) := (show Turned w p o ty cs q l (w.setCell ⟨p, o, none⟩ (.slice (some ⟨g, off, none⟩) l.length cap)) from
    h.turned (w1 := w) (v' := .slice (some ⟨g, off, none⟩) l.length cap) (by
      refine ⟨by rw [intC_len]; omega, ?_⟩
      rcases hr.2 with ⟨h0, _⟩ | ⟨g', off', cap', cur, e, he, hh, h1, h2, h3, h4⟩
      · cases h0
      · cases he
        refine .inr ⟨g, off, cap, cur, e, rfl, hh, by omega, h2, h3, fun j u hu => h4 j u ?_⟩
        unfold intC at hu ⊢
        rw [List.map_append, List.getElem?_append_left (List.getElem?_eq_some_iff.1 hu).1]
        exact hu) (Keeps.refl _ _) (fun g' hg' => .inl (hq.symm.trans hg')))
  have hi0 : (0 : Int) ≤ (l.length : Int) := by omega
  have hi1 : (l.length : Int) < ((l.length + 1 : Nat) : Int) := by omega
  have hi2 : (l.length : Int) < (l.length : Int) + 1 := by omega
  have hi3 : (l.length : Int) ≤ (cap : Int) := by omega
  clear h hr hc hq e0
  generalize l.length = n at *
  go_enter Try.func111, Try.ntmps111
  go_wp2
  go_ret
  exact ⟨rfl, HT.out⟩
end
end Go.Proofs.Ytfiddodlpppdhaa
