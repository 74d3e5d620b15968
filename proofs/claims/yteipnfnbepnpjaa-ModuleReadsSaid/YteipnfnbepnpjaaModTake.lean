/- module's reader, in every state: take, one, wrong compute what they say. -/
import Derived.Test.YteipnfnbepnpjaaModFail
import Derived.Test.YteipnfnbepnpjaaAccB
import Derived.Laws.CopyOwn
namespace Go.Proofs.Yteipnfnbepnpjaa
open Go.RowKit Go.Maps
set_option linter.unusedVariables false

/-- what takes so many bytes: what is left, and why it failed -/
def takeM (n : Nat) (s : List Nat × Nat) : List Nat × (List Nat × Nat) :=
  if s.2 ≠ 0 then (List.replicate n 0, s) else if s.1.length < n then (List.replicate n 0, (s.1, 7)) else (s.1.take n, (s.1.drop n, 0))
theorem takeM_fail {n : Nat} {l : List Nat} {e : Nat} (h : e ≠ 0) : takeM n (l, e) = (List.replicate n 0, (l, e)) := if_pos h
theorem takeM_short {n : Nat} {l : List Nat} (h : l.length < n) : takeM n (l, 0) = (List.replicate n 0, (l, 7)) := by
  unfold takeM; rw [if_neg (by simp), if_pos h]
theorem takeM_ok {n : Nat} {l : List Nat} (h : n ≤ l.length) : takeM n (l, 0) = (l.take n, (l.drop n, 0)) := by
  unfold takeM; rw [if_neg (by simp), if_neg (show ¬ l.length < n by omega)]
theorem takeM_length (n : Nat) (s : List Nat × Nat) : (takeM n s).1.length = n := by
  unfold takeM
  split
  · simp
  · split
    · simp
    · simp; omega
/-- the reader in memory -/
structure RdS (B : Nat) (w : World) (pr : Nat) (s : List Nat × Nat) : Prop where
  at_ : ∃ a len cap, RdSt w pr (.slice a len cap) s.2 ∧ HoldsB w a len cap s.1 ∧ ∀ g off, a = some ⟨g, off, none⟩ → g < B
  le : B ≤ pr
  sz : s.1.length ≤ 1000000
  ok : s.2 < 100
/-- bytes that a call has made -/
def MadeB (w : World) (g n : Nat) (l : List Nat) : Prop := l.length = n ∧ (∀ y ∈ l, y < 256) ∧ w.heap[g]? = some (.cells (byteCells l).toArray 5 (0, 0))
theorem MadeB.holds {w : World} {g n : Nat} {l : List Nat} (h : MadeB w g n l) (hn : n ≤ 1000000) : HoldsB w (some ⟨g, 0, none⟩) n n l := by
  obtain ⟨h1, h2, h3⟩ := h
  refine ⟨h1.symm, Nat.le_refl _, by omega, fun e => (by cases e), fun i y hy => ⟨g, 0, rfl, (Array.getElem?_eq_some_iff.1 h3).1, ?_⟩, h2⟩
  rw [Nat.zero_add, cell_of_block h3]
  simp [byteCells, hy]
theorem MadeB.keeps {w w' : World} {g n : Nat} {l : List Nat} {L : List Nat} (h : MadeB w g n l) (k : Keeps L w w') (hn : g ∉ L) : MadeB w' g n l := ⟨h.1, h.2.1, k.at h.2.2 hn⟩
theorem RdS.lt {B : Nat} {w : World} {pr : Nat} {s : List Nat × Nat} (h : RdS B w pr s) : pr < w.heap.size := by
  obtain ⟨a, len, cap, h1, _⟩ := h.at_
  exact h1.lt
theorem HoldsB.keeps {w w' : World} {a : Option Addr} {len cap : Nat} {l L : List Nat} (h : HoldsB w a len cap l) (k : Keeps L w w') (hn : ∀ g off, a = some ⟨g, off, none⟩ → g ∉ L) : HoldsB w' a len cap l :=
  ⟨h.eq, h.le, h.max, h.nil, fun i y hi => by
    obtain ⟨g, off, e, hlt, c0⟩ := h.cell i y hi
    exact ⟨g, off, e, Nat.lt_of_lt_of_le hlt k.size, (World.cell?_of_block (k.block g hlt (hn g off e))).trans c0⟩, h.lt⟩
theorem RdS.keeps {B : Nat} {w w' : World} {pr : Nat} {s : List Nat × Nat} {L : List Nat} (h : RdS B w pr s) (k : Keeps L w w') (hp : pr ∉ L) (hB : ∀ x ∈ L, B ≤ x) : RdS B w' pr s := by
  obtain ⟨a, len, cap, h1, h2, h3⟩ := h.at_
  exact ⟨⟨a, len, cap, k.at h1 hp, h2.keeps k (fun g off e hm => by have := h3 g off e; have := hB g hm; omega), h3⟩, h.le, h.sz, h.ok⟩
/-- how a take ends -/
def TkP (B : Nat) (w : World) (pr n : Nat) (s : List Nat × Nat) (en : Ending) (w' : World) : Prop :=
  ∃ g, en = .returned (.slice (some ⟨g, 0, none⟩) n n) ∧ MadeB w' g n (takeM n s).1 ∧ w.heap.size ≤ g ∧ RdS B w' pr (takeM n s).2 ∧ Keeps [pr] w w'
theorem made_zeros {w : World} {g n : Nat} (h : w.heap[g]? = some (.cells (madeCells #[Value.int .u8 0] n) 5 (0, 0))) : MadeB w g n (List.replicate n 0) := by
  refine ⟨by simp, fun y hy => by rw [(List.mem_replicate.1 hy).2]; decide, ?_⟩
  have e : (byteCells (List.replicate n 0)).toArray = madeCells #[Value.int .u8 0] n := by
    apply Array.ext'
    rw [toList_madeCells_one]
    simp [byteCells]
  rw [e]; exact h
section
variable {B : Nat} {w : World} {pr : Nat}
set_option maxRecDepth 100000 in
set_option maxHeartbeats 2000000 in
theorem take_no (n : Nat) (s : List Nat × Nat) (w : World) (h : RdS B w pr s) (hn : n ≤ 1000000) (hf : s.2 ≠ 0 ∨ (s.2 = 0 ∧ s.1.length < n)) :
    Calls Try.prog 47 #[.pointer (some ⟨pr, 0, none⟩), .int .i64 (n : Nat)] w (TkP B w pr n s) := by
  obtain ⟨l, e⟩ := s
  obtain ⟨⟨a, len, cap, h1, h2, h3⟩, h4, h5, h6⟩ := h
  have c0 : w.cell? ⟨pr, 0, none⟩ = some (.slice a len cap) := cell_of_block h1
  have c1 : w.cell? ⟨pr, 1, none⟩ = some (.int .i64 (e : Nat)) := cell_of_block h1
  have f1 : w.frozen? ⟨pr, 1, none⟩ = false := free_of_block h1
  have hpl := h1.lt
  have hle := h2.eq
  obtain ⟨i0, hi, hz0, hz1, hz2⟩ := info_parts byteInfo
  have hmk : ∀ W : World, (Instr.makeSlice 26 (.int .i64 (n : Nat)) (.int .i64 (n : Nat))).run Try.prog W = .ok (.slice (some ⟨W.heap.size, 0, none⟩) n n) (W.alloc (.cells (madeCells #[Value.int .u8 0] n) 5)) := by
    intro W
    have := makes_len (P := Try.prog) 26 5 i0 (.int .u8 0) Try.underlying26 hi hz0 .i64 .i64 n n (Nat.le_refl _) (by rw [hz2]; omega) (by omega) W
    rw [hz1, Nat.mul_one] at this
    exact this
  have H1 := Lib.hid h1
  have H2 := Lib.hid (And.intro h2 (And.intro h3 (And.intro h4 (And.intro h5 h6))))
  rcases hf with he | ⟨he, hlt⟩
  · have he' : e ≠ 0 := he
    have HD : Hid (TkP B w pr n (l, e) (.returned (.slice (some ⟨w.heap.size, 0, none⟩) n n)) (w.alloc (.cells (madeCells #[Value.int .u8 0] n) 5))) := (show TkP _ _ _ _ _ _ _ from by
      have k := (Keeps.refl [] w).alloc (.cells (madeCells #[Value.int .u8 0] n) 5)
      refine ⟨_, rfl, ?_, Nat.le_refl _, ?_, (Keeps.refl _ _).alloc _⟩
      · rw [takeM_fail he']; exact made_zeros (heap_alloc_at _ _)
      · rw [takeM_fail he']; exact RdS.keeps ⟨⟨a, len, cap, h1, h2, h3⟩, h4, h5, h6⟩ k List.not_mem_nil (fun x hx => absurd hx List.not_mem_nil))
    have b1 : ((e : Int) == 0) = false := by rw [beq_eq_false_iff_ne]; omega
    clear h1 h2 h3 h5 h6 hi hz0 hz1 hz2 he he' hle
    go_enter Try.func47, Try.ntmps47
    go_wp2
    go_ret
    exact HD.out
  · have he0 : e = 0 := he
    subst he0
    have hlt' : l.length < n := hlt
    have HD : Hid (TkP B w pr n (l, 0) (.returned (.slice (some ⟨w.heap.size, 0, none⟩) n n)) ((w.setCell ⟨pr, 1, none⟩ (.int .i64 7)).alloc (.cells (madeCells #[Value.int .u8 0] n) 5))) := (show TkP _ _ _ _ _ _ _ by
      have hsz : (w.setCell ⟨pr, 1, none⟩ (.int .i64 7)).heap.size = w.heap.size := by simp [World.setCell]
      have hh := heap_alloc_at (w.setCell ⟨pr, 1, none⟩ (.int .i64 7)) (.cells (madeCells #[Value.int .u8 0] n) 5)
      rw [hsz] at hh
      have k : Keeps [pr] w ((w.setCell ⟨pr, 1, none⟩ (.int .i64 7)).alloc (.cells (madeCells #[Value.int .u8 0] n) 5)) := ((Keeps.refl _ w).setCell (.inl (by simp)) _).alloc _
      refine ⟨_, rfl, ?_, Nat.le_refl _, ?_, k⟩
      · rw [takeM_short hlt']; exact made_zeros hh
      · rw [takeM_short hlt']
        refine ⟨⟨a, len, cap, RdSt.below ?_ ((Below.refl _ _).alloc (Nat.le_refl _) _), h2.keeps k (fun g off e hm => by have := h3 g off e; simp at hm; omega), h3⟩, h4, h5, (by decide : (7 : Nat) < 100)⟩
        have := setCell_block (i := 1) h1 (.int .i64 7)
        simpa [RdSt] using this)
    have hl2 : (len : Int) < (n : Int) := by omega
    replace c1 : w.cell? ⟨pr, 1, none⟩ = some (.int .i64 0) := c1
    clear h1 h2 h3 h5 h6 hi hz0 hz1 hz2 hlt hlt' he hle
    go_enter Try.func47, Try.ntmps47
    go_wp2
    go_ret
    exact HD.out
theorem HoldsB.drop {w : World} {a : Option Addr} {len cap n : Nat} {l : List Nat} (h : HoldsB w a len cap l) (hn : n ≤ len) (g off : Nat) (e : a = some ⟨g, off, none⟩) : HoldsB w (some ⟨g, off + n, none⟩) (len - n) (cap - n) (l.drop n) := by
  subst e
  have h0 := h.eq
  have h1 := h.le
  have h2 := h.max
  refine ⟨by simp; omega, by omega, by omega, fun e => (by cases e), fun i y hy => ?_, fun y hy => h.lt y (List.mem_of_mem_drop hy)⟩
  rw [List.getElem?_drop] at hy
  obtain ⟨_, _, e, hlt, c0⟩ := h.cell _ y hy
  cases e
  exact ⟨g, off + n, rfl, hlt, by rw [Nat.add_assoc]; exact c0⟩
theorem HoldsB.dropAll {w : World} {a : Option Addr} {len cap n : Nat} {l : List Nat} (h : HoldsB w a len cap l) (hn : n = len) : HoldsB w a 0 (cap - n) (l.drop n) := by
  have h0 := h.eq
  have h2 := h.max
  have hd : l.drop n = [] := List.drop_eq_nil_of_le (by omega)
  rw [hd]
  exact ⟨rfl, Nat.zero_le _, by omega, fun e => by have := h.nil e; omega, fun i y hy => (by simp at hy), fun y hy => (by simp at hy)⟩
theorem byteCells_one' (l : List Nat) : ∀ u ∈ byteCells l, u.oneCell' = true := by
  intro u hu
  obtain ⟨x, _, rfl⟩ := List.mem_map.1 hu
  rfl
theorem splice_all {cur cs : List Value} (h : cur.length = cs.length) : cur.take 0 ++ (cs ++ cur.drop (0 + cs.length)) = cs := by
  rw [List.take_zero, List.nil_append, Nat.zero_add, ← h, List.drop_length, List.append_nil]
set_option maxRecDepth 100000 in
set_option maxHeartbeats 2000000 in
theorem take_yes (n : Nat) (l : List Nat) (w : World) (h : RdS B w pr (l, 0)) (hn : n ≤ l.length) (hp : 0 < n) :
    Calls Try.prog 47 #[.pointer (some ⟨pr, 0, none⟩), .int .i64 (n : Nat)] w (TkP B w pr n (l, 0)) := by
  obtain ⟨⟨a, len, cap, h1, h2, h3⟩, h4, h5, h6⟩ := h
  have h1 : RdSt w pr (.slice a len cap) 0 := h1
  have h2 : HoldsB w a len cap l := h2
  have h5 : l.length ≤ 1000000 := h5
  obtain ⟨g0, o0, rfl, hx1, hx2⟩ := h2.cell 0 _ (List.getElem?_eq_getElem (by omega))
  clear hx1 hx2
  have c0 : w.cell? ⟨pr, 0, none⟩ = some (.slice (some ⟨g0, o0, none⟩) len cap) := cell_of_block h1
  have c1 : w.cell? ⟨pr, 1, none⟩ = some (.int .i64 0) := cell_of_block h1
  have f0 : w.frozen? ⟨pr, 0, none⟩ = false := free_of_block h1
  have hpl := h1.lt
  have hle := h2.eq
  have hlc := h2.le
  have hmx := h2.max
  obtain ⟨i0, hi, hz0, hz1, hz2⟩ := info_parts byteInfo
  have hmk : ∀ W : World, (Instr.makeSlice 26 (.int .i64 (n : Nat)) (.int .i64 (n : Nat))).run Try.prog W = .ok (.slice (some ⟨W.heap.size, 0, none⟩) n n) (W.alloc (.cells (madeCells #[Value.int .u8 0] n) 5)) := by
    intro W
    have := makes_len (P := Try.prog) 26 5 i0 (.int .u8 0) Try.underlying26 hi hz0 .i64 .i64 n n (Nat.le_refl _) (by rw [hz2]; omega) (by omega) W
    rw [hz1, Nat.mul_one] at this
    exact this
  have hsz : (Try.prog.info? 5).map (·.size) = some 1 := by rw [hi]; simp [hz1]
  obtain ⟨cs, hcs⟩ : ∃ cs, cs = byteCells (l.take n) := ⟨_, rfl⟩
  have hcl : cs.length = n := by rw [hcs]; simp [byteCells]; omega
  obtain ⟨w1, hw1⟩ : ∃ w1, w1 = w.alloc (.cells (madeCells #[Value.int .u8 0] n) 5) := ⟨_, rfl⟩
  obtain ⟨g, hg⟩ : ∃ g, g = w.heap.size := ⟨_, rfl⟩
  have hga : w1.heap[g]? = some (.cells (madeCells #[Value.int .u8 0] n) 5 (0, 0)) := by rw [hw1, hg]; exact heap_alloc_at _ _
  have h11 : RdSt w1 pr (.slice (some ⟨g0, o0, none⟩) len cap) 0 := by rw [hw1]; exact h1.below ((Below.refl _ _).alloc (Nat.le_refl _) _)
  have hsrc : ∀ j v, cs[j]? = some v → w1.cell? ((⟨g0, o0, none⟩ : Addr).add j) = some v := by
    intro j v hv
    have hj : j < n := by rw [← hcl]; exact (List.getElem?_eq_some_iff.1 hv).1
    have e : (⟨g0, o0, none⟩ : Addr).add j = ⟨g0, o0 + j, none⟩ := by unfold Addr.add; split <;> simp_all
    obtain ⟨y, hy⟩ : ∃ y, l[j]? = some y := ⟨_, List.getElem?_eq_getElem (by omega)⟩
    obtain ⟨_, _, e2, hlt, c⟩ := h2.cell j y hy
    cases e2
    rw [e, hw1, ((Below.refl _ _).alloc (Nat.le_refl _) _).cell (p := ⟨g0, o0 + j, none⟩) hlt, c]
    rw [hcs] at hv
    simpa [byteCells, List.getElem?_take, hj, hy] using hv
  have hone : ∀ u ∈ cs, u.oneCell' = true := by rw [hcs]; exact byteCells_one' _
  have hmc : (madeCells #[Value.int .u8 0] n).toList.length = n := by rw [toList_madeCells_one]; simp
  obtain ⟨w2, hw2⟩ : ∃ w2, w2 = w1.setRow g ((madeCells #[Value.int .u8 0] n).toList.take 0 ++ (cs ++ (madeCells #[Value.int .u8 0] n).toList.drop (0 + cs.length))).toArray := ⟨_, rfl⟩
  have hgp : pr ≠ g := by omega
  have h2r : w2.heap[g]? = some (.cells (byteCells (l.take n)).toArray 5 (0, 0)) := by
    rw [hw2, splice_all (by rw [hmc, hcl]), ← hcs]
    exact setRow_heap w1 g _ _ _ _ hga
  have h22 : RdSt w2 pr (.slice (some ⟨g0, o0, none⟩) len cap) 0 := by
    rw [hw2]; exact (setRow_other w1 g pr _ hgp).trans h11
  have k2 : Keeps [] w w2 := by
    rw [hw2, hw1]
    refine ⟨rfl, rfl, rfl, by simp [World.setRow], fun k hk _ => ?_⟩
    rw [setRow_other _ g k _ (by omega), heap_alloc_lt _ _ hk]
  have d0 : w2.cell? ⟨pr, 0, none⟩ = some (.slice (some ⟨g0, o0, none⟩) len cap) := cell_of_block h22
  have d1 : w2.frozen? ⟨pr, 0, none⟩ = false := free_of_block h22
  have hp2 := h22.lt
  have HD : Hid (∀ a2 len2 cap2, HoldsB w2 a2 len2 cap2 (l.drop n) → (∀ g off, a2 = some ⟨g, off, none⟩ → g < B) → TkP B w pr n (l, 0) (.returned (.slice (some ⟨g, 0, none⟩) n n)) (w2.setCell ⟨pr, 0, none⟩ (.slice a2 len2 cap2))) := (show ∀ a2 len2 cap2, _ → _ → TkP _ _ _ _ _ _ _ from fun a2 len2 cap2 hh hB => by
    have k3 : Keeps [pr] w2 (w2.setCell ⟨pr, 0, none⟩ (.slice a2 len2 cap2)) := (Keeps.refl _ w2).setCell (.inl (by simp)) _
    refine ⟨g, rfl, ?_, by omega, ?_, (k2.mono (fun x hx => absurd hx List.not_mem_nil)).trans k3⟩
    · rw [takeM_ok hn]
      refine ⟨by simp; omega, fun y hy => h2.lt y (List.mem_of_mem_take hy), k3.at h2r (by simp; omega)⟩
    · rw [takeM_ok hn]
      refine ⟨⟨a2, len2, cap2, ?_, hh.keeps k3 (fun g off e hm => by have := hB g off e; simp at hm; omega), hB⟩, h4, by simp; omega, (by decide : (0 : Nat) < 100)⟩
      have := setCell_block (i := 0) h22 (.slice a2 len2 cap2)
      simpa [RdSt] using this)
  have HH2 := Lib.hid (h2.keeps k2 (fun _ _ _ => List.not_mem_nil))
  have H3 := Lib.hid h3
  subst hw1 hg
  have HW2 := Lib.hid hw2
  have HC := Lib.hid (And.intro hga (And.intro hsrc (And.intro hone hcl)))
  have hln : ¬ (len : Int) < (n : Int) := by omega
  have hl0 : (0 : Int) ≤ (n : Int) := by omega
  have hl1 : (n : Int) ≤ (len : Int) := by omega
  have HL : Hid (n ≤ len ∧ (cap = n → n = len)) := (show _ from ⟨by omega, fun e => by omega⟩)
  have HMC := Lib.hid hmc
  have HSZ := Lib.hid hsz
  have HMIN : Hid (cs.length = Nat.min len n) := (show cs.length = Nat.min len n by rw [hcl]; simp [Nat.min_def]; omega)
  have HFIT : Hid (0 + cs.length ≤ (madeCells #[Value.int .u8 0] n).size) := (show 0 + cs.length ≤ (madeCells #[Value.int .u8 0] n).size by rw [← Array.length_toList, hmc]; omega)
  clear hi hz0 hz1 hz2 h1 h2 h3 hn hcs hcl hga hsrc hone hmc hw2 h2r h22 k2 h11 h6 hsz hle
  rcases Decidable.em (cap = n) with hcn | hcn
  all_goals
    go_enter Try.func47, Try.ntmps47
    go_wp2_with (first | (with_reducible refine wpList_copy_own rfl (.tmp 30) (.tmp 34) 26 26 rfl 5 Try.underlying26 HSZ.out w.heap.size 0 n n ⟨g0, o0, none⟩ len cap rfl rfl _ 5 HC.out.1 cs HMIN.out HC.out.2.1 HFIT.out HC.out.2.2.1 ?_; rw [← HW2.out]) | (with_reducible refine wpList_copy_own rfl (.tmp 30) (.tmp 34) 26 26 rfl 5 Try.underlying26 HSZ.out w.heap.size 0 n n ⟨g0, o0, none⟩ len n rfl rfl _ 5 HC.out.1 cs HMIN.out HC.out.2.1 HFIT.out HC.out.2.2.1 ?_; rw [← HW2.out]))
    go_ret
  · exact HD.out _ _ _ (by first | exact HH2.out.dropAll (HL.out.2 hcn) | (have := HH2.out.dropAll (HL.out.2 hcn); simpa [hcn, ← HL.out.2 hcn] using this)) (fun g off e => by cases e; exact H3.out _ _ rfl)
  · exact HD.out _ _ _ (HH2.out.drop HL.out.1 g0 o0 rfl) (fun g off e => by cases e; exact H3.out _ _ rfl)
end
end Go.Proofs.Yteipnfnbepnpjaa
