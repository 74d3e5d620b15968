/- module's reader: what many is handed, as functions: a constant, a function, a class read and appended. -/
import Derived.Test.YteipnfnbepnpjaaModRdC
import Derived.Deep.RegionLaw
namespace Go.Proofs.Yteipnfnbepnpjaa
open Go.RowKit Go.Maps
set_option linter.unusedVariables false

section
variable {P : Program} {w : World}
/-- append at a step of a region that draws its order -/
theorem step_row {ops : Array Oper} {o : Oper} {a : Act} {K : Act → World → Prop} {Q : Exit → Act → World → Prop} {E : Prop} (hgd : o.guard = none) (s x : Operand) (t : TypeId)
    (ho : o.op = .call { callee := .builtin .append, args := #[s, x], argTypes := #[t, t] })
    (e : TypeId) (i : TypeInfo) (z : Value) (size bytes : Nat) (ht : P.underlying t = some (.slice e)) (hi : P.info? e = some i) (hz : i.zero = some z)
    (hsize : i.size = size) (hby : i.bytes = bytes) (hzs : z.cells.size = size) (hsz : 0 < size)
    (v : Value) (n : Nat) (xs : List Value) (hs : a.eval s = v) (h : RowS w size v n xs)
    (sv : Value) (m : Nat) (news : List Value) (hx : a.eval x = sv) (hsrc : Src w sv m size news) (h1 : ∀ u ∈ news, u.oneCell' = true)
    (h63 : n + m ≤ maxLen) (hbytes : (n + m) * bytes ≤ 140737488355328)
    (hK : ∀ v' w', RowS w' size v' (n + m) (xs ++ news) → w.grownBy w' v.ownBlock → (v'.ownBlock = v.ownBlock ∨ ∃ g, v'.ownBlock = some g ∧ w.heap.size ≤ g) → K (a.put o.dst v') w') :
    if Region.wanted o (yielded ops a.tmps) = true then Oper.wp P o a w K Q else E := by
  have hw : Region.wanted o (yielded ops a.tmps) = true := by simp [Region.wanted, hgd]
  rw [if_pos hw]
  obtain ⟨v', w', hrun, h2, h3, h4⟩ := run_append_row (P := P) t o.type e i z size bytes ht hi hz hsize hby hzs hsz v n xs h sv m news hsrc h1 h63 hbytes
  unfold Oper.wp execOp
  simp only [ho, resolve, invoke, builtin, Sem.run_bind, Sem.run_pure, Result.andThen_ok, List.map_toArray, List.map_cons, List.map_nil, hs, hx, hrun]
  exact hK _ _ h2 h3 h4
end
theorem conInfo : (Try.prog.info? 63).map (fun i => (i.zero, i.size, i.bytes)) = some (some (.agg #[.bool false, .int .i64 0, .string ByteArray.empty]), 3, 32) := by kernel_rfl
theorem clsInfo : (Try.prog.info? 76).map (fun i => (i.zero, i.size, i.bytes)) = some (some (.agg #[.int .i64 0, .int .i64 0]), 2, 16) := by kernel_rfl
theorem funInfo : (Try.prog.info? 61).map (fun i => (i.zero, i.size, i.bytes)) = some (some (.agg #[.int .i64 0, .int .i64 0, .slice none 0 0]), 3, 40) := by kernel_rfl
/-- Read's own memory -/
structure RF (B pr gm gp : Nat) (G : Int) (v1 v2 v3 : Value) (s : RS) (W : World) : Prop where
  m : W.heap[gm]? = some (.cells #[.int .i64 G, v1, v2, v3] 47 (0, 0))
  p : W.heap[gp]? = some (.cells #[.pointer (some ⟨pr, 0, none⟩)] 80 (0, 0))
  r : RdS B W pr s
  mr : gm ≠ pr
  pr' : gp ≠ pr
  mp : gm ≠ gp
  bm : B ≤ gm
  bp : B ≤ gp
/-- a row that Read collects -/
structure RowR (B pr gm gp sz : Nat) (W : World) (v : Value) (n : Nat) (xs : List Value) : Prop where
  row : RowS W sz v n xs
  own : ∀ g, v.ownBlock = some g → g ≠ pr ∧ g ≠ gm ∧ g ≠ gp ∧ B ≤ g
section
variable {B pr gm gp : Nat} {G : Int} {v1 v2 v3 : Value} {s : RS} {W W' : World}
theorem RF.lt (h : RF B pr gm gp G v1 v2 v3 s W) : pr < W.heap.size ∧ gm < W.heap.size ∧ gp < W.heap.size := ⟨h.r.lt, (Array.getElem?_eq_some_iff.1 h.m).1, (Array.getElem?_eq_some_iff.1 h.p).1⟩
theorem RF.keeps {L : List Nat} (h : RF B pr gm gp G v1 v2 v3 s W) (k : Keeps L W W') (h1 : pr ∉ L) (h2 : gm ∉ L) (h3 : gp ∉ L) (hB : ∀ x ∈ L, B ≤ x) : RF B pr gm gp G v1 v2 v3 s W' :=
  ⟨k.at h.m h2, k.at h.p h3, h.r.keeps k h1 hB, h.mr, h.pr', h.mp, h.bm, h.bp⟩
theorem RF.read {s' : RS} (h : RF B pr gm gp G v1 v2 v3 s W) (k : Keeps [pr] W W') (hr : RdS B W' pr s') : RF B pr gm gp G v1 v2 v3 s' W' :=
  ⟨k.at h.m (by simp; exact h.mr), k.at h.p (by simp; exact h.pr'), hr, h.mr, h.pr', h.mp, h.bm, h.bp⟩
theorem RowR.keeps {L : List Nat} {sz n : Nat} {v : Value} {xs : List Value} (h : RowR B pr gm gp sz W v n xs) (k : Keeps L W W') (hn : ∀ g, v.ownBlock = some g → g ∉ L) : RowR B pr gm gp sz W' v n xs := ⟨h.row.keeps k hn, h.own⟩
theorem RowR.nil (sz : Nat) : RowR B pr gm gp sz W (.slice none 0 0) 0 [] := ⟨RowS.nil _ _, fun g h => by cases h⟩
/-- behind an append into a row of Read's -/
structure Grew (B pr gm gp sz : Nat) (W : World) (v : Value) (n : Nat) (xs : List Value) (v' : Value) (W' : World) : Prop where
  row : RowR B pr gm gp sz W' v' n xs
  new : v'.ownBlock = v.ownBlock ∨ ∃ g, v'.ownBlock = some g ∧ W.heap.size ≤ g
  kp : Keeps v.ownBlock.toList W W'
theorem Grew.mk' {sz n m : Nat} {v v' : Value} {xs ys : List Value} {Wd : World} (h : RF B pr gm gp G v1 v2 v3 s W) (hr : RowR B pr gm gp sz W v n xs) (kd : Keeps [] W Wd)
    (hr' : RowS W' sz v' m ys) (hg : Wd.grownBy W' v.ownBlock) (hv : v'.ownBlock = v.ownBlock ∨ ∃ g, v'.ownBlock = some g ∧ Wd.heap.size ≤ g) : Grew B pr gm gp sz W v m ys v' W' := by
  have hlt := h.lt
  have hs := kd.size
  have hB := h.bm
  refine ⟨⟨hr', fun g hg' => ?_⟩, ?_, (kd.mono (fun x hx => absurd hx List.not_mem_nil)).trans (Keeps.of_row hg (fun g hg' => by rw [hg']; simp))⟩
  · rcases hv with hv | ⟨g', hv, hge⟩
    · exact hr.own g (by rw [← hv]; exact hg')
    · rw [hv] at hg'; cases hg'
      exact ⟨by omega, by omega, by omega, by omega⟩
  · rcases hv with hv | ⟨g', hv, hge⟩
    · exact .inl hv
    · exact .inr ⟨g', hv, by omega⟩
theorem Grew.nots {sz n : Nat} {v v' : Value} {xs : List Value} {n0 : Nat} {xs0 : List Value} (hr : RowR B pr gm gp sz W v n0 xs0) : (pr ∉ v.ownBlock.toList ∧ gm ∉ v.ownBlock.toList ∧ gp ∉ v.ownBlock.toList) ∧ ∀ x ∈ v.ownBlock.toList, B ≤ x := by
  refine ⟨⟨fun h => ?_, fun h => ?_, fun h => ?_⟩, fun x h => ?_⟩ <;> (have := hr.own _ (by simpa using h))
  · exact this.1 rfl
  · exact this.2.1 rfl
  · exact this.2.2.1 rfl
  · exact this.2.2.2
theorem Grew.rf {sz n : Nat} {v v' : Value} {xs : List Value} {n0 : Nat} {xs0 : List Value} (h : RF B pr gm gp G v1 v2 v3 s W) (hr : RowR B pr gm gp sz W v n0 xs0) (g : Grew B pr gm gp sz W v n xs v' W') : RF B pr gm gp G v1 v2 v3 s W' := by
  obtain ⟨⟨a, b, c⟩, d⟩ := Grew.nots (n := n) (v' := v') (xs := xs) hr
  exact h.keeps g.kp a b c d
theorem RF.set1 (h : RF B pr gm gp G v1 v2 v3 s W) (v : Value) : RF B pr gm gp G v v2 v3 s (W.setCell ⟨gm, 1, none⟩ v) := by
  have k : Keeps [gm] W (W.setCell ⟨gm, 1, none⟩ v) := (Keeps.refl _ W).setCell (.inl (by simp)) _
  refine ⟨?_, k.at h.p (by simp; exact h.mp.symm), h.r.keeps k (by simp; exact h.mr.symm) (fun x hx => by simp at hx; have := h.bm; omega), h.mr, h.pr', h.mp, h.bm, h.bp⟩
  have := setCell_block (i := 1) h.m v
  simpa using this
theorem RF.set2 (h : RF B pr gm gp G v1 v2 v3 s W) (v : Value) : RF B pr gm gp G v1 v v3 s (W.setCell ⟨gm, 2, none⟩ v) := by
  have k : Keeps [gm] W (W.setCell ⟨gm, 2, none⟩ v) := (Keeps.refl _ W).setCell (.inl (by simp)) _
  refine ⟨?_, k.at h.p (by simp; exact h.mp.symm), h.r.keeps k (by simp; exact h.mr.symm) (fun x hx => by simp at hx; have := h.bm; omega), h.mr, h.pr', h.mp, h.bm, h.bp⟩
  have := setCell_block (i := 2) h.m v
  simpa using this
theorem RF.set3 (h : RF B pr gm gp G v1 v2 v3 s W) (v : Value) : RF B pr gm gp G v1 v2 v s (W.setCell ⟨gm, 3, none⟩ v) := by
  have k : Keeps [gm] W (W.setCell ⟨gm, 3, none⟩ v) := (Keeps.refl _ W).setCell (.inl (by simp)) _
  refine ⟨?_, k.at h.p (by simp; exact h.mp.symm), h.r.keeps k (by simp; exact h.mr.symm) (fun x hx => by simp at hx; have := h.bm; omega), h.mr, h.pr', h.mp, h.bm, h.bp⟩
  have := setCell_block (i := 3) h.m v
  simpa using this
theorem new_cells_src (W : World) (cs : List Value) (t : TypeId) (m size : Nat) (hm : cs.length = m * size) : Src (W.alloc (.cells cs.toArray t)) (.slice (some ⟨W.heap.size, 0, none⟩) m m) m size cs := by
  refine .inr ⟨_, _, rfl, hm, fun j x hx => ?_⟩
  have h := cell_of_block (i := j) (heap_alloc_at W (.cells cs.toArray t))
  have e : (⟨W.heap.size, 0, none⟩ : Addr).add j = ⟨W.heap.size, j, none⟩ := by unfold Addr.add; split <;> simp_all
  rw [e, h, ← hx]
  simp
/-- a constant's cells, a class's cells -/
def conV (c : ConT) : List Value := [.bool c.1, .int .i64 c.2.1, .string c.2.2]
def clsV (c : ClsT) : List Value := [.int .i64 c.1, .int .i64 c.2]
def funV (f : FunT × Nat) : List Value := [.int .i64 f.1.1, .int .i64 f.1.2.1, .slice (some ⟨f.2, 0, none⟩) f.1.2.2.length f.1.2.2.length]
/-- how a closure ends -/
def CloP (B pr gm gp sz : Nat) (G : Int) (f : Value → Value × Value × Value) (s : RS) (W : World) (v : Value) (n : Nat) (xs : List Value) (en : Ending) (W' : World) : Prop :=
  ∃ v', en = .returned (.tuple #[]) ∧ RF B pr gm gp G (f v').1 (f v').2.1 (f v').2.2 s W' ∧ RowR B pr gm gp sz W' v' n xs ∧ (v'.ownBlock = v.ownBlock ∨ ∃ g, v'.ownBlock = some g ∧ W.heap.size ≤ g) ∧ Keeps (pr :: gm :: v.ownBlock.toList) W W'
set_option maxRecDepth 100000 in
set_option maxHeartbeats 4000000 in
theorem clo1 (n : Nat) (xs : List Value) (h : RF B pr gm gp G v1 v2 v3 s W) (hr : RowR B pr gm gp 3 W v1 n xs) (hn : n ≤ 1000) :
    Calls Try.prog 50 #[.pointer (some ⟨gm, 0, none⟩), .pointer (some ⟨gp, 0, none⟩)] W (CloP B pr gm gp 3 G (fun v => (v, v2, v3)) (constM s).2 W v1 (n + 1) (xs ++ conV (constM s).1)) := by
  have q0 : W.cell? ⟨gp, 0, none⟩ = some (.pointer (some ⟨pr, 0, none⟩)) := cell_of_block h.p
  have q1 : W.cell? ⟨gm, 1, none⟩ = some v1 := cell_of_block h.m
  obtain ⟨i0, hi, hz0, hz1, hz2⟩ := info_parts conInfo
  have HI := Lib.hid hi
  have HZ0 := Lib.hid hz0
  have HZ1 := Lib.hid hz1
  have HZ2 := Lib.hid hz2
  obtain ⟨c, hc⟩ : ∃ c, c = constM s := ⟨_, rfl⟩
  have HCN : Hid (∀ W0, Keeps [] W W0 → Calls Try.prog 51 #[.pointer (some ⟨pr, 0, none⟩)] W0 fun en w' => en = .returned (.agg #[.bool c.1.1, .int .i64 c.1.2.1, .string c.1.2.2]) ∧ (RF B pr gm gp G v1 v2 v3 c.2 w' ∧ RowR B pr gm gp 3 w' v1 n xs ∧ Keeps [pr] W w' ∧ w'.cell? ⟨gp, 0, none⟩ = some (.pointer (some ⟨pr, 0, none⟩)) ∧ w'.cell? ⟨gm, 1, none⟩ = some v1)) := (show ∀ W0, _ → _ from fun W0 k0 => (constant_any s W0 (h.r.keeps k0 List.not_mem_nil (fun x hx => absurd hx List.not_mem_nil))).mono (by
    rintro en w' ⟨e1, e2, e3⟩
    rw [← hc] at e1 e2
    have k : Keeps [pr] W w' := (k0.mono (fun x hx => absurd hx List.not_mem_nil)).trans e3
    have hrf := h.read k e2
    exact ⟨e1, hrf, hr.keeps k (fun g hg hm => by have := (hr.own g hg).1; simp at hm; omega), k, cell_of_block hrf.p, cell_of_block hrf.m⟩))
  have HGR : Hid (∀ (w4 Wd w6 : World) (v6 : Value), (RF B pr gm gp G v1 v2 v3 c.2 w4 ∧ RowR B pr gm gp 3 w4 v1 n xs ∧ Keeps [pr] W w4 ∧ w4.cell? ⟨gp, 0, none⟩ = some (.pointer (some ⟨pr, 0, none⟩)) ∧ w4.cell? ⟨gm, 1, none⟩ = some v1) → Keeps [] w4 Wd → RowS w6 3 v6 (n + 1) (xs ++ conV c.1) → Wd.grownBy w6 v1.ownBlock → (v6.ownBlock = v1.ownBlock ∨ ∃ g, v6.ownBlock = some g ∧ Wd.heap.size ≤ g) →
      w6.cell? ⟨gm, 1, none⟩ = some v1 ∧ w6.frozen? ⟨gm, 1, none⟩ = false ∧ CloP B pr gm gp 3 G (fun v => (v, v2, v3)) c.2 W v1 (n + 1) (xs ++ conV c.1) (.returned (.tuple #[])) (w6.setCell ⟨gm, 1, none⟩ v6)) := (show ∀ _ _ _ _, _ from fun w4 Wd w6 v6 h4 kd hr6 hg6 hv6 => by
    obtain ⟨f4, r4, k4, _, _⟩ := h4
    have gr := Grew.mk' f4 r4 kd hr6 hg6 hv6
    have f6 := Grew.rf f4 r4 gr
    refine ⟨cell_of_block f6.m, free_of_block f6.m, v6, rfl, f6.set1 v6, ?_, ?_, ?_⟩
    · have k : Keeps [gm] w6 (w6.setCell ⟨gm, 1, none⟩ v6) := (Keeps.refl _ w6).setCell (.inl (by simp)) _
      exact gr.row.keeps k (fun g hg hm => by have := (gr.row.own g hg).2.1; simp at hm; omega)
    · rcases gr.new with e | ⟨g, e, hge⟩
      · exact .inl e
      · exact .inr ⟨g, e, by have := k4.size; omega⟩
    · exact ((k4.mono (by simp)).trans (gr.kp.mono (fun x hx => by simp; simp at hx; exact .inr (.inr hx)))).setCell (.inl (by simp)) _)
  have HLT := Lib.hid h.lt
  have hl := h.lt
  have HO1 : Hid (n + 1 ≤ maxLen) := (show n + 1 ≤ maxLen by unfold maxLen; omega)
  have HO2 : Hid ((n + 1) * 32 ≤ 140737488355328) := (show (n + 1) * 32 ≤ 140737488355328 by omega)
  have HVC : Hid (conV c.1 = [.bool c.1.1, .int .i64 c.1.2.1, .string c.1.2.2]) := rfl
  rw [← hc]
  obtain ⟨hl1, hl2, hl3⟩ := hl
  clear h hr hi hz0 hz1 hz2 hc
  go_enter Try.func50, Try.ntmps50
  go_wp2_with fail
  go_region_law
    (first
      | (go_simp; go_at_call 51
         refine (HCN.out _ (by repeat (first | exact Keeps.refl _ _ | refine Keeps.drew ?_))).mono ?_
         rintro en w4 ⟨rfl, h4⟩
         have q4 := h4.2.2.2.1
         have q5 := h4.2.2.2.2
         have l4 := h4.1.lt.2.1
         have l5 := h4.1.lt.2.2)
      | (refine step_row (by rfl) (.tmp 3) (.tmp 6) 43 (by rfl) 63 i0 (.agg #[.bool false, .int .i64 0, .string ByteArray.empty]) 3 32 Try.underlying43 HI.out HZ0.out HZ1.out HZ2.out rfl (by decide) v1 n xs (by rfl) (h4.2.1.row.keeps (l := []) (by repeat (first | exact Keeps.refl _ _ | refine Keeps.drew ?_ | refine Keeps.alloc ?_ _)) (fun _ _ => List.not_mem_nil)) _ 1 (conV c.1) (by rfl) (new_cells_src _ (conV c.1) _ 1 3 rfl) (by rw [HVC.out]; intro u hu; simp at hu; rcases hu with rfl | rfl | rfl <;> rfl) HO1.out HO2.out ?_
         intro v6 w6 hr6 hg6 hv6
         obtain ⟨a6, c6, rfl, _⟩ := hr6.read
         obtain ⟨q6, q7, hfin⟩ := HGR.out w4 _ w6 _ h4 (by repeat (first | exact Keeps.refl _ _ | refine Keeps.drew ?_ | refine Keeps.alloc ?_ _)) hr6 hg6 hv6))
  all_goals
    have HF := Lib.hid hfin
    clear hfin hr6 hg6 hv6 h4 q6 q7
    go_wp2
    go_end0
    exact HF.out
set_option maxRecDepth 100000 in
set_option maxHeartbeats 4000000 in
theorem clo3 (n : Nat) (xs : List Value) (h : RF B pr gm gp G v1 v2 v3 s W) (hr : RowR B pr gm gp 2 W v3 n xs) (hn : n ≤ 1000) :
    Calls Try.prog 54 #[.pointer (some ⟨gm, 0, none⟩), .pointer (some ⟨gp, 0, none⟩)] W (CloP B pr gm gp 2 G (fun v => (v1, v2, v)) (classM s).2 W v3 (n + 1) (xs ++ clsV (classM s).1)) := by
  have q0 : W.cell? ⟨gp, 0, none⟩ = some (.pointer (some ⟨pr, 0, none⟩)) := cell_of_block h.p
  have q1 : W.cell? ⟨gm, 3, none⟩ = some v3 := cell_of_block h.m
  obtain ⟨i0, hi, hz0, hz1, hz2⟩ := info_parts clsInfo
  have HI := Lib.hid hi
  have HZ0 := Lib.hid hz0
  have HZ1 := Lib.hid hz1
  have HZ2 := Lib.hid hz2
  obtain ⟨c, hc⟩ : ∃ c, c = classM s := ⟨_, rfl⟩
  have HCN : Hid (∀ W0, Keeps [] W W0 → Calls Try.prog 55 #[.pointer (some ⟨pr, 0, none⟩)] W0 fun en w' => en = .returned (.agg #[.int .i64 c.1.1, .int .i64 c.1.2]) ∧ (RF B pr gm gp G v1 v2 v3 c.2 w' ∧ RowR B pr gm gp 2 w' v3 n xs ∧ Keeps [pr] W w' ∧ w'.cell? ⟨gp, 0, none⟩ = some (.pointer (some ⟨pr, 0, none⟩)) ∧ w'.cell? ⟨gm, 3, none⟩ = some v3)) := (show ∀ W0, _ → _ from fun W0 k0 => (class_any s W0 (h.r.keeps k0 List.not_mem_nil (fun x hx => absurd hx List.not_mem_nil))).mono (by
    rintro en w' ⟨e1, e2, e3⟩
    rw [← hc] at e1 e2
    have k : Keeps [pr] W w' := (k0.mono (fun x hx => absurd hx List.not_mem_nil)).trans e3
    have hrf := h.read k e2
    exact ⟨e1, hrf, hr.keeps k (fun g hg hm => by have := (hr.own g hg).1; simp at hm; omega), k, cell_of_block hrf.p, cell_of_block hrf.m⟩))
  have HGR : Hid (∀ (w4 Wd w6 : World) (v6 : Value), (RF B pr gm gp G v1 v2 v3 c.2 w4 ∧ RowR B pr gm gp 2 w4 v3 n xs ∧ Keeps [pr] W w4 ∧ w4.cell? ⟨gp, 0, none⟩ = some (.pointer (some ⟨pr, 0, none⟩)) ∧ w4.cell? ⟨gm, 3, none⟩ = some v3) → Keeps [] w4 Wd → RowS w6 2 v6 (n + 1) (xs ++ clsV c.1) → Wd.grownBy w6 v3.ownBlock → (v6.ownBlock = v3.ownBlock ∨ ∃ g, v6.ownBlock = some g ∧ Wd.heap.size ≤ g) →
      w6.cell? ⟨gm, 3, none⟩ = some v3 ∧ w6.frozen? ⟨gm, 3, none⟩ = false ∧ CloP B pr gm gp 2 G (fun v => (v1, v2, v)) c.2 W v3 (n + 1) (xs ++ clsV c.1) (.returned (.tuple #[])) (w6.setCell ⟨gm, 3, none⟩ v6)) := (show ∀ _ _ _ _, _ from fun w4 Wd w6 v6 h4 kd hr6 hg6 hv6 => by
    obtain ⟨f4, r4, k4, _, _⟩ := h4
    have gr := Grew.mk' f4 r4 kd hr6 hg6 hv6
    have f6 := Grew.rf f4 r4 gr
    refine ⟨cell_of_block f6.m, free_of_block f6.m, v6, rfl, f6.set3 v6, ?_, ?_, ?_⟩
    · have k : Keeps [gm] w6 (w6.setCell ⟨gm, 3, none⟩ v6) := (Keeps.refl _ w6).setCell (.inl (by simp)) _
      exact gr.row.keeps k (fun g hg hm => by have := (gr.row.own g hg).2.1; simp at hm; omega)
    · rcases gr.new with e | ⟨g, e, hge⟩
      · exact .inl e
      · exact .inr ⟨g, e, by have := k4.size; omega⟩
    · exact ((k4.mono (by simp)).trans (gr.kp.mono (fun x hx => by simp; simp at hx; exact .inr (.inr hx)))).setCell (.inl (by simp)) _)
  have HLT := Lib.hid h.lt
  have hl := h.lt
  have HO1 : Hid (n + 1 ≤ maxLen) := (show n + 1 ≤ maxLen by unfold maxLen; omega)
  have HO2 : Hid ((n + 1) * 16 ≤ 140737488355328) := (show (n + 1) * 16 ≤ 140737488355328 by omega)
  have HVC : Hid (clsV c.1 = [.int .i64 c.1.1, .int .i64 c.1.2]) := rfl
  rw [← hc]
  obtain ⟨hl1, hl2, hl3⟩ := hl
  clear h hr hi hz0 hz1 hz2 hc
  go_enter Try.func54, Try.ntmps54
  go_wp2_with fail
  go_region_law
    (first
      | (go_simp; go_at_call 55
         refine (HCN.out _ (by repeat (first | exact Keeps.refl _ _ | refine Keeps.drew ?_))).mono ?_
         rintro en w4 ⟨rfl, h4⟩
         have q4 := h4.2.2.2.1
         have q5 := h4.2.2.2.2
         have l4 := h4.1.lt.2.1
         have l5 := h4.1.lt.2.2)
      | (refine step_row (by rfl) (.tmp 3) (.tmp 6) 45 (by rfl) 76 i0 (.agg #[.int .i64 0, .int .i64 0]) 2 16 Try.underlying45 HI.out HZ0.out HZ1.out HZ2.out rfl (by decide) v3 n xs (by rfl) (h4.2.1.row.keeps (l := []) (by repeat (first | exact Keeps.refl _ _ | refine Keeps.drew ?_ | refine Keeps.alloc ?_ _)) (fun _ _ => List.not_mem_nil)) _ 1 (clsV c.1) (by rfl) (new_cells_src _ (clsV c.1) _ 1 2 rfl) (by rw [HVC.out]; intro u hu; simp at hu; rcases hu with rfl | rfl <;> rfl) HO1.out HO2.out ?_
         intro v6 w6 hr6 hg6 hv6
         obtain ⟨a6, c6, rfl, _⟩ := hr6.read
         obtain ⟨q6, q7, hfin⟩ := HGR.out w4 _ w6 _ h4 (by repeat (first | exact Keeps.refl _ _ | refine Keeps.drew ?_ | refine Keeps.alloc ?_ _)) hr6 hg6 hv6))
  all_goals
    have HF := Lib.hid hfin
    clear hfin hr6 hg6 hv6 h4 q6 q7
    go_wp2
    go_end0
    exact HF.out
/-- how the second closure ends -/
def Clo2P (B pr gm gp : Nat) (G : Int) (v1 v3 : Value) (c : FunT × RS) (W : World) (v : Value) (n : Nat) (xs : List Value) (en : Ending) (W' : World) : Prop :=
  ∃ v' g, en = .returned (.tuple #[]) ∧ RF B pr gm gp G v1 v' v3 c.2 W' ∧ RowR B pr gm gp 3 W' v' (n + 1) (xs ++ funV (c.1, g)) ∧ (v'.ownBlock = v.ownBlock ∨ ∃ g', v'.ownBlock = some g' ∧ W.heap.size ≤ g') ∧ v'.ownBlock ≠ some g ∧ W.heap.size ≤ g ∧ MadeB W' g c.1.2.2.length c.1.2.2 ∧ c.1.2.2.length ≤ 65535 ∧ Keeps (pr :: gm :: v.ownBlock.toList) W W'
set_option maxRecDepth 100000 in
set_option maxHeartbeats 4000000 in
theorem clo2 (n : Nat) (xs : List Value) (h : RF B pr gm gp G v1 v2 v3 s W) (hr : RowR B pr gm gp 3 W v2 n xs) (hn : n ≤ 1000) :
    Calls Try.prog 52 #[.pointer (some ⟨gm, 0, none⟩), .pointer (some ⟨gp, 0, none⟩)] W (Clo2P B pr gm gp G v1 v3 (funcM s) W v2 n xs) := by
  have q0 : W.cell? ⟨gp, 0, none⟩ = some (.pointer (some ⟨pr, 0, none⟩)) := cell_of_block h.p
  have q1 : W.cell? ⟨gm, 2, none⟩ = some v2 := cell_of_block h.m
  obtain ⟨i0, hi, hz0, hz1, hz2⟩ := info_parts funInfo
  have HI := Lib.hid hi
  have HZ0 := Lib.hid hz0
  have HZ1 := Lib.hid hz1
  have HZ2 := Lib.hid hz2
  obtain ⟨c, hc⟩ : ∃ c, c = funcM s := ⟨_, rfl⟩
  have HCN : Hid (∀ W0, Keeps [] W W0 → Calls Try.prog 53 #[.pointer (some ⟨pr, 0, none⟩)] W0 fun en w' => ∃ g, en = .returned (.agg #[.int .i64 c.1.1, .int .i64 c.1.2.1, .slice (some ⟨g, 0, none⟩) c.1.2.2.length c.1.2.2.length]) ∧ (RF B pr gm gp G v1 v2 v3 c.2 w' ∧ RowR B pr gm gp 3 w' v2 n xs ∧ Keeps [pr] W w' ∧ w'.cell? ⟨gp, 0, none⟩ = some (.pointer (some ⟨pr, 0, none⟩)) ∧ w'.cell? ⟨gm, 2, none⟩ = some v2) ∧ W.heap.size ≤ g ∧ MadeB w' g c.1.2.2.length c.1.2.2 ∧ c.1.2.2.length ≤ 65535) := (show ∀ W0, _ → _ from fun W0 k0 => (function_any s W0 (h.r.keeps k0 List.not_mem_nil (fun x hx => absurd hx List.not_mem_nil))).mono (by
    rintro en w' ⟨g, e1, m1, l1, g1, e2, e3⟩
    rw [← hc] at e1 m1 l1 e2
    have k : Keeps [pr] W w' := (k0.mono (fun x hx => absurd hx List.not_mem_nil)).trans e3
    have hrf := h.read k e2
    exact ⟨g, e1, ⟨hrf, hr.keeps k (fun g hg hm => by have := (hr.own g hg).1; simp at hm; omega), k, cell_of_block hrf.p, cell_of_block hrf.m⟩, by have := k0.size; omega, m1, l1⟩))
  have HGR : Hid (∀ (g : Nat) (w4 Wd w6 : World) (v6 : Value), ((RF B pr gm gp G v1 v2 v3 c.2 w4 ∧ RowR B pr gm gp 3 w4 v2 n xs ∧ Keeps [pr] W w4 ∧ w4.cell? ⟨gp, 0, none⟩ = some (.pointer (some ⟨pr, 0, none⟩)) ∧ w4.cell? ⟨gm, 2, none⟩ = some v2) ∧ W.heap.size ≤ g ∧ MadeB w4 g c.1.2.2.length c.1.2.2 ∧ c.1.2.2.length ≤ 65535) → Keeps [] w4 Wd → RowS w6 3 v6 (n + 1) (xs ++ funV (c.1, g)) → Wd.grownBy w6 v2.ownBlock → (v6.ownBlock = v2.ownBlock ∨ ∃ g, v6.ownBlock = some g ∧ Wd.heap.size ≤ g) →
      w6.cell? ⟨gm, 2, none⟩ = some v2 ∧ w6.frozen? ⟨gm, 2, none⟩ = false ∧ Clo2P B pr gm gp G v1 v3 c W v2 n xs (.returned (.tuple #[])) (w6.setCell ⟨gm, 2, none⟩ v6)) := (show ∀ _ _ _ _ _, _ from fun g w4 Wd w6 v6 h4 kd hr6 hg6 hv6 => by
    obtain ⟨⟨f4, r4, k4, _, _⟩, g4, m4, l4⟩ := h4
    have gr := Grew.mk' f4 r4 kd hr6 hg6 hv6
    have f6 := Grew.rf f4 r4 gr
    have k : Keeps [gm] w6 (w6.setCell ⟨gm, 2, none⟩ v6) := (Keeps.refl _ w6).setCell (.inl (by simp)) _
    have hgl := (Array.getElem?_eq_some_iff.1 m4.2.2).1
    have hlt := h.lt
    have hv2 : v2.ownBlock ≠ some g := fun e => by have := hr.row.lt g e; omega
    refine ⟨cell_of_block f6.m, free_of_block f6.m, v6, g, rfl, f6.set2 v6, ?_, ?_, ?_, g4, ?_, l4, ?_⟩
    · exact gr.row.keeps k (fun g hg hm => by have := (gr.row.own g hg).2.1; simp at hm; omega)
    · rcases gr.new with e | ⟨g', e, hge⟩
      · exact .inl e
      · exact .inr ⟨g', e, by have := k4.size; omega⟩
    · rcases gr.new with e | ⟨g', e, hge⟩
      · rw [e]; exact hv2
      · rw [e]; intro e2; cases e2; omega
    · exact (m4.keeps gr.kp (fun hm => hv2 (by simpa using hm))).keeps k (by simp; omega)
    · exact ((k4.mono (by simp)).trans (gr.kp.mono (fun x hx => by simp; simp at hx; exact .inr (.inr hx)))).setCell (.inl (by simp)) _)
  have HLT := Lib.hid h.lt
  have hl := h.lt
  have HO1 : Hid (n + 1 ≤ maxLen) := (show n + 1 ≤ maxLen by unfold maxLen; omega)
  have HO2 : Hid ((n + 1) * 40 ≤ 140737488355328) := (show (n + 1) * 40 ≤ 140737488355328 by omega)
  have HVC : Hid (∀ g, funV (c.1, g) = [.int .i64 c.1.1, .int .i64 c.1.2.1, .slice (some ⟨g, 0, none⟩) c.1.2.2.length c.1.2.2.length]) := (show ∀ g, _ = _ from fun _ => rfl)
  rw [← hc]
  obtain ⟨hl1, hl2, hl3⟩ := hl
  clear h hr hi hz0 hz1 hz2 hc
  go_enter Try.func52, Try.ntmps52
  go_wp2_with fail
  go_region_law
    (first
      | (go_simp; go_at_call 53
         refine (HCN.out _ (by repeat (first | exact Keeps.refl _ _ | refine Keeps.drew ?_))).mono ?_
         rintro en w4 ⟨g4, rfl, h4⟩
         have q4 := h4.1.2.2.2.1
         have q5 := h4.1.2.2.2.2
         have l4 := h4.1.1.lt.2.1
         have l5 := h4.1.1.lt.2.2)
      | (refine step_row (by rfl) (.tmp 3) (.tmp 6) 44 (by rfl) 61 i0 (.agg #[.int .i64 0, .int .i64 0, .slice none 0 0]) 3 40 Try.underlying44 HI.out HZ0.out HZ1.out HZ2.out rfl (by decide) v2 n xs (by rfl) (h4.1.2.1.row.keeps (l := []) (by repeat (first | exact Keeps.refl _ _ | refine Keeps.drew ?_ | refine Keeps.alloc ?_ _)) (fun _ _ => List.not_mem_nil)) _ 1 (funV (c.1, g4)) (by rfl) (new_cells_src _ (funV (c.1, g4)) _ 1 3 rfl) (by rw [HVC.out]; intro u hu; simp at hu; rcases hu with rfl | rfl | rfl <;> rfl) HO1.out HO2.out ?_
         intro v6 w6 hr6 hg6 hv6
         obtain ⟨a6, c6, rfl, _⟩ := hr6.read
         obtain ⟨q6, q7, hfin⟩ := HGR.out g4 w4 _ w6 _ h4 (by repeat (first | exact Keeps.refl _ _ | refine Keeps.drew ?_ | refine Keeps.alloc ?_ _)) hr6 hg6 hv6))
  all_goals
    have HF := Lib.hid hfin
    clear hfin hr6 hg6 hv6 h4 q6 q7
    go_wp2
    go_end0
    exact HF.out
end
end Go.Proofs.Yteipnfnbepnpjaa
