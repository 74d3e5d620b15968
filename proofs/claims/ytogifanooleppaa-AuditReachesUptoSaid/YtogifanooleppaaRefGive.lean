/- the reference's Give computes what it says. -/
import Derived.Test.YtogifanooleppaaRefTake
import Derived.Deep.RegionLaw
import Derived.IntWalk
namespace Go.Proofs.Ytogifanooleppaa
open Go.RowKit Go.Maps
set_option linter.unusedVariables false

section
variable {P : Program} {w : World}
/-- append at a step of a region that draws its order -/
theorem step_row {ops : Array Oper} {o : Oper} {a : Act} {K : Act → World → Prop} {Q : Exit → Act → World → Prop} {E : Prop} (hgd : o.guard = none) (s x : Operand) (t : TypeId)
    (ho : o.op = .call { callee := .builtin .append, args := #[s, x], argTypes := #[t, t] })
    (e : TypeId) (i : TypeInfo) (z : Value) (size bytes : Nat) (ht : P.underlying t = some (.slice e)) (hi : P.info? e = some i) (hz : i.zero = some z)
    (hsize : i.size = size) (hby : i.bytes = bytes) (hzs : z.cells.size = size) (hsz : 0 < size)
    (v : Value) (n : Nat) (xs : List Value) (hs : a.eval s = v) (h : RowS w size v n xs)
    (sv : Value) (m : Nat) (news : List Value) (hx : a.eval x = sv) (hsrc : Src w sv m size news) (h1 : ∀ u ∈ news, u.oneCell' = true)
    (h63 : n + m ≤ maxLen) (hbytes : (n + m) * bytes ≤ 140737488355328)
    (hK : ∀ v' w', RowS w' size v' (n + m) (xs ++ news) → w.grownBy w' v.ownBlock → (v'.ownBlock = v.ownBlock ∨ ∃ g, v'.ownBlock = some g ∧ w.heap.size ≤ g) → K (a.put o.dst v') w') :
    if Region.wanted o (yielded ops a.tmps) = true then Oper.wp P o a w K Q else E := by
  have hw : Region.wanted o (yielded ops a.tmps) = true := by simp [Region.wanted, hgd]
  rw [if_pos hw]
  obtain ⟨v', w', hrun, h2, h3, h4⟩ := run_append_row (P := P) t o.type e i z size bytes ht hi hz hsize hby hzs hsz v n xs h sv m news hsrc h1 h63 hbytes
  unfold Oper.wp execOp
  simp only [ho, resolve, invoke, builtin, Sem.run_bind, Sem.run_pure, Result.andThen_ok, List.map_toArray, List.map_cons, List.map_nil, hs, hx, hrun]
  exact hK _ _ h2 h3 h4
end
section
variable {p n : Nat} {q : Option Nat} {l : List RunT}
/-- what Give does -/
def RGave (p n : Nat) (q : Option Nat) (l : List RunT) (x : Int) (w : World) (en : Ending) (w' : World) : Prop :=
  (en = .returned (.bool false) ∧ (∀ r ∈ l, (r.1 : Int) ≠ x) ∧ w' = w) ∨
  ∃ (i : Nat) (r : RunT) (q' : Option Nat), en = .returned (.bool true) ∧ l[i]? = some r ∧ (r.1 : Int) = x ∧ RefP w' p n q' (l.take i ++ l.drop (i + 1)) ∧ (q' = none ∨ ∃ g, q' = some g ∧ w.heap.size ≤ g) ∧ Keeps (p :: q.toList) w w'

theorem RGave.made {w w1 w2 : World} {v1 v2 : Value} {k m : Nat} {r : RunT} {x : Int} (h : RefP w p n q l) (hr : l[k]? = some r) (hx : (r.1 : Int) = x) (hg1 : w.drew.grownBy w1 none) (hv1 : v1.ownBlock = none ∨ ∃ g, v1.ownBlock = some g ∧ w.heap.size ≤ g)
    (hr2 : RowS w2 3 v2 (0 + k + m) ([] ++ cellsR (l.take k) ++ cellsR (l.drop (k + 1)))) (hm : m = l.length - (k + 1)) (hg2 : w1.grownBy w2 v1.ownBlock) (hv2 : v2.ownBlock = v1.ownBlock ∨ ∃ g, v2.ownBlock = some g ∧ w1.heap.size ≤ g) :
    RGave p n q l x w (.returned (.bool true)) (w2.setCell ⟨p, 1, none⟩ v2) := by
  have hp := h.lt.1
  have hkl := (List.getElem?_eq_some_iff.1 hr).1
  have hs1 : w.heap.size ≤ w1.heap.size := hg1.size
  have hn2 : v2.ownBlock = none ∨ ∃ g, v2.ownBlock = some g ∧ w.heap.size ≤ g := by
    rcases hv2 with hv2 | ⟨g, hv2, hge⟩
    · rw [hv2]; exact hv1
    · exact .inr ⟨g, hv2, by omega⟩
  have hk : Keeps q.toList w w2 := by
    have k1 : Keeps q.toList w w1 := ((Keeps.refl _ w).drew).trans (Keeps.of_grown_none hg1 _)
    rcases hv1 with hv1 | ⟨g, hv1, hge⟩
    · rw [hv1] at hg2; exact k1.trans (Keeps.of_grown_none hg2 _)
    · rw [hv1] at hg2; exact k1.then (l' := [g]) (Keeps.of_grown hg2 (by simp)) (fun y hy => .inr (by cases List.mem_singleton.1 hy; exact hge))
  have ht := h.turned' (l' := l.take k ++ l.drop (k + 1)) (v' := v2) (w1 := w2) (by
      intro y hy
      rw [List.mem_append] at hy
      rcases hy with hy | hy
      · exact h.small y (List.mem_of_mem_take hy)
      · exact h.small y (List.mem_of_mem_drop hy)) (by have := h.len; simp; omega) (by
      have e : (l.take k ++ l.drop (k + 1)).length = 0 + k + m := by simp; omega
      rw [e, cellsR_app]
      simpa using hr2) hk (by
      rcases hn2 with hn2 | ⟨g, hn2, hge⟩
      · rw [hn2]; simp
      · rw [hn2]; intro e; cases e; omega)
  exact .inr ⟨k, r, _, rfl, hr, hx, ht.1, hn2, ht.2⟩
theorem RefP.srcs {w : World} (h : RefP w p n q l) {g off cap k : Nat} (hc : w.cell? ⟨p, 1, none⟩ = some (.slice (some ⟨g, off, none⟩) l.length cap)) (hk : k < l.length) :
    (∀ c, Src w.drew (.slice (some ⟨g, off, none⟩) k c) k 3 (cellsR (l.take k))) ∧ ∀ w1, w.drew.grownBy w1 none → (cap ≠ k + 1 → ∀ c, Src w1 (.slice (some ⟨g, off + (k + 1) * 3, none⟩) (l.length - (k + 1)) c) (l.length - (k + 1)) 3 (cellsR (l.drop (k + 1)))) ∧ (cap = k + 1 → ∀ A c, Src w1 (.slice (some A) (l.length - (k + 1)) c) (l.length - (k + 1)) 3 (cellsR (l.drop (k + 1)))) := by
  obtain ⟨ty, v, h1, h2, h3⟩ := h.at_
  have e1 := (cell_of_block h1 (i := 1)).symm.trans hc
  simp at e1
  subst e1
  have hcells : ∀ (j : Nat) u, (cellsR l)[j]? = some u → w.cell? ⟨g, off + j, none⟩ = some u := by
    obtain ⟨a, cap', e, _, _, _, r4⟩ := h3.read
    cases e
    intro j u hu
    obtain ⟨b, o, e2, _, e3⟩ := r4 j u hu
    cases e2
    exact e3
  have hlc : l.length ≤ cap := by
    obtain ⟨a, cap', e, r1, _⟩ := h3.read
    cases e
    exact r1
  have hadd : ∀ o j, (⟨g, o, none⟩ : Addr).add j = ⟨g, o + j, none⟩ := by intro o j; unfold Addr.add; split <;> simp_all
  refine ⟨fun c => .inr ⟨_, _, rfl, by rw [cellsR_len, List.length_take]; congr 1; omega, fun j u hu => ?_⟩, fun w1 hg1 => ⟨fun _ c => .inr ⟨_, _, rfl, by rw [cellsR_len, List.length_drop], fun j u hu => ?_⟩, fun hcap A c => .inr ⟨_, _, rfl, by rw [cellsR_len, List.length_drop], fun j u hu => ?_⟩⟩⟩
  · rw [hadd]
    rw [← cellsR_take, List.getElem?_take] at hu
    split at hu
    · exact hcells j u hu
    · cases hu
  · rw [hadd, Nat.add_assoc]
    rw [← cellsR_drop, List.getElem?_drop] at hu
    have hc2 := hcells _ u hu
    have : w1.cell? ⟨g, off + ((k + 1) * 3 + j), none⟩ = w.cell? ⟨g, off + ((k + 1) * 3 + j), none⟩ := World.cell?_of_block (hg1.block g (World.block_lt_of_cell? w _ hc2) (by simp))
    rw [this]
    exact hc2
  · rw [List.drop_eq_nil_of_le (by omega)] at hu
    simp [cellsR] at hu
set_option maxRecDepth 100000 in
set_option maxHeartbeats 2000000 in
theorem rgive_any (x : Int) (w : World) (h : RefP w p n q l) :
    Calls Try.prog 30 #[.pointer (some ⟨p, 0, none⟩), .int .i64 x] w (RGave p n q l x w) := by
  obtain ⟨a0, cap, c0, c1, f1, hq0, hc, hm, hrow, hr⟩ := h.read
  obtain ⟨i0, hi, hz0, hz1, hz2⟩ := info_parts refRunInfo
  have HI := Lib.hid hi
  have HZ0 := Lib.hid hz0
  have HZ1 := Lib.hid hz1
  have HZ2 := Lib.hid hz2
  have H := Lib.hid h
  have HR := Lib.hid hr
  have HROW := Lib.hid hrow
  have HQ0 := Lib.hid hq0
  have hp := h.lt.1
  have hlen := h.len
  have HNE := Lib.hid h.ne
  clear h hi hz0 hz1 hz2 hrow hq0 hr
  go_enter Try.func30, Try.ntmps30
  go_wp2
  go_loop [5] (fun i => ∃ k : Nat, i = .int .i64 (k : Nat) ∧ k ≤ l.length ∧ Hid (∀ r ∈ l.take k, (r.1 : Int) ≠ x)) (fun i => l.length - (intOf i).toNat)
  case atStart => exact ⟨0, rfl, Nat.zero_le _, fun r hr => by simp at hr⟩
  case round =>
    obtain ⟨k, rfl, hk, hd⟩ := hrel
    by_cases hlt : k < l.length
    · obtain ⟨r, hr⟩ : ∃ r, l[k]? = some r := ⟨_, List.getElem?_eq_getElem hlt⟩
      obtain ⟨g, off, rfl, d0, d1, d2⟩ := HR.out k r hr
      have HRK := Lib.hid hr
      have hi0 : (0 : Int) ≤ (k : Int) := by omega
      have hi1 : (k : Int) < (l.length : Int) := by omega
      clear hr d1 d2
      by_cases hx : (r.1 : Int) = x
      · have HX := Lib.hid hx
        have hb : (((r.1 : Nat) : Int) == x) = true := by rw [beq_iff_eq]; exact hx
        clear hx
        have hk1 : (0 : Int) ≤ (k : Int) + 1 := by omega
        have hk2 : (k : Int) + 1 ≤ (l.length : Int) := by omega
        have hk3 : (k : Int) ≤ (cap : Int) := by omega
        have hk4 : (k : Int) ≤ (k : Int) + 1 := by omega
        have hw1 : IntKind.i64.wrap ((k : Int) + 1) = (k : Int) + 1 := IntWalk.i64_in _ (by omega)
        have hw2 : ((k : Int) + 1).toNat = k + 1 := by omega
        have HS := Lib.hid (H.out.srcs c1 hlt)
        have HC1 := Lib.hid (fun (w2 : World) (h2 : w.drew.grownBy w2 none) => (show w2.cell? ⟨p, 1, none⟩ = some (.slice (some ⟨g, off, none⟩) l.length cap) ∧ w2.frozen? ⟨p, 1, none⟩ = false from
          ⟨(World.cell?_of_block (h2.block p hp (by simp))).trans c1, (World.frozen?_of_block (h2.block p hp (by simp))).trans f1⟩))
        have HC2 := Lib.hid (fun (w1 w2 : World) (v1 : Value) (h2 : w.drew.grownBy w1 none) (hv : v1.ownBlock = (Value.slice none 0 0).ownBlock ∨ ∃ g, v1.ownBlock = some g ∧ w.drew.heap.size ≤ g) (h3 : w1.grownBy w2 v1.ownBlock) => (show w2.cell? ⟨p, 1, none⟩ = some (.slice (some ⟨g, off, none⟩) l.length cap) ∧ w2.frozen? ⟨p, 1, none⟩ = false by
          have hp1 : p < w1.heap.size := Nat.lt_of_lt_of_le hp h2.size
          have hne : some p ≠ v1.ownBlock := by
            rcases hv with hv | ⟨g, hv, hge⟩
            · rw [hv]; exact fun e => by cases e
            · rw [hv]; intro e; cases e; exact absurd hp (by have : w.drew.heap.size = w.heap.size := rfl; omega)
          exact ⟨((World.cell?_of_block (h3.block p hp1 hne)).trans (World.cell?_of_block (h2.block p hp (by simp)))).trans c1, ((World.frozen?_of_block (h3.block p hp1 hne)).trans (World.frozen?_of_block (h2.block p hp (by simp)))).trans f1⟩))
        have HO1 : Hid (0 + k ≤ maxLen) := (show 0 + k ≤ maxLen by unfold maxLen; omega)
        have HO2 : Hid ((0 + k) * 24 ≤ 140737488355328) := (show (0 + k) * 24 ≤ 140737488355328 by omega)
        have HO3 : Hid (0 + k + 0 ≤ maxLen) := (show 0 + k + 0 ≤ maxLen by unfold maxLen; omega)
        have HO4 : Hid ((0 + k + 0) * 24 ≤ 140737488355328) := (show (0 + k + 0) * 24 ≤ 140737488355328 by omega)
        have HO5 : Hid (0 + k + (l.length - (k + 1)) ≤ maxLen) := (show 0 + k + (l.length - (k + 1)) ≤ maxLen by unfold maxLen; omega)
        have HO6 : Hid ((0 + k + (l.length - (k + 1))) * 24 ≤ 140737488355328) := (show (0 + k + (l.length - (k + 1))) * 24 ≤ 140737488355328 by omega)
        by_cases hcap : cap = k + 1
        · go_wp2_with fail
          go_region_law (first
            | (refine step_row (by rfl) (.const (.slice none 0 0)) (.tmp 31) 81 (by rfl) 88 i0 (.agg #[.int .i64 0, .int .i64 0, .int .i64 0]) 3 24 Try.underlying81 HI.out HZ0.out HZ1.out HZ2.out rfl (by decide) (.slice none 0 0) 0 [] (by rfl) (RowS.nil _ _) _ k (cellsR (l.take k)) (by rfl) (HS.out.1 _) (cellsR_one _) HO1.out HO2.out ?_
               intro v1 w1 hr1 hg1 hv1
               have q1 := HC1.out w1 hg1)
            | (refine step_row (by rfl) (.tmp 32) (.tmp 39) 81 (by rfl) 88 i0 (.agg #[.int .i64 0, .int .i64 0, .int .i64 0]) 3 24 Try.underlying81 HI.out HZ0.out HZ1.out HZ2.out rfl (by decide) v1 (0 + k) ([] ++ cellsR (l.take k)) (by rfl) hr1 _ (l.length - (k + 1)) (cellsR (l.drop (k + 1))) (by rfl) ((HS.out.2 w1 hg1).2 hcap _ _) (cellsR_one _) HO5.out HO6.out ?_
               intro v2 w2 hr2 hg2 hv2
               obtain ⟨a2, cap2, rfl, _⟩ := hr2.read
               have q2 := HC2.out w1 w2 v1 hg1 hv1 hg2))
          all_goals
            have HF0 := RGave.made H.out HRK.out HX.out hg1 hv1 hr2 rfl hg2 hv2
            rw [Nat.zero_add] at HF0
            have HF := Lib.hid HF0
            clear hr1 hg1 hv1 hr2 hg2 hv2 HF0
            go_wp2
            go_ret
            exact HF.out
        · have hcap2 : ¬ (k + 1 = cap) := fun e => hcap e.symm
          go_wp2_with fail
          go_region_law (first
            | (refine step_row (by rfl) (.const (.slice none 0 0)) (.tmp 31) 81 (by rfl) 88 i0 (.agg #[.int .i64 0, .int .i64 0, .int .i64 0]) 3 24 Try.underlying81 HI.out HZ0.out HZ1.out HZ2.out rfl (by decide) (.slice none 0 0) 0 [] (by rfl) (RowS.nil _ _) _ k (cellsR (l.take k)) (by rfl) (HS.out.1 _) (cellsR_one _) HO1.out HO2.out ?_
               intro v1 w1 hr1 hg1 hv1
               have q1 := HC1.out w1 hg1)
            | (refine step_row (by rfl) (.tmp 32) (.tmp 39) 81 (by rfl) 88 i0 (.agg #[.int .i64 0, .int .i64 0, .int .i64 0]) 3 24 Try.underlying81 HI.out HZ0.out HZ1.out HZ2.out rfl (by decide) v1 (0 + k) ([] ++ cellsR (l.take k)) (by rfl) hr1 _ (l.length - (k + 1)) (cellsR (l.drop (k + 1))) (by rfl) ((HS.out.2 w1 hg1).1 hcap _) (cellsR_one _) HO5.out HO6.out ?_
               intro v2 w2 hr2 hg2 hv2
               obtain ⟨a2, cap2, rfl, _⟩ := hr2.read
               have q2 := HC2.out w1 w2 v1 hg1 hv1 hg2))
          all_goals
            have HF0 := RGave.made H.out HRK.out HX.out hg1 hv1 hr2 rfl hg2 hv2
            rw [Nat.zero_add] at HF0
            have HF := Lib.hid HF0
            clear hr1 hg1 hv1 hr2 hg2 hv2 HF0
            go_wp2
            go_ret
            exact HF.out
      · have hb : (((r.1 : Nat) : Int) == x) = false := by rw [beq_eq_false_iff_ne]; exact hx
        have HD : Hid (∀ r ∈ l.take (k + 1), (r.1 : Int) ≠ x) := (show ∀ r ∈ l.take (k + 1), (r.1 : Int) ≠ x by
          intro y hy
          rw [List.take_add_one, List.mem_append] at hy
          rcases hy with hy | hy
          · exact hd.out y hy
          · rw [HRK.out] at hy
            cases List.mem_singleton.1 hy
            exact hx)
        clear hx hd
        go_wp2
        go_round
        case rel => exact ⟨k + 1, by go_num, by omega, HD⟩
        case measure => simp [intOf]; omega
    · obtain rfl : k = l.length := by omega
      have HD : Hid (∀ r ∈ l, (r.1 : Int) ≠ x) := (show ∀ r ∈ l, (r.1 : Int) ≠ x from fun r hr => hd.out r (by rw [List.take_length]; exact hr))
      clear hlt hd
      go_wp2
      go_ret
      exact .inl ⟨rfl, HD.out, rfl⟩
end
end Go.Proofs.Ytogifanooleppaa
