/- the reference's reader computes what the model's does: take, one, constant; and ReadModule's own memory. -/
import Derived.Test.YteipnfnbepnpjaaModConst
import Derived.Test.YteipnfnbepnpjaaModRead2
namespace Go.Proofs.Yteipnfnbepnpjaa
open Go.RowKit Go.Maps
set_option linter.unusedVariables false
theorem HoldsB.keepsE {w w' : World} {a : Option Addr} {len cap : Nat} {l L : List Nat} (h : HoldsB w a len cap l) (k : Keeps L w w') (hn : ∀ g off, a = some ⟨g, off, none⟩ → l ≠ [] → g ∉ L) : HoldsB w' a len cap l :=
  ⟨h.eq, h.le, h.max, h.nil, fun i y hi => by
    obtain ⟨g, off, e, hlt, c0⟩ := h.cell i y hi
    exact ⟨g, off, e, Nat.lt_of_lt_of_le hlt k.size, (World.cell?_of_block (k.block g hlt (hn g off e (by rintro rfl; simp at hi)))).trans c0⟩, h.lt⟩
/-- the reference's reader in memory -/
structure RqS (B pr : Nat) (a : Option Addr) (len cap : Nat) (bs : List Nat) (s : RS) (w : World) : Prop where
  at_ : ∃ p, p ≤ bs.length ∧ s.1 = bs.drop p ∧ w.heap[pr]? = some (.cells #[.slice a len cap, .int .i64 (p : Nat), .int .i64 (s.2 : Nat)] 93 (0, 0))
  h : HoldsB w a len cap bs
  lt : ∀ g off, a = some ⟨g, off, none⟩ → bs ≠ [] → g < B
  le : B ≤ pr
  sz : bs.length ≤ 1000000
  ok : s.2 < 100
/-- bytes that a take has made -/
def MadeV (w0 w : World) (v : Value) (l : List Nat) : Prop := RowS w 1 v l.length (byteCells l) ∧ (∀ g, v.ownBlock = some g → w0.heap.size ≤ g) ∧ ∀ y ∈ l, y < 256
/-- how a take ends -/
def TqP (B pr : Nat) (a : Option Addr) (len cap : Nat) (bs : List Nat) (n : Nat) (s : RS) (w : World) (en : Ending) (w' : World) : Prop :=
  ∃ v, en = .returned v ∧ MadeV w w' v (takeM n s).1 ∧ RqS B pr a len cap bs (takeM n s).2 w' ∧ Keeps [pr] w w'
section
variable {B pr : Nat} {a : Option Addr} {len cap : Nat} {bs : List Nat}
theorem RqS.ltp {s : RS} {w : World} (h : RqS B pr a len cap bs s w) : pr < w.heap.size := by
  obtain ⟨p, _, _, hb⟩ := h.at_
  exact (Array.getElem?_eq_some_iff.1 hb).1
theorem RqS.keeps {s : RS} {w w' : World} {L : List Nat} (h : RqS B pr a len cap bs s w) (k : Keeps L w w') (hp : pr ∉ L) (hB : ∀ x ∈ L, B ≤ x) : RqS B pr a len cap bs s w' := by
  obtain ⟨p, h1, h2, h3⟩ := h.at_
  exact ⟨⟨p, h1, h2, k.at h3 hp⟩, h.h.keepsE k (fun g off e hne hm => by have := h.lt g off e hne; have := hB g hm; omega), h.lt, h.le, h.sz, h.ok⟩
theorem made_row {w : World} {g n : Nat} (h : w.heap[g]? = some (.cells (madeCells #[Value.int .u8 0] n) 5 (0, 0))) (hn : n ≤ 1000000) : RowS w 1 (.slice (some ⟨g, 0, none⟩) n n) (List.replicate n 0).length (byteCells (List.replicate n 0)) := by
  rw [List.length_replicate]
  refine ⟨by simp [byteCells], .inr ⟨g, 0, n, _, _, rfl, h, Nat.le_refl _, by unfold maxLen; omega, ?_, fun j u hu => ?_⟩⟩
  · rw [← Array.length_toList, toList_madeCells_one]; simp
  · rw [Nat.zero_add, ← Array.getElem?_toList, toList_madeCells_one, ← hu]
    simp [byteCells]
set_option maxRecDepth 100000 in
set_option maxHeartbeats 4000000 in
theorem take_q_no (n : Nat) (s : RS) (w : World) (h : RqS B pr a len cap bs s w) (hn : n ≤ 1000000) (hf : s.2 ≠ 0 ∨ (s.2 = 0 ∧ s.1.length < n)) :
    Calls Try.prog 56 #[.pointer (some ⟨pr, 0, none⟩), .int .i64 (n : Nat)] w (TqP B pr a len cap bs n s w) := by
  obtain ⟨l, e⟩ := s
  obtain ⟨p, hp, hl, hb⟩ := h.at_
  dsimp only at hl hb hf
  have c0 : w.cell? ⟨pr, 0, none⟩ = some (.slice a len cap) := cell_of_block hb
  have c1 : w.cell? ⟨pr, 1, none⟩ = some (.int .i64 (p : Nat)) := cell_of_block hb
  have c2 : w.cell? ⟨pr, 2, none⟩ = some (.int .i64 (e : Nat)) := cell_of_block hb
  have f2 : w.frozen? ⟨pr, 2, none⟩ = false := free_of_block hb
  have hpl := h.ltp
  have hle := h.h.eq
  have hsz := h.sz
  obtain ⟨i0, hi, hz0, hz1, hz2⟩ := info_parts byteInfo
  have hmk : ∀ W : World, (Instr.makeSlice 26 (.int .i64 (n : Nat)) (.int .i64 (n : Nat))).run Try.prog W = .ok (.slice (some ⟨W.heap.size, 0, none⟩) n n) (W.alloc (.cells (madeCells #[Value.int .u8 0] n) 5)) := by
    intro W
    have := makes_len (P := Try.prog) 26 5 i0 (.int .u8 0) Try.underlying26 hi hz0 .i64 .i64 n n (Nat.le_refl _) (by rw [hz2]; omega) (by omega) W
    rw [hz1, Nat.mul_one] at this
    exact this
  have H := Lib.hid h
  rcases hf with he | ⟨he, hlt⟩
  · have HD : Hid (∀ k, TqP B pr a len cap bs n (l, e) w (.returned (.slice (some ⟨w.heap.size, 0, none⟩) n n)) ((w.drewN k).alloc (.cells (madeCells #[Value.int .u8 0] n) 5))) := (show ∀ k, TqP _ _ _ _ _ _ _ _ _ _ _ from fun k => by
      have kk : Keeps [] w ((w.drewN k).alloc (.cells (madeCells #[Value.int .u8 0] n) 5)) := ((Keeps.refl [] w).drewN k).alloc _
      refine ⟨_, rfl, ?_, ?_, kk.mono (fun x hx => absurd hx List.not_mem_nil)⟩
      · rw [takeM_fail he]
        exact ⟨made_row (heap_alloc_at (w.drewN k) _) hn, fun g hg => by cases hg; exact Nat.le_refl _, fun y hy => by rw [(List.mem_replicate.1 hy).2]; decide⟩
      · rw [takeM_fail he]; exact h.keeps kk List.not_mem_nil (fun x hx => absurd hx List.not_mem_nil))
    have b1 : ((e : Int) == 0) = false := by rw [beq_eq_false_iff_ne]; omega
    have b2 : ((e : Int) != 0) = true := by rw [bne_iff_ne]; omega
    have hmk2 := hmk
    clear h hb hi hz0 hz1 hz2 hl hle hp hsz he
    go_enter Try.func56, Try.ntmps56
    go_wp2_with fail
    go_quiet (fail)
    go_wp2
    go_ret
    exact HD.out _
  · subst he
    have hll : l.length = bs.length - p := by rw [hl]; simp
    have HD : Hid (∀ k, TqP B pr a len cap bs n (l, 0) w (.returned (.slice (some ⟨w.heap.size, 0, none⟩) n n)) (((w.drewN k).setCell ⟨pr, 2, none⟩ (.int .i64 7)).alloc (.cells (madeCells #[Value.int .u8 0] n) 5))) := (show ∀ k, TqP _ _ _ _ _ _ _ _ _ _ _ from fun k => by
      have hs2 : ((w.drewN k).setCell ⟨pr, 2, none⟩ (.int .i64 7)).heap.size = w.heap.size := by simp [World.setCell]
      have hh := heap_alloc_at ((w.drewN k).setCell ⟨pr, 2, none⟩ (.int .i64 7)) (.cells (madeCells #[Value.int .u8 0] n) 5)
      rw [hs2] at hh
      have kk : Keeps [pr] w (((w.drewN k).setCell ⟨pr, 2, none⟩ (.int .i64 7)).alloc (.cells (madeCells #[Value.int .u8 0] n) 5)) := (((Keeps.refl _ w).drewN k).setCell (.inl (by simp)) _).alloc _
      refine ⟨_, rfl, ?_, ?_, kk⟩
      · rw [takeM_short hlt]
        exact ⟨made_row hh hn, fun g hg => by cases hg; exact Nat.le_refl _, fun y hy => by rw [(List.mem_replicate.1 hy).2]; decide⟩
      · rw [takeM_short hlt]
        refine ⟨⟨p, hp, hl, ?_⟩, h.h.keepsE kk (fun g off e hne hm => by have := h.lt g off e hne; have := h.le; simp at hm; omega), h.lt, h.le, h.sz, (by decide : (7 : Nat) < 100)⟩
        rw [heap_alloc_lt _ _ (by rw [hs2]; exact hpl)]
        have := setCell_block (i := 2) (w := w.drewN k) hb (.int .i64 7)
        simpa using this)
    have hl2 : (len : Int) - (p : Int) < (n : Int) := by omega
    have hw1 : IntKind.i64.wrap ((len : Int) - (p : Int)) = (len : Int) - (p : Int) := IntWalk.i64_in _ (by omega)
    replace c2 : w.cell? ⟨pr, 2, none⟩ = some (.int .i64 0) := c2
    clear h hb hi hz0 hz1 hz2 hl hle hp hsz hll hlt
    go_enter Try.func56, Try.ntmps56
    go_wp2_with fail
    go_quiet (fail)
    clear hw1
    go_wp2
    go_ret
    exact HD.out _
/-- behind a take that ends well -/
theorem take_q_done {n p : Nat} {l : List Nat} {w w5 w6 : World} {v : Value} (h : RqS B pr a len cap bs (l, 0) w) (hp : p ≤ bs.length) (hl : l = bs.drop p) (hn : n ≤ l.length) (hb5 : w5.heap[pr]? = some (.cells #[.slice a len cap, .int .i64 ((p + n : Nat) : Nat), .int .i64 0] 93 (0, 0))) (k5 : Keeps [pr] w w5)
    (hr : RowS w6 1 v (0 + n) (byteCells ([] ++ l.take n))) (hg : w5.grownBy w6 none) (hv : v.ownBlock = none ∨ ∃ g, v.ownBlock = some g ∧ w5.heap.size ≤ g) :
    TqP B pr a len cap bs n (l, 0) w (.returned v) w6 := by
  have k6 : Keeps [] w5 w6 := Keeps.of_grown_none hg _
  have hll : l.length = bs.length - p := by rw [hl]; simp
  have hs5 := k5.size
  refine ⟨v, rfl, ⟨?_, fun g hg' => ?_, fun y hy => ?_⟩, ?_, k5.trans (k6.mono (fun x hx => absurd hx List.not_mem_nil))⟩
  · rw [takeM_ok hn, List.length_take]
    rw [Nat.zero_add, List.nil_append] at hr
    rw [Nat.min_eq_left hn]; exact hr
  · rcases hv with hv | ⟨g', hv, hge⟩
    · rw [hv] at hg'; cases hg'
    · rw [hv] at hg'; cases hg'; omega
  · rw [takeM_ok hn] at hy
    exact h.h.lt y (by rw [hl] at hy; exact List.mem_of_mem_drop (List.mem_of_mem_take hy))
  · rw [takeM_ok hn]
    refine ⟨⟨p + n, by omega, by rw [hl]; simp, k6.at hb5 List.not_mem_nil⟩, (h.h.keepsE k5 (fun g off e hne hm => by have := h.lt g off e hne; have := h.le; simp at hm; omega)).keeps k6 (fun _ _ _ => List.not_mem_nil), h.lt, h.le, h.sz, (by decide : (0 : Nat) < 100)⟩
theorem addr_add (g off j : Nat) : (⟨g, off, none⟩ : Addr).add j = ⟨g, off + j, none⟩ := by unfold Addr.add; split <;> simp_all
theorem addr_add2 (g off p j : Nat) : ((⟨g, off, none⟩ : Addr).add p).add j = ⟨g, off + (p + j), none⟩ := by rw [addr_add, addr_add, Nat.add_assoc]
theorem src_drewN {w : World} {sv : Value} {m size : Nat} {news : List Value} (h : Src w sv m size news) (k : Nat) : Src (w.drewN k) sv m size news := by
  rcases h with h | ⟨ad, c, h1, h2, h3⟩
  · exact .inl h
  · exact .inr ⟨ad, c, h1, h2, h3⟩
set_option maxRecDepth 100000 in
set_option maxHeartbeats 4000000 in
theorem take_q_yes (n : Nat) (l : List Nat) (w : World) (h : RqS B pr a len cap bs (l, 0) w) (hn : n ≤ l.length) :
    Calls Try.prog 56 #[.pointer (some ⟨pr, 0, none⟩), .int .i64 (n : Nat)] w (TqP B pr a len cap bs n (l, 0) w) := by
  obtain ⟨p, hp, hl, hb⟩ := h.at_
  dsimp only at hl hb
  have c0 : w.cell? ⟨pr, 0, none⟩ = some (.slice a len cap) := cell_of_block hb
  have c1 : w.cell? ⟨pr, 1, none⟩ = some (.int .i64 (p : Nat)) := cell_of_block hb
  have c2 : w.cell? ⟨pr, 2, none⟩ = some (.int .i64 0) := cell_of_block hb
  have f1 : w.frozen? ⟨pr, 1, none⟩ = false := free_of_block hb
  have hpl := h.ltp
  have hle := h.h.eq
  have hlc := h.h.le
  have hmx := h.h.max
  have hsz := h.sz
  have hll : l.length = bs.length - p := by rw [hl]; simp
  obtain ⟨i0, hi, hz0, hz1, hz2⟩ := info_parts byteInfo
  have HI := Lib.hid hi
  have HZ0 := Lib.hid hz0
  have HZ1 := Lib.hid hz1
  have HZ2 := Lib.hid hz2
  obtain ⟨q, hq⟩ : ∃ q, q = p + n := ⟨_, rfl⟩
  have HQ := Lib.hid hq
  have hb5 : ∀ k, ((w.drewN k).setCell ⟨pr, 1, none⟩ (.int .i64 (q : Nat))).heap[pr]? = some (.cells #[.slice a len cap, .int .i64 (q : Nat), .int .i64 0] 93 (0, 0)) := fun k => by
    have := setCell_block (i := 1) (w := w.drewN k) hb (.int .i64 (q : Nat))
    simpa using this
  have k5 : ∀ k, Keeps [pr] w ((w.drewN k).setCell ⟨pr, 1, none⟩ (.int .i64 (q : Nat))) := fun k => ((Keeps.refl _ w).drewN k).setCell (.inl (by simp)) _
  have HB5 := Lib.hid hb5
  have HK5 := Lib.hid k5
  have HD : Hid (∀ w5 w6 v, w5.heap[pr]? = some (.cells #[.slice a len cap, .int .i64 (q : Nat), .int .i64 0] 93 (0, 0)) → Keeps [pr] w w5 → RowS w6 1 v (0 + n) (byteCells ([] ++ l.take n)) → w5.grownBy w6 none → (v.ownBlock = none ∨ ∃ g, v.ownBlock = some g ∧ w5.heap.size ≤ g) → TqP B pr a len cap bs n (l, 0) w (.returned v) w6) :=
    (show ∀ w5 w6 v, _ → _ → _ → _ → _ → _ from fun w5 w6 v hb5 k5 hr hg hv => take_q_done h hp hl hn (by rw [← hq]; exact hb5) k5 hr hg hv)
  have hl2 : ¬ ((len : Int) - (p : Int) < (n : Int)) := by omega
  have hw1 : IntKind.i64.wrap ((len : Int) - (p : Int)) = (len : Int) - (p : Int) := IntWalk.i64_in _ (by omega)
  have hqi : (p : Int) + (n : Int) = (q : Int) := by omega
  have hq3 : (q : Int) ≤ 2000000 := by omega
  have hqs : (q : Int) - (n : Int) = (p : Int) := by omega
  have hwp : IntKind.i64.wrap (p : Int) = (p : Int) := IntWalk.i64_in _ (by omega)
  have hqn : q - p = n := by omega
  have hqw : IntKind.i64.wrap ((q : Int) - (n : Int)) = (p : Int) := by rw [IntWalk.i64_in _ (by omega)]; omega
  have HSRC : Hid (∀ (W : World) (A : Addr) (c : Nat), n = 0 → Src W (.slice (some A) n c) n 1 (byteCells (l.take n))) := (show ∀ W A c, _ → _ from fun W A c h0 => by subst h0; exact .inr ⟨A, c, rfl, rfl, fun j u hu => by simp [byteCells] at hu⟩)
  have hp0 : (0 : Int) ≤ (p : Int) := by omega
  have hpq : (p : Int) ≤ (q : Int) := by omega
  have hqc : (q : Int) ≤ (cap : Int) := by omega
  have hpc : (p : Int) ≤ (cap : Int) := by omega
  cases a with
  | none =>
    have hc0 := h.h.nil rfl
    obtain rfl : n = 0 := by omega
    have HS : Hid (∀ (W : World), Src W (.slice none 0 0) 0 1 (byteCells (l.take 0))) := (show ∀ (W : World), _ from fun W => .inl ⟨rfl, rfl, rfl⟩)
    obtain rfl : len = 0 := by omega
    obtain rfl : p = 0 := by omega
    obtain rfl : q = 0 := by omega
    subst hc0
    have HO1 := Lib.hid (show 0 + 0 ≤ maxLen from by unfold maxLen; omega)
    have HO2 := Lib.hid (show (0 + 0) * 1 ≤ 140737488355328 from by omega)
    clear hb hi hz0 hz1 hz2 hl hle hlc hmx hsz hll hp hq hb5 k5 hn h hwp hqn hqw hqi hqs hw1 hl2 hp0 hpq hqc hpc hq3
    go_enter Try.func56, Try.ntmps56
    go_wp2_with fail
    go_quiet (fail)
    go_wp2_with fail
    have hb5 := HB5.out nq
    have HK := Lib.hid (HK5.out nq)
    replace hb5 : ((w.drewN nq).setCell ⟨pr, 1, none⟩ (.int .i64 0)).heap[pr]? = some (.cells #[.slice none 0 0, .int .i64 0, .int .i64 0] 93 (0, 0)) := hb5
    have HK : Hid (Keeps [pr] w ((w.drewN nq).setCell ⟨pr, 1, none⟩ (.int .i64 0))) := HK
    generalize (w.drewN nq).setCell ⟨pr, 1, none⟩ (.int .i64 0) = w5 at hb5 HK ⊢
    have HB := Lib.hid hb5
    clear c0 c1 c2 f1
    have c0 : w5.cell? ⟨pr, 0, none⟩ = some (.slice none 0 0) := cell_of_block hb5
    have c1 : w5.cell? ⟨pr, 1, none⟩ = some (.int .i64 0) := cell_of_block hb5
    clear hb5
    have hw0 : IntKind.i64.wrap 0 = 0 := IntWalk.i64_in _ (by omega)
    go_region_law (first
      | (refine step_row (by rfl) (.const (.slice none 0 0)) (.tmp 57) 26 (by rfl) 5 i0 (.int .u8 0) 1 1 Try.underlying26 HI.out HZ0.out HZ1.out HZ2.out rfl (by decide) (.slice none 0 0) 0 [] (by rfl) (RowS.nil _ _) (.slice none 0 0) 0 (byteCells (l.take 0)) (by rfl) (HS.out _) (byteCells_one _) HO1.out HO2.out ?_
         intro v6 w6 hr6 hg6 hv6)
      | fail)
    all_goals
      have HF := Lib.hid (HD.out w5 w6 v6 HB.out HK.out hr6 ⟨hg6.os, hg6.tape, hg6.output, hg6.size, hg6.block⟩ hv6)
      clear hr6 hg6 hv6 c0 c1 hw0
      go_wp2
      go_ret
      exact HF.out
  | some ad =>
    obtain ⟨g, off, spot⟩ := ad
    by_cases hcap : cap = p
    · have hn0 : n = 0 := by omega
      have HS : Hid (∀ (W : World) c, Keeps [pr] w W → Src W (.slice (some ⟨g, off, spot⟩) n c) n 1 (byteCells (l.take n))) := (show ∀ (W : World) c, _ → _ from fun W c _ => HSRC.out W _ c hn0)
      have hcap2 : True := trivial
      clear hn0
      have HO1 := Lib.hid (show 0 + n ≤ maxLen from by unfold maxLen; omega)
      have HO2 := Lib.hid (show (0 + n) * 1 ≤ 140737488355328 from by omega)
      clear hlc hmx
      subst hcap
      clear hb hi hz0 hz1 hz2 hl hle hsz hll hp hq hb5 k5 hn h
      go_enter Try.func56, Try.ntmps56
      go_wp2_with fail
      go_quiet (fail)
      go_wp2_with fail
      have hb5 := HB5.out nq
      have HK := Lib.hid (HK5.out nq)
      generalize (w.drewN nq).setCell ⟨pr, 1, none⟩ (.int .i64 (q : Nat)) = w5 at hb5 HK ⊢
      have HB := Lib.hid hb5
      clear c0 c1 c2 f1 hw1 hl2
      have c0 : w5.cell? ⟨pr, 0, none⟩ = some (.slice (some ⟨g, off, spot⟩) len cap) := cell_of_block hb5
      have c1 : w5.cell? ⟨pr, 1, none⟩ = some (.int .i64 (q : Nat)) := cell_of_block hb5
      clear hb5
      go_region_law (first
        | (refine step_row (by rfl) (.const (.slice none 0 0)) (.tmp 57) 26 (by rfl) 5 i0 (.int .u8 0) 1 1 Try.underlying26 HI.out HZ0.out HZ1.out HZ2.out rfl (by decide) (.slice none 0 0) 0 [] (by rfl) (RowS.nil _ _) _ n (byteCells (l.take n)) (by rfl) (HS.out _ _ (HK.out.trans (by repeat (first | exact Keeps.refl _ _ | refine Keeps.drew ?_)))) (byteCells_one _) HO1.out HO2.out ?_
           intro v6 w6 hr6 hg6 hv6)
        | fail)
      all_goals
        have HF := Lib.hid (HD.out w5 w6 v6 HB.out HK.out hr6 ⟨hg6.os, hg6.tape, hg6.output, hg6.size, hg6.block⟩ hv6)
        clear hr6 hg6 hv6 c0 c1 hwp hqn hqw hqi hqs hcap2
        go_wp2
        go_ret
        exact HF.out
    · have hcap2 : ¬ (p = cap) := fun e => hcap e.symm
      have HS : Hid (∀ (W : World) c, Keeps [pr] w W → Src W (.slice (some ((⟨g, off, spot⟩ : Addr).add p)) n c) n 1 (byteCells (l.take n))) := (show ∀ (W : World) c, _ → _ from fun W c kW => by
        rcases Nat.eq_zero_or_pos n with h0 | h0
        · exact HSRC.out W _ c h0
        · refine .inr ⟨_, _, rfl, by simp [byteCells]; omega, fun j u hu => ?_⟩
          have hj : j < n := by have := (List.getElem?_eq_some_iff.1 hu).1; simp [byteCells] at this; omega
          have hy : bs[p + j]? = some ((l.take n)[j]'(by rw [List.length_take]; omega)) := by
            rw [List.getElem_take, List.getElem?_eq_getElem (by omega)]
            simp only [hl, List.getElem_drop]
          obtain ⟨g', off', e, hlt, hc⟩ := h.h.cell _ _ hy
          cases e
          rw [addr_add2]
          have hgp : g ≠ pr := by have := h.lt g off rfl (by rintro rfl; simp at hy); have := h.le; omega
          rw [World.cell?_of_block (kW.block g hlt (by simpa using hgp)), hc]
          unfold byteCells at hu
          rw [List.getElem?_map, List.getElem?_eq_getElem (by rw [List.length_take]; omega)] at hu
          simpa using hu)
      have HO1 := Lib.hid (show 0 + n ≤ maxLen from by unfold maxLen; omega)
      have HO2 := Lib.hid (show (0 + n) * 1 ≤ 140737488355328 from by omega)
      clear hb hi hz0 hz1 hz2 hl hle hlc hmx hsz hll hp hq hb5 k5 hn h
      go_enter Try.func56, Try.ntmps56
      go_wp2_with fail
      go_quiet (fail)
      go_wp2_with fail
      have hb5 := HB5.out nq
      have HK := Lib.hid (HK5.out nq)
      generalize (w.drewN nq).setCell ⟨pr, 1, none⟩ (.int .i64 (q : Nat)) = w5 at hb5 HK ⊢
      have HB := Lib.hid hb5
      clear c0 c1 c2 f1 hw1 hl2
      have c0 : w5.cell? ⟨pr, 0, none⟩ = some (.slice (some ⟨g, off, spot⟩) len cap) := cell_of_block hb5
      have c1 : w5.cell? ⟨pr, 1, none⟩ = some (.int .i64 (q : Nat)) := cell_of_block hb5
      clear hb5
      go_region_law (first
        | (refine step_row (by rfl) (.const (.slice none 0 0)) (.tmp 57) 26 (by rfl) 5 i0 (.int .u8 0) 1 1 Try.underlying26 HI.out HZ0.out HZ1.out HZ2.out rfl (by decide) (.slice none 0 0) 0 [] (by rfl) (RowS.nil _ _) _ n (byteCells (l.take n)) (by rfl) (HS.out _ _ (HK.out.trans (by repeat (first | exact Keeps.refl _ _ | refine Keeps.drew ?_)))) (byteCells_one _) HO1.out HO2.out ?_
           intro v6 w6 hr6 hg6 hv6)
        | fail)
      all_goals
        have HF := Lib.hid (HD.out w5 w6 v6 HB.out HK.out hr6 ⟨hg6.os, hg6.tape, hg6.output, hg6.size, hg6.block⟩ hv6)
        clear hr6 hg6 hv6 c0 c1 hwp hqn hqw hqi hqs hcap hcap2
        go_wp2
        go_ret
        exact HF.out
end
section
variable {B pr : Nat} {a : Option Addr} {len cap : Nat} {bs : List Nat}
theorem take_q (n : Nat) (s : RS) (w : World) (h : RqS B pr a len cap bs s w) (hn : n ≤ 1000000) :
    Calls Try.prog 56 #[.pointer (some ⟨pr, 0, none⟩), .int .i64 (n : Nat)] w (TqP B pr a len cap bs n s w) := by
  obtain ⟨l, e⟩ := s
  rcases (by omega : e ≠ 0 ∨ (e = 0 ∧ l.length < n) ∨ (e = 0 ∧ n ≤ l.length)) with he | ⟨he, hl⟩ | ⟨he, hl⟩
  · exact take_q_no n _ w h hn (.inl he)
  · exact take_q_no n _ w h hn (.inr ⟨he, hl⟩)
  · subst he; exact take_q_yes n l w h hl
theorem len1 {l : List Nat} (h : l.length = 1) : ∃ y, l = [y] := by
  match l, h with
  | [y], _ => exact ⟨y, rfl⟩
def OqP (B pr : Nat) (a : Option Addr) (len cap : Nat) (bs : List Nat) (s : RS) (w : World) (en : Ending) (w' : World) : Prop :=
  en = .returned (.int .i64 ((oneM s).1 : Nat)) ∧ (oneM s).1 < 256 ∧ RqS B pr a len cap bs (oneM s).2 w' ∧ Keeps [pr] w w'
set_option maxHeartbeats 1000000 in
theorem one_q (s : RS) (w : World) (h : RqS B pr a len cap bs s w) :
    Calls Try.prog 57 #[.pointer (some ⟨pr, 0, none⟩)] w (OqP B pr a len cap bs s w) := by
  obtain ⟨y, hy⟩ := len1 (takeM_length 1 s)
  have e1 : (oneM s).1 = y := by unfold oneM; rw [hy]; rfl
  have e2 : (oneM s).2 = (takeM 1 s).2 := rfl
  have HT := Lib.hid (take_q 1 s w h (by omega))
  have HY := Lib.hid hy
  unfold OqP
  rw [e1, e2]
  clear hy e1 e2 h
  go_enter Try.func57, Try.ntmps57
  go_wp2_with fail
  refine HT.out.mono ?_
  rintro en w1 ⟨v, rfl, hm, hr, hk⟩
  rw [HY.out] at hm
  obtain ⟨m1, m2, m3⟩ := hm
  have hy256 : y < 256 := m3 y (by simp)
  obtain ⟨b, c, rfl, hh⟩ := m1.holdsB m3
  obtain ⟨g, off, rfl, hgl, c0⟩ := hh.cell 0 y rfl
  have hcl := hh.le
  have HF := Lib.hid (And.intro hr hk)
  have hy0 : (0 : Int) ≤ (y : Int) := by omega
  have hy1 : (y : Int) ≤ 255 := by omega
  rw [Nat.add_zero] at c0
  clear hh m1 m2 m3 hr hk
  go_wp2
  go_ret
  exact ⟨rfl, hy256, HF.out.1, HF.out.2⟩
theorem RqS.alloc {s : RS} {w : World} (h : RqS B pr a len cap bs s w) (o : Obj) : RqS B pr a len cap bs s (w.alloc o) := h.keeps ((Keeps.refl [] w).alloc o) List.not_mem_nil (fun x hx => absurd hx List.not_mem_nil)
theorem RqS.setCell {w : World} {s : RS} (h : RqS B pr a len cap bs s w) {g i : Nat} (hg : pr < g) (v : Value) : RqS B pr a len cap bs s (w.setCell ⟨g, i, none⟩ v) :=
  h.keeps (L := [g]) ((Keeps.refl [g] w).setCell (.inl (by simp)) v) (by simp; omega) (fun x hx => by simp at hx; have := h.le; omega)
theorem RqS.why {w : World} {s : RS} (h : RqS B pr a len cap bs s w) : w.cell? ⟨pr, 2, none⟩ = some (.int .i64 (s.2 : Nat)) ∧ w.frozen? ⟨pr, 2, none⟩ = false := by
  obtain ⟨p, _, _, hb⟩ := h.at_
  exact ⟨cell_of_block hb, free_of_block hb⟩
theorem RqS.fail8 {w : World} {s : RS} (h : RqS B pr a len cap bs s w) : RqS B pr a len cap bs (s.1, 8) (w.setCell ⟨pr, 2, none⟩ (.int .i64 8)) := by
  obtain ⟨p, h1, h2, h3⟩ := h.at_
  have k : Keeps [pr] w (w.setCell ⟨pr, 2, none⟩ (.int .i64 8)) := (Keeps.refl [pr] w).setCell (.inl (by simp)) _
  refine ⟨⟨p, h1, h2, ?_⟩, h.h.keepsE k (fun g off e hne hm => by have := h.lt g off e hne; have := h.le; simp at hm; omega), h.lt, h.le, h.sz, (by decide : (8 : Nat) < 100)⟩
  have := setCell_block (i := 2) h3 (.int .i64 8)
  simpa using this
theorem wrap_zeros : wrap64 ((leN (List.replicate 8 0) : Nat) : Int) = 0 := by
  have e : leN (List.replicate 8 0) = 0 := by simp [leN, List.replicate]
  rw [e]; unfold wrap64; omega
/-- what constant makes, in the four cases -/
theorem constM_a {s : RS} (h : (oneM s).2.2 ≠ 0) : constM s = ((false, 0, ByteArray.empty), (oneM s).2) := by
  have hk : (oneM s).1 = 0 := by
    obtain ⟨l, e⟩ := s
    by_cases he : e = 0
    · subst he
      by_cases hl : l.length < 1
      · unfold oneM; rw [takeM_short hl]; rfl
      · exfalso; apply h; unfold oneM; rw [takeM_ok (by omega)]
    · unfold oneM; rw [takeM_fail he]; rfl
  obtain ⟨l1, e1, hle⟩ : ∃ l1 e1, (oneM s).2 = (l1, e1) := ⟨_, _, rfl⟩
  rw [hle] at h ⊢
  have h' : e1 ≠ 0 := h
  unfold constM
  simp only [hk, hle]
  have hw : wrongM (decide (1 < 0)) (l1, e1) = (l1, e1) := by unfold wrongM; rw [if_neg (by simp)]
  rw [hw, if_neg (by decide), takeM_fail h']
  simp only [wrap_zeros]
theorem constM_b {s : RS} (h : (oneM s).1 = 0) : constM s = ((false, wrap64 (leN (takeM 8 (oneM s).2).1 : Nat), ByteArray.empty), (takeM 8 (oneM s).2).2) := by
  unfold constM
  have hw : ∀ t, wrongM (decide (1 < 0)) t = t := fun t => by unfold wrongM; rw [if_neg (by simp)]
  simp only [h, hw]
  rfl
theorem constM_c {s : RS} (h : (oneM s).1 = 1) : constM s = ((true, 0, strOf (takeM (oneM (oneM s).2).1 (oneM (oneM s).2).2).1), (takeM (oneM (oneM s).2).1 (oneM (oneM s).2).2).2) := by
  unfold constM
  have hw : ∀ t, wrongM (decide (1 < 1)) t = t := fun t => by unfold wrongM; rw [if_neg (by simp)]
  simp only [h, hw]
  rfl
theorem constM_d {s : RS} (h0 : (oneM s).2.2 = 0) (h : 1 < (oneM s).1) : constM s = ((false, 0, ByteArray.empty), ((oneM s).2.1, 8)) := by
  obtain ⟨l1, e1, hle⟩ : ∃ l1 e1, (oneM s).2 = (l1, e1) := ⟨_, _, rfl⟩
  rw [hle] at h0 ⊢
  have h0' : e1 = 0 := h0
  subst h0'
  unfold constM
  simp only [hle]
  have hw : wrongM (decide (1 < (oneM s).1)) (l1, 0) = (l1, 8) := by unfold wrongM; rw [if_pos (by simp [h])]
  rw [hw, if_neg (by omega), takeM_fail (by decide)]
  simp only [wrap_zeros]
def CqP (B pr : Nat) (a : Option Addr) (len cap : Nat) (bs : List Nat) (c : ConT × RS) (w : World) (en : Ending) (w' : World) : Prop :=
  en = .returned (.agg #[.bool c.1.1, .int .i64 c.1.2.1, .string c.1.2.2]) ∧ RqS B pr a len cap bs c.2 w' ∧ Keeps [pr] w w'
set_option maxRecDepth 100000 in
set_option maxHeartbeats 4000000 in
theorem const_q_a (s : RS) (w : World) (h : RqS B pr a len cap bs s w) (hk : (oneM s).2.2 ≠ 0) :
    Calls Try.prog 58 #[.pointer (some ⟨pr, 0, none⟩)] w (CqP B pr a len cap bs (constM s) w) := by
  have HP := Lib.hid h.ltp
  obtain ⟨w0, hw0⟩ : ∃ w0, w0 = w.alloc (.cells #[.bool false, .int .i64 0, .string ⟨#[]⟩] 63) := ⟨_, rfl⟩
  have hb0 : w0.heap[w.heap.size]? = some (.cells #[.bool false, .int .i64 0, .string ⟨#[]⟩] 63 (0, 0)) := by rw [hw0]; exact heap_alloc_at _ _
  have HB0 := Lib.hid hb0
  have HK0 : Hid (Keeps [pr] w w0) := (show Keeps [pr] w w0 from by rw [hw0]; exact (Keeps.refl _ _).alloc _)
  have HO := Lib.hid (one_q s w0 (by rw [hw0]; exact h.alloc _))
  rw [constM_a hk]
  have hb : (((oneM s).2.2 : Int) != 0) = true := by rw [bne_iff_ne]; omega
  unfold OqP at HO
  generalize (oneM s).1 = k1 at HO
  generalize (oneM s).2 = s1 at HO hb ⊢
  have HW0 := Lib.hid hw0
  clear h hw0 hb0 hk
  go_enter Try.func58, Try.ntmps58
  go_wp2_with fail
  rw [← HW0.out]
  refine HO.out.mono ?_
  rintro en w1 ⟨rfl, hy1, hr1, hk1⟩
  have hp := HP.out
  have hb1 := hk1.at HB0.out (by simp; omega)
  obtain ⟨c2, f2⟩ := hr1.why
  have HF := Lib.hid (And.intro hr1 (HK0.out.trans hk1))
  have q0 : w1.cell? ⟨w.heap.size, 0, none⟩ = some (.bool false) := cell_of_block hb1
  have q1 : w1.cell? ⟨w.heap.size, 1, none⟩ = some (.int .i64 0) := cell_of_block hb1
  have q4 : w1.cell? ⟨w.heap.size, 2, none⟩ = some (.string ⟨#[]⟩) := cell_of_block hb1
  have q2 : w1.frozen? ⟨w.heap.size, 0, none⟩ = false := free_of_block hb1
  have q3 : w1.frozen? ⟨w.heap.size, 1, none⟩ = false := free_of_block hb1
  have q5 : w1.frozen? ⟨w.heap.size, 2, none⟩ = false := free_of_block hb1
  clear hr1 hk1 hb1 hp
  go_wp2
  refine bodyPost_ret (v := .agg #[.bool false, .int .i64 0, .string ⟨#[]⟩]) ?_ rfl ⟨rfl, ?_, ?_⟩
  · have hres : Try.f58.results = #[.cell 2 63] := by kernel_rfl
    simp only [results, hres]
    go_simp
  · exact ((HF.out.1.setCell HP.out _).setCell HP.out _).setCell HP.out _
  · exact ((HF.out.2.setCell (.inr (Nat.le_refl _)) _).setCell (.inr (Nat.le_refl _)) _).setCell (.inr (Nat.le_refl _)) _
set_option maxRecDepth 100000 in
set_option maxHeartbeats 4000000 in
theorem const_q_d (s : RS) (w : World) (h : RqS B pr a len cap bs s w) (h0 : (oneM s).2.2 = 0) (hk : 1 < (oneM s).1) :
    Calls Try.prog 58 #[.pointer (some ⟨pr, 0, none⟩)] w (CqP B pr a len cap bs (constM s) w) := by
  have HP := Lib.hid h.ltp
  obtain ⟨w0, hw0⟩ : ∃ w0, w0 = w.alloc (.cells #[.bool false, .int .i64 0, .string ⟨#[]⟩] 63) := ⟨_, rfl⟩
  have hb0 : w0.heap[w.heap.size]? = some (.cells #[.bool false, .int .i64 0, .string ⟨#[]⟩] 63 (0, 0)) := by rw [hw0]; exact heap_alloc_at _ _
  have HB0 := Lib.hid hb0
  have HK0 : Hid (Keeps [pr] w w0) := (show Keeps [pr] w w0 from by rw [hw0]; exact (Keeps.refl _ _).alloc _)
  have HO := Lib.hid (one_q s w0 (by rw [hw0]; exact h.alloc _))
  rw [constM_d h0 hk]
  have hb : (((oneM s).1 : Int) == 0) = false := by rw [beq_eq_false_iff_ne]; omega
  have hb' : (((oneM s).1 : Int) == 1) = false := by rw [beq_eq_false_iff_ne]; omega
  unfold OqP at HO
  generalize (oneM s).1 = k1 at HO hb hb' hk
  generalize (oneM s).2 = s1 at HO h0 ⊢
  obtain ⟨l1, e1⟩ := s1
  have h0 : e1 = 0 := h0
  subst h0
  have HW0 := Lib.hid hw0
  clear h hw0 hb0
  go_enter Try.func58, Try.ntmps58
  go_wp2_with fail
  rw [← HW0.out]
  refine HO.out.mono ?_
  rintro en w1 ⟨rfl, hy1, hr1, hk1⟩
  have hp := HP.out
  have hb1 := hk1.at HB0.out (by simp; omega)
  obtain ⟨c2, f2⟩ := hr1.why
  replace c2 : w1.cell? ⟨pr, 2, none⟩ = some (.int .i64 0) := c2
  have HF : Hid (RqS B pr a len cap bs (l1, 8) (w1.setCell ⟨pr, 2, none⟩ (.int .i64 8)) ∧ Keeps [pr] w (w1.setCell ⟨pr, 2, none⟩ (.int .i64 8))) := (show RqS B pr a len cap bs (l1, 8) _ ∧ Keeps [pr] w _ from ⟨hr1.fail8, (HK0.out.trans hk1).setCell (.inl (by simp)) _⟩)
  have hn1 : ¬ (w.heap.size = pr) := by omega
  have hn2 : ¬ (pr = w.heap.size) := by omega
  have q0 : w1.cell? ⟨w.heap.size, 0, none⟩ = some (.bool false) := cell_of_block hb1
  have q1 : w1.cell? ⟨w.heap.size, 1, none⟩ = some (.int .i64 0) := cell_of_block hb1
  have q4 : w1.cell? ⟨w.heap.size, 2, none⟩ = some (.string ⟨#[]⟩) := cell_of_block hb1
  have q2 : w1.frozen? ⟨w.heap.size, 0, none⟩ = false := free_of_block hb1
  have q3 : w1.frozen? ⟨w.heap.size, 1, none⟩ = false := free_of_block hb1
  have q5 : w1.frozen? ⟨w.heap.size, 2, none⟩ = false := free_of_block hb1
  clear hr1 hk1 hb1 hp
  go_wp2
  refine bodyPost_ret (v := .agg #[.bool false, .int .i64 0, .string ⟨#[]⟩]) ?_ rfl ⟨rfl, ?_, ?_⟩
  · have hres : Try.f58.results = #[.cell 2 63] := by kernel_rfl
    simp only [results, hres]
    go_simp
  · exact ((HF.out.1.setCell HP.out _).setCell HP.out _).setCell HP.out _
  · exact ((HF.out.2.setCell (.inr (Nat.le_refl _)) _).setCell (.inr (Nat.le_refl _)) _).setCell (.inr (Nat.le_refl _)) _
theorem or_up (X y : Nat) (hX : X < 72057594037927936) (hy : y < 256) : bits .or .u64 ((X : Int) * 256) (y : Int) = ((y + 256 * X : Nat) : Int) := by
  have hs := Nat.shiftLeft_add_eq_or_of_lt (show y < 2 ^ 8 from hy) X
  rw [Nat.shiftLeft_eq, show (2 : Nat) ^ 8 = 256 from rfl] at hs
  rw [show (X : Int) * 256 = ((X * 256 : Nat) : Int) by omega]
  show IntKind.u64.wrap ((BitVec.ofInt 64 ((X * 256 : Nat) : Int) ||| BitVec.ofInt 64 ((y : Nat) : Int)).toNat : Int) = _
  rw [BitVec.toNat_or, ofIntU _ (by omega), ofIntU _ (by omega)]
  have h2 : X * 256 ||| y = y + 256 * X := by omega
  rw [h2, wrapU _ (by omega)]
theorem leN_drop (t : List Nat) (i y : Nat) (h : t[i]? = some y) : leN (t.drop i) = y + 256 * leN (t.drop (i + 1)) := by
  obtain ⟨hl, e⟩ := List.getElem?_eq_some_iff.1 h
  rw [List.drop_eq_getElem_cons hl, e]
  rfl
theorem leN_lt : ∀ (t : List Nat), (∀ y ∈ t, y < 256) → leN t < 256 ^ t.length
  | [], _ => by simp [leN]
  | x :: t, h => by
    have h1 := leN_lt t fun y hy => h y (List.mem_cons_of_mem _ hy)
    have h2 := h x (List.mem_cons_self ..)
    show x + 256 * leN t < 256 ^ (t.length + 1)
    rw [Nat.pow_succ]
    omega
set_option maxRecDepth 100000 in
set_option maxHeartbeats 4000000 in
theorem const_q_b (s : RS) (w : World) (h : RqS B pr a len cap bs s w) (h0 : (oneM s).2.2 = 0) (hk : (oneM s).1 = 0) :
    Calls Try.prog 58 #[.pointer (some ⟨pr, 0, none⟩)] w (CqP B pr a len cap bs (constM s) w) := by
  have HP := Lib.hid h.ltp
  obtain ⟨w0, hw0⟩ : ∃ w0, w0 = w.alloc (.cells #[.bool false, .int .i64 0, .string ⟨#[]⟩] 63) := ⟨_, rfl⟩
  have hb0 : w0.heap[w.heap.size]? = some (.cells #[.bool false, .int .i64 0, .string ⟨#[]⟩] 63 (0, 0)) := by rw [hw0]; exact heap_alloc_at _ _
  have HB0 := Lib.hid hb0
  have HK0 : Hid (Keeps [pr] w w0) := (show Keeps [pr] w w0 from by rw [hw0]; exact (Keeps.refl _ _).alloc _)
  have HO := Lib.hid (one_q s w0 (by rw [hw0]; exact h.alloc _))
  rw [constM_b hk]
  unfold OqP at HO
  rw [hk] at HO
  generalize (oneM s).2 = s1 at HO h0 ⊢
  obtain ⟨l1, e1⟩ := s1
  have h0 : e1 = 0 := h0
  subst h0
  obtain ⟨t, ht⟩ : ∃ t, t = takeM 8 (l1, 0) := ⟨_, rfl⟩
  have HT := Lib.hid (fun W (hh : RqS B pr a len cap bs (l1, 0) W) => take_q 8 (l1, 0) W hh (by omega))
  have HTL : Hid (t.1.length = 8) := (show t.1.length = 8 from by rw [ht]; exact takeM_length 8 _)
  unfold TqP at HT
  rw [← ht] at HT ⊢
  have HW0 := Lib.hid hw0
  clear h hw0 hb0 ht
  go_enter Try.func58, Try.ntmps58
  go_wp2_with fail
  rw [← HW0.out]
  refine HO.out.mono ?_
  rintro en w1 ⟨rfl, hy1, hr1, hk1⟩
  have hp := HP.out
  have HB1 := Lib.hid (hk1.at HB0.out (by simp; omega))
  obtain ⟨c2, f2⟩ := hr1.why
  replace c2 : w1.cell? ⟨pr, 2, none⟩ = some (.int .i64 0) := c2
  have HTT := Lib.hid (HT.out _ hr1)
  have HK1 := Lib.hid (HK0.out.trans hk1)
  clear hr1 hk1 hp hy1
  go_wp2_with fail
  refine HTT.out.mono ?_
  rintro en w2 ⟨v, rfl, ⟨m1, m2, m3⟩, hr2, hk2⟩
  have hp := HP.out
  have HB2 := Lib.hid (hk2.at HB1.out (by simp; omega))
  have HF := Lib.hid (And.intro hr2 (HK1.out.trans hk2))
  obtain ⟨b, c, rfl, hh⟩ := m1.holdsB m3
  obtain ⟨g, off, rfl, _, _⟩ := hh.cell 0 _ (List.getElem?_eq_getElem (by rw [HTL.out]; omega))
  have hcl := hh.le
  have HH := Lib.hid hh
  have HM := Lib.hid m3
  rw [HTL.out] at hcl ⊢
  clear c2 f2 hh m1 m2 m3 hr2 hk2 hp
  go_wp2_with fail
  go_loop [4, 6] (fun x i => ∃ z : Int, -1 ≤ z ∧ z ≤ 7 ∧ i = .int .i64 z ∧ x = .int .u64 (leN (t.1.drop (z + 1).toNat) : Nat)) (fun _ i => (intOf i + 1).toNat)
  case atStart => exact ⟨7, by omega, by omega, rfl, by rw [List.drop_eq_nil_of_le (by rw [HTL.out]; decide)]; rfl⟩
  case round =>
    obtain ⟨z, hz1, hz2, rfl, rfl⟩ := hrel
    by_cases hz0 : 0 ≤ z
    · obtain ⟨i, rfl⟩ := Int.eq_ofNat_of_zero_le hz0
      obtain ⟨y, hy⟩ : ∃ y, t.1[i]? = some y := ⟨_, List.getElem?_eq_getElem (by rw [HTL.out]; omega)⟩
      obtain ⟨_, _, e, hgl, c0⟩ := HH.out.cell i y hy
      cases e
      have hy256 : y < 256 := HM.out y (List.mem_of_getElem? hy)
      have HLD := Lib.hid (leN_drop t.1 i y hy)
      have hXl := leN_lt (t.1.drop (i + 1)) fun y hy => HM.out y (List.mem_of_mem_drop hy)
      have hXb : leN (t.1.drop (i + 1)) < 72057594037927936 := by
        refine Nat.lt_of_lt_of_le hXl ?_
        rw [List.length_drop, HTL.out]
        exact Nat.pow_le_pow_right (n := 256) (by decide) (by omega : 8 - (i + 1) ≤ 7)
      have e1 : ((i : Int) + 1).toNat = i + 1 := by omega
      rw [e1]
      generalize leN (t.1.drop (i + 1)) = X at HLD hXb ⊢
      have hy0 : (0 : Int) ≤ (y : Int) := by omega
      have hy1 : (y : Int) ≤ 255 := by omega
      have hi7 : (i : Int) < 8 := by omega
      have hor := or_up X y hXb hy256
      clear hy hXl e1
      go_wp2
      go_round
      case rel =>
        have e2 : ((i : Int) - 1 + 1).toNat = i := by omega
        first | exact ⟨(i : Int) - 1, by omega, by omega, rfl, by rw [e2, HLD.out]; simp⟩ | ((repeat apply Exists.intro); exact ⟨⟨(i : Int) - 1, by omega, by omega, rfl, by rw [e2, HLD.out]; simp⟩, rfl⟩)
      case measure => simp [intOf]
    · obtain rfl : z = -1 := by omega
      have e1 : ((-1 : Int) + 1).toNat = 0 := by decide
      rw [e1, List.drop_zero]
      have hp := HP.out
      have hb1 := HB2.out
      have q0 : w2.cell? ⟨w.heap.size, 0, none⟩ = some (.bool false) := cell_of_block hb1
      have q1 : w2.cell? ⟨w.heap.size, 1, none⟩ = some (.int .i64 0) := cell_of_block hb1
      have q4 : w2.cell? ⟨w.heap.size, 2, none⟩ = some (.string ⟨#[]⟩) := cell_of_block hb1
      have q2 : w2.frozen? ⟨w.heap.size, 0, none⟩ = false := free_of_block hb1
      have q3 : w2.frozen? ⟨w.heap.size, 1, none⟩ = false := free_of_block hb1
      have q5 : w2.frozen? ⟨w.heap.size, 2, none⟩ = false := free_of_block hb1
      clear hb1 hp hz0 hz1 hz2 e1
      go_wp2
      refine bodyPost_ret (v := .agg #[.bool false, .int .i64 (wrap64 (leN t.1 : Nat)), .string ⟨#[]⟩]) ?_ rfl ⟨rfl, ?_, ?_⟩
      · have hres : Try.f58.results = #[.cell 2 63] := by kernel_rfl
        simp only [results, hres]
        go_simp
      · exact ((HF.out.1.setCell HP.out _).setCell HP.out _).setCell HP.out _
      · exact ((HF.out.2.setCell (.inr (Nat.le_refl _)) _).setCell (.inr (Nat.le_refl _)) _).setCell (.inr (Nat.le_refl _)) _
set_option maxRecDepth 100000 in
set_option maxHeartbeats 4000000 in
theorem const_q_c (s : RS) (w : World) (h : RqS B pr a len cap bs s w) (h0 : (oneM s).2.2 = 0) (hk : (oneM s).1 = 1) :
    Calls Try.prog 58 #[.pointer (some ⟨pr, 0, none⟩)] w (CqP B pr a len cap bs (constM s) w) := by
  have HP := Lib.hid h.ltp
  obtain ⟨w0, hw0⟩ : ∃ w0, w0 = w.alloc (.cells #[.bool false, .int .i64 0, .string ⟨#[]⟩] 63) := ⟨_, rfl⟩
  have hb0 : w0.heap[w.heap.size]? = some (.cells #[.bool false, .int .i64 0, .string ⟨#[]⟩] 63 (0, 0)) := by rw [hw0]; exact heap_alloc_at _ _
  have HB0 := Lib.hid hb0
  have HK0 : Hid (Keeps [pr] w w0) := (show Keeps [pr] w w0 from by rw [hw0]; exact (Keeps.refl _ _).alloc _)
  have HO := Lib.hid (one_q s w0 (by rw [hw0]; exact h.alloc _))
  rw [constM_c hk]
  unfold OqP at HO
  rw [hk] at HO
  generalize (oneM s).2 = s1 at HO h0 ⊢
  obtain ⟨l1, e1⟩ := s1
  have h0 : e1 = 0 := h0
  subst h0
  have HO2 := Lib.hid (fun W (hh : RqS B pr a len cap bs (l1, 0) W) => one_q (l1, 0) W hh)
  unfold OqP at HO2
  generalize (oneM (l1, 0)).1 = n at HO2 ⊢
  generalize (oneM (l1, 0)).2 = s2 at HO2 ⊢
  have HT := Lib.hid (fun W (hh : RqS B pr a len cap bs s2 W) (hn : n ≤ 1000000) => take_q n s2 W hh hn)
  unfold TqP at HT
  generalize takeM n s2 = t at HT ⊢
  have HW0 := Lib.hid hw0
  clear h hw0 hb0
  go_enter Try.func58, Try.ntmps58
  go_wp2_with fail
  rw [← HW0.out]
  refine HO.out.mono ?_
  rintro en w1 ⟨rfl, hy1, hr1, hk1⟩
  have hp := HP.out
  have HB1 := Lib.hid (hk1.at HB0.out (by simp; omega))
  obtain ⟨c2, f2⟩ := hr1.why
  replace c2 : w1.cell? ⟨pr, 2, none⟩ = some (.int .i64 0) := c2
  have HTT := Lib.hid (HO2.out _ hr1)
  have HK1 := Lib.hid (HK0.out.trans hk1)
  clear hr1 hk1 hp hy1
  go_wp2_with fail
  refine HTT.out.mono ?_
  rintro en w2 ⟨rfl, hn256, hr2, hk2⟩
  have hp := HP.out
  have HB2 := Lib.hid (hk2.at HB1.out (by simp; omega))
  have HTK := Lib.hid (HT.out _ hr2 (by omega))
  have HK2 := Lib.hid (HK1.out.trans hk2)
  clear c2 f2 hr2 hk2 hp hn256
  go_wp2_with fail
  refine HTK.out.mono ?_
  rintro en w3 ⟨v, rfl, ⟨m1, m2, m3⟩, hr3, hk3⟩
  have hp := HP.out
  have hb1 := hk3.at HB2.out (by simp; omega)
  have HF := Lib.hid (And.intro hr3 (HK2.out.trans hk3))
  obtain ⟨b, c, rfl, hh⟩ := m1.holdsB m3
  have hcv := hh.conv
  generalize t.1.length = L at hcv ⊢
  have q0 : w3.cell? ⟨w.heap.size, 0, none⟩ = some (.bool false) := cell_of_block hb1
  have q1 : w3.cell? ⟨w.heap.size, 1, none⟩ = some (.int .i64 0) := cell_of_block hb1
  have q4 : w3.cell? ⟨w.heap.size, 2, none⟩ = some (.string ⟨#[]⟩) := cell_of_block hb1
  have q2 : w3.frozen? ⟨w.heap.size, 0, none⟩ = false := free_of_block hb1
  have q3 : w3.frozen? ⟨w.heap.size, 1, none⟩ = false := free_of_block hb1
  have q5 : w3.frozen? ⟨w.heap.size, 2, none⟩ = false := free_of_block hb1
  clear hh m1 m2 m3 hr3 hk3 hp hb1
  go_wp2
  refine bodyPost_ret (v := .agg #[.bool true, .int .i64 0, .string (strOf t.1)]) ?_ rfl ⟨rfl, ?_, ?_⟩
  · have hres : Try.f58.results = #[.cell 2 63] := by kernel_rfl
    simp only [results, hres]
    go_simp
  · exact ((HF.out.1.setCell HP.out _).setCell HP.out _).setCell HP.out _
  · exact ((HF.out.2.setCell (.inr (Nat.le_refl _)) _).setCell (.inr (Nat.le_refl _)) _).setCell (.inr (Nat.le_refl _)) _
theorem const_q (s : RS) (w : World) (h : RqS B pr a len cap bs s w) :
    Calls Try.prog 58 #[.pointer (some ⟨pr, 0, none⟩)] w (CqP B pr a len cap bs (constM s) w) := by
  by_cases h0 : (oneM s).2.2 = 0
  · rcases (by omega : (oneM s).1 = 0 ∨ (oneM s).1 = 1 ∨ 1 < (oneM s).1) with hk | hk | hk
    · exact const_q_b s w h h0 hk
    · exact const_q_c s w h h0 hk
    · exact const_q_d s w h h0 hk
  · exact const_q_a s w h h0
end
def modZ : Obj := .cells #[.int .i64 0, .slice none 0 0, .slice none 0 0, .slice none 0 0] 47 (0, 0)
/-- ReadModule's own memory ahead of the module -/
structure Q0 (w0 : World) (pr : Nat) (a : Option Addr) (len cap : Nat) (bs : List Nat) (s : RS) (W : World) : Prop where
  z : W.heap[w0.heap.size]? = some (.cells #[.int .i64 0, .slice none 0 0, .slice none 0 0, .slice none 0 0] 47 (0, 0))
  z1 : W.heap[w0.heap.size + 1]? = some (.cells #[.int .i64 0, .slice none 0 0, .slice none 0 0, .slice none 0 0] 47 (0, 0))
  r : RqS w0.heap.size pr a len cap bs s W
  e : pr = w0.heap.size + 1 + 1
  bel : Below w0.heap.size w0 W
/-- and with the module -/
structure QS (w0 : World) (pr gm : Nat) (a : Option Addr) (len cap : Nat) (bs : List Nat) (G : Int) (v1 v2 v3 : Value) (s : RS) (W : World) : Prop where
  q0 : Q0 w0 pr a len cap bs s W
  m : W.heap[gm]? = some (.cells #[.int .i64 G, v1, v2, v3] 47 (0, 0))
  gt : pr < gm
/-- a row that ReadModule collects -/
structure RowQ (gm sz : Nat) (W : World) (v : Value) (n : Nat) (xs : List Value) : Prop where
  row : RowS W sz v n xs
  own : ∀ g, v.ownBlock = some g → gm < g
section
variable {w0 W W' : World} {pr gm : Nat} {a : Option Addr} {len cap : Nat} {bs : List Nat} {G : Int} {v1 v2 v3 : Value} {s s' : RS}
theorem Q0.keeps (h : Q0 w0 pr a len cap bs s W) {L : List Nat} (k : Keeps L W W') (hL : ∀ x ∈ L, pr < x) : Q0 w0 pr a len cap bs s W' := by
  have e := h.e
  exact ⟨k.at h.z (fun hm => by have := hL _ hm; omega), k.at h.z1 (fun hm => by have := hL _ hm; omega), h.r.keeps k (fun hm => by have := hL _ hm; omega) (fun x hx => by have := hL x hx; omega), e, h.bel.trans (k.below h.bel.size (fun x hx => by have := hL x hx; omega))⟩
theorem Q0.read (h : Q0 w0 pr a len cap bs s W) (k : Keeps [pr] W W') (hr : RqS w0.heap.size pr a len cap bs s' W') : Q0 w0 pr a len cap bs s' W' := by
  have e := h.e
  exact ⟨k.at h.z (by simp; omega), k.at h.z1 (by simp; omega), hr, e, h.bel.trans (k.below h.bel.size (by simp; omega))⟩
theorem QS.keeps (h : QS w0 pr gm a len cap bs G v1 v2 v3 s W) {L : List Nat} (k : Keeps L W W') (hL : ∀ x ∈ L, gm < x) : QS w0 pr gm a len cap bs G v1 v2 v3 s W' :=
  ⟨h.q0.keeps k (fun x hx => by have := hL x hx; have := h.gt; omega), k.at h.m (fun hm => by have := hL _ hm; omega), h.gt⟩
theorem QS.read (h : QS w0 pr gm a len cap bs G v1 v2 v3 s W) (k : Keeps [pr] W W') (hr : RqS w0.heap.size pr a len cap bs s' W') : QS w0 pr gm a len cap bs G v1 v2 v3 s' W' :=
  ⟨h.q0.read k hr, k.at h.m (by have := h.gt; simp; omega), h.gt⟩
theorem QS.lt (h : QS w0 pr gm a len cap bs G v1 v2 v3 s W) : pr < W.heap.size ∧ gm < W.heap.size := ⟨h.q0.r.ltp, (Array.getElem?_eq_some_iff.1 h.m).1⟩
theorem RowQ.keeps {sz n : Nat} {v : Value} {xs : List Value} (h : RowQ gm sz W v n xs) {L : List Nat} (k : Keeps L W W') (hL : ∀ x ∈ L, x ≤ gm) : RowQ gm sz W' v n xs :=
  ⟨h.row.keeps k (fun g hg hm => by have := h.own g hg; have := hL g hm; omega), h.own⟩
theorem RowQ.nil (sz : Nat) : RowQ gm sz W (.slice none 0 0) 0 [] := ⟨RowS.nil _ _, fun g h => by cases h⟩
theorem QS.made (h : Q0 w0 pr a len cap bs s W) (G : Int) : QS w0 pr W.heap.size a len cap bs G (.slice none 0 0) (.slice none 0 0) (.slice none 0 0) s (W.alloc (.cells #[.int .i64 G, .slice none 0 0, .slice none 0 0, .slice none 0 0] 47)) :=
  ⟨h.keeps ((Keeps.refl [] W).alloc _) (fun x hx => absurd hx List.not_mem_nil), heap_alloc_at _ _, h.r.ltp⟩
theorem QS.set (h : QS w0 pr gm a len cap bs G v1 v2 v3 s W) (i : Nat) (u u1 u2 u3 : Value) (he : (#[.int .i64 G, v1, v2, v3] : Array Value).setIfInBounds i u = #[.int .i64 G, u1, u2, u3]) : QS w0 pr gm a len cap bs G u1 u2 u3 s (W.setCell ⟨gm, i, none⟩ u) := by
  have k : Keeps [gm] W (W.setCell ⟨gm, i, none⟩ u) := (Keeps.refl _ W).setCell (.inl (by simp)) _
  refine ⟨h.q0.keeps k (fun x hx => by simp at hx; have := h.gt; omega), ?_, h.gt⟩
  have := setCell_block (i := i) h.m u
  rw [he] at this
  exact this
/-- behind an append into a row -/
theorem RowQ.grown {sz n m : Nat} {v v' : Value} {xs ys : List Value} {Wd : World} (h : QS w0 pr gm a len cap bs G v1 v2 v3 s W) (hr : RowQ gm sz W v n xs) (kd : Keeps [] W Wd)
    (hr' : RowS W' sz v' m ys) (hg : Wd.grownBy W' v.ownBlock) (hv : v'.ownBlock = v.ownBlock ∨ ∃ g, v'.ownBlock = some g ∧ Wd.heap.size ≤ g) : RowQ gm sz W' v' m ys ∧ Keeps v.ownBlock.toList W W' ∧ QS w0 pr gm a len cap bs G v1 v2 v3 s W' := by
  have hlt := h.lt
  have hs := kd.size
  have kk : Keeps v.ownBlock.toList W W' := (kd.mono (fun x hx => absurd hx List.not_mem_nil)).trans (Keeps.of_row hg (fun g hg' => by rw [hg']; simp))
  refine ⟨⟨hr', fun g hg' => ?_⟩, kk, h.keeps kk (fun x hx => hr.own x (by simpa using hx))⟩
  rcases hv with hv | ⟨g', hv, hge⟩
  · exact hr.own g (by rw [← hv]; exact hg')
  · rw [hv] at hg'; cases hg'; omega
theorem QS.one (h : QS w0 pr gm a len cap bs G v1 v2 v3 s W) : Calls Try.prog 57 #[.pointer (some ⟨pr, 0, none⟩)] W fun en W' => en = .returned (.int .i64 ((oneM s).1 : Nat)) ∧ (oneM s).1 < 256 ∧ QS w0 pr gm a len cap bs G v1 v2 v3 (oneM s).2 W' ∧ Keeps [pr] W W' :=
  (one_q s W h.q0.r).mono (by rintro en W' ⟨e, e2, hr, k⟩; exact ⟨e, e2, h.read k hr, k⟩)
theorem QS.cells (h : QS w0 pr gm a len cap bs G v1 v2 v3 s W) : W.cell? ⟨gm, 0, none⟩ = some (.int .i64 G) ∧ W.cell? ⟨gm, 1, none⟩ = some v1 ∧ W.cell? ⟨gm, 2, none⟩ = some v2 ∧ W.cell? ⟨gm, 3, none⟩ = some v3 ∧ W.frozen? ⟨gm, 1, none⟩ = false ∧ W.frozen? ⟨gm, 2, none⟩ = false ∧ W.frozen? ⟨gm, 3, none⟩ = false :=
  ⟨cell_of_block h.m, cell_of_block h.m, cell_of_block h.m, cell_of_block h.m, free_of_block h.m, free_of_block h.m, free_of_block h.m⟩
end
/-- a function's cells, its code wherever it lies -/
abbrev FunQ := FunT × Option Addr × Nat
def funQ (f : FunQ) : List Value := [.int .i64 f.1.1, .int .i64 f.1.2.1, .slice f.2.1 f.1.2.2.length f.2.2]
theorem funQ_at (f : FunQ) (j : Nat) (hj : j < 3) : (funQ f)[j]? = some (if j = 0 then .int .i64 f.1.1 else if j = 1 then .int .i64 f.1.2.1 else .slice f.2.1 f.1.2.2.length f.2.2) := by
  rcases (by omega : j = 0 ∨ j = 1 ∨ j = 2) with rfl | rfl | rfl <;> rfl
/-- three rows are a module -/
theorem ams_madeQ {W : World} (G : Int) (cs : List ConT) (acc : List FunQ) (ks : List ClsT) {v1 v2 v3 : Value} (h1 : RowS W 3 v1 cs.length (cs.flatMap conV)) (h2 : RowS W 3 v2 acc.length (acc.flatMap funQ)) (h3 : RowS W 2 v3 ks.length (ks.flatMap clsV))
    (hm : ∀ f ∈ acc, HoldsB W f.2.1 f.1.2.2.length f.2.2 f.1.2.2) : AMS W ⟨G, cs, acc.map (·.1), ks⟩ (.agg #[.int .i64 G, v1, v2, v3]) := by
  obtain ⟨a1, c1, rfl, r1⟩ := rows_of_row conV 3 (fun _ => rfl) h1
  obtain ⟨a2, c2, rfl, r2⟩ := rows_of_row funQ 3 (fun _ => rfl) h2
  obtain ⟨a3, c3, rfl, r3⟩ := rows_of_row clsV 2 (fun _ => rfl) h3
  refine ⟨⟨a1, c1, a2, c2, a3, c3, fun i => (acc[i]?.getD ((0, 0, []), none, 0)).2.1, fun i => (acc[i]?.getD ((0, 0, []), none, 0)).2.2, ?_, ⟨?_, ?_, ?_⟩, ?_⟩⟩
  · simp [modXV, AM.x]
  · exact r1 _ (fun i x hx j hj => by rw [conV_at x j hj]; simp [ModX.cF, AM.x, hx])
  · have := r2 (ModX.fF (AM.x ⟨G, cs, acc.map (·.1), ks⟩ c1 c2 c3 (fun i => (acc[i]?.getD ((0, 0, []), none, 0)).2.1) (fun i => (acc[i]?.getD ((0, 0, []), none, 0)).2.2))) (fun i x hx j hj => by rw [funQ_at x j hj]; simp [ModX.fF, AM.x, hx])
    simpa [AM.x] using this
  · exact r3 _ (fun i x hx j hj => by rw [clsV_at x j hj]; simp [ModX.kF, AM.x, hx])
  · intro i f hf
    have hf' : (acc.map (·.1))[i]? = some f := hf
    rw [List.getElem?_map] at hf'
    cases hx : acc[i]? with
    | none => rw [hx] at hf'; cases hf'
    | some y =>
      rw [hx] at hf'
      cases (by simpa using hf' : y.1 = f)
      simpa [hx] using hm y (List.mem_of_getElem? hx)
/-- the codes that ReadModule holds -/
def CodesQ (gm : Nat) (v2 : Value) (acc : List FunQ) (W : World) : Prop := ∀ f ∈ acc, HoldsB W f.2.1 f.1.2.2.length f.2.2 f.1.2.2 ∧ ∀ g off, f.2.1 = some ⟨g, off, none⟩ → gm < g ∧ v2.ownBlock ≠ some g ∧ g < W.heap.size
theorem CodesQ.keeps {gm : Nat} {v2 : Value} {acc : List FunQ} {W W' : World} {L : List Nat} (h : CodesQ gm v2 acc W) (k : Keeps L W W') (hL : ∀ x ∈ L, x ≤ gm ∨ v2.ownBlock = some x ∨ W.heap.size ≤ x) : CodesQ gm v2 acc W' := fun f hf =>
  ⟨(h f hf).1.keeps k (fun g off e hm => by
    obtain ⟨h1, h2, h3⟩ := (h f hf).2 g off e
    rcases hL g hm with h4 | h4 | h4
    · omega
    · exact h2 h4
    · omega), fun g off e => by
    obtain ⟨h1, h2, h3⟩ := (h f hf).2 g off e
    exact ⟨h1, h2, Nat.lt_of_lt_of_le h3 k.size⟩⟩
end Go.Proofs.Yteipnfnbepnpjaa
