/- the reference's Reach: what is reached from some, rising. -/
import Derived.Test.YtogifanooleppaaAudAlive
import Derived.Test.YtogifanooleppaaRefHeapPush
import Derived.BigQuiet
namespace Go.Proofs.Ytogifanooleppaa
open Go.RowKit Go.Maps
set_option linter.unusedVariables false

/-- a Heap of the reference's that a call made itself, in blocks from B on: the numbers of T -/
structure HpAt (B r : Nat) (q : Option Nat) (l : List Int) (T : Int → Bool) (w : World) : Prop where
  ref : RefH w r q l
  rise : l.Pairwise (· < ·)
  mem : ∀ y, y ∈ l ↔ T y = true
  own : ∀ x ∈ r :: q.toList, B ≤ x
section
variable {B r : Nat} {q : Option Nat} {l : List Int} {T : Int → Bool} {w w' : World}
theorem HpAt.keeps {L : List Nat} (h : HpAt B r q l T w) (k : Keeps L w w') (hn : ∀ x ∈ r :: q.toList, x ∉ L) : HpAt B r q l T w' := ⟨h.ref.keeps k hn, h.rise, h.mem, h.own⟩
theorem HpAt.below (h : HpAt B r q l T w) (hb : Below w.heap.size w w') : HpAt B r q l T w' := ⟨h.ref.below hb, h.rise, h.mem, h.own⟩
/-- what Push leaves -/
def HpStep (B r : Nat) (q : Option Nat) (n : Nat) (T : Int → Bool) (w w' : World) : Prop :=
  ∃ q' l', HpAt B r q' l' T w' ∧ l'.length ≤ n ∧ (∀ g, q' = some g → q = some g ∨ w.heap.size ≤ g) ∧ Keeps (r :: q.toList) w w'
theorem hpPush (x : Int) (w : World) (h : HpAt B r q l T w) (hl : l.length < 1048576) (hB : B ≤ w.heap.size) :
    Calls Try.prog 46 #[.pointer (some ⟨r, 0, none⟩), .int .i64 x] w fun e w' => e = .returned (.bool (!T x)) ∧ HpStep B r q (l.length + 1) (addB T x) w w' := by
  refine (rhPush_any x w h.ref hl).mono ?_
  rintro e w' (⟨h1, rfl, rfl⟩ | ⟨h1, rfl, k, h2, q', h3, h4, h5⟩)
  · rw [(h.mem x).1 h1]
    refine ⟨rfl, q, l, ⟨h.ref, h.rise, fun y => ?_, h.own⟩, by omega, fun g hg => .inl hg, Keeps.refl _ _⟩
    unfold addB
    by_cases hy : y = x
    · subst hy; simp [h1]
    · simp [hy, h.mem y]
  · have hx : T x = false := by
      cases hT : T x with
      | false => rfl
      | true => exact absurd ((h.mem x).2 hT) h1
    rw [hx]
    refine ⟨rfl, q', _, ⟨h3, insL_rising h.rise h1 h2, fun y => ?_, fun y hy => ?_⟩, by rw [insL_len l x h2.1]; have := h2.1; omega, h4, h5⟩
    · rw [mem_insL, h.mem y]
      unfold addB
      by_cases hy : y = x <;> simp [hy]
    · rcases List.mem_cons.1 hy with rfl | hy
      · exact h.own _ (by simp)
      · cases hq' : q' with
        | none => rw [hq'] at hy; simp at hy
        | some g =>
          rw [hq'] at hy
          simp at hy
          rcases h4 g hq' with h6 | h6
          · rw [hy]; exact h.own g (by rw [h6]; simp)
          · omega
theorem hpHas (x : Int) (w : World) (h : HpAt B r q l T w) (hl : l.length ≤ 1048576) :
    Calls Try.prog 49 #[.pointer (some ⟨r, 0, none⟩), .int .i64 x] w fun e w' => e = .returned (.bool (T x)) ∧ w = w' := by
  have := rhHas_any x w h.ref hl
  rw [show decide (x ∈ l) = T x by rw [Bool.eq_iff_iff, decide_eq_true_iff]; exact h.mem x] at this
  exact this
theorem hpNo (x : Int) (w : World) (h : HpAt B r q l T w) (hl : l.length < 1048576) (hx : T x = true) :
    Calls Try.prog 46 #[.pointer (some ⟨r, 0, none⟩), .int .i64 x] w fun e w' => e = .returned (.bool false) ∧ w = w' := by
  refine (rhPush_any x w h.ref hl).mono ?_
  rintro e w' (⟨h1, rfl, rfl⟩ | ⟨h1, _, _⟩)
  · exact ⟨rfl, rfl⟩
  · exact absurd ((h.mem x).2 hx) h1
theorem hpYes (x : Int) (w : World) (h : HpAt B r q l T w) (hl : l.length < 1048576) (hB : B ≤ w.heap.size) (hx : T x = false) :
    Calls Try.prog 46 #[.pointer (some ⟨r, 0, none⟩), .int .i64 x] w fun e w' => e = .returned (.bool true) ∧ HpStep B r q (l.length + 1) (addB T x) w w' :=
  (hpPush x w h hl hB).mono fun _ _ q => ⟨by rw [q.1, hx]; rfl, q.2⟩
theorem hp_new (w : World) (hB : B ≤ w.heap.size) : HpAt B w.heap.size none [] (fun _ => false) (w.alloc (.cells #[.slice none 0 0] 60)) :=
  ⟨⟨_, _, ⟨heap_alloc_at _ _, ⟨_, rfl, rfl, RowS.nil _ _⟩, by simp⟩⟩, List.Pairwise.nil, fun y => by simp, fun x hx => by simp at hx; omega⟩
end
theorem RowS.tail1 {w : World} {g off n cap : Nat} {l : List Int} (h : RowS w 1 (.slice (some ⟨g, off, none⟩) (n + 1) cap) (n + 1) (intC l)) : RowS w 1 (.slice (some ⟨g, off + 1, none⟩) n (cap - 1)) n (intC l.tail) := by
  obtain ⟨h1, h2⟩ := h
  rw [intC_len] at h1
  refine ⟨by rw [intC_len, List.length_tail]; omega, ?_⟩
  rcases h2 with ⟨h0, _⟩ | ⟨g', off', cap', cur, e, he, hh, r1, r2, r3, r4⟩
  · cases h0
  · cases he
    refine .inr ⟨g, off + 1, cap - 1, cur, e, rfl, hh, by omega, by omega, by omega, fun j u hu => ?_⟩
    have := r4 (j + 1) u (by unfold intC at hu ⊢; rw [List.getElem?_map] at hu ⊢; rw [List.getElem?_tail] at hu; exact hu)
    rw [← this]; congr 1; omega
theorem RowS.tail0 {w : World} {g off n cap : Nat} {l : List Int} (h : RowS w 1 (.slice (some ⟨g, off, none⟩) (n + 1) cap) (n + 1) (intC l)) (hc : cap = 1) : RowS w 1 (.slice (some ⟨g, off, none⟩) n 0) n (intC l.tail) := by
  obtain ⟨h1, h2⟩ := h
  rw [intC_len] at h1
  refine ⟨by rw [intC_len, List.length_tail]; omega, ?_⟩
  rcases h2 with ⟨h0, _⟩ | ⟨g', off', cap', cur, e, he, hh, r1, r2, r3, r4⟩
  · cases h0
  · cases he
    refine .inr ⟨g, off, 0, cur, e, rfl, hh, by omega, by omega, by omega, fun j u hu => ?_⟩
    have hl : (intC l.tail).length = 0 := by rw [intC_len, List.length_tail]; omega
    have := (List.getElem?_eq_some_iff.1 hu).1
    omega
theorem firstO_at {l : List ObjV} {i : Nat} {o : ObjV} {x : Int} (h : l[i]? = some o) (hx : o.h = x) (hn : ∀ p ∈ l.take i, p.h ≠ x) : firstO l x = some o := by
  have hi := (List.getElem?_eq_some_iff.1 h).1
  have e : l = l.take i ++ o :: l.drop (i + 1) := by
    conv => lhs; rw [← List.take_append_drop i l]
    rw [List.drop_eq_getElem_cons hi, (List.getElem?_eq_some_iff.1 h).2]
  rw [e, firstO_app]
  have h1 : firstO (l.take i) x = none := by
    cases hf : firstO (l.take i) x with
    | none => rfl
    | some p => exact absurd (firstO_some hf).2 (hn p (firstO_some hf).1)
  rw [h1, firstO, if_pos hx]
  rfl
/-- where the reference's Reach stands -/
structure RrAt (B r : Nat) (q : Option Nat) (hl : List Int) (l : List ObjV) (roots : List Int) (v : Value) (met : Int → Bool) (work : List Int) (gk : Nat) (w0 wr : World) : Prop where
  hp : HpAt B r q hl met wr
  row : RowS wr 1 v work.length (intC work)
  own : ∀ g, v.ownBlock = some g → B ≤ g ∧ g ∉ r :: q.toList
  bel : Below B w0 wr
  inv : RInv l roots met work
  fuel : work.length + todo met l ≤ gk
  len : hl.length + gk ≤ 1048575
  le : B ≤ wr.heap.size
section
variable {B r gk : Nat} {q : Option Nat} {hl : List Int} {l : List ObjV} {roots work : List Int} {v v2 : Value} {met : Int → Bool} {w0 wr w1 w2 : World}
theorem RrAt.skip {g off n cap o2 c2 : Nat} (h : RrAt B r q hl l roots (.slice (some ⟨g, off, none⟩) (n + 1) cap) met work gk w0 wr) (hn : work.length = n + 1) (hrow : RowS wr 1 (.slice (some ⟨g, o2, none⟩) n c2) n (intC work.tail)) (hx : firstO l (hg work 0) = none ∨ met (hg work 0) = true) :
    RrAt B r q hl l roots (.slice (some ⟨g, o2, none⟩) n c2) met work.tail (gk - 1) w0 wr := by
  have hlt : work.tail.length = n := by rw [List.length_tail]; omega
  refine ⟨h.hp, by rw [hlt]; exact hrow, h.own, h.bel, h.inv.skip (x := hg work 0) (fun y => ?_) hx, ?_, ?_, h.le⟩
  · cases work with
    | nil => simp at hn
    | cons a t => simp [hg]
  · have := h.fuel; rw [hlt]; omega
  · have := h.len; omega
/-- a number is met: Push, and the references behind -/
theorem RrAt.take {g off n cap o2 c2 : Nat} {o : ObjV} {q' : Option Nat} {hl' : List Int} (h : RrAt B r q hl l roots (.slice (some ⟨g, off, none⟩) (n + 1) cap) met work gk w0 wr) (hn : work.length = n + 1) (hx : firstO l (hg work 0) = some o) (hm : met (hg work 0) = false)
    (hp : HpAt B r q' hl' (addB met (hg work 0)) w1) (hll : hl'.length ≤ hl.length + 1) (hq : ∀ g, q' = some g → q = some g ∨ wr.heap.size ≤ g) (hk : Keeps (r :: q.toList) wr w1)
    (hr2 : RowS w2 1 v2 (n + o.rl) (intC work.tail ++ intC o.refs)) (hol : o.refs.length = o.rl) (hg2 : w1.grownBy w2 (Value.slice (some ⟨g, o2, none⟩) n c2).ownBlock) (hv2 : v2.ownBlock = (Value.slice (some ⟨g, o2, none⟩) n c2).ownBlock ∨ ∃ g, v2.ownBlock = some g ∧ w1.heap.size ≤ g) :
    RrAt B r q' hl' l roots v2 (addB met (hg work 0)) (work.tail ++ o.refs) (gk - 1) w0 w2 := by
  have hlt : work.tail.length = n := by rw [List.length_tail]; omega
  have ho := h.own g rfl
  have hgl := h.row.lt g rfl
  have hle := h.le
  have hs1 := hk.size
  have hk2 : Keeps [g] w1 w2 := Keeps.of_grown hg2 (List.mem_singleton_self _)
  have hgn : g ∉ r :: q'.toList := fun hm2 => by
    rcases List.mem_cons.1 hm2 with rfl | hm2
    · exact ho.2 (by simp)
    · cases hq' : q' with
      | none => rw [hq'] at hm2; simp at hm2
      | some y =>
        rw [hq'] at hm2; simp at hm2
        rcases hq y hq' with h6 | h6
        · exact ho.2 (by rw [h6, hm2]; simp)
        · omega
  refine ⟨hp.keeps hk2 (fun x hx hm3 => hgn (by rw [← List.mem_singleton.1 hm3]; exact hx)), ?_, fun g3 hg3 => ?_, below_keeps (below_keeps h.bel hk hle h.hp.own) hk2 (by omega) (by simp; exact ho.1), h.inv.take (x := hg work 0) (rest := work.tail) (fun y => ?_) (fun y => by rw [List.mem_append]) hx, ?_, ?_, by have := hk2.size; omega⟩
  · rw [List.length_append, hlt, hol]
    unfold intC at hr2 ⊢
    rw [List.map_append]
    exact hr2
  · rcases hv2 with hv | ⟨g4, hv, hge⟩
    · rw [hv] at hg3; cases hg3; exact ⟨ho.1, hgn⟩
    · rw [hv] at hg3
      cases hg3
      refine ⟨by omega, fun hm3 => ?_⟩
      have := hp.ref.lt _ hm3
      omega
  · cases work with
    | nil => simp at hn
    | cons a t => simp [hg]
  · have h1 := h.fuel
    have h2 := todo_less hx hm
    rw [List.length_append, hlt]
    omega
  · have := h.len; have := h.fuel; omega
end
set_option maxRecDepth 100000 in
set_option maxHeartbeats 4000000 in
theorem rreach_any (a a2 : Option Addr) (len cap len2 cap2 : Nat) (l : List ObjV) (roots S : List Int) (w : World) (h : ObjsAt w a len cap l) (h2 : NumsAt w a2 len2 cap2 roots) (hl : len + len2 + refsN l ≤ 524288) (hS : S.Pairwise (· < ·)) (hm : ∀ x, x ∈ S ↔ Rch l roots x) :
    Calls Try.prog 38 #[.slice a len cap, .slice a2 len2 cap2] w (RowDone w S) := by
  obtain ⟨i0, hi, hz0, hz1, hz2⟩ := info_parts leastInfo1
  have HI := Lib.hid hi
  have HZ0 := Lib.hid hz0
  have HZ1 := Lib.hid hz1
  have HZ2 := Lib.hid hz2
  have HO := Lib.hid h
  have HR := Lib.hid h2
  have hlen := h.size
  have HCP := Lib.hid h.le
  have HSM := Lib.hid (And.intro hS hm)
  obtain ⟨B, hB⟩ : ∃ B, B = w.heap.size := ⟨_, rfl⟩
  have HB := Lib.hid hB
  obtain ⟨wx, hwx⟩ : ∃ wx, wx = w.alloc (.cells #[.slice none 0 0] 60) := ⟨_, rfl⟩
  obtain ⟨r, hr⟩ : ∃ r, r = w.heap.size := ⟨_, rfl⟩
  have HHP : Hid (HpAt B r none [] (fun _ => false) wx ∧ Below w.heap.size w wx ∧ r < wx.heap.size) := (show HpAt B r none [] (fun _ => false) wx ∧ Below w.heap.size w wx ∧ r < wx.heap.size by
    rw [hwx, hr]
    exact ⟨hp_new w (by omega), (Below.refl _ _).alloc (Nat.le_refl _) _, by rw [size_alloc]; omega⟩)
  have HWX := Lib.hid (And.intro hwx hr)
  have HSRC := Lib.hid ((h2.below HHP.out.2.1).src)
  have hlen2 := h2.size
  have HO1 : Hid (0 + len2 ≤ maxLen) := (show 0 + len2 ≤ maxLen by unfold maxLen; omega)
  have HO2 : Hid ((0 + len2) * 8 ≤ 140737488355328) := (show (0 + len2) * 8 ≤ 140737488355328 by omega)
  clear h h2 hi hz0 hz1 hz2 hS hm hB hwx hr
  go_enter Try.func38, Try.ntmps38
  go_wp2_with (at_builtin; rw [← HWX.out.1]; refine wpList_row (by rfl) (.const (.slice none 0 0)) (.tmp 9) 23 rfl 3 i0 (.int .i64 0) 1 8 Try.underlying23 HI.out HZ0.out HZ1.out HZ2.out rfl (by decide) (.slice none 0 0) 0 [] rfl (RowS.nil _ _) (.slice a2 len2 cap2) len2 (intC roots) rfl HSRC.out (intC_ok _) HO1.out HO2.out ?_)
  intro v2 w2 hr2 hg2 hv2
  have HRR : Hid (RrAt B r none [] l roots v2 (fun _ => false) roots 524288 w w2) := (show RrAt B r none [] l roots v2 (fun _ => false) roots 524288 w w2 by
    have hk : Keeps [] wx w2 := ⟨hg2.os, hg2.tape, hg2.output, hg2.size, fun k hk _ => hg2.block k hk (fun e => by cases e)⟩
    have hs1 := HHP.out.2.1.size
    refine ⟨HHP.out.1.keeps hk (fun _ _ => List.not_mem_nil), by rw [hlen2]; exact hr2, fun g hg => ?_, ?_, RInv.start l roots, ?_, by simp, ?_⟩
    · rcases hv2 with hv | ⟨g2, hv, hge⟩
      · rw [hv] at hg; cases hg
      · rw [hv] at hg
        cases hg
        have := HHP.out.2.2
        exact ⟨by rw [HB.out]; omega, by simp; omega⟩
    · rw [HB.out]; exact below_keeps HHP.out.2.1 hk hs1 (by simp)
    · rw [todo_none]; omega
    · rw [HB.out]; exact Nat.le_trans hs1 hk.size)
  clear hr2 hg2 hv2
  go_wp2_with fail
  rw [← HWX.out.2]
  go_loopg [6] 524288 (fun gk v wr => ∃ (q : Option Nat) (hl : List Int) (met : Int → Bool) (work : List Int), Hid (RrAt B r q hl l roots v met work gk w wr))
  case atStart => exact ⟨_, _, _, _, HRR⟩
  case round =>
    obtain ⟨q, hl1, met, work, hst⟩ := hrel
    obtain ⟨wo, rfl⟩ : ∃ wo : World, wo = wr := ⟨_, rfl⟩
    obtain ⟨a6, cap6, rfl, hcp, hcm, _, hrd⟩ := hst.out.row.read
    cases hwk : work.length with
    | zero =>
      have h0 : work = [] := List.length_eq_zero_iff.1 hwk
      subst h0
      obtain ⟨ao, co, hc0, _, hq0, _, _, hrow, _⟩ := hst.out.hp.ref.read
      have hle : hl1 = S := rise_one hst.out.hp.rise HSM.out.1 fun x => by rw [hst.out.hp.mem x, hst.out.inv.done x, HSM.out.2 x]
      have HF : Hid (RowDone w S (.returned (.slice ao hl1.length co)) wo) := (show RowDone w S (.returned (.slice ao hl1.length co)) wo from
        ⟨_, rfl, by rw [← hle]; exact hrow, fun g hg => by
          rw [hq0] at hg
          have := hst.out.hp.own g (by rw [hg]; simp)
          rw [← HB.out]; exact this, by rw [← HB.out]; exact hst.out.bel⟩)
      clear hst hrd hwk hrow hle
      go_wp2
      go_ret
      exact HF.out
    | succ n =>
      rw [hwk] at hst hcp
      obtain ⟨g, off, rfl, hgl, hcell0⟩ := hrd 0 (.int .i64 (hg work 0)) (intC_at (hg_some (by omega)))
      have hcell : wo.cell? ⟨g, off, none⟩ = some (.int .i64 (hg work 0)) := hcell0
      unfold maxLen at hcm
      have HGK : Hid (1 ≤ gk) := (show 1 ≤ gk by have := hst.out.fuel; omega)
      have HST := Lib.hid hst.out
      have HHL : Hid (hl1.length < 1048576) := (show hl1.length < 1048576 by have := hst.out.len; omega)
      have HHW := Lib.hid (And.intro hwk rfl : work.length = n + 1 ∧ True = True)
      have HOC : Hid (∀ i o, l[i]? = some o → ∃ b off, a = some ⟨b, off, none⟩ ∧ wo.cell? ⟨b, off + i * 5, none⟩ = some (.int .i64 o.h) ∧ wo.cell? ⟨b, off + i * 5 + 4, none⟩ = some (.slice o.ra o.rl o.rc) ∧ b < w.heap.size) := (show ∀ i o, l[i]? = some o → ∃ b off, a = some ⟨b, off, none⟩ ∧ wo.cell? ⟨b, off + i * 5, none⟩ = some (.int .i64 o.h) ∧ wo.cell? ⟨b, off + i * 5 + 4, none⟩ = some (.slice o.ra o.rl o.rc) ∧ b < w.heap.size from fun i o ho => by
        obtain ⟨b, off, e, hbl, c0, _, _, _, c4⟩ := HO.out.cell i o ho
        exact ⟨b, off, e, (hst.out.bel.cell (p := ⟨b, off + i * 5, none⟩) (by rw [HB.out]; exact hbl)).trans c0, (hst.out.bel.cell (p := ⟨b, off + i * 5 + 4, none⟩) (by rw [HB.out]; exact hbl)).trans c4, hbl⟩)
      obtain ⟨x, hx⟩ : ∃ x, x = hg work 0 := ⟨_, rfl⟩
      have HX := Lib.hid hx
      rw [← hx] at hcell
      have hrow0 := hst.out.row
      rw [hwk] at hrow0
      rcases (by omega : cap6 = 1 ∨ 1 < cap6) with hc1 | hc1
      all_goals
        first
          | (have HROW2 := Lib.hid (hrow0.tail0 hc1); obtain ⟨vt, hvt⟩ : ∃ vt, vt = Value.slice (some ⟨g, off, none⟩) n 0 := ⟨_, rfl⟩)
          | (have HROW2 := Lib.hid hrow0.tail1; obtain ⟨vt, hvt⟩ : ∃ vt, vt = Value.slice (some ⟨g, off + 1, none⟩) n (cap6 - 1) := ⟨_, rfl⟩)
        have HVT := Lib.hid hvt
        clear hst hrd hwk hcell0 hx HRR HHP HSRC hrow0 hvt
        go_wp2_with fail
        go_loopw [6, 8] (fun v6 iv wr => ∃ i : Nat, iv = .int .i64 (i : Nat) ∧ i ≤ len ∧ Hid (∀ p ∈ l.take i, p.h ≠ x) ∧ Hid (vt = v6) ∧ wo = wr) (fun _ iv _ => len - (intOf iv).toNat)
        case atStart => exact ⟨0, rfl, Nat.zero_le _, (fun p hp => by simp at hp), HVT, rfl⟩
        case round =>
          obtain ⟨i, rfl, hi, hd, hv6, rfl⟩ := hrel
          have e6 := hv6.out
          rw [HVT.out] at e6
          subst e6
          by_cases hil : i < len
          · obtain ⟨o, ho⟩ : ∃ o, l[i]? = some o := ⟨l[i]'(by omega), List.getElem?_eq_getElem (by omega)⟩
            obtain ⟨b, offb, rfl, c0, c4, hbl⟩ := HOC.out i o ho
            have hi0 : (0 : Int) ≤ (i : Int) := by omega
            have hi1 : (i : Int) < (len : Int) := by omega
            by_cases he : o.h = x
            · have hf := firstO_at ho he hd.out
              have hbe : (o.h == x) = true := by rw [beq_iff_eq]; exact he
              cases hmt : met x with
              | true =>
                have HNX := Lib.hid (HST.out.skip HHW.out.1 HROW2.out (.inr (by rw [← HX.out]; exact hmt)))
                have HPN := Lib.hid (hpNo x wo HST.out.hp HHL.out hmt)
                clear he hf hmt ho hd
                go_wp2_with (go_at_call 46; refine HPN.out.mono ?_; rintro e w' ⟨rfl, rfl⟩)
                go_roundg (gk - 1)
                case measure => have := HGK.out; omega
                case rel => first | exact ⟨_, _, _, _, HNX⟩ | ((repeat apply Exists.intro); exact ⟨⟨_, _, _, _, HNX⟩, rfl⟩)
              | false =>
                have HPY := Lib.hid (hpYes x wo HST.out.hp HHL.out HST.out.le hmt)
                have HHF := Lib.hid (And.intro hf hmt)
                have hom := (firstO_some hf).1
                have hnr := HO.out.refs o hom
                have HNRr := Lib.hid hnr
                have hrl2 := refsN_mem hom
                have hfu := HST.out.fuel
                have hln := HST.out.len
                have hn2 := HHW.out.1
                have HO3 : Hid (n + o.rl ≤ maxLen) := (show n + o.rl ≤ maxLen by have := hnr.size; unfold maxLen; omega)
                have HO4 : Hid ((n + o.rl) * 8 ≤ 140737488355328) := (show (n + o.rl) * 8 ≤ 140737488355328 by have := hnr.size; omega)
                clear he hf hmt ho hd hom hnr hrl2 hfu hln hn2
                go_wp2_with fail
                refine HPY.out.mono ?_
                rintro e w5 ⟨rfl, q', l', hp5, hl5, hq5, hk5⟩
                have HK5 := Lib.hid hk5
                have HP5 := Lib.hid (And.intro hp5 (And.intro hl5 hq5))
                have HB5 : Hid (Below B w w5) := (show Below B w w5 from below_keeps HST.out.bel hk5 HST.out.le HST.out.hp.own)
                have c5 : w5.cell? ⟨b, offb + i * 5 + 4, none⟩ = some (.slice o.ra o.rl o.rc) :=
                  (World.cell?_of_block (hk5.block b (by have := HST.out.bel.size; omega) (fun hm => by have := HST.out.hp.own b hm; rw [HB.out] at this; omega))).trans c4
                have HROW := Lib.hid (HROW2.out.keeps hk5 fun g2 e2 => by cases e2; exact (HST.out.own g rfl).2)
                have HSR := Lib.hid ((HNRr.out.below (by rw [← HB.out]; exact HB5.out)).src)
                have HTK := Lib.hid (fun (o2 c2 : Nat) (w6 : World) (v6 : Value) hr6 hg6 hv6 => HST.out.take (o2 := o2) (c2 := c2) (w2 := w6) (v2 := v6) HHW.out.1 (by rw [← HX.out]; exact HHF.out.1) (by rw [← HX.out]; exact HHF.out.2) (by rw [← HX.out]; exact hp5) hl5 hq5 hk5 hr6 HNRr.out.size hg6 hv6)
                clear hp5 hl5 hq5 hk5 c0 c4
                go_wp2_with (at_builtin; refine wpList_row (by rfl) (.tmp 34) (.tmp 39) 23 rfl 3 i0 (.int .i64 0) 1 8 Try.underlying23 HI.out HZ0.out HZ1.out HZ2.out rfl (by decide) _ n (intC work.tail) rfl HROW.out (.slice o.ra o.rl o.rc) o.rl (intC o.refs) rfl HSR.out (intC_ok _) HO3.out HO4.out ?_)
                intro v6 w6 hr6 hg6 hv6
                have HFIN := Lib.hid (HTK.out _ _ w6 v6 hr6 hg6 hv6)
                clear hr6 hg6 hv6
                go_wp2
                go_roundg (gk - 1)
                case measure => have := HGK.out; omega
                case rel => first | exact ⟨_, _, _, _, HFIN⟩ | ((repeat apply Exists.intro); exact ⟨⟨_, _, _, _, HFIN⟩, rfl⟩)
            · have hbe : (o.h == x) = false := by rw [beq_eq_false_iff_ne]; exact he
              have HD : Hid (∀ p ∈ l.take (i + 1), p.h ≠ x) := (show ∀ p ∈ l.take (i + 1), p.h ≠ x by
                intro p hp
                rw [List.take_add_one, ho, List.mem_append] at hp
                rcases hp with hp | hp
                · exact hd.out p hp
                · simp at hp; rw [hp]; exact he)
              clear he ho hd
              go_wp2
              go_roundw
              case rel => first | exact ⟨i + 1, by go_num, by omega, HD, hv6, by first | rfl | trivial⟩ | ((repeat apply Exists.intro); exact ⟨⟨i + 1, by go_num, by omega, HD, hv6, by first | rfl | trivial⟩, rfl⟩)
              case measure => simp [intOf]; omega
          · obtain rfl : i = len := by omega
            have hf : firstO l x = none := by
              cases hf : firstO l x with
              | none => rfl
              | some p =>
                obtain ⟨h1, h2⟩ := firstO_some hf
                exact absurd h2 (hd.out p (by rw [List.take_of_length_le (by omega)]; exact h1))
            have HNX := Lib.hid (HST.out.skip HHW.out.1 HROW2.out (.inl (by rw [← HX.out]; exact hf)))
            clear hil hd hf
            go_wp2
            go_roundg (gk - 1)
            case measure => have := HGK.out; omega
            case rel => first | exact ⟨_, _, _, _, HNX⟩ | ((repeat apply Exists.intro); exact ⟨⟨_, _, _, _, HNX⟩, rfl⟩)
end Go.Proofs.Ytogifanooleppaa
