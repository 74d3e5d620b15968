/- audit's Reach: what is reached from some, rising. -/
import Derived.Test.YtogifanooleppaaAudBack
namespace Go.Proofs.Ytogifanooleppaa
open Go.RowKit Go.Maps
set_option linter.unusedVariables false

theorem RowS.cut {w : World} {g off n cap : Nat} {xs : List Value} (h : RowS w 1 (.slice (some ⟨g, off, none⟩) n cap) n xs) {m : Nat} (hm : m ≤ n) : RowS w 1 (.slice (some ⟨g, off, none⟩) m cap) m (xs.take m) := by
  obtain ⟨h1, h2⟩ := h
  refine ⟨by rw [List.length_take]; omega, ?_⟩
  rcases h2 with ⟨h0, _⟩ | ⟨g', off', cap', cur, e, he, hh, r1, r2, r3, r4⟩
  · cases h0
  · cases he
    exact .inr ⟨g, off, cap, cur, e, rfl, hh, by omega, r2, r3, fun j u hu => r4 j u (by rw [List.getElem?_take] at hu; split at hu <;> simp_all)⟩
theorem RowDone.from {w w1 w' : World} {D : List Int} {e : Ending} (hb : Below w.heap.size w w1) (h : RowDone w1 D e w') : RowDone w D e w' := by
  obtain ⟨v, he, hr, hg, hb2⟩ := h
  exact ⟨v, he, hr, fun g h => Nat.le_trans hb.size (hg g h), hb.trans (hb2.mono hb.size)⟩
theorem intC_ok (l : List Int) : ∀ u ∈ intC l, u.oneCell' = true := by
  intro u hu
  obtain ⟨x, _, rfl⟩ := List.mem_map.1 hu
  rfl
set_option maxRecDepth 100000 in
/-- slices.Clone -/
theorem clone_any (a : Option Addr) (len cap : Nat) (l : List Int) (w : World) (h : NumsAt w a len cap l) (hl : len ≤ 1048576) :
    Calls Try.prog 62 #[.slice a len cap] w (RowDone w l) := by
  obtain ⟨i0, hi, hz0, hz1, hz2⟩ := info_parts leastInfo1
  have HI := Lib.hid hi
  have HZ0 := Lib.hid hz0
  have HZ1 := Lib.hid hz1
  have HZ2 := Lib.hid hz2
  have HS := Lib.hid h.src
  have HL := Lib.hid h.size
  have HN := Lib.hid h.ints.nil
  cases a with
  | none =>
    obtain ⟨rfl, rfl⟩ := HN.out rfl
    have HF : Hid (RowDone w l (.returned (.slice none 0 0)) w) := (show RowDone w l (.returned (.slice none 0 0)) w by
      have : l = [] := List.length_eq_zero_iff.1 HL.out
      subst this
      exact (AccI.start w).done)
    clear h hi hz0 hz1 hz2
    have E0 := Lib.run_eql_slice_nil (P := Try.prog) w 23 3 none 0 0 0 0 Try.underlying23
    simp only [Option.isNone_none] at E0
    go_enter Try.func62, Try.ntmps62
    go_wp2
    go_ret
    exact HF.out
  | some ad =>
    have hs1 : ∀ W, Below w.heap.size w W → Src W (.slice (some ad) len cap) len 1 (intC l) := fun W hb => (h.below hb).src
    have HS1 := Lib.hid hs1
    have HO1 : Hid (0 + len ≤ maxLen) := (show 0 + len ≤ maxLen by unfold maxLen; omega)
    have HO2 : Hid ((0 + len) * 8 ≤ 140737488355328) := (show (0 + len) * 8 ≤ 140737488355328 by omega)
    clear h hi hz0 hz1 hz2 hs1
    have HR0 : Hid (RowS (w.alloc (.cells #[] 3)) 1 (.slice (some ⟨w.heap.size, 0, none⟩) 0 0) 0 []) := (show RowS (w.alloc (.cells #[] 3)) 1 (.slice (some ⟨w.heap.size, 0, none⟩) 0 0) 0 [] from
      ⟨rfl, .inr ⟨w.heap.size, 0, 0, #[], 3, rfl, heap_alloc_at _ _, Nat.le_refl _, Nat.zero_le _, by simp, fun j u hu => by simp at hu⟩⟩)
    have E0 := Lib.run_eql_slice_nil (P := Try.prog) w 23 3 (some ad) len cap 0 0 Try.underlying23
    simp only [Option.isNone_some] at E0
    go_enter Try.func62, Try.ntmps62
    go_wp2_with (at_builtin; refine wpList_row (by rfl) (.tmp 5) (.tmp 6) 23 rfl 3 i0 (.int .i64 0) 1 8 Try.underlying23 HI.out HZ0.out HZ1.out HZ2.out rfl (by decide) (.slice (some ⟨w.heap.size, 0, none⟩) 0 0) 0 [] rfl HR0.out (.slice (some ad) len cap) len (intC l) rfl (HS1.out _ ((Below.refl _ _).alloc (Nat.le_refl _) _)) (intC_ok l) HO1.out HO2.out ?_)
    intro v2 w2 hr2 hg2 hv2
    have HF : Hid (RowDone w l (.returned v2) w2) := (show RowDone w l (.returned v2) w2 by
      refine ⟨v2, rfl, ?_, fun g hg => ?_, ?_⟩
      · rw [HL.out]
        exact hr2
      · rcases hv2 with hv | ⟨g2, hv, hge⟩
        · rw [hv] at hg; cases hg; exact Nat.le_refl _
        · rw [hv] at hg; cases hg; omega
      · exact ((Below.refl _ w).alloc (Nat.le_refl _) _).trans ⟨hg2.os, hg2.tape, hg2.output, hg2.size, fun k hk => hg2.block k (by rw [size_alloc]; omega) (fun e => by simp [Value.ownBlock] at e; omega)⟩)
    clear hr2 hg2 hv2
    go_wp2
    go_ret
    exact HF.out
theorem ad_key : Keyed Try.prog 3 := int_keyed Try.underlying3
theorem ad_zero (w : World) : (zeroValue 4).run Try.prog w = .ok (.bool false) w := by kernel_rfl
theorem zero_obj (W : World) : (zeroValue 47).run Try.prog W = .ok (.agg #[.int .i64 0, .int .i64 0, .int .i64 0, .bool false, .slice none 0 0]) W := by kernel_rfl
def metV (met : Int → Bool) : Int → Option Value := fun x => if met x then some (.bool true) else none
theorem metV_get (met : Int → Bool) (x : Int) : (metV met x).getD (.bool false) = .bool (met x) := by unfold metV; cases met x <;> rfl
theorem metV_some (met : Int → Bool) (x : Int) : (metV met x).isSome = met x := by unfold metV; cases met x <;> rfl
theorem metV_add (met : Int → Bool) (x : Int) : (fun y => if y = x then some (Value.bool true) else metV met y) = metV (addB met x) := by
  funext y
  unfold metV addB
  by_cases h : y = x <;> simp [h]
/-- where Reach stands: mo: the objects' map; mm: what has been met -/
structure RcAt (B B3 mo mm : Nat) (l : List ObjV) (roots : List Int) (len : Nat) (v : Value) (met : Int → Bool) (work : List Int) (c gk G0 : Nat) (w0 wr : World) : Prop where
  objs : MapAt Try.prog wr 3 mo len (fun x => (firstO l x).map ObjV.agg)
  mets : MapAt Try.prog wr 3 mm c (metV met)
  row : RowS wr 1 v work.length (intC work)
  own : ∀ g, v.ownBlock = some g → B3 ≤ g
  bel : Below B w0 wr
  inv : RInv l roots met work
  wfw : ∀ x ∈ work, (Lit.int .i64 x).wf = true
  fuel : work.length + todo met l ≤ gk
  cnt : c + gk ≤ G0
  mo_ : B ≤ mo ∧ mo < mm
  mm_ : mm < B3
  big : B3 ≤ wr.heap.size
theorem take_init {l : List Int} {n : Nat} (h : l.length = n + 1) : l = l.take n ++ [hg l n] := by
  have hx := hg_some (l := l) (k := n) (by omega)
  have : l.take (n + 1) = l.take n ++ [hg l n] := by rw [List.take_add_one, hx]; rfl
  rw [← this, ← h, List.take_length]
section
variable {B B3 mo mm len c gk G0 : Nat} {l : List ObjV} {roots work : List Int} {v : Value} {met : Int → Bool} {w0 wr w1 w2 : World}
/-- a number is passed over -/
theorem RcAt.skip {g off n cap : Nat} (h : RcAt B B3 mo mm l roots len (.slice (some ⟨g, off, none⟩) (n + 1) cap) met work c gk G0 w0 wr) (hn : work.length = n + 1) (hx : firstO l (hg work n) = none ∨ met (hg work n) = true) (hb : Below wr.heap.size wr w1) :
    RcAt B B3 mo mm l roots len (.slice (some ⟨g, off, none⟩) n cap) met (work.take n) c (gk - 1) G0 w0 w1 := by
  have hl : (work.take n).length = n := by rw [List.length_take]; omega
  have hr := h.row
  rw [hn] at hr
  have hk : ∀ L, Keeps L wr w1 := fun L => Keeps.of_below hb (Nat.le_refl _) L
  refine ⟨h.objs.keeps (hk []) List.not_mem_nil, h.mets.keeps (hk []) List.not_mem_nil, ?_, h.own, h.bel.trans (hb.mono (by have := h.big; have := h.mo_; have := h.mm_; omega)), h.inv.skip (x := hg work n) (fun y => ?_) hx, fun x hx => h.wfw x (List.mem_of_mem_take hx), ?_, ?_, h.mo_, h.mm_, Nat.le_trans h.big hb.size⟩
  · rw [hl]
    have := (hr.cut (Nat.le_succ n)).keeps (hk []) fun _ _ => List.not_mem_nil
    unfold intC at this ⊢
    rw [List.map_take]
    exact this
  · conv => lhs; rw [take_init hn]
    rw [List.mem_append, List.mem_singleton]
    exact Or.comm
  · have := h.fuel; rw [hl]; omega
  · have := h.cnt; have := h.fuel; omega
/-- a number is met -/
theorem RcAt.take {g off n cap : Nat} {o : ObjV} {v2 : Value} (h : RcAt B B3 mo mm l roots len (.slice (some ⟨g, off, none⟩) (n + 1) cap) met work c gk G0 w0 wr) (hn : work.length = n + 1) (hx : firstO l (hg work n) = some o) (hm : met (hg work n) = false)
    {ob : Obj} (hme : MapAt Try.prog w1 3 mm (c + 1) (metV (addB met (hg work n)))) (hgr : (wr.alloc ob).grownBy w1 (some mm)) (hr2 : RowS w2 1 v2 (n + o.rl) (intC (work.take n) ++ intC o.refs)) (hol : o.refs.length = o.rl) (hwr : ∀ x ∈ o.refs, (Lit.int .i64 x).wf = true) (hg2 : w1.grownBy w2 (Value.slice (some ⟨g, off, none⟩) n cap).ownBlock) (hv2 : v2.ownBlock = (Value.slice (some ⟨g, off, none⟩) n cap).ownBlock ∨ ∃ g, v2.ownBlock = some g ∧ w1.heap.size ≤ g) :
    RcAt B B3 mo mm l roots len v2 (addB met (hg work n)) (work.take n ++ o.refs) (c + 1) (gk - 1) G0 w0 w2 := by
  have hl : (work.take n).length = n := by rw [List.length_take]; omega
  have mo_ := h.mo_
  have mm_ := h.mm_
  have big := h.big
  have ho := h.own g rfl
  have hk1 : Keeps [mm] wr w1 := ((Keeps.refl [mm] wr).alloc ob).trans (Keeps.of_grown hgr (List.mem_singleton_self _))
  have hk2 : Keeps [g] w1 w2 := Keeps.of_grown hg2 (List.mem_singleton_self _)
  have hs1 := hk1.size
  refine ⟨(h.objs.keeps hk1 (by simp; omega)).keeps hk2 (by simp; omega), hme.keeps hk2 (by simp; omega), ?_, fun g2 hg3 => ?_, below_keeps (below_keeps h.bel hk1 (by omega) (by simp; omega)) hk2 (by omega) (by simp; omega), h.inv.take (x := hg work n) (rest := work.take n) (fun y => ?_) (fun y => by rw [List.mem_append]) hx, fun x hx => (List.mem_append.1 hx).elim (fun hx => h.wfw x (List.mem_of_mem_take hx)) (hwr x), ?_, ?_, h.mo_, h.mm_, Nat.le_trans h.big (Nat.le_trans hk1.size hk2.size)⟩
  · rw [List.length_append, hl, hol]
    unfold intC at hr2 ⊢
    rw [List.map_append]
    exact hr2
  · rcases hv2 with hv | ⟨g4, hv, hge⟩
    · rw [hv] at hg3; cases hg3; exact ho
    · rw [hv] at hg3; cases hg3; omega
  · conv => lhs; rw [take_init hn]
    rw [List.mem_append, List.mem_singleton]
    exact Or.comm
  · have h1 := h.fuel
    have h2 := todo_less hx hm
    rw [List.length_append, hl]
    omega
  · have := h.cnt; have := h.fuel; omega
end
set_option maxRecDepth 100000 in
set_option maxHeartbeats 4000000 in
theorem reach_any (a a2 : Option Addr) (len cap len2 cap2 : Nat) (l : List ObjV) (roots S : List Int) (w : World) (h : ObjsAt w a len cap l) (h2 : NumsAt w a2 len2 cap2 roots) (hl : len + len2 + refsN l ≤ 1048576) (hS : S.Pairwise (· < ·)) (hm : ∀ x, x ∈ S ↔ Rch l roots x) :
    Calls Try.prog 37 #[.slice a len cap, .slice a2 len2 cap2] w (RowDone w S) := by
  obtain ⟨i0, hi, hz0, hz1, hz2⟩ := info_parts leastInfo1
  have HI := Lib.hid hi
  have HZ0 := Lib.hid hz0
  have HZ1 := Lib.hid hz1
  have HZ2 := Lib.hid hz2
  have HO := Lib.hid h
  have HR := Lib.hid h2
  have HBY := Lib.hid (byHandle_any a len cap l w h (by omega))
  have HSM := Lib.hid (And.intro hS hm)
  have hmm := @run_makeMap Try.prog
  obtain ⟨B, hB⟩ : ∃ B, B = w.heap.size := ⟨_, rfl⟩
  have HB := Lib.hid hB
  clear h h2 hi hz0 hz1 hz2 hS hm hB
  go_enter Try.func37, Try.ntmps37
  go_wp2_with fail
  refine HBY.out.mono ?_
  rintro e w1 ⟨mo, rfl, hmo, hmoB, hb1⟩
  have HMO := Lib.hid hmo
  have HB1 := Lib.hid hb1
  have HMB := Lib.hid hmoB
  have hmk : Hid (∃ w2, w2 = w1.alloc (.map #[] 0) ∧ MapAt Try.prog w2 3 w1.heap.size 0 (fun _ => none) ∧ Below w.heap.size w w2) := (show ∃ w2, w2 = w1.alloc (.map #[] 0) ∧ MapAt Try.prog w2 3 w1.heap.size 0 (fun _ => none) ∧ Below w.heap.size w w2 from ⟨_, rfl, MapAt.made Try.prog w1 3, HB1.out.alloc HB1.out.size _⟩)
  obtain ⟨w2, hw2, hme, hb2⟩ := hmk.out
  have HW2 := Lib.hid hw2
  have HME := Lib.hid hme
  have HB2 := Lib.hid hb2
  clear hmo hb1 hmoB hmk hw2 hme hb2
  go_wp2_with fail
  rw [← HW2.out]
  refine (clone_any a2 len2 cap2 roots w2 (HR.out.below HB2.out) (by omega)).mono ?_
  rintro e w3 ⟨v, rfl, hr3, hg3, hb3⟩
  obtain ⟨mm, hmmE⟩ : ∃ mm, mm = w1.heap.size := ⟨_, rfl⟩
  have HRC : Hid (∃ B3, RcAt B B3 mo mm l roots len v (fun _ => false) roots 0 1048576 1048576 w w3) := (show ∃ B3, RcAt B B3 mo mm l roots len v (fun _ => false) roots 0 1048576 1048576 w w3 by
    have e2 : w2.heap.size = w1.heap.size + 1 := by rw [HW2.out, size_alloc]
    have lt := HMO.out.lt
    have mB := HMB.out
    have hk12 : Keeps [] w1 w2 := by rw [HW2.out]; exact (Keeps.refl [] w1).alloc _
    have hk23 : Keeps [] w2 w3 := Keeps.of_below hb3 (Nat.le_refl _) []
    refine ⟨w2.heap.size, (HMO.out.keeps hk12 List.not_mem_nil).keeps hk23 List.not_mem_nil, ?_, hr3, hg3, ?_, RInv.start l roots, fun x hx => HR.out.wf hx, ?_, Nat.le_refl _, ⟨by rw [HB.out]; exact mB, by omega⟩, by omega, hb3.size⟩
    · rw [hmmE]
      exact (HME.out.keeps hk23 List.not_mem_nil).congr fun x _ => rfl
    · rw [HB.out]; exact HB2.out.trans (hb3.mono HB2.out.size)
    · rw [todo_none]; have := HR.out.size; omega)
  obtain ⟨B3, hrc⟩ := HRC.out
  have HRC0 := Lib.hid hrc
  rw [← hmmE]
  clear hr3 hg3 hb3 hmmE HRC hrc
  go_wp2_with fail
  go_loopg [7] 1048576 (fun gk v wr => ∃ (met : Int → Bool) (work : List Int) (c : Nat), Hid (RcAt B B3 mo mm l roots len v met work c gk 1048576 w wr))
  case atStart => exact ⟨_, _, _, HRC0⟩
  case round =>
    obtain ⟨met, work, c, hst⟩ := hrel
    obtain ⟨wo, rfl⟩ : ∃ wo : World, wo = wr := ⟨_, rfl⟩
    obtain ⟨a7, cap7, rfl, hcp, hcm, _, hrd⟩ := hst.out.row.read
    cases hwk : work.length with
    | zero =>
      have h0 : work = [] := List.length_eq_zero_iff.1 hwk
      subst h0
      have HME := Lib.hid hst.out.mets
      have HSO := Lib.hid (sorted_calls wo hst.out.mets (by have := hst.out.cnt; omega) HSM.out.1 (fun x => by
        rw [HSM.out.2 x, metV_some, ← hst.out.inv.done x]
        refine ⟨fun hx => ⟨?_, hx⟩, fun hx => hx.2⟩
        obtain ⟨o, ho, e⟩ := firstO_isSome.1 ((hst.out.inv.done x).1 hx).is
        rw [← e]
        exact HO.out.wf o ho))
      have HK := Lib.hid (fun W => keys_calls (some mm) W)
      have HBL := Lib.hid hst.out.bel
      clear hrd hwk hst
      go_wp2_with fail
      refine (HK.out _).mono ?_
      rintro e w5 ⟨rfl, rfl⟩
      go_wp2_with fail
      refine HSO.out.mono ?_
      rintro e w5 hd
      have HD : Hid (RowDone w S e w5) := (show RowDone w S e w5 from RowDone.from (by rw [← HB.out]; exact HBL.out) hd)
      obtain ⟨v5, rfl, _⟩ := hd
      go_wp2
      go_ret
      exact HD.out
    | succ n =>
      rw [hwk] at hst hcp
      obtain ⟨g, off, rfl, hgl, hcell⟩ := hrd n (.int .i64 (hg work n)) (intC_at (hg_some (by omega)))
      have hwf : (Lit.int .i64 (hg work n)).wf = true := hst.out.wfw _ (List.mem_of_getElem? (hg_some (l := work) (k := n) (by omega)))
      have HWK := Lib.hid hwk
      have hi0 : (0 : Int) ≤ (n : Int) := by omega
      have hn1 : ((n + 1 : Nat) : Int) - 1 = (n : Int) := by omega
      have hgt : decide ((0 : Int) < ((n + 1 : Nat) : Int)) = true := by rw [decide_eq_true_iff]; omega
      have hlk := hst.out.objs.look_ok ad_key Try.underlying3 Try.underlying90 (zero_obj wo) hwf
      unfold maxLen at hcm
      cases hf : firstO l (hg work n) with
      | none =>
        rw [hf] at hlk
        simp only [Option.map_none, Option.getD_none, Option.isSome_none] at hlk
        have HNX := Lib.hid (fun w1 hb => hst.out.skip hwk (.inl hf) (w1 := w1) hb)
        have HGK : Hid (1 ≤ gk) := (show 1 ≤ gk by have := hst.out.fuel; omega)
        generalize hg work n = x at hcell hlk hwf
        clear hst hrd hwk hf
        go_wp2
        go_roundg (gk - 1)
        case measure => have := HGK.out; omega
        case rel => first | exact ⟨_, _, _, Lib.hid (HNX.out _ ((Below.refl _ _).alloc (Nat.le_refl _) _))⟩ | ((repeat apply Exists.intro); exact ⟨⟨_, _, _, Lib.hid (HNX.out _ ((Below.refl _ _).alloc (Nat.le_refl _) _))⟩, rfl⟩)
      | some o =>
        rw [hf] at hlk
        simp only [Option.map_some, Option.getD_some, Option.isSome_some] at hlk
        obtain ⟨wx, hwx⟩ : ∃ wx, wx = wo.alloc (.cells #[.int .i64 o.h, .int .i64 o.k, .int .i64 o.c, .bool o.s, .slice o.ra o.rl o.rc] 47) := ⟨_, rfl⟩
        have hbx : Below wo.heap.size wo wx := by rw [hwx]; exact (Below.refl _ _).alloc (Nat.le_refl _) _
        have hkx : Keeps [] wo wx := Keeps.of_below hbx (Nat.le_refl _) []
        have hmx := hst.out.mets.keeps hkx List.not_mem_nil
        have hlk2 := hmx.look ad_key Try.underlying3 Try.underlying67 (ad_zero wx) hwf
        rw [metV_get, hwx] at hlk2
        have HGK : Hid (1 ≤ gk) := (show 1 ≤ gk by have := hst.out.fuel; omega)
        have HMX := Lib.hid hmx
        have HBX := Lib.hid hbx
        have HF := Lib.hid hf
        have HST := Lib.hid hst.out
        have HXB : Hid (wx.heap[wo.heap.size]? = some (.cells #[.int .i64 o.h, .int .i64 o.k, .int .i64 o.c, .bool o.s, .slice o.ra o.rl o.rc] 47 (0, 0))) := (show _ by rw [hwx]; exact heap_alloc_at _ _)
        have HWX := Lib.hid hwx
        cases hmt : met (hg work n) with
        | true =>
          rw [hmt] at hlk2
          have HNX := Lib.hid (fun w1 hb => hst.out.skip hwk (.inr hmt) (w1 := w1) hb)
          generalize hg work n = x at hcell hlk hlk2 hwf HF
          unfold ObjV.agg at hlk
          clear hst hrd hwk hf hmt hwx hbx hkx hmx
          go_wp2
          go_roundg (gk - 1)
          case measure => have := HGK.out; omega
          case rel => first | exact ⟨_, _, _, Lib.hid (HNX.out _ ((Below.refl _ _).alloc (Nat.le_refl _) _))⟩ | ((repeat apply Exists.intro); exact ⟨⟨_, _, _, Lib.hid (HNX.out _ ((Below.refl _ _).alloc (Nat.le_refl _) _))⟩, rfl⟩)
        | false =>
          rw [hmt] at hlk2
          have hom := (firstO_some hf).1
          have hnr := HO.out.refs o hom
          have hsrc : Hid (∀ W, Below B w W → Src W (.slice o.ra o.rl o.rc) o.rl 1 (intC o.refs)) := (show ∀ W, Below B w W → Src W (.slice o.ra o.rl o.rc) o.rl 1 (intC o.refs) from fun W hb => (hnr.below (by rw [← HB.out]; exact hb)).src)
          have HROW : Hid (∀ W, Keeps [mm] wo W → RowS W 1 (.slice (some ⟨g, off, none⟩) n cap7) n (intC (work.take n))) := (show ∀ W, Keeps [mm] wo W → RowS W 1 (.slice (some ⟨g, off, none⟩) n cap7) n (intC (work.take n)) from fun W hk => by
            have hr := hst.out.row
            rw [hwk] at hr
            have := (hr.cut (Nat.le_succ n)).keeps hk fun g2 e => by cases e; have := hst.out.own g rfl; have := hst.out.mm_; simp; omega
            unfold intC at this ⊢
            rw [List.map_take]
            exact this)
          have HNX := Lib.hid (fun (w1 w2 : World) (v2 : Value) hme hgr hr2 hg2 hv2 => hst.out.take hwk hf hmt (w1 := w1) (w2 := w2) (v2 := v2) (ob := .cells #[.int .i64 o.h, .int .i64 o.k, .int .i64 o.c, .bool o.s, .slice o.ra o.rl o.rc] 47) hme hgr hr2 hnr.size (fun x hx => hnr.wf hx) hg2 hv2)
          have HCN : Hid (c < maxLen) := (show c < maxLen by have := hst.out.cnt; unfold maxLen; omega)
          have hfu := hst.out.fuel
          have htl := todo_less hf hmt
          have hcn := hst.out.cnt
          have hgk : gk ≤ 1048576 := by omega
          have HO1 : Hid (n + o.rl ≤ maxLen) := (show n + o.rl ≤ maxLen by have := hnr.size; unfold maxLen; omega)
          have HO2 : Hid ((n + o.rl) * 8 ≤ 140737488355328) := (show (n + o.rl) * 8 ≤ 140737488355328 by have := hnr.size; omega)
          have HMMO : Hid (mm < wo.heap.size) := (show mm < wo.heap.size by have := hst.out.mm_; have := hst.out.big; omega)
          have HKX : Hid (Keeps [mm] wo wx) := (show Keeps [mm] wo wx by rw [hwx]; exact (Keeps.refl _ _).alloc _)
          have HBW : Hid (∀ W, Keeps [mm] wo W → Below B w W) := (show ∀ W, Keeps [mm] wo W → Below B w W from fun W hk => below_keeps hst.out.bel hk (by have := hst.out.big; have := hst.out.mo_; have := hst.out.mm_; omega) (by have := hst.out.mo_; simp; omega))
          rw [hwx] at HMX HXB HKX
          generalize hg work n = x at hcell hlk hlk2 hwf HF HNX
          unfold ObjV.agg at hlk
          clear hst hrd hwk hf hmt hwx hbx hkx hmx hom hnr hfu htl hcn HWX HBX
          have HWF := Lib.hid hwf
          go_wp2_with (first
            | (at_mapUpdate; refine wpList_store (by rfl) (.tmp 43) (.tmp 44) (.const (.bool true)) 67 rfl 3 4 ad_key Try.underlying3 Try.underlying67 mm c _ rfl HMX.out HCN.out x (.bool true) rfl rfl HWF.out ?_; intro w1 hme1 hgr1; have e4 : w1.cell? ⟨wo.heap.size, 4, none⟩ = some (.slice o.ra o.rl o.rc) := cell_of_block ((hgr1.block wo.heap.size (by rw [size_alloc]; omega) (fun e => by injection e with e; have := HMMO.out; omega)).trans HXB.out); have hk1 := HKX.out.trans (Keeps.of_grown hgr1 (List.mem_singleton_self _)); have HK1 := Lib.hid (And.intro hk1 hgr1); have HME1 := Lib.hid hme1; clear hme1 hgr1 hk1)
            | (at_builtin; refine wpList_row (by rfl) (.tmp 45) (.tmp 47) 23 rfl 3 i0 (.int .i64 0) 1 8 Try.underlying23 HI.out HZ0.out HZ1.out HZ2.out rfl (by decide) (.slice (some ⟨g, off, none⟩) n cap7) n (intC (work.take n)) rfl (HROW.out _ HK1.out.1) (.slice o.ra o.rl o.rc) o.rl (intC o.refs) rfl (hsrc.out _ (HBW.out _ HK1.out.1)) (intC_ok _) HO1.out HO2.out ?_))
          intro v2 w2 hr2 hg2 hv2
          have HFIN := Lib.hid (HNX.out w1 w2 v2 (HME1.out.congr fun y _ => by rw [← metV_add]) HK1.out.2 hr2 hg2 hv2)
          clear hr2 hg2 hv2
          go_wp2
          go_roundg (gk - 1)
          case measure => have := HGK.out; omega
          case rel => first | exact ⟨_, _, _, HFIN⟩ | ((repeat apply Exists.intro); exact ⟨⟨_, _, _, HFIN⟩, rfl⟩)
end Go.Proofs.Ytogifanooleppaa
