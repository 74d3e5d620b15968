/- audit's Counts: how many references there are to each. -/
import Derived.Test.YtogifanooleppaaAudReach
namespace Go.Proofs.Ytogifanooleppaa
open Go.RowKit Go.Maps
set_option linter.unusedVariables false

def cntV (f : Int → Nat) : Int → Option Value := fun y => if f y = 0 then none else some (.int .i64 (f y : Nat))
theorem cntV_get (f : Int → Nat) (y : Int) : (cntV f y).getD (.int .i64 0) = .int .i64 (f y : Nat) := by
  unfold cntV
  by_cases h : f y = 0
  · rw [if_pos h, h]; rfl
  · rw [if_neg h]; rfl
theorem cntV_add (f f' : Int → Nat) (x : Int) (h : ∀ y, f' y = f y + if x = y then 1 else 0) : (fun y => if y = x then some (Value.int .i64 ((f x : Nat) + 1 : Int)) else cntV f y) = cntV f' := by
  funext y
  have := h y
  unfold cntV
  by_cases e : y = x
  · subst e
    rw [if_pos rfl] at this
    rw [if_pos rfl, if_neg (by omega), this]
    rfl
  · rw [if_neg fun q => e q.symm] at this
    rw [if_neg e, this]
    rfl
theorem zero_int (W : World) : (zeroValue 3).run Try.prog W = .ok (.int .i64 0) W := by kernel_rfl
/-- how often each is referred to by the first k objects, and the first j references of one more -/
def partR (l : List ObjV) (k : Nat) (r : List Int) (j : Nat) : Int → Nat := fun y => countR (l.take k) y + (r.take j).count y
theorem partR_le {l : List ObjV} {k : Nat} {o : ObjV} (h : l[k]? = some o) (j : Nat) (y : Int) : partR l k o.refs j y ≤ refsN l := by
  have h1 : l.take (k + 1) = l.take k ++ [o] := by rw [List.take_add_one, h]; rfl
  have h2 := refsN_take_le l (k + 1)
  rw [h1, refsN_app] at h2
  have h3 := countR_le (l.take k) y
  have h4 := List.count_le_length (a := y) (l := o.refs.take j)
  rw [List.length_take] at h4
  simp only [refsN] at h2
  unfold partR
  omega
theorem partR_next {l : List ObjV} {k : Nat} {r : List Int} {j : Nat} (h : j < r.length) (y : Int) : partR l k r (j + 1) y = partR l k r j y + if hg r j = y then 1 else 0 := by
  unfold partR
  rw [List.take_add_one, hg_some h, List.count_append]
  simp only [Option.toList_some, List.count_singleton, beq_iff_eq]
  omega
theorem partR_over {l : List ObjV} {k : Nat} {o : ObjV} (h : l[k]? = some o) (r : List Int) (y : Int) : partR l k o.refs o.refs.length y = partR l (k + 1) r 0 y := by
  have h1 : l.take (k + 1) = l.take k ++ [o] := by rw [List.take_add_one, h]; rfl
  unfold partR
  rw [h1, countR_app, List.take_length, List.take_zero]
  simp [countR]
/-- where Counts stands -/
structure CtAt (B mc : Nat) (f : Int → Nat) (c : Nat) (w0 wr : World) : Prop where
  map : MapAt Try.prog wr 3 mc c (cntV f)
  bel : Below B w0 wr
  ge : B ≤ mc
theorem CtAt.below {B mc c : Nat} {f : Int → Nat} {w0 wr w1 : World} (h : CtAt B mc f c w0 wr) (hb : Below wr.heap.size wr w1) (hB : B ≤ wr.heap.size) : CtAt B mc f c w0 w1 :=
  ⟨h.map.keeps (Keeps.of_below hb (Nat.le_refl _) []) List.not_mem_nil, h.bel.trans (hb.mono hB), h.ge⟩
set_option maxRecDepth 100000 in
set_option maxHeartbeats 4000000 in
theorem counts_any (a : Option Addr) (len cap : Nat) (l : List ObjV) (w : World) (h : ObjsAt w a len cap l) (hl : len + refsN l ≤ 1048576) :
    Calls Try.prog 39 #[.slice a len cap] w (RowDone w (l.map fun o => ((countR l o.h : Nat) : Int))) := by
  obtain ⟨i0, hi, hz0, hz1, hz2⟩ := info_parts leastInfo1
  have HI := Lib.hid hi
  have HZ0 := Lib.hid hz0
  have HZ1 := Lib.hid hz1
  have HZ2 := Lib.hid hz2
  have HO := Lib.hid h
  have hlen := h.size
  have HCP := Lib.hid h.le
  have hmm := @run_makeMap Try.prog
  obtain ⟨B, hB⟩ : ∃ B, B = w.heap.size := ⟨_, rfl⟩
  have HB := Lib.hid hB
  have HM0 : Hid (CtAt B w.heap.size (partR l 0 [] 0) 0 w (w.alloc (.map #[] 0))) := (show CtAt B w.heap.size (partR l 0 [] 0) 0 w (w.alloc (.map #[] 0)) from
    ⟨(MapAt.made Try.prog w 3).congr fun x _ => by simp [cntV, partR, countR], by rw [hB]; exact (Below.refl _ _).alloc (Nat.le_refl _) _, by rw [hB]; exact Nat.le_refl _⟩)
  have HSB : Hid (∀ W, Below B w W → B ≤ W.heap.size) := (show ∀ W, Below B w W → B ≤ W.heap.size from fun W hb => by rw [HB.out]; exact hb.size)
  clear h hi hz0 hz1 hz2 hB
  go_enter Try.func39, Try.ntmps39
  go_wp2_with fail
  obtain ⟨w1, hw1⟩ : ∃ w1, w1 = w.alloc (.map #[] 0) := ⟨_, rfl⟩
  obtain ⟨mc, hmc⟩ : ∃ mc, mc = w.heap.size := ⟨_, rfl⟩
  rw [← hw1, ← hmc] at HM0 ⊢
  clear hw1 hmc
  go_loopw [14] (fun i wr => ∃ (k : Nat) (c : Nat), i = .int .i64 (k : Nat) ∧ k ≤ len ∧ c ≤ refsN (l.take k) ∧ Hid (CtAt B mc (partR l k [] 0) c w wr)) (fun i _ => len - (intOf i).toNat)
  case atStart => exact ⟨0, 0, rfl, Nat.zero_le _, Nat.zero_le _, HM0⟩
  case round =>
    obtain ⟨k, c, rfl, hk, hc, hs⟩ := hrel
    obtain ⟨wo, rfl⟩ : ∃ wo : World, wo = wr := ⟨_, rfl⟩
    by_cases hlt : k < len
    · obtain ⟨o, ho⟩ : ∃ o, l[k]? = some o := ⟨l[k]'(by omega), List.getElem?_eq_getElem (by omega)⟩
      obtain ⟨b, off, rfl, hbl, d0, d1, d2, d3, d4⟩ := HO.out.cell k o ho
      have tr : ∀ i v, w.cell? ⟨b, i, none⟩ = some v → wo.cell? ⟨b, i, none⟩ = some v := fun i v hv => (hs.out.bel.cell (p := ⟨b, i, none⟩) (by rw [HB.out]; exact hbl)).trans hv
      have c0 := tr _ _ d0
      have c1 := tr _ _ d1
      have c2 := tr _ _ d2
      have c3 := tr _ _ d3
      have c4 := tr _ _ d4
      have hi0 : (0 : Int) ≤ (k : Int) := by omega
      have hi1 : (k : Int) < (len : Int) := by omega
      have HOO := Lib.hid ho
      have hnr := HO.out.refs o (List.mem_of_getElem? ho)
      have HNR := Lib.hid hnr
      have hrl := hnr.size
      have htk : l.take (k + 1) = l.take k ++ [o] := by rw [List.take_add_one, ho]; rfl
      have hrt := refsN_take_le l (k + 1)
      rw [htk, refsN_app] at hrt
      simp only [refsN] at hrt
      obtain ⟨oh, ok, oc, os, ora, orl, orc, orefs⟩ := o
      dsimp only at c0 c1 c2 c3 c4 hrl HNR hrt
      have HST : Hid (∀ W, Below wo.heap.size wo W → CtAt B mc (partR l k orefs 0) c w W) := (show ∀ W, Below wo.heap.size wo W → CtAt B mc (partR l k orefs 0) c w W from fun W hb => by
        have := hs.out.below hb (HSB.out _ hs.out.bel)
        exact this)
      clear d0 d1 d2 d3 d4 tr ho hnr hs htk
      go_wp2_with fail
      have hcapl : orl ≤ 1048576 := by omega
      have HHT : Hid (refsN (l.take (k + 1)) = refsN (l.take k) + orl) := (show refsN (l.take (k + 1)) = refsN (l.take k) + orl by
        have : l.take (k + 1) = l.take k ++ [⟨oh, ok, oc, os, ora, orl, orc, orefs⟩] := by rw [List.take_add_one, HOO.out]; rfl
        rw [this, refsN_app]
        simp only [refsN]
        omega)
      go_loopw [21] (fun jv wr => ∃ (j : Nat) (c' : Nat), jv = .int .i64 (j : Nat) ∧ j ≤ orl ∧ c' ≤ refsN (l.take k) + j ∧ Hid (CtAt B mc (partR l k orefs j) c' w wr)) (fun jv _ => orl - (intOf jv).toNat)
      case atStart => exact ⟨0, c, rfl, Nat.zero_le _, by omega, HST.out _ ((Below.refl _ _).alloc (Nat.le_refl _) _)⟩
      case round =>
        obtain ⟨j, c', rfl, hj, hc', hs⟩ := hrel
        obtain ⟨wi, rfl⟩ : ∃ wi : World, wi = wr := ⟨_, rfl⟩
        by_cases hjl : j < orl
        · obtain ⟨b2, off2, rfl, hbl2, hcell0⟩ := HNR.out.ints.cell j hjl
          have hcell := (hs.out.bel.cell (p := ⟨b2, off2 + j, none⟩) (by rw [HB.out]; exact hbl2)).trans hcell0
          have hwf : (Lit.int .i64 (hg orefs j)).wf = true := HNR.out.ints.wf j hjl
          have hj0 : (0 : Int) ≤ (j : Int) := by omega
          have hj1 : (j : Int) < (orl : Int) := by omega
          have hlk := hs.out.map.look ad_key Try.underlying3 Try.underlying98 (zero_int wi) hwf
          rw [cntV_get] at hlk
          have hle := partR_le HOO.out j (hg orefs j)
          dsimp only at hle
          have HNX : Hid (∀ y, partR l k orefs (j + 1) y = partR l k orefs j y + if hg orefs j = y then 1 else 0) := (show ∀ y, partR l k orefs (j + 1) y = partR l k orefs j y + if hg orefs j = y then 1 else 0 from fun y => partR_next (by omega) y)
          have HFIN : Hid (∀ w1, MapAt Try.prog w1 3 mc (c' + 1) (fun y => if y = hg orefs j then some (Value.int .i64 ((partR l k orefs j (hg orefs j) : Nat) + 1 : Int)) else cntV (partR l k orefs j) y) → wi.grownBy w1 (some mc) → CtAt B mc (partR l k orefs (j + 1)) (c' + 1) w w1) := (show ∀ w1, MapAt Try.prog w1 3 mc (c' + 1) (fun y => if y = hg orefs j then some (Value.int .i64 ((partR l k orefs j (hg orefs j) : Nat) + 1 : Int)) else cntV (partR l k orefs j) y) → wi.grownBy w1 (some mc) → CtAt B mc (partR l k orefs (j + 1)) (c' + 1) w w1 from fun w1 hm hg1 =>
            ⟨by rw [cntV_add _ _ _ HNX.out] at hm; exact hm, below_keeps hs.out.bel (Keeps.of_grown hg1 (List.mem_singleton_self _)) (HSB.out _ hs.out.bel) (by have := hs.out.ge; simp; omega), hs.out.ge⟩)
          have HMP := Lib.hid hs.out.map
          have HCN : Hid (c' < maxLen) := (show c' < maxLen by unfold maxLen; omega)
          generalize hg orefs j = x at hcell hwf hlk hle HFIN HNX
          generalize partR l k orefs j x = cn at hlk hle HFIN
          clear hcell0 hs
          have HWF := Lib.hid hwf
          have hcn : cn ≤ 1048576 := by omega
          go_wp2_with (at_mapUpdate; refine wpList_store (by rfl) (.tmp 25) (.tmp 26) (.tmp 28) 98 rfl 3 3 ad_key Try.underlying3 Try.underlying98 mc c' _ rfl HMP.out HCN.out x (.int .i64 ((cn : Int) + 1)) rfl rfl HWF.out ?_)
          intro w1 hm1 hg1
          have HS1 := Lib.hid (HFIN.out w1 hm1 hg1)
          clear hm1 hg1
          go_wp2
          go_roundw
          case rel => first | exact ⟨j + 1, c' + 1, by go_num, by omega, by omega, HS1⟩ | ((repeat apply Exists.intro); exact ⟨⟨j + 1, c' + 1, by go_num, by omega, by omega, HS1⟩, rfl⟩)
          case measure => simp [intOf]; omega
        · obtain rfl : j = orl := by omega
          have HS1 : Hid (CtAt B mc (partR l (k + 1) [] 0) c' w wi) := (show CtAt B mc (partR l (k + 1) [] 0) c' w wi by
            have e : partR l (k + 1) [] 0 = partR l k orefs j := funext fun y => by
              rw [← hrl]
              exact (partR_over HOO.out [] y).symm
            rw [e]; exact hs.out)
          have hc2 : c' ≤ refsN (l.take (k + 1)) := by rw [HHT.out]; exact hc'
          clear hjl hs
          go_wp2
          go_roundw
          case rel => first | exact ⟨k + 1, c', by go_num, by omega, hc2, HS1⟩ | ((repeat apply Exists.intro); exact ⟨⟨k + 1, c', by go_num, by omega, hc2, HS1⟩, rfl⟩)
          case measure => simp [intOf]; omega
    · obtain rfl : k = len := by omega
      have HCT : Hid (∀ y, partR l k [] 0 y = countR l y) := (show ∀ y, partR l k [] 0 y = countR l y from fun y => by unfold partR; rw [List.take_of_length_le (by omega)]; simp)
      have HS := hs
      clear hlt hs hc
      go_wp2_with fail
      go_loopw [8, 33] (fun v i wr => ∃ (j : Nat), i = .int .i64 (j : Nat) ∧ j ≤ k ∧ Hid (AccI wo v ((l.take j).map fun o => ((countR l o.h : Nat) : Int)) wr)) (fun _ i _ => k - (intOf i).toNat)
      case atStart => exact ⟨0, rfl, Nat.zero_le _, AccI.start wo⟩
      case round =>
        obtain ⟨j, rfl, hj, ha⟩ := hrel
        obtain ⟨wi, rfl⟩ : ∃ wi : World, wi = wr := ⟨_, rfl⟩
        by_cases hjl : j < k
        · obtain ⟨o, ho⟩ : ∃ o, l[j]? = some o := ⟨l[j]'(by omega), List.getElem?_eq_getElem (by omega)⟩
          obtain ⟨b, off, rfl, hbl, d0, d1, d2, d3, d4⟩ := HO.out.cell j o ho
          have hbw : Below B w wi := HS.out.bel.trans (ha.out.bel.mono (HSB.out _ HS.out.bel))
          have tr : ∀ i v, w.cell? ⟨b, i, none⟩ = some v → wi.cell? ⟨b, i, none⟩ = some v := fun i v hv => (hbw.cell (p := ⟨b, i, none⟩) (by rw [HB.out]; exact hbl)).trans hv
          have c0 := tr _ _ d0
          have c1 := tr _ _ d1
          have c2 := tr _ _ d2
          have c3 := tr _ _ d3
          have c4 := tr _ _ d4
          have hi0 : (0 : Int) ≤ (j : Int) := by omega
          have hi1 : (j : Int) < (k : Int) := by omega
          have hwf : (Lit.int .i64 o.h).wf = true := HO.out.wf o (List.mem_of_getElem? ho)
          have hmx := (HS.out.map.keeps (Keeps.of_below ha.out.bel (Nat.le_refl _) []) List.not_mem_nil).keeps ((Keeps.refl [] wi).alloc (.cells #[.int .i64 o.h, .int .i64 o.k, .int .i64 o.c, .bool o.s, .slice o.ra o.rl o.rc] 47)) List.not_mem_nil
          have hlk := hmx.look ad_key Try.underlying3 Try.underlying98 (zero_int _) hwf
          rw [cntV_get, HCT.out] at hlk
          have HLS : Hid ((l.take (j + 1)).map (fun o => ((countR l o.h : Nat) : Int)) = (l.take j).map (fun o => ((countR l o.h : Nat) : Int)) ++ [((countR l o.h : Nat) : Int)]) := (show _ = _ by
            rw [List.take_add_one, ho, List.map_append]; rfl)
          have HLL : Hid (((l.take j).map fun o => ((countR l o.h : Nat) : Int)).length ≤ 1048576) := (show ((l.take j).map fun o => ((countR l o.h : Nat) : Int)).length ≤ 1048576 by rw [List.length_map, List.length_take]; omega)
          generalize countR l o.h = cn at hlk HLS
          generalize (l.take j).map (fun o => ((countR l o.h : Nat) : Int)) = acc at ha HLS HLL
          have HO1 : Hid (acc.length + 1 ≤ maxLen) := (show acc.length + 1 ≤ maxLen by have := HLL.out; unfold maxLen; omega)
          have HO2 : Hid ((acc.length + 1) * 8 ≤ 140737488355328) := (show (acc.length + 1) * 8 ≤ 140737488355328 by have := HLL.out; omega)
          obtain ⟨oh, ok, oc, os, ora, orl, orc, orefs⟩ := o
          dsimp only at c0 c1 c2 c3 c4 hlk
          have HBX : Hid (Below wi.heap.size wi (wi.alloc (.cells #[.int .i64 oh, .int .i64 ok, .int .i64 oc, .bool os, .slice ora orl orc] 47))) := (show Below wi.heap.size wi (wi.alloc (.cells #[.int .i64 oh, .int .i64 ok, .int .i64 oc, .bool os, .slice ora orl orc] 47)) from (Below.refl _ _).alloc (Nat.le_refl _) _)
          have HA1 := Lib.hid (ha.out.below HBX.out)
          clear d0 d1 d2 d3 d4 tr ho hmx ha hbw hwf
          go_wp2_with (at_builtin; refine wpList_row (by rfl) (.tmp 37) (.tmp 42) 23 rfl 3 i0 (.int .i64 0) 1 8 Try.underlying23 HI.out HZ0.out HZ1.out HZ2.out rfl (by decide) u8 acc.length (intC acc) rfl (HA1.out.src _) (.slice (some ⟨wi.heap.size + 1, 0, none⟩) 1 1) 1 [.int .i64 (cn : Nat)] rfl (by rw [← size_alloc]; exact new_one _ _ _) (one_of rfl) HO1.out HO2.out ?_)
          intro v2 w2 hr2 hg2 hv2
          have HA2 : Hid (AccI wo v2 ((l.take (j + 1)).map fun o => ((countR l o.h : Nat) : Int)) w2) := (show AccI wo v2 ((l.take (j + 1)).map fun o => ((countR l o.h : Nat) : Int)) w2 by rw [HLS.out]; exact HA1.out.push hr2 hg2 (by rw [size_alloc]; exact hv2))
          clear hr2 hg2 hv2
          go_wp2
          go_roundw
          case rel => first | exact ⟨j + 1, by go_num, by omega, HA2⟩ | ((repeat apply Exists.intro); exact ⟨⟨j + 1, by go_num, by omega, HA2⟩, rfl⟩)
          case measure => simp [intOf]; omega
        · obtain rfl : j = k := by omega
          have HF : Hid (RowDone w (l.map fun o => ((countR l o.h : Nat) : Int)) (.returned u8) wi) := (show RowDone w (l.map fun o => ((countR l o.h : Nat) : Int)) (.returned u8) wi by
            have := ha.out.done_from (w := w) (by rw [← HB.out]; exact HS.out.bel)
            rw [List.take_of_length_le (by omega)] at this
            exact this)
          clear hjl ha
          go_wp2
          go_ret
          exact HF.out
end Go.Proofs.Ytogifanooleppaa
