/- audit's Wrong: the objects of which what is said is not so. -/
import Derived.Test.YtogifanooleppaaAudCounts
import Derived.Deep.RegionHeld3
namespace Go.Proofs.Ytogifanooleppaa
open Go.RowKit Go.Maps
set_option linter.unusedVariables false

theorem bel_drewN {B : Nat} {w w' : World} (h : Below B w w') (k : Nat) : Below B w (w'.drewN k) := ⟨h.os, h.tape, h.output, h.size, h.block⟩
def wrongI (o : ObjV) (n : Int) (z : Bool) : Bool := if o.s then z else (o.c != n) || (z != (o.c == 0))
theorem wrongI_nat (o : ObjV) (n : Nat) (z : Bool) : wrongI o (n : Int) z = wrongB o n z := rfl
set_option maxRecDepth 100000 in
theorem wrongX_any (o : ObjV) (n : Int) (z : Bool) (w : World) :
    Calls Try.prog 65 #[.agg #[.int .i64 o.h, .int .i64 o.k, .int .i64 o.c, .bool o.s, .slice o.ra o.rl o.rc], .int .i64 n, .bool z] w fun e w' => e = .returned (.bool (wrongI o n z)) ∧ Below w.heap.size w w' := by
  obtain ⟨oh, ok, oc, os, ora, orl, orc, orefs⟩ := o
  have HB : Hid (∀ ob, Below w.heap.size w (w.alloc ob)) := (show ∀ ob, Below w.heap.size w (w.alloc ob) from fun ob => (Below.refl _ _).alloc (Nat.le_refl _) _)
  dsimp only
  cases os with
  | true =>
    go_enter Try.func65, Try.ntmps65
    go_wp2
    go_ret
    exact ⟨ret_bool (by simp [wrongI]), HB.out _⟩
  | false =>
    obtain ⟨b1, hb1⟩ : ∃ b1, (oc != n) = b1 := ⟨_, rfl⟩
    obtain ⟨b2, hb2⟩ : ∃ b2, (oc == 0) = b2 := ⟨_, rfl⟩
    have HE : Hid (wrongI ⟨oh, ok, oc, false, ora, orl, orc, orefs⟩ n z = (b1 || (z != b2))) := (show wrongI ⟨oh, ok, oc, false, ora, orl, orc, orefs⟩ n z = (b1 || (z != b2)) by rw [← hb1, ← hb2]; simp [wrongI])
    cases b1 <;> cases b2 <;> cases z
    all_goals
      go_enter Try.func65, Try.ntmps65
      go_wp2
      go_ret
      exact ⟨ret_bool (by rw [HE.out]; rfl), HB.out _⟩
/-- which have been looked at -/
def knF (l : List ObjV) (k : Nat) (y : Int) : Bool := (firstO (l.take k) y).isSome
/-- which were wrong -/
def outF (l : List ObjV) (zeros : List Int) (k : Nat) (y : Int) : Bool :=
  match firstO (l.take k) y with
  | some o => wrongB o (countR l y) (decide (y ∈ zeros))
  | none => false
section
variable {l : List ObjV} {zeros : List Int} {k : Nat} {o : ObjV} (h : l[k]? = some o)
include h
theorem first_next (y : Int) : firstO (l.take (k + 1)) y = (firstO (l.take k) y).or (if o.h = y then some o else none) := by
  have h1 : l.take (k + 1) = l.take k ++ [o] := by rw [List.take_add_one, h]; rfl
  rw [h1, firstO_app]
  simp only [firstO]
theorem knF_next : knF l (k + 1) = addB (knF l k) o.h := funext fun y => by
  unfold knF addB
  rw [first_next h y]
  by_cases e : y = o.h
  · subst e; simp
  · rw [if_neg fun q => e q.symm, Option.or_none, decide_eq_false e]; rfl
theorem outF_same (hk : knF l k o.h = true) : outF l zeros (k + 1) = outF l zeros k := funext fun y => by
  unfold outF
  rw [first_next h y]
  unfold knF at hk
  cases hf : firstO (l.take k) y with
  | some o2 => simp
  | none =>
    have e : o.h ≠ y := fun e => by rw [e, hf] at hk; cases hk
    rw [if_neg e]; rfl
theorem outF_next (hk : knF l k o.h = false) (y : Int) : outF l zeros (k + 1) y = if y = o.h then wrongB o (countR l y) (decide (y ∈ zeros)) else outF l zeros k y := by
  unfold outF
  rw [first_next h y]
  unfold knF at hk
  by_cases e : y = o.h
  · subst e
    have : firstO (l.take k) o.h = none := by cases hf : firstO (l.take k) o.h <;> simp_all
    rw [this, if_pos rfl, if_pos rfl]; rfl
  · rw [if_neg fun q => e q.symm, if_neg e, Option.or_none]
theorem outF_no (hk : knF l k o.h = false) (hw : wrongB o (countR l o.h) (decide (o.h ∈ zeros)) = false) : outF l zeros (k + 1) = outF l zeros k := funext fun y => by
  rw [outF_next h hk]
  by_cases e : y = o.h
  · subst e
    rw [if_pos rfl, hw]
    unfold outF
    unfold knF at hk
    have : firstO (l.take k) o.h = none := by cases hf : firstO (l.take k) o.h <;> simp_all
    rw [this]
  · rw [if_neg e]
theorem outF_yes (hk : knF l k o.h = false) (hw : wrongB o (countR l o.h) (decide (o.h ∈ zeros)) = true) : outF l zeros (k + 1) = addB (outF l zeros k) o.h := funext fun y => by
  rw [outF_next h hk]
  unfold addB
  by_cases e : y = o.h
  · subst e; rw [if_pos rfl, hw]; simp
  · rw [if_neg e, decide_eq_false e]; rfl
end
/-- which are wrong, with the first j of zeros looked at -/
def outZ (l : List ObjV) (zeros : List Int) (j : Nat) (y : Int) : Bool := outF l zeros l.length y || (decide (y ∈ zeros.take j) && !knF l l.length y)
theorem outZ_zero (l : List ObjV) (zeros : List Int) : outF l zeros l.length = outZ l zeros 0 := funext fun y => by simp [outZ]
theorem outZ_next {l : List ObjV} {zeros : List Int} {j : Nat} (h : j < zeros.length) : outZ l zeros (j + 1) = if knF l l.length (hg zeros j) then outZ l zeros j else addB (outZ l zeros j) (hg zeros j) := by
  have hm : ∀ y, y ∈ zeros.take (j + 1) ↔ y ∈ zeros.take j ∨ y = hg zeros j := fun y => by
    rw [List.take_add_one, hg_some h, List.mem_append]; simp
  by_cases hk : knF l l.length (hg zeros j) = true
  · rw [if_pos hk]
    funext y
    unfold outZ
    by_cases e : y = hg zeros j
    · subst e; rw [hk]; simp
    · rw [show decide (y ∈ zeros.take (j + 1)) = decide (y ∈ zeros.take j) by rw [decide_eq_decide, hm]; simp [e]]
  · rw [if_neg hk]
    have hk' : knF l l.length (hg zeros j) = false := by simpa using hk
    funext y
    unfold outZ addB
    by_cases e : y = hg zeros j
    · subst e
      rw [hk', decide_eq_true ((hm _).2 (.inr rfl))]
      simp
    · rw [show decide (y ∈ zeros.take (j + 1)) = decide (y ∈ zeros.take j) by rw [decide_eq_decide, hm]; simp [e], decide_eq_false e]
      rfl
theorem outZ_all (l : List ObjV) (zeros : List Int) (y : Int) : outZ l zeros zeros.length y = wrongP l zeros y := by
  unfold outZ outF knF wrongP
  rw [List.take_length, List.take_length]
  cases firstO l y <;> simp
/-- where Wrong stands -/
structure WgAt (B mz mk mo : Nat) (zeros : List Int) (kn out : Int → Bool) (ck co : Nat) (vc : Value) (D : List Int) (w0 wr : World) : Prop where
  zs : MapAt Try.prog wr 3 mz zeros.length (metV (fun y => decide (y ∈ zeros)))
  ks : MapAt Try.prog wr 3 mk ck (metV kn)
  os : MapAt Try.prog wr 3 mo co (metV out)
  cts : RowS wr 1 vc D.length (intC D)
  own : ∀ g, vc.ownBlock = some g → mo < g
  bel : Below B w0 wr
  ge : B ≤ mz ∧ mz < mk ∧ mk < mo
  le : B ≤ wr.heap.size
section
variable {B mz mk mo ck co : Nat} {zeros D : List Int} {kn out : Int → Bool} {vc : Value} {w0 wr w1 : World}
theorem WgAt.below (h : WgAt B mz mk mo zeros kn out ck co vc D w0 wr) (hb : Below wr.heap.size wr w1) : WgAt B mz mk mo zeros kn out ck co vc D w0 w1 :=
  have k := Keeps.of_below hb (Nat.le_refl _) []
  ⟨h.zs.keeps k List.not_mem_nil, h.ks.keeps k List.not_mem_nil, h.os.keeps k List.not_mem_nil, h.cts.keeps k fun _ _ => List.not_mem_nil, h.own, h.bel.trans (hb.mono h.le), h.ge, Nat.le_trans h.le hb.size⟩
theorem WgAt.known (h : WgAt B mz mk mo zeros kn out ck co vc D w0 wr) {x : Int} (hm : MapAt Try.prog w1 3 mk (ck + 1) (fun y => if y = x then some (.bool true) else metV kn y)) (hg : wr.grownBy w1 (some mk)) : WgAt B mz mk mo zeros (addB kn x) out (ck + 1) co vc D w0 w1 := by
  have ge := h.ge
  have k : Keeps [mk] wr w1 := Keeps.of_grown hg (List.mem_singleton_self _)
  rw [metV_add] at hm
  exact ⟨h.zs.keeps k (by simp; omega), hm, h.os.keeps k (by simp; omega), h.cts.keeps k (fun g hg => by have := h.own g hg; simp; omega), h.own, below_keeps h.bel k h.le (by simp; omega), h.ge, Nat.le_trans h.le k.size⟩
theorem WgAt.outs (h : WgAt B mz mk mo zeros kn out ck co vc D w0 wr) {x : Int} (hm : MapAt Try.prog w1 3 mo (co + 1) (fun y => if y = x then some (.bool true) else metV out y)) (hg : wr.grownBy w1 (some mo)) : WgAt B mz mk mo zeros kn (addB out x) ck (co + 1) vc D w0 w1 := by
  have ge := h.ge
  have k : Keeps [mo] wr w1 := Keeps.of_grown hg (List.mem_singleton_self _)
  rw [metV_add] at hm
  exact ⟨h.zs.keeps k (by simp; omega), h.ks.keeps k (by simp; omega), hm, h.cts.keeps k (fun g hg => by have := h.own g hg; simp; omega), h.own, below_keeps h.bel k h.le (by simp; omega), h.ge, Nat.le_trans h.le k.size⟩
end
set_option maxRecDepth 100000 in
set_option maxHeartbeats 8000000 in
theorem wrong_any (a a2 : Option Addr) (len cap len2 cap2 : Nat) (l : List ObjV) (zeros S : List Int) (w : World) (h : ObjsAt w a len cap l) (h2 : NumsAt w a2 len2 cap2 zeros) (hl : len + len2 + refsN l ≤ 524288) (hS : S.Pairwise (· < ·)) (hm : ∀ x, x ∈ S ↔ wrongP l zeros x = true) :
    Calls Try.prog 41 #[.slice a len cap, .slice a2 len2 cap2] w (RowDone w S) := by
  have HO := Lib.hid h
  have HR := Lib.hid h2
  have hlen := h.size
  have hlen2 := h2.size
  have HCP := Lib.hid h.le
  have HCP2 := Lib.hid h2.ints.le
  have HSM := Lib.hid (And.intro hS hm)
  have hmm := @run_makeMap Try.prog
  obtain ⟨B, hB⟩ : ∃ B, B = w.heap.size := ⟨_, rfl⟩
  have HB := Lib.hid hB
  have HSB : Hid (∀ W, Below B w W → B ≤ W.heap.size) := (show ∀ W, Below B w W → B ≤ W.heap.size from fun W hb => by rw [HB.out]; exact hb.size)
  obtain ⟨w1, hw1⟩ : ∃ w1, w1 = ((w.alloc (.map #[] 0)).alloc (.map #[] 0)).alloc (.map #[] 0) := ⟨_, rfl⟩
  obtain ⟨mz, hmz⟩ : ∃ mz, mz = w.heap.size := ⟨_, rfl⟩
  have HM0 : Hid (MapAt Try.prog w1 3 mz 0 (metV (fun y => decide (y ∈ zeros.take 0))) ∧ MapAt Try.prog w1 3 (mz + 1) 0 (metV (knF l 0)) ∧ MapAt Try.prog w1 3 (mz + 1 + 1) 0 (metV (outF l zeros 0)) ∧ Below B w w1 ∧ B ≤ mz ∧ mz + 3 ≤ w1.heap.size) := (show _ ∧ _ ∧ _ ∧ _ ∧ _ ∧ _ by
    have e1 := size_alloc w (.map #[] 0)
    have e2 := size_alloc (w.alloc (.map #[] 0)) (.map #[] 0)
    have k : ∀ W, Keeps [] W (W.alloc (.map #[] 0)) := fun W => (Keeps.refl [] W).alloc _
    refine ⟨?_, ?_, ?_, ?_, by omega, ?_⟩
    · rw [hw1, hmz]
      exact ((((MapAt.made Try.prog w 3).keeps (k _) List.not_mem_nil).keeps (k _) List.not_mem_nil)).congr fun x _ => by simp [metV]
    · have := ((MapAt.made Try.prog (w.alloc (.map #[] 0)) 3).keeps (k _) List.not_mem_nil).congr (g := metV (knF l 0)) fun x _ => by simp [metV, knF, firstO]
      rw [e1] at this
      rw [hw1, hmz]; exact this
    · have := (MapAt.made Try.prog ((w.alloc (.map #[] 0)).alloc (.map #[] 0)) 3).congr (g := metV (outF l zeros 0)) fun x _ => by simp [metV, outF, firstO]
      rw [e2, e1] at this
      rw [hw1, hmz]; exact this
    · rw [hw1, hB]
      exact (((Below.refl _ w).alloc (Nat.le_refl _) _).alloc (by simp) _).alloc (by simp; omega) _
    · rw [hw1, hmz]; simp)
  have HW1 := Lib.hid hw1
  have HMZ := Lib.hid hmz
  clear h h2 hS hm hB hw1 hmz
  go_enter Try.func41, Try.ntmps41
  go_wp2_with fail
  rw [← HW1.out, ← HMZ.out]
  go_loopw [20] (fun i wr => ∃ (k : Nat), i = .int .i64 (k : Nat) ∧ k ≤ len2 ∧ Hid (MapAt Try.prog wr 3 mz k (metV (fun y => decide (y ∈ zeros.take k))) ∧ MapAt Try.prog wr 3 (mz + 1) 0 (metV (knF l 0)) ∧ MapAt Try.prog wr 3 (mz + 1 + 1) 0 (metV (outF l zeros 0)) ∧ Below B w wr ∧ B ≤ mz ∧ mz + 3 ≤ wr.heap.size)) (fun i _ => len2 - (intOf i).toNat)
  case atStart => exact ⟨0, rfl, Nat.zero_le _, HM0⟩
  case round =>
    obtain ⟨k, rfl, hk, hs⟩ := hrel
    obtain ⟨wo, rfl⟩ : ∃ wo : World, wo = wr := ⟨_, rfl⟩
    by_cases hlt : k < len2
    · obtain ⟨b, off, rfl, hbl, hcell0⟩ := HR.out.ints.cell k hlt
      have hcell := (hs.out.2.2.2.1.cell (p := ⟨b, off + k, none⟩) (by rw [HB.out]; exact hbl)).trans hcell0
      have hwf : (Lit.int .i64 (hg zeros k)).wf = true := HR.out.ints.wf k hlt
      have hi0 : (0 : Int) ≤ (k : Int) := by omega
      have hi1 : (k : Int) < (len2 : Int) := by omega
      have HMP := Lib.hid hs.out.1
      have HCN : Hid (k < maxLen) := (show k < maxLen by unfold maxLen; omega)
      have HFIN : Hid (∀ w1, MapAt Try.prog w1 3 mz (k + 1) (fun y => if y = hg zeros k then some (.bool true) else metV (fun y => decide (y ∈ zeros.take k)) y) → wo.grownBy w1 (some mz) → MapAt Try.prog w1 3 mz (k + 1) (metV (fun y => decide (y ∈ zeros.take (k + 1)))) ∧ MapAt Try.prog w1 3 (mz + 1) 0 (metV (knF l 0)) ∧ MapAt Try.prog w1 3 (mz + 1 + 1) 0 (metV (outF l zeros 0)) ∧ Below B w w1 ∧ B ≤ mz ∧ mz + 3 ≤ w1.heap.size) := (show ∀ w1, _ → _ → _ from fun w1 hm hg1 => by
        obtain ⟨_, s2, s3, s4, s5, s6⟩ := hs.out
        have kk : Keeps [mz] wo w1 := Keeps.of_grown hg1 (List.mem_singleton_self _)
        refine ⟨?_, s2.keeps kk (by simp), s3.keeps kk (by simp; omega), below_keeps s4 kk (HSB.out _ s4) (by simp; omega), s5, Nat.le_trans s6 kk.size⟩
        rw [metV_add] at hm
        refine hm.congr fun y _ => ?_
        have e : decide (y ∈ zeros.take (k + 1)) = addB (fun y => decide (y ∈ zeros.take k)) (hg zeros k) y := by
          rw [List.take_add_one, hg_some (by omega)]
          unfold addB
          rw [Bool.eq_iff_iff]
          simp only [Option.toList_some, List.mem_append, List.mem_singleton, decide_eq_true_eq, Bool.or_eq_true]
          exact Or.comm
        exact congrArg (fun b : Bool => if b then some (Value.bool true) else none) e.symm)
      generalize hg zeros k = x at hcell hwf HFIN
      clear hcell0 hs
      have HWF := Lib.hid hwf
      go_wp2_with (at_mapUpdate; refine wpList_store (by rfl) (.tmp 24) (.tmp 25) (.const (.bool true)) 67 rfl 3 4 ad_key Try.underlying3 Try.underlying67 mz k _ rfl HMP.out HCN.out x (.bool true) rfl rfl HWF.out ?_)
      intro w2 hm1 hg1
      have HS1 := Lib.hid (HFIN.out w2 hm1 hg1)
      clear hm1 hg1
      go_wp2
      go_roundw
      case rel => first | exact ⟨k + 1, by go_num, by omega, HS1⟩ | ((repeat apply Exists.intro); exact ⟨⟨k + 1, by go_num, by omega, HS1⟩, rfl⟩)
      case measure => simp [intOf]; omega
    · obtain rfl : k = len2 := by omega
      have HCT := Lib.hid (counts_any a len cap l wo (HO.out.below (by rw [← HB.out]; exact hs.out.2.2.2.1)) (by omega))
      clear hlt
      go_wp2_with fail
      refine HCT.out.mono ?_
      rintro e w3 ⟨vc, rfl, hr3, hg3, hb3⟩
      have HWG : Hid (WgAt B mz (mz + 1) (mz + 1 + 1) zeros (knF l 0) (outF l zeros 0) 0 0 vc (l.map fun o => ((countR l o.h : Nat) : Int)) w w3) := (show WgAt B mz (mz + 1) (mz + 1 + 1) zeros (knF l 0) (outF l zeros 0) 0 0 vc (l.map fun o => ((countR l o.h : Nat) : Int)) w w3 by
        obtain ⟨s1, s2, s3, s4, s5, s6⟩ := hs.out
        have kk := Keeps.of_below hb3 (Nat.le_refl _) []
        have hle := HSB.out _ s4
        refine ⟨?_, s2.keeps kk List.not_mem_nil, s3.keeps kk List.not_mem_nil, hr3, fun g hg => by have := hg3 g hg; omega, s4.trans (hb3.mono hle), ⟨s5, by omega, by omega⟩, Nat.le_trans hle hb3.size⟩
        have := s1.keeps kk List.not_mem_nil
        rw [List.take_of_length_le (by omega)] at this
        rw [hlen2]; exact this)
      obtain ⟨mk, hmk⟩ : ∃ mk, mk = mz + 1 := ⟨_, rfl⟩
      obtain ⟨mo, hmo⟩ : ∃ mo, mo = mz + 1 + 1 := ⟨_, rfl⟩
      obtain ⟨ac, cc, rfl, hcc1, hcc2, _, _⟩ := hr3.read
      rw [← hmo, ← hmk] at HWG ⊢
      clear hr3 hg3 hb3 hs hmk hmo HM0 HCT
      go_wp2_with fail
      clear hcc1 hcc2
      obtain ⟨D, hD⟩ : ∃ D, D = l.map fun o => ((countR l o.h : Nat) : Int) := ⟨_, rfl⟩
      have HDL : Hid (D.length = len ∧ ∀ j o, l[j]? = some o → hg D j = ((countR l o.h : Nat) : Int)) := (show D.length = len ∧ ∀ j o, l[j]? = some o → hg D j = ((countR l o.h : Nat) : Int) from ⟨by rw [hD, List.length_map]; exact hlen, fun j o ho => by unfold hg; rw [hD, List.getElem?_map, ho]; rfl⟩)
      rw [← hD] at HWG
      rw [HDL.out.1] at HWG
      clear hD
      go_loopw [31] (fun i wr => ∃ (j ck co : Nat), i = .int .i64 (j : Nat) ∧ j ≤ len ∧ ck ≤ j ∧ co ≤ j ∧ Hid (WgAt B mz mk mo zeros (knF l j) (outF l zeros j) ck co (.slice ac len cc) D w wr)) (fun i _ => len - (intOf i).toNat)
      case atStart => exact ⟨0, 0, 0, rfl, Nat.zero_le _, Nat.le_refl _, Nat.le_refl _, HWG⟩
      case round =>
        obtain ⟨j, ck, co, rfl, hj, hck, hco, hs⟩ := hrel
        obtain ⟨wo, rfl⟩ : ∃ wo : World, wo = wr := ⟨_, rfl⟩
        by_cases hjl : j < len
        · obtain ⟨o, ho⟩ : ∃ o, l[j]? = some o := ⟨l[j]'(by omega), List.getElem?_eq_getElem (by omega)⟩
          obtain ⟨b, off, rfl, hbl, d0, d1, d2, d3, d4⟩ := HO.out.cell j o ho
          have tr : ∀ i v, w.cell? ⟨b, i, none⟩ = some v → wo.cell? ⟨b, i, none⟩ = some v := fun i v hv => (hs.out.bel.cell (p := ⟨b, i, none⟩) (by rw [HB.out]; exact hbl)).trans hv
          have c0 := tr _ _ d0
          have c1 := tr _ _ d1
          have c2 := tr _ _ d2
          have c3 := tr _ _ d3
          have c4 := tr _ _ d4
          have hi0 : (0 : Int) ≤ (j : Int) := by omega
          have hi1 : (j : Int) < (len : Int) := by omega
          have hwf : (Lit.int .i64 o.h).wf = true := HO.out.wf o (List.mem_of_getElem? ho)
          have hcts := hs.out.cts
          rw [HDL.out.1] at hcts
          obtain ⟨gq, offq, rfl, hgq, hcq⟩ := row_cell hcts HDL.out.1.symm hjl
          rw [HDL.out.2 j o ho] at hcq
          obtain ⟨ob, hob⟩ : ∃ ob, ob = Obj.cells #[.int .i64 o.h, .int .i64 o.k, .int .i64 o.c, .bool o.s, .slice o.ra o.rl o.rc] 47 := ⟨_, rfl⟩
          obtain ⟨kb, hkb⟩ : ∃ kb, knF l j o.h = kb := ⟨_, rfl⟩
          obtain ⟨zb, hzb⟩ : ∃ zb, decide (o.h ∈ zeros) = zb := ⟨_, rfl⟩
          obtain ⟨cn, hcn⟩ : ∃ cn, countR l o.h = cn := ⟨_, rfl⟩
          rw [hcn] at hcq
          have HSX : Hid (∀ W, Below wo.heap.size wo W → W.heap[wo.heap.size]? = some (.cells #[.int .i64 o.h, .int .i64 o.k, .int .i64 o.c, .bool o.s, .slice o.ra o.rl o.rc] 47 (0, 0)) →
              ((W.cell? ⟨wo.heap.size, 0, none⟩ = some (.int .i64 o.h) ∧ W.cell? ⟨wo.heap.size, 1, none⟩ = some (.int .i64 o.k) ∧ W.cell? ⟨wo.heap.size, 2, none⟩ = some (.int .i64 o.c) ∧ W.cell? ⟨wo.heap.size, 3, none⟩ = some (.bool o.s) ∧ W.cell? ⟨wo.heap.size, 4, none⟩ = some (.slice o.ra o.rl o.rc)) ∧
                W.cell? ⟨gq, offq + j, none⟩ = some (.int .i64 (cn : Nat)) ∧ (Instr.lookup 67 (.map (some mk)) (.int .i64 o.h) false).run Try.prog W = .ok (.bool kb) W ∧ (Instr.lookup 67 (.map (some mz)) (.int .i64 o.h) false).run Try.prog W = .ok (.bool zb) W)) := (show ∀ W, _ → _ → _ from fun W hb hx => by
            have hw := hs.out.below hb
            have k1 := hw.ks.look ad_key Try.underlying3 Try.underlying67 (ad_zero W) hwf
            have k2 := hw.zs.look ad_key Try.underlying3 Try.underlying67 (ad_zero W) hwf
            rw [metV_get] at k1 k2
            rw [hkb] at k1
            rw [hzb] at k2
            exact ⟨⟨cell_of_block hx, cell_of_block hx, cell_of_block hx, cell_of_block hx, cell_of_block hx⟩, (hb.cell (p := ⟨gq, offq + j, none⟩) hgq).trans hcq, k1, k2⟩)
          have HNXK : Hid (knF l (j + 1) = addB (knF l j) o.h) := knF_next ho
          have HNXO : Hid (outF l zeros (j + 1) = if kb = false ∧ wrongI o cn zb = true then addB (outF l zeros j) o.h else outF l zeros j) := (show outF l zeros (j + 1) = if kb = false ∧ wrongI o cn zb = true then addB (outF l zeros j) o.h else outF l zeros j by
            cases kb with
            | true => rw [if_neg (by simp)]; exact outF_same ho hkb
            | false =>
              cases hwI : wrongI o cn zb with
              | true => rw [if_pos ⟨rfl, rfl⟩]; exact outF_yes ho hkb (by rw [hcn, hzb]; exact hwI)
              | false => rw [if_neg (by simp)]; exact outF_no ho hkb (by rw [hcn, hzb]; exact hwI))
          have HCK : Hid (ck < maxLen) := (show ck < maxLen by unfold maxLen; omega)
          have HCO : Hid (co < maxLen) := (show co < maxLen by unfold maxLen; omega)
          have HWF := Lib.hid hwf
          have HWR := Lib.hid (fun W => wrongX_any o cn zb W)
          have HS := hs
          have HGM : Hid (mk < wo.heap.size ∧ mo < wo.heap.size) := (show mk < wo.heap.size ∧ mo < wo.heap.size from ⟨hs.out.ks.lt, hs.out.os.lt⟩)
          clear hkb hzb hcn hob hcts hcq hs ho d0 d1 d2 d3 d4 tr hwf
          obtain ⟨oh, ok, oc, os, ora, orl, orc, orefs⟩ := o
          dsimp only at c0 c1 c2 c3 c4 HSX HNXK HWF HWR
          have HBX : Hid (Below wo.heap.size wo (wo.alloc (.cells #[.int .i64 oh, .int .i64 ok, .int .i64 oc, .bool os, .slice ora orl orc] 47)).drew) := (show Below wo.heap.size wo (wo.alloc (.cells #[.int .i64 oh, .int .i64 ok, .int .i64 oc, .bool os, .slice ora orl orc] 47)).drew from ((Below.refl _ _).alloc (Nat.le_refl _) _).drew)
          have q0 := HSX.out _ HBX.out (show (wo.alloc (.cells #[.int .i64 oh, .int .i64 ok, .int .i64 oc, .bool os, .slice ora orl orc] 47)).drew.heap[wo.heap.size]? = _ from heap_alloc_at _ _)
          have HX0 : Hid ((wo.alloc (.cells #[.int .i64 oh, .int .i64 ok, .int .i64 oc, .bool os, .slice ora orl orc] 47)).drew.heap[wo.heap.size]? = some (.cells #[.int .i64 oh, .int .i64 ok, .int .i64 oc, .bool os, .slice ora orl orc] 47 (0, 0))) := (show (wo.alloc (.cells #[.int .i64 oh, .int .i64 ok, .int .i64 oc, .bool os, .slice ora orl orc] 47)).drew.heap[wo.heap.size]? = _ from heap_alloc_at _ _)
          cases kb with
          | true =>
            rw [if_neg (by simp)] at HNXO
            clear HWR
            have hq1 : ∀ n, (Instr.lookup 67 (.map (some mk)) (.int .i64 oh) false).run Try.prog ((wo.alloc (.cells #[.int .i64 oh, .int .i64 ok, .int .i64 oc, .bool os, .slice ora orl orc] 47)).drewN n) = .ok (.bool true) ((wo.alloc (.cells #[.int .i64 oh, .int .i64 ok, .int .i64 oc, .bool os, .slice ora orl orc] 47)).drewN n) := fun n => (HSX.out _ (bel_drewN ((Below.refl _ _).alloc (Nat.le_refl _) _) n) (heap_alloc_at _ _)).2.2.1
            clear q0
            go_wp2_with fail
            go_quiet (fail)
            have HW5 := Lib.hid (fun n => HS.out.below (bel_drewN (Below.refl wo.heap.size wo |>.alloc (Nat.le_refl _) (.cells #[.int .i64 oh, .int .i64 ok, .int .i64 oc, .bool os, .slice ora orl orc] 47)) n))
            clear hq1
            go_wp2_with (at_mapUpdate; refine wpList_store (by rfl) (.tmp 56) (.tmp 58) (.const (.bool true)) 67 rfl 3 4 ad_key Try.underlying3 Try.underlying67 mk ck _ rfl (HW5.out _).ks HCK.out oh (.bool true) rfl rfl HWF.out ?_)
            intro w7 hm7 hg7
            have HW6 := Lib.hid (HW5.out nq)
            have HS7 : Hid (WgAt B mz mk mo zeros (knF l (j + 1)) (outF l zeros (j + 1)) (ck + 1) co (.slice (some ⟨gq, offq, none⟩) len cc) D w w7) := (show WgAt B mz mk mo zeros (knF l (j + 1)) (outF l zeros (j + 1)) (ck + 1) co (.slice (some ⟨gq, offq, none⟩) len cc) D w w7 by
              rw [HNXK.out, HNXO.out]; exact HW6.out.known hm7 hg7)
            clear hm7 hg7
            go_wp2
            go_roundw
            case rel => first | exact ⟨j + 1, ck + 1, co, by go_num, by omega, by omega, by omega, HS7⟩ | ((repeat apply Exists.intro); exact ⟨⟨j + 1, ck + 1, co, by go_num, by omega, by omega, by omega, HS7⟩, rfl⟩)
            case measure => simp [intOf]; omega
          | false =>
            obtain ⟨wb, hwb⟩ : ∃ wb, wrongI ⟨oh, ok, oc, os, ora, orl, orc, orefs⟩ cn zb = wb := ⟨_, rfl⟩
            rw [hwb] at HNXO HWR
            clear hwb
            go_wp2_with fail
            go_region_held3 (fun W => ((W.cell? ⟨wo.heap.size, 0, none⟩ = some (.int .i64 oh) ∧ W.cell? ⟨wo.heap.size, 1, none⟩ = some (.int .i64 ok) ∧ W.cell? ⟨wo.heap.size, 2, none⟩ = some (.int .i64 oc) ∧ W.cell? ⟨wo.heap.size, 3, none⟩ = some (.bool os) ∧ W.cell? ⟨wo.heap.size, 4, none⟩ = some (.slice ora orl orc)) ∧ W.cell? ⟨gq, offq + j, none⟩ = some (.int .i64 (cn : Nat)) ∧ (Instr.lookup 67 (.map (some mk)) (.int .i64 oh) false).run Try.prog W = .ok (.bool false) W ∧ (Instr.lookup 67 (.map (some mz)) (.int .i64 oh) false).run Try.prog W = .ok (.bool zb) W))
              (first | exact q0 | exact q5 | go_keep)
              (first
                | (go_at_call 65
                   refine (HWR.out _).mono ?_
                   rintro e w5 ⟨rfl, hb5⟩
                   have b5 := hb5.block wo.heap.size (show wo.heap.size < (wo.alloc (.cells #[.int .i64 oh, .int .i64 ok, .int .i64 oc, .bool os, .slice ora orl orc] 47)).heap.size by rw [size_alloc]; omega)
                   have q5 := HSX.out w5 (HBX.out.trans (hb5.mono HBX.out.size)) (b5.trans HX0.out)))
            have HW5 := Lib.hid (HS.out.below (HBX.out.trans (hb5.mono HBX.out.size)))
            have HX5 := Lib.hid (b5.trans HX0.out)
            have e0 : w5.cell? ⟨wo.heap.size, 0, none⟩ = some (.int .i64 oh) := cell_of_block HX5.out
            clear hb5 b5 q5 q0
            cases wb with
            | false =>
              rw [if_neg (by simp)] at HNXO
              go_wp2_with (at_mapUpdate; refine wpList_store (by rfl) (.tmp 56) (.tmp 58) (.const (.bool true)) 67 rfl 3 4 ad_key Try.underlying3 Try.underlying67 mk ck _ rfl HW5.out.ks HCK.out oh (.bool true) rfl rfl HWF.out ?_)
              intro w7 hm7 hg7
              have HS7 : Hid (WgAt B mz mk mo zeros (knF l (j + 1)) (outF l zeros (j + 1)) (ck + 1) (co) (.slice (some ⟨gq, offq, none⟩) len cc) D w w7) := (show WgAt B mz mk mo zeros (knF l (j + 1)) (outF l zeros (j + 1)) (ck + 1) (co) (.slice (some ⟨gq, offq, none⟩) len cc) D w w7 by
                rw [HNXK.out, HNXO.out]; exact HW5.out.known hm7 hg7)
              clear hm7 hg7
              go_wp2
              go_roundw
              case rel => first | exact ⟨j + 1, ck + 1, co, by go_num, by omega, by omega, by omega, HS7⟩ | ((repeat apply Exists.intro); exact ⟨⟨j + 1, ck + 1, co, by go_num, by omega, by omega, by omega, HS7⟩, rfl⟩)
              case measure => simp [intOf]; omega
            | true =>
              rw [if_pos (by simp)] at HNXO
              go_wp2_with (first
                | (at_mapUpdate; refine wpList_store (by rfl) (.tmp 53) (.tmp 55) (.const (.bool true)) 67 rfl 3 4 ad_key Try.underlying3 Try.underlying67 mo co _ rfl HW5.out.os HCO.out oh (.bool true) rfl rfl HWF.out ?_; intro w6 hm6 hg6; have e06 : w6.cell? ⟨wo.heap.size, 0, none⟩ = some (.int .i64 oh) := cell_of_block ((hg6.block _ (Array.getElem?_eq_some_iff.1 HX5.out).1 (fun e => by injection e with e; have := HGM.out; omega)).trans HX5.out); have HW6 := Lib.hid (HW5.out.outs hm6 hg6); clear hm6 hg6)
                | (at_mapUpdate; refine wpList_store (by rfl) (.tmp 56) (.tmp 58) (.const (.bool true)) 67 rfl 3 4 ad_key Try.underlying3 Try.underlying67 mk ck _ rfl HW6.out.ks HCK.out oh (.bool true) rfl rfl HWF.out ?_))
              intro w7 hm7 hg7
              have HS7 : Hid (WgAt B mz mk mo zeros (knF l (j + 1)) (outF l zeros (j + 1)) (ck + 1) (co + 1) (.slice (some ⟨gq, offq, none⟩) len cc) D w w7) := (show WgAt B mz mk mo zeros (knF l (j + 1)) (outF l zeros (j + 1)) (ck + 1) (co + 1) (.slice (some ⟨gq, offq, none⟩) len cc) D w w7 by
                rw [HNXK.out, HNXO.out]; exact HW6.out.known hm7 hg7)
              clear hm7 hg7
              go_wp2
              go_roundw
              case rel => first | exact ⟨j + 1, ck + 1, co + 1, by go_num, by omega, by omega, by omega, HS7⟩ | ((repeat apply Exists.intro); exact ⟨⟨j + 1, ck + 1, co + 1, by go_num, by omega, by omega, by omega, HS7⟩, rfl⟩)
              case measure => simp [intOf]; omega
        · obtain rfl : j = len := by omega
          have HSZ : Hid (WgAt B mz mk mo zeros (knF l l.length) (outZ l zeros 0) ck co (.slice ac j cc) D w wo) := (show WgAt B mz mk mo zeros (knF l l.length) (outZ l zeros 0) ck co (.slice ac j cc) D w wo by
            have := hs.out
            rw [← outZ_zero, hlen]; exact this)
          clear hjl hs
          go_wp2_with fail
          go_loopw [62] (fun i wr => ∃ (q co : Nat), i = .int .i64 (q : Nat) ∧ q ≤ k ∧ co ≤ j + q ∧ Hid (WgAt B mz mk mo zeros (knF l l.length) (outZ l zeros q) ck co (.slice ac j cc) D w wr)) (fun i _ => k - (intOf i).toNat)
          case atStart => exact ⟨0, co, rfl, Nat.zero_le _, by omega, HSZ⟩
          case round =>
            obtain ⟨q, co, rfl, hq, hco, hs⟩ := hrel
            obtain ⟨wi, rfl⟩ : ∃ wi : World, wi = wr := ⟨_, rfl⟩
            by_cases hql : q < k
            · obtain ⟨b, off, rfl, hbl, hcell0⟩ := HR.out.ints.cell q hql
              have hcell := (hs.out.bel.cell (p := ⟨b, off + q, none⟩) (by rw [HB.out]; exact hbl)).trans hcell0
              have hwf : (Lit.int .i64 (hg zeros q)).wf = true := HR.out.ints.wf q hql
              have hi0 : (0 : Int) ≤ (q : Int) := by omega
              have hi1 : (q : Int) < (k : Int) := by omega
              have hlk := hs.out.ks.look ad_key Try.underlying3 Try.underlying67 (ad_zero wi) hwf
              rw [metV_get] at hlk
              have HNX := Lib.hid (outZ_next (l := l) (zeros := zeros) (j := q) (by omega))
              generalize hg zeros q = x at hcell hwf hlk HNX
              have HCO : Hid (co < maxLen) := (show co < maxLen by unfold maxLen; omega)
              have HWF := Lib.hid hwf
              clear hcell0 hwf
              cases hkb : knF l l.length x with
              | true =>
                rw [hkb] at hlk
                rw [hkb, if_pos rfl] at HNX
                have HS7 : Hid (WgAt B mz mk mo zeros (knF l l.length) (outZ l zeros (q + 1)) ck co (.slice ac j cc) D w wi) := (show WgAt B mz mk mo zeros (knF l l.length) (outZ l zeros (q + 1)) ck co (.slice ac j cc) D w wi by rw [HNX.out]; exact hs.out)
                clear hkb hs
                go_wp2
                go_roundw
                case rel => first | exact ⟨q + 1, co, by go_num, by omega, by omega, HS7⟩ | ((repeat apply Exists.intro); exact ⟨⟨q + 1, co, by go_num, by omega, by omega, HS7⟩, rfl⟩)
                case measure => simp [intOf]; omega
              | false =>
                rw [hkb] at hlk
                rw [hkb, if_neg (by simp)] at HNX
                have HS := hs
                clear hkb hs
                go_wp2_with (at_mapUpdate; refine wpList_store (by rfl) (.tmp 70) (.tmp 71) (.const (.bool true)) 67 rfl 3 4 ad_key Try.underlying3 Try.underlying67 mo co _ rfl HS.out.os HCO.out x (.bool true) rfl rfl HWF.out ?_)
                intro w7 hm7 hg7
                have HS7 : Hid (WgAt B mz mk mo zeros (knF l l.length) (outZ l zeros (q + 1)) ck (co + 1) (.slice ac j cc) D w w7) := (show WgAt B mz mk mo zeros (knF l l.length) (outZ l zeros (q + 1)) ck (co + 1) (.slice ac j cc) D w w7 by
                  rw [HNX.out]; exact HS.out.outs hm7 hg7)
                clear hm7 hg7
                go_wp2
                go_roundw
                case rel => first | exact ⟨q + 1, co + 1, by go_num, by omega, by omega, HS7⟩ | ((repeat apply Exists.intro); exact ⟨⟨q + 1, co + 1, by go_num, by omega, by omega, HS7⟩, rfl⟩)
                case measure => simp [intOf]; omega
            · obtain rfl : q = k := by omega
              have HSO := Lib.hid (sorted_calls wi hs.out.os (by omega) HSM.out.1 (fun x => by
                rw [HSM.out.2 x, metV_some, ← hlen2, outZ_all]
                refine ⟨fun hx => ⟨?_, hx⟩, fun hx => hx.2⟩
                unfold wrongP at hx
                cases hf : firstO l x with
                | some o => rw [← (firstO_some hf).2]; exact HO.out.wf o (firstO_some hf).1
                | none => rw [hf] at hx; exact HR.out.wf (by simpa using hx)))
              have HK := Lib.hid (fun W => keys_calls (some mo) W)
              have HBL := Lib.hid hs.out.bel
              clear hql hs
              go_wp2_with fail
              refine (HK.out _).mono ?_
              rintro e w5 ⟨rfl, rfl⟩
              go_wp2_with fail
              refine HSO.out.mono ?_
              rintro e w5 hd
              have HD : Hid (RowDone w S e w5) := (show RowDone w S e w5 from RowDone.from (by rw [← HB.out]; exact HBL.out) hd)
              obtain ⟨v5, rfl, _⟩ := hd
              go_wp2
              go_ret
              exact HD.out
end Go.Proofs.Ytogifanooleppaa
