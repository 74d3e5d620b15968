/- The walk of the law CodeWrites: it answers true for every input. -/
import Derived.Test.YteipnfnbepnpjaaCodeReadsWalk
import Derived.Test.YteipnfnbepnpjaaCodeRefWr
namespace Go.Proofs.Yteipnfnbepnpjaa
open Go.RowKit
set_option linter.unusedVariables false

/-- what is told of the argument 0 -/
def codeWrites.arg0 (w : World) (a : Option Addr) (len cap : Nat) : Prop := ∃ F : Nat → Nat → Value, Rows w a len cap 4 F ∧ ∀ i, i < len → ((∃ n : Int, (F i) 0 = .int .i64 n ∧ (Lit.int .i64 n).wf = true) ∧ (∃ n : Int, (F i) 1 = .int .i64 n ∧ (Lit.int .i64 n).wf = true) ∧ (∃ n : Int, (F i) 2 = .int .i64 n ∧ (Lit.int .i64 n).wf = true) ∧ (∃ n : Int, (F i) 3 = .int .i64 n ∧ (Lit.int .i64 n).wf = true))
theorem arg_ins {w : World} {a : Option Addr} {len cap : Nat} (h : codeWrites.arg0 w a len cap) : ∃ (F : Nat → Nat → Value) (t : Nat → Int) (q : Nat → Int × Int × Int), Rows w a len cap 4 F ∧
    ∀ i, i < len → F i 0 = .int .i64 (t i) ∧ F i 1 = .int .i64 (q i).1 ∧ F i 2 = .int .i64 (q i).2.1 ∧ F i 3 = .int .i64 (q i).2.2 := by
  obtain ⟨F, hR, hF⟩ := h
  obtain ⟨f, hf⟩ := pick (Q := fun i (x : Int × Int × Int × Int) => F i 0 = .int .i64 x.1 ∧ F i 1 = .int .i64 x.2.1 ∧ F i 2 = .int .i64 x.2.2.1 ∧ F i 3 = .int .i64 x.2.2.2) (fun i hi => by
    obtain ⟨⟨a, ha, _⟩, ⟨b, hb, _⟩, ⟨c, hc, _⟩, ⟨d, hd, _⟩⟩ := hF i hi
    exact ⟨(a, b, c, d), ha, hb, hc, hd⟩)
  exact ⟨F, fun i => (f i).1, fun i => (f i).2, hR, fun i hi => hf i hi⟩
theorem Rows.insSl {w : World} {a : Option Addr} {len cap : Nat} {F : Nat → Nat → Value} {t : Nat → Int} {q : Nat → Int × Int × Int} (hR : Rows w a len cap 4 F) (hF : ∀ i, i < len → F i 0 = .int .i64 (t i) ∧ F i 1 = .int .i64 (q i).1 ∧ F i 2 = .int .i64 (q i).2.1 ∧ F i 3 = .int .i64 (q i).2.2) :
    InsSl w a len cap t q := by
  refine ⟨hR.le, hR.max, fun i hi => ?_⟩
  obtain ⟨e0, e1, e2, e3⟩ := hF i hi
  obtain ⟨g, off, ha, hg, c0⟩ := hR.cell i 0 hi (by omega)
  obtain ⟨_, _, ha1, _, c1⟩ := hR.cell i 1 hi (by omega)
  obtain ⟨_, _, ha2, _, c2⟩ := hR.cell i 2 hi (by omega)
  obtain ⟨_, _, ha3, _, c3⟩ := hR.cell i 3 hi (by omega)
  subst ha
  cases ha1
  cases ha2
  cases ha3
  rw [← Nat.add_assoc] at c0 c1 c2 c3
  rw [e0] at c0
  rw [e1] at c1
  rw [e2] at c2
  rw [e3] at c3
  exact ⟨g, off, rfl, hg, c0, c1, c2, c3⟩
/-- the cells of a row of structs of four -/
def cellsF (F : Nat → Nat → Value) (n : Nat) : List Value := (List.range (n * 4)).map fun j => F (j / 4) (j % 4)
theorem cellsF_get {F : Nat → Nat → Value} {n j : Nat} (h : j < n * 4) : (cellsF F n)[j]? = some (F (j / 4) (j % 4)) := by
  unfold cellsF
  rw [List.getElem?_map, List.getElem?_range h]
  rfl
theorem Rows.src4 {w : World} {a : Option Addr} {len cap : Nat} {F : Nat → Nat → Value} (h : Rows w a len cap 4 F) : Src w (.slice a len cap) len 4 (cellsF F len) := by
  cases ha : a with
  | none =>
    obtain ⟨rfl, rfl⟩ := h.nil ha
    exact .inl ⟨rfl, rfl, rfl⟩
  | some ad =>
    refine .inr ⟨ad, cap, rfl, by simp [cellsF], fun j u hu => ?_⟩
    have hj : j < len * 4 := by
      have := (List.getElem?_eq_some_iff.1 hu).1
      simpa [cellsF] using this
    rw [cellsF_get hj] at hu
    cases hu
    obtain ⟨b, off, e, _, hc⟩ := h.cell (j / 4) (j % 4) (by omega) (by omega)
    rw [show off + (j / 4 * 4 + j % 4) = off + j by omega] at hc
    rw [ha] at e
    cases e
    unfold Addr.add
    by_cases h0 : j = 0
    · subst h0; rw [if_pos rfl]; exact hc
    · rw [if_neg h0]; exact hc
theorem RowS.rows4 {w : World} {v : Value} {n : Nat} {F : Nat → Nat → Value} (h : RowS w 4 v n (cellsF F n)) : ∃ a cap, v = .slice a n cap ∧ Rows w a n cap 4 F := by
  obtain ⟨a, cap, rfl, h1, h2, h3, h4⟩ := h.read
  refine ⟨a, cap, rfl, h1, by simpa [maxLen] using h2, h3, fun i j hi hj => ?_⟩
  have := h4 (i * 4 + j) _ (cellsF_get (by omega))
  rw [show (i * 4 + j) / 4 = i by omega, show (i * 4 + j) % 4 = j by omega] at this
  exact this
theorem cellsF_one {F : Nat → Nat → Value} {n : Nat} {t : Nat → Int} {q : Nat → Int × Int × Int} (hF : ∀ i, i < n → F i 0 = .int .i64 (t i) ∧ F i 1 = .int .i64 (q i).1 ∧ F i 2 = .int .i64 (q i).2.1 ∧ F i 3 = .int .i64 (q i).2.2) : ∀ u ∈ cellsF F n, u.oneCell' = true := by
  intro u hu
  obtain ⟨j, hj, rfl⟩ := List.mem_map.1 hu
  have hj := List.mem_range.1 hj
  obtain ⟨e0, e1, e2, e3⟩ := hF (j / 4) (by omega)
  rcases (by omega : j % 4 = 0 ∨ j % 4 = 1 ∨ j % 4 = 2 ∨ j % 4 = 3) with h | h | h | h <;> rw [h] <;> simp only [e0, e1, e2, e3] <;> rfl
theorem rowQ_at {q : Nat → Int × Int × Int} {len k : Nat} (h : k < len) : (rowQ q len)[k]? = some (q k) := by
  unfold rowQ
  rw [List.getElem?_map, List.getElem?_range h]
  rfl
theorem rowQ_len (q : Nat → Int × Int × Int) (len : Nat) : (rowQ q len).length = len := by simp [rowQ]
theorem codeWrites.out (a0 : Option Addr) (len0 cap0 : Nat) (w : World) (h : 200 < len0) (hc : len0 ≤ 9223372036854775807) :
    Calls Try.prog 6 #[.slice a0 len0 cap0] w fun e w' => e = .returned (.bool true) ∧ Below w.heap.size w w' := by
  go_enter Try.func6, Try.ntmps6
  go_wp2_with (go_at_call 15; refine (alive19 _).mono ?_; rintro e w1 ⟨rfl, hb⟩)
  go_ret
  exact ⟨rfl, by assumption⟩
theorem four_le {n : Nat} {v : Value} {w : World} {F : Nat → Nat → Value} (h : RowS w 4 v n (cellsF F n)) : True := trivial
set_option maxRecDepth 100000 in
set_option maxHeartbeats 4000000 in
theorem codeWrites.inside (a0 : Option Addr) (len0 cap0 : Nat) (F : Nat → Nat → Value) (t : Nat → Int) (q : Nat → Int × Int × Int) (w : World) (hR : Rows w a0 len0 cap0 4 F)
    (hF : ∀ i, i < len0 → F i 0 = .int .i64 (t i) ∧ F i 1 = .int .i64 (q i).1 ∧ F i 2 = .int .i64 (q i).2.1 ∧ F i 3 = .int .i64 (q i).2.2) (h : len0 ≤ 200) :
    Calls Try.prog 6 #[.slice a0 len0 cap0] w fun e w' => e = .returned (.bool true) ∧ Below w.heap.size w w' := by
  have HF := Lib.hid hF
  have HR := Lib.hid hR
  have HBY := Lib.hid (fun a cap w h => cBytes_any a len0 cap t q w h (by omega))
  have HBR := Lib.hid (fun w h => rBytes_any a0 len0 cap0 t q w h (by omega))
  clear hF hR
  obtain ⟨R, hR⟩ : ∃ R, R = wrFrom (rowQ q len0) [] := ⟨_, rfl⟩
  rw [← hR] at HBY HBR
  have HRQ := Lib.hid hR.symm
  have HLT : Hid (∀ y ∈ R.1, y < 256) := (show ∀ y ∈ R.1, y < 256 from wrFrom_lt (rowQ q len0) [] R.1 R.2 hR.symm (fun y hy => by cases hy))
  clear hR
  obtain ⟨i0, hi, hz0, hz1, hz2⟩ := info_parts insInfo
  have HI0 := Lib.hid hi
  have HZ0 := Lib.hid hz0
  have HZ1 := Lib.hid hz1
  have HZ2 := Lib.hid hz2
  clear hi hz0 hz1 hz2
  have d0 : decide (200 < (len0 : Int)) = false := by rw [decide_eq_false_iff_not]; omega
  have HO1 : Hid (0 + len0 ≤ maxLen) := (show 0 + len0 ≤ maxLen by unfold maxLen; omega)
  have HO2 : Hid ((0 + len0) * 32 ≤ 140737488355328) := (show (0 + len0) * 32 ≤ 140737488355328 by omega)
  go_enter Try.func6, Try.ntmps6
  go_wp2_with fail
  refine (alive19 _).mono ?_
  rintro e wa ⟨rfl, hba⟩
  have HBa := Lib.hid hba
  have HRa := Lib.hid (HR.out.below hba)
  clear hba
  go_wp2_with (at_builtin; refine wpList_row (by rfl) (.const (.slice none 0 0)) (.tmp 22) 25 rfl 30 i0 (.agg #[.int .i64 0, .int .i64 0, .int .i64 0, .int .i64 0]) 4 32 Try.underlying25 HI0.out HZ0.out HZ1.out HZ2.out rfl (by decide) (.slice none 0 0) 0 [] rfl (RowS.nil _ _) (.slice a0 len0 cap0) len0 (cellsF F len0) rfl HRa.out.src4 (cellsF_one HF.out) HO1.out HO2.out ?_)
  intro v2 w2 hr2 hg2 hv2
  have hbr : Below wa.heap.size wa w2 := below_row (Below.refl _ _) hg2 (Nat.le_refl _) (fun g hg => by cases hg)
  have HB2 := Lib.hid (HBa.out.trans (hbr.mono HBa.out.size))
  have HR2 := Lib.hid (HRa.out.below hbr)
  have hr3 : RowS w2 4 v2 len0 (cellsF F len0) := by simpa using hr2
  obtain ⟨a2, cap2, hva, hh2⟩ := hr3.rows4
  subst hva
  have HBY2 := Lib.hid (HBY.out _ _ _ (hh2.insSl HF.out))
  clear hr2 hr3 hg2 hv2 hbr hh2 HBY
  go_wp2_with fail
  refine (HBY2.out).mono ?_
  rintro e w3 ⟨v3, rfl, hr3, _, hb3⟩
  have HB3 := Lib.hid (HB2.out.trans (hb3.mono HB2.out.size))
  have HR3 := Lib.hid (HR2.out.below hb3)
  obtain ⟨a3, cap3, rfl, hh3⟩ := hr3.holdsB HLT.out
  have HH3 := Lib.hid hh3
  have HBR3 := Lib.hid (HBR.out _ (HR3.out.insSl HF.out))
  clear hr3 hb3 hh3 HBR
  go_wp2_with fail
  refine (HBR3.out).mono ?_
  rintro e w4 ⟨v4, rfl, hr4, _, hb4⟩
  have HB4 := Lib.hid (HB3.out.trans (hb4.mono HB3.out.size))
  have HR4 := Lib.hid (HR3.out.below hb4)
  have HH4 := Lib.hid (HH3.out.below hb4)
  obtain ⟨a4, cap4, rfl, hj4⟩ := hr4.holdsB HLT.out
  have k1 := hj4.conv
  have k2 := HH4.out.conv
  clear hr4 hb4 hj4
  obtain ⟨bs, er⟩ := R
  dsimp only at k1 k2 ⊢
  generalize strOf bs = sb at k1 k2
  by_cases h0 : er = 0
  · subst h0
    have hrd := rd_wr HRQ.out
    obtain ⟨hln, _⟩ := wrFrom_len _ _ _ HRQ.out
    have hok := wrFrom_ok _ _ _ HRQ.out
    have htl := total_le (rowQ q len0)
    rw [rowQ_len] at htl
    have HRE := Lib.hid (fun w h => cRead_any a3 bs.length cap3 (fun i => bs[i]?.getD 0) w h (by rw [hln, List.length_nil]; omega))
    rw [hrd] at HRE
    have HOK := Lib.hid hok
    have HLN : Hid (bs.length = total (rowQ q len0)) := (show bs.length = total (rowQ q len0) by rw [hln, List.length_nil, Nat.zero_add])
    have HTL := Lib.hid htl
    clear hrd hln hok htl
    go_wp2_with fail
    refine (num19_any _ _).mono ?_
    rintro e w6 ⟨rfl, rfl⟩
    clear k1 k2
    go_wp2_with fail
    refine (HRE.out _ HH4.out.bys).mono ?_
    rintro e w7 ⟨v7, rfl, hr7, _, hb7⟩
    obtain ⟨a7, cap7, rfl, hi7⟩ := hr7.holdsI
    have hlen : (placed 0 (rowQ q len0)).length = len0 := by rw [placed_len, rowQ_len]
    rw [hlen] at hi7 ⊢
    have HI7 := Lib.hid hi7
    have HB7 := Lib.hid (HB4.out.trans (hb7.mono HB4.out.size))
    have HR7 := Lib.hid (HR4.out.below hb7)
    clear hr7 hb7 hi7 hlen HRE
    go_wp2_with fail
    refine (num19_any _ _).mono ?_
    rintro e w8 ⟨rfl, rfl⟩
    go_wp2_with fail
    go_loopw [10, 11] (fun av iv wr => ∃ k m : Nat, iv = .int .i64 k ∧ k ≤ len0 ∧ av = .int .i64 (total ((rowQ q len0).take k) : Nat) ∧ wr = w7.drewN m) (fun _ iv _ => len0 - (intOf iv).toNat)
    case atStart => exact ⟨0, 0, rfl, Nat.zero_le _, rfl, rfl⟩
    case round =>
      obtain ⟨k, m, rfl, hk, rfl, rfl⟩ := hrel
      by_cases hlt : k < len0
      · have hq := rowQ_at (q := q) hlt
        have hts := total_succ _ _ _ hq
        have hpl := placed_at _ 0 _ _ hq
        have hokx := okIns_bounds (HOK.out _ (List.mem_of_getElem? hq))
        have hm7 : Below w7.heap.size w7 (w7.drewN m) := below_drewN (Below.refl _ _) m
        obtain ⟨g, off, rfl, _, c0, c1, c2, c3⟩ := HI7.out.cell k _ hpl
        obtain ⟨g', off', rfl, _, _, d1, d2, d3⟩ := (HR7.out.insSl HF.out).cell k hlt
        have hcap7 := HI7.out.le
        have hmax7 := HI7.out.max
        have hcap0 := HR7.out.le
        have hmax0 := HR7.out.max
        obtain ⟨_, ⟨p1, _⟩, ⟨p2, _⟩, ⟨p3, _⟩, _⟩ := hokx
        generalize q k = x at *
        obtain ⟨op, A, B⟩ := x
        dsimp only at c0 c1 c2 c3 d1 d2 d3 p1 p2 p3 hts
        obtain ⟨o, rfl⟩ := Int.eq_ofNat_of_zero_le p1
        obtain ⟨a, rfl⟩ := Int.eq_ofNat_of_zero_le p2
        obtain ⟨c, rfl⟩ := Int.eq_ofNat_of_zero_le p3
        rw [Int.toNat_natCast] at c1 c2 c3
        rw [Nat.zero_add] at c0
        have HW := Lib.hid (fun w => width_any (o : Nat) w)
        generalize widthZ (o : Int) = n at *
        have HTS := Lib.hid hts
        have hnb : total ((rowQ q len0).take (k + 1)) ≤ 600 := by
          have := total_le ((rowQ q len0).take (k + 1))
          have h2 := List.length_take_le (k + 1) (rowQ q len0)
          omega
        rw [hts] at hnb
        generalize total ((rowQ q len0).take k) = tk at *
        clear hq hts hpl p1 p2 p3 hm7
        have hi0 : (0 : Int) ≤ (k : Int) := by omega
        have hi1 : (k : Int) < (len0 : Int) := by omega
        go_wp2_with fail
        go_quiet (fail)
        go_wp2_with fail
        refine (HW.out _).mono ?_
        rintro e w9 ⟨rfl, rfl⟩
        go_wp2
        go_roundw
        case rel => first | exact ⟨k + 1, _, by go_num, by omega, by rw [HTS.out]; go_num, rfl⟩ | ((repeat apply Exists.intro); exact ⟨⟨k + 1, _, by go_num, by omega, by rw [HTS.out]; go_num, rfl⟩, rfl⟩)
        case measure => simp [intOf]; omega
      · obtain rfl : k = len0 := by omega
        have hall : (rowQ q k).take k = rowQ q k := List.take_of_length_le (by rw [rowQ_len]; exact Nat.le_refl _)
        rw [hall, ← HLN.out]
        clear hlt hall
        go_wp2
        go_ret
        exact ⟨rfl, below_drewN HB7.out m⟩
  · have hz : ((er : Int) == 0) = false := by simpa using h0
    clear h0
    go_wp2_with fail
    refine (num19_any _ _).mono ?_
    rintro e w6 ⟨rfl, rfl⟩
    go_wp2
    go_ret
    exact ⟨rfl, HB4.out⟩
theorem codeWrites.walk (a0 : Option Addr) (len0 cap0 : Nat) (w : World) (w0 : codeWrites.arg0 w a0 len0 cap0) :
    Calls Try.prog 6 #[.slice a0 len0 cap0] w fun e w' => e = .returned (.bool true) ∧ Below w.heap.size w w' := by
  obtain ⟨F, t, q, hR, hF⟩ := arg_ins w0
  by_cases h : len0 ≤ 200
  · exact codeWrites.inside a0 len0 cap0 F t q w hR hF h
  · exact codeWrites.out a0 len0 cap0 w (by omega) (Nat.le_trans hR.le hR.max)
end Go.Proofs.Yteipnfnbepnpjaa
