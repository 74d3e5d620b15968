/- the reference's Bytes computes what it says. -/
import Derived.Test.YteipnfnbepnpjaaCodeWr
namespace Go.Proofs.Yteipnfnbepnpjaa
open Go.RowKit
set_option linter.unusedVariables false

theorem and_255 (a : Nat) (h : a ≤ 65535) : bits .and .i64 (a : Int) 255 = ((a % 256 : Nat) : Int) := by
  show IntKind.i64.wrap ((BitVec.ofInt 64 (a : Int) &&& BitVec.ofInt 64 ((255 : Nat) : Int)).toNat : Int) = _
  rw [BitVec.toNat_and, ofInt64 a (by omega), ofInt64 255 (by omega), IntKind.wrap_i64]
  have h1 : a &&& 255 = a % 256 := Nat.and_two_pow_sub_one_eq_mod a 8
  rw [h1]
  omega
/-- some bytes have been appended, the block Q stands -/
structure Pu (w : World) (Q : Nat) (cs : Array Value) (v : Value) (acc : List Nat) (W : World) : Prop where
  row : RowS W 1 v acc.length (byteCells acc)
  new : ∀ g, v.ownBlock = some g → w.heap.size ≤ g ∧ g ≠ Q
  bel : Below w.heap.size w W
  blk : W.heap[Q]? = some (.cells cs 30 (0, 0))
theorem Pu.push {w : World} {Q : Nat} {cs : Array Value} {v v2 : Value} {acc : List Nat} {W w2 : World} (h : Pu w Q cs v acc W) {y n2 : Nat} {acc2 : List Nat} {ob : Obj} (hn2 : n2 = acc.length + 1) (ha2 : acc2 = acc ++ [y])
    (hr : RowS w2 1 v2 n2 (byteCells acc ++ [.int .u8 (y : Nat)])) (hg : (W.alloc ob).grownBy w2 v.ownBlock) (hv : v2.ownBlock = v.ownBlock ∨ ∃ g, v2.ownBlock = some g ∧ (W.alloc ob).heap.size ≤ g) : Pu w Q cs v2 acc2 w2 := by
  subst ha2
  have hQ := (Array.getElem?_eq_some_iff.1 h.blk).1
  subst hn2
  obtain ⟨h1, h2⟩ := app_frame (h.bel.alloc h.bel.size ob) (fun g hg => (h.new g hg).1) hg hv
  refine ⟨by rw [List.length_append, byteCells_app]; exact hr, fun g hg' => ⟨h2 g hg', ?_⟩, h1, ?_⟩
  · rcases hv with hv | ⟨g', hv, hge⟩
    · exact (h.new g (by rw [← hv]; exact hg')).2
    · rw [hv] at hg'; cases hg'; rw [size_alloc] at hge; omega
  · rw [hg.block Q (by rw [size_alloc]; omega) (fun e => (h.new Q e.symm).2 rfl), heap_alloc_lt _ _ hQ]
    exact h.blk
theorem Pu.row' {w : World} {Q : Nat} {cs : Array Value} {v : Value} {acc : List Nat} {W : World} (h : Pu w Q cs v acc W) (ob : Obj) : RowS (W.alloc ob) 1 v acc.length (byteCells acc) :=
  h.row.keeps ((Keeps.refl [] _).alloc _) fun _ _ => List.not_mem_nil
theorem Pu.cell {w : World} {Q : Nat} {cs : Array Value} {v : Value} {acc : List Nat} {W : World} (h : Pu w Q cs v acc W) (i : Nat) : W.cell? ⟨Q, i, none⟩ = cs[i]? := cell_of_block h.blk
theorem WrAt.pu {w wr : World} {q : Nat → Int × Int × Int} {len k : Nat} {R : List Nat × Nat} {v : Value} {acc : List Nat} (h : WrAt w q len R v k acc wr) (cs : Array Value) : Pu w wr.heap.size cs v acc (wr.alloc (.cells cs 30)) :=
  ⟨h.row.keeps ((Keeps.refl [] _).alloc _) (fun _ _ => List.not_mem_nil), fun g hg => ⟨h.new g hg, by have := h.row.lt g hg; omega⟩, h.bel.alloc h.bel.size _, heap_alloc_at _ _⟩
theorem WrAt.ofPu {w wr w2 : World} {q : Nat → Int × Int × Int} {len k Q : Nat} {R : List Nat × Nat} {v v2 : Value} {acc bs : List Nat} {cs : Array Value} (h : WrAt w q len R v k acc wr) (hk : k < len) (ho : okIns (q k) = true) (hbs : bs = insBytes (q k)) (p : Pu w Q cs v2 (acc ++ bs) w2) :
    WrAt w q len R v2 (k + 1) (acc ++ bs) w2 :=
  h.step hk ho (Below.refl _ _) hbs (by have := p.row; rw [List.length_append, byteCells_app] at this; exact this) p.bel (fun g hg => (p.new g hg).1)
set_option maxRecDepth 100000 in
set_option maxHeartbeats 8000000 in
theorem rBytes_pos (g off len cap : Nat) (t : Nat → Int) (q : Nat → Int × Int × Int) (w : World) (hs : InsSl w (some ⟨g, off, none⟩) len cap t q) (hl : len ≤ 4398046511104) (hpos : 0 < len) :
    Calls Try.prog 18 #[.slice (some ⟨g, off, none⟩) len cap] w (BytesDone (wrFrom (rowQ q len) []) w) := by
  have HS0 := Lib.hid (WrAt.start w q len)
  generalize wrFrom (rowQ q len) [] = R at HS0 ⊢
  have HI := Lib.hid hs
  have hmax := hs.max
  have hcap := hs.le
  have hg0 : g < w.heap.size := by obtain ⟨g', off', e, h, _⟩ := hs.cell 0 hpos; cases e; exact h
  clear hs
  obtain ⟨i0, hi, hz0, hz1, hz2⟩ := info_parts byteInfo
  have HI0 := Lib.hid hi
  have HZ0 := Lib.hid hz0
  have HZ1 := Lib.hid hz1
  have HZ2 := Lib.hid hz2
  have HG := Lib.hid hg0
  clear hi hz0 hz1 hz2 hg0
  go_enter Try.func18, Try.ntmps18
  go_wp2
  go_loopw [4, 5] (fun v i wr => ∃ (k : Nat) (acc : List Nat), i = .int .i64 k ∧ k ≤ len ∧ Hid (WrAt w q len R v k acc wr)) (fun _ i _ => len - (intOf i).toNat)
  case atStart => exact ⟨0, [], rfl, Nat.zero_le _, HS0⟩
  case round =>
    obtain ⟨k, acc, rfl, hk, hst⟩ := hrel
    by_cases hlt : k < len
    · obtain ⟨g', off', e, _, c0, c1, c2, c3⟩ := HI.out.cell k hlt
      cases e
      have hgr : g < wr.heap.size := Nat.lt_of_lt_of_le HG.out hst.out.bel.size
      have c0 := (hst.out.bel.cell (p := ⟨g, off + k * 4, none⟩) HG.out).trans c0
      have c1 := (hst.out.bel.cell (p := ⟨g, off + k * 4 + 1, none⟩) HG.out).trans c1
      have c2 := (hst.out.bel.cell (p := ⟨g, off + k * 4 + 2, none⟩) HG.out).trans c2
      have c3 := (hst.out.bel.cell (p := ⟨g, off + k * 4 + 3, none⟩) HG.out).trans c3
      have HBAD := Lib.hid (fun h => hst.out.bad hlt h)
      have HST := Lib.hid (fun (w2 : World) (v2 : Value) (bs : List Nat) (Q : Nat) (cs : Array Value) => hst.out.ofPu (w2 := w2) (v2 := v2) (bs := bs) (Q := Q) (cs := cs) hlt)
      have HPU := Lib.hid (fun cs => hst.out.pu cs)
      have HBEL := Lib.hid hst.out.bel
      have HO1 : Hid (acc.length + 3 ≤ maxLen) := (show acc.length + 3 ≤ maxLen by have := hst.out.le; unfold maxLen; omega)
      have HO2 : Hid ((acc.length + 3) * 1 ≤ 140737488355328) := (show (acc.length + 3) * 1 ≤ 140737488355328 by have := hst.out.le; omega)
      clear hst
      generalize t k = t0 at *
      generalize q k = x at *
      obtain ⟨op, A, B⟩ := x
      dsimp only at c1 c2 c3
      have HW := Lib.hid (fun w => widthRef_any op w)
      have hle := widthZ_le op
      cases hok : okIns (op, A, B)
      · have hno := notOk hok
        dsimp only at hno
        have hR := HBAD.out hok
        subst hR
        clear hok HBAD HST HPU
        by_cases h0 : widthZ op = 0
        · rw [h0] at HW
          clear hno h0 hle
          go_wp2_with fail
          refine (HW.out _).mono ?_
          rintro e w' ⟨rfl, rfl⟩
          go_wp2
          go_ret2
          exact ⟨.slice none 0 0, rfl, RowS.nil _ _, (fun _ h => by cases h), HBEL.out.alloc HBEL.out.size _⟩
        · by_cases h35 : op = 35
          · subst h35
            rw [show mostA 35 = 255 by decide, show mostB 35 = 255 by decide, widthZ_35] at hno
            rw [widthZ_35] at HW
            clear hle h0
            by_cases hA : 0 ≤ A ∧ A ≤ 255
            · have HA := Lib.hid (fun w => in_any A 255 w)
              rw [show (decide (0 ≤ A) && decide (A ≤ 255)) = true by simp; omega] at HA
              have HB := Lib.hid (fun w => in_any B 255 w)
              rw [show (decide (0 ≤ B) && decide (B ≤ 255)) = false by simp; omega] at HB
              clear hno hA
              go_wp2_with fail
              refine (HW.out _).mono ?_
              rintro e w' ⟨rfl, rfl⟩
              go_wp2_with fail
              refine (HA.out _).mono ?_
              rintro e w' ⟨rfl, rfl⟩
              go_wp2_with fail
              refine (HB.out _).mono ?_
              rintro e w' ⟨rfl, rfl⟩
              go_wp2
              go_ret2
              exact ⟨.slice none 0 0, rfl, RowS.nil _ _, (fun _ h => by cases h), HBEL.out.alloc HBEL.out.size _⟩
            · have HA := Lib.hid (fun w => in_any A 255 w)
              rw [show (decide (0 ≤ A) && decide (A ≤ 255)) = false by simp; omega] at HA
              clear hno hA
              go_wp2_with fail
              refine (HW.out _).mono ?_
              rintro e w' ⟨rfl, rfl⟩
              go_wp2_with fail
              refine (HA.out _).mono ?_
              rintro e w' ⟨rfl, rfl⟩
              go_wp2
              go_ret2
              exact ⟨.slice none 0 0, rfl, RowS.nil _ _, (fun _ h => by cases h), HBEL.out.alloc HBEL.out.size _⟩
          · have hm : mostA op = if widthZ op = 3 then 65535 else if widthZ op = 2 then 255 else 0 := by unfold mostA; rw [if_neg h35]
            have hm2 : mostB op = 0 := by unfold mostB; rw [if_neg h35]
            rw [hm, hm2] at hno
            have hop : ((op == 35)) = false := by simpa using h35
            clear hm hm2 h35
            rcases (by omega : widthZ op = 1 ∨ widthZ op = 2 ∨ widthZ op = 3) with h1 | h1 | h1
            · rw [h1, if_neg (by decide), if_neg (by decide)] at hno
              rw [h1] at HW
              clear hle h0 h1
              by_cases hA : 0 ≤ A ∧ A ≤ 0
              · have HA := Lib.hid (fun w => in_any A 0 w)
                rw [show (decide (0 ≤ A) && decide (A ≤ 0)) = true by simp; omega] at HA
                have HB := Lib.hid (fun w => in_any B 0 w)
                rw [show (decide (0 ≤ B) && decide (B ≤ 0)) = false by simp; omega] at HB
                clear hno hA
                go_wp2_with fail
                refine (HW.out _).mono ?_
                rintro e w' ⟨rfl, rfl⟩
                go_wp2_with fail
                refine (HA.out _).mono ?_
                rintro e w' ⟨rfl, rfl⟩
                go_wp2_with fail
                refine (HB.out _).mono ?_
                rintro e w' ⟨rfl, rfl⟩
                go_wp2
                go_ret2
                exact ⟨.slice none 0 0, rfl, RowS.nil _ _, (fun _ h => by cases h), HBEL.out.alloc HBEL.out.size _⟩
              · have HA := Lib.hid (fun w => in_any A 0 w)
                rw [show (decide (0 ≤ A) && decide (A ≤ 0)) = false by simp; omega] at HA
                clear hno hA
                go_wp2_with fail
                refine (HW.out _).mono ?_
                rintro e w' ⟨rfl, rfl⟩
                go_wp2_with fail
                refine (HA.out _).mono ?_
                rintro e w' ⟨rfl, rfl⟩
                go_wp2
                go_ret2
                exact ⟨.slice none 0 0, rfl, RowS.nil _ _, (fun _ h => by cases h), HBEL.out.alloc HBEL.out.size _⟩
            · rw [h1, if_neg (by decide), if_pos rfl] at hno
              rw [h1] at HW
              clear hle h0 h1
              by_cases hA : 0 ≤ A ∧ A ≤ 255
              · have HA := Lib.hid (fun w => in_any A 255 w)
                rw [show (decide (0 ≤ A) && decide (A ≤ 255)) = true by simp; omega] at HA
                have HB := Lib.hid (fun w => in_any B 0 w)
                rw [show (decide (0 ≤ B) && decide (B ≤ 0)) = false by simp; omega] at HB
                clear hno hA
                go_wp2_with fail
                refine (HW.out _).mono ?_
                rintro e w' ⟨rfl, rfl⟩
                go_wp2_with fail
                refine (HA.out _).mono ?_
                rintro e w' ⟨rfl, rfl⟩
                go_wp2_with fail
                refine (HB.out _).mono ?_
                rintro e w' ⟨rfl, rfl⟩
                go_wp2
                go_ret2
                exact ⟨.slice none 0 0, rfl, RowS.nil _ _, (fun _ h => by cases h), HBEL.out.alloc HBEL.out.size _⟩
              · have HA := Lib.hid (fun w => in_any A 255 w)
                rw [show (decide (0 ≤ A) && decide (A ≤ 255)) = false by simp; omega] at HA
                clear hno hA
                go_wp2_with fail
                refine (HW.out _).mono ?_
                rintro e w' ⟨rfl, rfl⟩
                go_wp2_with fail
                refine (HA.out _).mono ?_
                rintro e w' ⟨rfl, rfl⟩
                go_wp2
                go_ret2
                exact ⟨.slice none 0 0, rfl, RowS.nil _ _, (fun _ h => by cases h), HBEL.out.alloc HBEL.out.size _⟩
            · rw [h1, if_pos rfl] at hno
              rw [h1] at HW
              clear hle h0 h1
              by_cases hA : 0 ≤ A ∧ A ≤ 65535
              · have HA := Lib.hid (fun w => in_any A 65535 w)
                rw [show (decide (0 ≤ A) && decide (A ≤ 65535)) = true by simp; omega] at HA
                have HB := Lib.hid (fun w => in_any B 0 w)
                rw [show (decide (0 ≤ B) && decide (B ≤ 0)) = false by simp; omega] at HB
                clear hno hA
                go_wp2_with fail
                refine (HW.out _).mono ?_
                rintro e w' ⟨rfl, rfl⟩
                go_wp2_with fail
                refine (HA.out _).mono ?_
                rintro e w' ⟨rfl, rfl⟩
                go_wp2_with fail
                refine (HB.out _).mono ?_
                rintro e w' ⟨rfl, rfl⟩
                go_wp2
                go_ret2
                exact ⟨.slice none 0 0, rfl, RowS.nil _ _, (fun _ h => by cases h), HBEL.out.alloc HBEL.out.size _⟩
              · have HA := Lib.hid (fun w => in_any A 65535 w)
                rw [show (decide (0 ≤ A) && decide (A ≤ 65535)) = false by simp; omega] at HA
                clear hno hA
                go_wp2_with fail
                refine (HW.out _).mono ?_
                rintro e w' ⟨rfl, rfl⟩
                go_wp2_with fail
                refine (HA.out _).mono ?_
                rintro e w' ⟨rfl, rfl⟩
                go_wp2
                go_ret2
                exact ⟨.slice none 0 0, rfl, RowS.nil _ _, (fun _ h => by cases h), HBEL.out.alloc HBEL.out.size _⟩
      · obtain ⟨h0, h1, h2, h3, h4, h5, h6, h7⟩ := okIns_bounds hok
        dsimp only at h0 h1 h2 h3 h4 h5 h6 h7
        have HST := Lib.hid (fun w2 v2 bs Q cs => HST.out w2 v2 bs Q cs hok)
        clear hok HBAD
        obtain ⟨o, rfl⟩ : ∃ n : Nat, op = n := ⟨op.toNat, by omega⟩
        obtain ⟨a, rfl⟩ : ∃ n : Nat, A = n := ⟨A.toNat, by omega⟩
        obtain ⟨c, rfl⟩ : ∃ n : Nat, B = n := ⟨B.toNat, by omega⟩
        rw [widthZ_nat] at *
        have hoi : (o : Int) < 44 := by omega
        by_cases o35 : o = 35
        · subst o35
          have hbs : [35, a, c] = insBytes (((35 : Nat) : Int), (a : Int), (c : Int)) := by
            unfold insBytes
            simp only [Int.toNat_natCast, widthZ_nat]
            rw [show widthN 35 = 3 by decide]
            rfl
          have ha : (a : Int) < 256 := by have := h6 rfl; omega
          have hc : (c : Int) < 256 := by omega
          rw [show widthN 35 = 3 by decide] at HW
          rw [show ((35 : Nat) : Int) = 35 from rfl] at c1 hbs HST HW
          clear h0 h1 h2 h3 h4 h5 h6 h7 hle hoi
          have HA := Lib.hid (fun w => in_any (a : Nat) 255 w)
          rw [show (decide ((0 : Int) ≤ (a : Nat)) && decide (((a : Nat) : Int) ≤ 255)) = true by simp <;> omega] at HA
          have HB := Lib.hid (fun w => in_any (c : Nat) 255 w)
          rw [show (decide ((0 : Int) ≤ (c : Nat)) && decide (((c : Nat) : Int) ≤ 255)) = true by simp <;> omega] at HB
          have HP0 := Lib.hid (HPU.out #[.int .i64 t0, .int .i64 35, .int .i64 (a : Nat), .int .i64 (c : Nat)])
          clear HPU
          have hand := and_255 a (by omega)
          rw [show a % 256 = a by omega] at hand
          go_wp2_with fail
          refine (HW.out _).mono ?_
          rintro e w' ⟨rfl, rfl⟩
          go_wp2_with fail
          refine (HA.out _).mono ?_
          rintro e w' ⟨rfl, rfl⟩
          go_wp2_with fail
          refine (HB.out _).mono ?_
          rintro e w' ⟨rfl, rfl⟩
          have HO1_0 : Hid ((acc).length + 1 ≤ maxLen) := (show (acc).length + 1 ≤ maxLen by have := HO1.out; simp; omega)
          have HO2_0 : Hid (((acc).length + 1) * 1 ≤ 140737488355328) := (show ((acc).length + 1) * 1 ≤ 140737488355328 by have := HO2.out; simp; omega)
          go_wp2_with (at_builtin; refine wpList_row (by rfl) (.tmp 43) (.tmp 47) 26 rfl 5 i0 (.int .u8 0) 1 1 Try.underlying26 HI0.out HZ0.out HZ1.out HZ2.out rfl (by decide) u4 (acc).length (byteCells (acc)) rfl (HP0.out.row' _) (.slice (some ⟨wr.heap.size + 1, 0, none⟩) 1 1) 1 [.int .u8 35] rfl (by rw [← size_alloc]; exact new_one _ _ _) (one_of rfl) HO1_0.out HO2_0.out ?_)
          intro v2 w2 hr hg hv
          rw [show wr.heap.size + 1 + 1 = ((wr.alloc (.cells #[.int .i64 t0, .int .i64 35, .int .i64 (a : Nat), .int .i64 (c : Nat)] 30)).alloc (.cells #[.int .u8 35] 5)).heap.size by rw [size_alloc, size_alloc]] at hv
          have hp := fun hn => HP0.out.push (y := 35) (acc2 := acc ++ [35]) hn (by simp) hr hg hv
          have HP1 := Lib.hid (hp (by simp))
          clear hp hr hg hv
          have HO1_1 : Hid ((acc ++ [35]).length + 1 ≤ maxLen) := (show (acc ++ [35]).length + 1 ≤ maxLen by have := HO1.out; simp; omega)
          have HO2_1 : Hid (((acc ++ [35]).length + 1) * 1 ≤ 140737488355328) := (show ((acc ++ [35]).length + 1) * 1 ≤ 140737488355328 by have := HO2.out; simp; omega)
          have q1 := HP1.out.cell 1
          have q2 := HP1.out.cell 2
          have q3 := HP1.out.cell 3
          simp only [List.getElem?_toArray, List.getElem?_cons_succ, List.getElem?_cons_zero] at q1 q2 q3
          go_wp2_with (at_builtin; refine wpList_row (by rfl) (.tmp 51) (.tmp 56) 26 rfl 5 i0 (.int .u8 0) 1 1 Try.underlying26 HI0.out HZ0.out HZ1.out HZ2.out rfl (by decide) v2 (acc ++ [35]).length (byteCells (acc ++ [35])) rfl (HP1.out.row' _) (.slice (some ⟨w2.heap.size, 0, none⟩) 1 1) 1 [.int .u8 (a : Nat)] rfl (new_one _ _ _) (one_of rfl) HO1_1.out HO2_1.out ?_)
          intro v3 w3 hr hg hv
          rw [show w2.heap.size + 1 = (w2.alloc (.cells #[.int .u8 (a : Nat)] 5)).heap.size by rw [size_alloc]] at hv
          have hp := fun hn => HP1.out.push (y := a) (acc2 := acc ++ [35, a]) hn (by simp) hr hg hv
          have HP2 := Lib.hid (hp (by simp))
          clear hp hr hg hv q1 q2 q3
          have HO1_2 : Hid ((acc ++ [35, a]).length + 1 ≤ maxLen) := (show (acc ++ [35, a]).length + 1 ≤ maxLen by have := HO1.out; simp; omega)
          have HO2_2 : Hid (((acc ++ [35, a]).length + 1) * 1 ≤ 140737488355328) := (show ((acc ++ [35, a]).length + 1) * 1 ≤ 140737488355328 by have := HO2.out; simp; omega)
          have q1 := HP2.out.cell 1
          have q2 := HP2.out.cell 2
          have q3 := HP2.out.cell 3
          simp only [List.getElem?_toArray, List.getElem?_cons_succ, List.getElem?_cons_zero] at q1 q2 q3
          go_wp2_with (at_builtin; refine wpList_row (by rfl) (.tmp 60) (.tmp 64) 26 rfl 5 i0 (.int .u8 0) 1 1 Try.underlying26 HI0.out HZ0.out HZ1.out HZ2.out rfl (by decide) v3 (acc ++ [35, a]).length (byteCells (acc ++ [35, a])) rfl (HP2.out.row' _) (.slice (some ⟨w3.heap.size, 0, none⟩) 1 1) 1 [.int .u8 (c : Nat)] rfl (new_one _ _ _) (one_of rfl) HO1_2.out HO2_2.out ?_)
          intro v4 w4 hr hg hv
          rw [show w3.heap.size + 1 = (w3.alloc (.cells #[.int .u8 (c : Nat)] 5)).heap.size by rw [size_alloc]] at hv
          have hp := fun hn => HP2.out.push (y := c) (acc2 := acc ++ [35, a, c]) hn (by simp) hr hg hv
          have HP3 := Lib.hid (hp (by simp))
          clear hp hr hg hv q1 q2 q3
          have HS2 := Lib.hid (HST.out _ _ [35, a, c] _ _ hbs HP3.out)
          clear hbs
          go_wp2
          go_roundw
          case rel => first | exact ⟨k + 1, _, by go_num, by omega, HS2⟩ | ((repeat apply Exists.intro); exact ⟨⟨k + 1, _, by go_num, by omega, HS2⟩, rfl⟩)
          case measure => simp [intOf]; omega
        · have hop : ((o : Int) == 35) = false := by simpa using (by omega : ¬ (o : Int) = 35)
          rcases (by omega : widthN o = 1 ∨ widthN o = 2 ∨ widthN o = 3) with hw | hw | hw
          · obtain ⟨z1, z2⟩ := h4 hw
            have hbs : [o] = insBytes ((o : Int), (a : Int), (c : Int)) := by
              unfold insBytes
              simp only [Int.toNat_natCast, widthZ_nat]
              rw [hw]; rfl
            obtain rfl : a = 0 := by omega
            obtain rfl : c = 0 := by omega
            rw [show ((0 : Nat) : Int) = 0 from rfl] at c2 c3 hbs HST
            rw [hw] at HW
            clear h0 h1 h2 h3 h4 h5 h6 h7 hle hw o35 z1 z2
            have HA := Lib.hid (fun w => in_any 0 0 w)
            rw [show (decide ((0 : Int) ≤ 0) && decide ((0 : Int) ≤ 0)) = true by simp <;> omega] at HA
            have HB := Lib.hid (fun w => in_any 0 0 w)
            rw [show (decide ((0 : Int) ≤ 0) && decide ((0 : Int) ≤ 0)) = true by simp <;> omega] at HB
            have HP0 := Lib.hid (HPU.out #[.int .i64 t0, .int .i64 (o : Nat), .int .i64 0, .int .i64 0])
            clear HPU
            go_wp2_with fail
            refine (HW.out _).mono ?_
            rintro e w' ⟨rfl, rfl⟩
            go_wp2_with fail
            refine (HA.out _).mono ?_
            rintro e w' ⟨rfl, rfl⟩
            go_wp2_with fail
            refine (HB.out _).mono ?_
            rintro e w' ⟨rfl, rfl⟩
            have HO1_0 : Hid ((acc).length + 1 ≤ maxLen) := (show (acc).length + 1 ≤ maxLen by have := HO1.out; simp; omega)
            have HO2_0 : Hid (((acc).length + 1) * 1 ≤ 140737488355328) := (show ((acc).length + 1) * 1 ≤ 140737488355328 by have := HO2.out; simp; omega)
            go_wp2_with (at_builtin; refine wpList_row (by rfl) (.tmp 43) (.tmp 47) 26 rfl 5 i0 (.int .u8 0) 1 1 Try.underlying26 HI0.out HZ0.out HZ1.out HZ2.out rfl (by decide) u4 (acc).length (byteCells (acc)) rfl (HP0.out.row' _) (.slice (some ⟨wr.heap.size + 1, 0, none⟩) 1 1) 1 [.int .u8 (o : Nat)] rfl (by rw [← size_alloc]; exact new_one _ _ _) (one_of rfl) HO1_0.out HO2_0.out ?_)
            intro v2 w2 hr hg hv
            rw [show wr.heap.size + 1 + 1 = ((wr.alloc (.cells #[.int .i64 t0, .int .i64 (o : Nat), .int .i64 0, .int .i64 0] 30)).alloc (.cells #[.int .u8 (o : Nat)] 5)).heap.size by rw [size_alloc, size_alloc]] at hv
            have hp := fun hn => HP0.out.push (y := o) (acc2 := acc ++ [o]) hn (by simp) hr hg hv
            have HP1 := Lib.hid (hp (by simp))
            clear hp hr hg hv
            have HS2 := Lib.hid (HST.out _ _ [o] _ _ hbs HP1.out)
            clear hbs
            go_wp2
            go_roundw
            case rel => first | exact ⟨k + 1, _, by go_num, by omega, HS2⟩ | ((repeat apply Exists.intro); exact ⟨⟨k + 1, _, by go_num, by omega, HS2⟩, rfl⟩)
            case measure => simp [intOf]; omega
          · obtain ⟨z1, z2⟩ := h5 hw
            have hbs : [o, a] = insBytes ((o : Int), (a : Int), (c : Int)) := by
              unfold insBytes
              simp only [Int.toNat_natCast, widthZ_nat]
              rw [hw]; rfl
            obtain rfl : c = 0 := by omega
            rw [show ((0 : Nat) : Int) = 0 from rfl] at c3 hbs HST
            rw [hw] at HW
            have ha : (a : Int) < 256 := by omega
            clear h0 h1 h2 h3 h4 h5 h6 h7 hle hw o35 z1 z2
            have HA := Lib.hid (fun w => in_any (a : Nat) 255 w)
            rw [show (decide ((0 : Int) ≤ (a : Nat)) && decide (((a : Nat) : Int) ≤ 255)) = true by simp <;> omega] at HA
            have HB := Lib.hid (fun w => in_any 0 0 w)
            rw [show (decide ((0 : Int) ≤ 0) && decide ((0 : Int) ≤ 0)) = true by simp <;> omega] at HB
            have HP0 := Lib.hid (HPU.out #[.int .i64 t0, .int .i64 (o : Nat), .int .i64 (a : Nat), .int .i64 0])
            clear HPU
            have hand := and_255 a (by omega)
            rw [show a % 256 = a by omega] at hand
            go_wp2_with fail
            refine (HW.out _).mono ?_
            rintro e w' ⟨rfl, rfl⟩
            go_wp2_with fail
            refine (HA.out _).mono ?_
            rintro e w' ⟨rfl, rfl⟩
            go_wp2_with fail
            refine (HB.out _).mono ?_
            rintro e w' ⟨rfl, rfl⟩
            have HO1_0 : Hid ((acc).length + 1 ≤ maxLen) := (show (acc).length + 1 ≤ maxLen by have := HO1.out; simp; omega)
            have HO2_0 : Hid (((acc).length + 1) * 1 ≤ 140737488355328) := (show ((acc).length + 1) * 1 ≤ 140737488355328 by have := HO2.out; simp; omega)
            go_wp2_with (at_builtin; refine wpList_row (by rfl) (.tmp 43) (.tmp 47) 26 rfl 5 i0 (.int .u8 0) 1 1 Try.underlying26 HI0.out HZ0.out HZ1.out HZ2.out rfl (by decide) u4 (acc).length (byteCells (acc)) rfl (HP0.out.row' _) (.slice (some ⟨wr.heap.size + 1, 0, none⟩) 1 1) 1 [.int .u8 (o : Nat)] rfl (by rw [← size_alloc]; exact new_one _ _ _) (one_of rfl) HO1_0.out HO2_0.out ?_)
            intro v2 w2 hr hg hv
            rw [show wr.heap.size + 1 + 1 = ((wr.alloc (.cells #[.int .i64 t0, .int .i64 (o : Nat), .int .i64 (a : Nat), .int .i64 0] 30)).alloc (.cells #[.int .u8 (o : Nat)] 5)).heap.size by rw [size_alloc, size_alloc]] at hv
            have hp := fun hn => HP0.out.push (y := o) (acc2 := acc ++ [o]) hn (by simp) hr hg hv
            have HP1 := Lib.hid (hp (by simp))
            clear hp hr hg hv
            have HO1_1 : Hid ((acc ++ [o]).length + 1 ≤ maxLen) := (show (acc ++ [o]).length + 1 ≤ maxLen by have := HO1.out; simp; omega)
            have HO2_1 : Hid (((acc ++ [o]).length + 1) * 1 ≤ 140737488355328) := (show ((acc ++ [o]).length + 1) * 1 ≤ 140737488355328 by have := HO2.out; simp; omega)
            have q1 := HP1.out.cell 1
            have q2 := HP1.out.cell 2
            have q3 := HP1.out.cell 3
            simp only [List.getElem?_toArray, List.getElem?_cons_succ, List.getElem?_cons_zero] at q1 q2 q3
            go_wp2_with (at_builtin; refine wpList_row (by rfl) (.tmp 51) (.tmp 56) 26 rfl 5 i0 (.int .u8 0) 1 1 Try.underlying26 HI0.out HZ0.out HZ1.out HZ2.out rfl (by decide) v2 (acc ++ [o]).length (byteCells (acc ++ [o])) rfl (HP1.out.row' _) (.slice (some ⟨w2.heap.size, 0, none⟩) 1 1) 1 [.int .u8 (a : Nat)] rfl (new_one _ _ _) (one_of rfl) HO1_1.out HO2_1.out ?_)
            intro v3 w3 hr hg hv
            rw [show w2.heap.size + 1 = (w2.alloc (.cells #[.int .u8 (a : Nat)] 5)).heap.size by rw [size_alloc]] at hv
            have hp := fun hn => HP1.out.push (y := a) (acc2 := acc ++ [o, a]) hn (by simp) hr hg hv
            have HP2 := Lib.hid (hp (by simp))
            clear hp hr hg hv q1 q2 q3
            have HS2 := Lib.hid (HST.out _ _ [o, a] _ _ hbs HP2.out)
            clear hbs
            go_wp2
            go_roundw
            case rel => first | exact ⟨k + 1, _, by go_num, by omega, HS2⟩ | ((repeat apply Exists.intro); exact ⟨⟨k + 1, _, by go_num, by omega, HS2⟩, rfl⟩)
            case measure => simp [intOf]; omega
          · have z2 := h7 (by omega)
            have hbs : [o, a % 256, a / 256] = insBytes ((o : Int), (a : Int), (c : Int)) := by
              unfold insBytes
              simp only [Int.toNat_natCast, widthZ_nat]
              rw [hw, if_neg (by omega), if_neg (by omega), if_neg (by omega)]
            obtain rfl : c = 0 := by omega
            rw [show ((0 : Nat) : Int) = 0 from rfl] at c3 hbs HST
            rw [hw] at HW
            have ha : (a : Int) ≤ 65535 := by omega
            clear h0 h1 h2 h3 h4 h5 h6 h7 hle hw o35 z2
            have HA := Lib.hid (fun w => in_any (a : Nat) 65535 w)
            rw [show (decide ((0 : Int) ≤ (a : Nat)) && decide (((a : Nat) : Int) ≤ 65535)) = true by simp <;> omega] at HA
            have HB := Lib.hid (fun w => in_any 0 0 w)
            rw [show (decide ((0 : Int) ≤ 0) && decide ((0 : Int) ≤ 0)) = true by simp <;> omega] at HB
            have HP0 := Lib.hid (HPU.out #[.int .i64 t0, .int .i64 (o : Nat), .int .i64 (a : Nat), .int .i64 0])
            clear HPU
            have hand := and_255 a (by omega)
            have ham : ((a % 256 : Nat) : Int) < 256 := by omega
            go_wp2_with fail
            refine (HW.out _).mono ?_
            rintro e w' ⟨rfl, rfl⟩
            go_wp2_with fail
            refine (HA.out _).mono ?_
            rintro e w' ⟨rfl, rfl⟩
            go_wp2_with fail
            refine (HB.out _).mono ?_
            rintro e w' ⟨rfl, rfl⟩
            have HO1_0 : Hid ((acc).length + 1 ≤ maxLen) := (show (acc).length + 1 ≤ maxLen by have := HO1.out; simp; omega)
            have HO2_0 : Hid (((acc).length + 1) * 1 ≤ 140737488355328) := (show ((acc).length + 1) * 1 ≤ 140737488355328 by have := HO2.out; simp; omega)
            go_wp2_with (at_builtin; refine wpList_row (by rfl) (.tmp 43) (.tmp 47) 26 rfl 5 i0 (.int .u8 0) 1 1 Try.underlying26 HI0.out HZ0.out HZ1.out HZ2.out rfl (by decide) u4 (acc).length (byteCells (acc)) rfl (HP0.out.row' _) (.slice (some ⟨wr.heap.size + 1, 0, none⟩) 1 1) 1 [.int .u8 (o : Nat)] rfl (by rw [← size_alloc]; exact new_one _ _ _) (one_of rfl) HO1_0.out HO2_0.out ?_)
            intro v2 w2 hr hg hv
            rw [show wr.heap.size + 1 + 1 = ((wr.alloc (.cells #[.int .i64 t0, .int .i64 (o : Nat), .int .i64 (a : Nat), .int .i64 0] 30)).alloc (.cells #[.int .u8 (o : Nat)] 5)).heap.size by rw [size_alloc, size_alloc]] at hv
            have hp := fun hn => HP0.out.push (y := o) (acc2 := acc ++ [o]) hn (by simp) hr hg hv
            have HP1 := Lib.hid (hp (by simp))
            clear hp hr hg hv
            have HO1_1 : Hid ((acc ++ [o]).length + 1 ≤ maxLen) := (show (acc ++ [o]).length + 1 ≤ maxLen by have := HO1.out; simp; omega)
            have HO2_1 : Hid (((acc ++ [o]).length + 1) * 1 ≤ 140737488355328) := (show ((acc ++ [o]).length + 1) * 1 ≤ 140737488355328 by have := HO2.out; simp; omega)
            have q1 := HP1.out.cell 1
            have q2 := HP1.out.cell 2
            have q3 := HP1.out.cell 3
            simp only [List.getElem?_toArray, List.getElem?_cons_succ, List.getElem?_cons_zero] at q1 q2 q3
            go_wp2_with (at_builtin; refine wpList_row (by rfl) (.tmp 51) (.tmp 56) 26 rfl 5 i0 (.int .u8 0) 1 1 Try.underlying26 HI0.out HZ0.out HZ1.out HZ2.out rfl (by decide) v2 (acc ++ [o]).length (byteCells (acc ++ [o])) rfl (HP1.out.row' _) (.slice (some ⟨w2.heap.size, 0, none⟩) 1 1) 1 [.int .u8 (a % 256 : Nat)] rfl (new_one _ _ _) (one_of rfl) HO1_1.out HO2_1.out ?_)
            intro v3 w3 hr hg hv
            rw [show w2.heap.size + 1 = (w2.alloc (.cells #[.int .u8 (a % 256 : Nat)] 5)).heap.size by rw [size_alloc]] at hv
            have hp := fun hn => HP1.out.push (y := a % 256) (acc2 := acc ++ [o, a % 256]) hn (by simp) hr hg hv
            have HP2 := Lib.hid (hp (by simp))
            clear hp hr hg hv q1 q2 q3
            have HO1_2 : Hid ((acc ++ [o, a % 256]).length + 1 ≤ maxLen) := (show (acc ++ [o, a % 256]).length + 1 ≤ maxLen by have := HO1.out; simp; omega)
            have HO2_2 : Hid (((acc ++ [o, a % 256]).length + 1) * 1 ≤ 140737488355328) := (show ((acc ++ [o, a % 256]).length + 1) * 1 ≤ 140737488355328 by have := HO2.out; simp; omega)
            have q1 := HP2.out.cell 1
            have q2 := HP2.out.cell 2
            have q3 := HP2.out.cell 3
            simp only [List.getElem?_toArray, List.getElem?_cons_succ, List.getElem?_cons_zero] at q1 q2 q3
            go_wp2_with (at_builtin; refine wpList_row (by rfl) (.tmp 68) (.tmp 73) 26 rfl 5 i0 (.int .u8 0) 1 1 Try.underlying26 HI0.out HZ0.out HZ1.out HZ2.out rfl (by decide) v3 (acc ++ [o, a % 256]).length (byteCells (acc ++ [o, a % 256])) rfl (HP2.out.row' _) (.slice (some ⟨w3.heap.size, 0, none⟩) 1 1) 1 [.int .u8 ((a : Int) / 256)] rfl (new_one _ _ _) (one_of rfl) HO1_2.out HO2_2.out ?_)
            intro v4 w4 hr hg hv
            rw [show w3.heap.size + 1 = (w3.alloc (.cells #[.int .u8 ((a : Int) / 256)] 5)).heap.size by rw [size_alloc]] at hv
            have hp := fun hn => HP2.out.push (y := a / 256) (acc2 := acc ++ [o, a % 256, a / 256]) hn (by simp) hr hg hv
            have HP3 := Lib.hid (hp (by simp))
            clear hp hr hg hv q1 q2 q3
            have HS2 := Lib.hid (HST.out _ _ [o, a % 256, a / 256] _ _ hbs HP3.out)
            clear hbs
            go_wp2
            go_roundw
            case rel => first | exact ⟨k + 1, _, by go_num, by omega, HS2⟩ | ((repeat apply Exists.intro); exact ⟨⟨k + 1, _, by go_num, by omega, HS2⟩, rfl⟩)
            case measure => simp [intOf]; omega
    · obtain rfl : k = len := by omega
      have hR := hst.out.end_
      subst hR
      clear hlt
      go_wp2
      go_ret2
      exact ⟨u4, rfl, hst.out.row, hst.out.new, hst.out.bel⟩
theorem rBytes_none (a : Option Addr) (cap : Nat) (w : World) :
    Calls Try.prog 18 #[.slice a 0 cap] w (BytesDone ([], 0) w) := by
  go_enter Try.func18, Try.ntmps18
  go_wp2
  go_loop [4, 5] (fun v i => i = .int .i64 0 ∧ v = .slice none 0 0) (fun _ _ => 0)
  case atStart => exact ⟨rfl, rfl⟩
  case round =>
    obtain ⟨rfl, rfl⟩ := hrel
    go_wp2
    go_ret2
    exact ⟨.slice none 0 0, rfl, RowS.nil _ _, (fun _ h => by cases h), Below.refl _ _⟩
theorem rBytes_any (a : Option Addr) (len cap : Nat) (t : Nat → Int) (q : Nat → Int × Int × Int) (w : World) (hs : InsSl w a len cap t q) (hl : len ≤ 4398046511104) :
    Calls Try.prog 18 #[.slice a len cap] w (BytesDone (wrFrom (rowQ q len) []) w) := by
  rcases Nat.eq_zero_or_pos len with rfl | hpos
  · exact rBytes_none a cap w
  · obtain ⟨g, off, rfl, _⟩ := hs.cell 0 hpos
    exact rBytes_pos g off len cap t q w hs hl hpos
end Go.Proofs.Yteipnfnbepnpjaa
