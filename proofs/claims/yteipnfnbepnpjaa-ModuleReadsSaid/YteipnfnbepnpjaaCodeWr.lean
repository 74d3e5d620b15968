/- code's Bytes and the reference's compute what they say. -/
import Derived.Test.YteipnfnbepnpjaaCodeWr1
namespace Go.Proofs.Yteipnfnbepnpjaa
open Go.RowKit
set_option linter.unusedVariables false

/-- a slice of instructions: q says the operation and the numbers of each -/
structure InsSl (w : World) (a : Option Addr) (len cap : Nat) (t : Nat → Int) (q : Nat → Int × Int × Int) : Prop where
  le : len ≤ cap
  max : cap ≤ 9223372036854775807
  cell : ∀ i, i < len → ∃ g off, a = some ⟨g, off, none⟩ ∧ g < w.heap.size ∧ w.cell? ⟨g, off + i * 4, none⟩ = some (.int .i64 (t i)) ∧ w.cell? ⟨g, off + i * 4 + 1, none⟩ = some (.int .i64 (q i).1) ∧
    w.cell? ⟨g, off + i * 4 + 2, none⟩ = some (.int .i64 (q i).2.1) ∧ w.cell? ⟨g, off + i * 4 + 3, none⟩ = some (.int .i64 (q i).2.2)
theorem InsSl.below {w w' : World} {a : Option Addr} {len cap : Nat} {t : Nat → Int} {q : Nat → Int × Int × Int} (h : InsSl w a len cap t q) (hb : Below w.heap.size w w') : InsSl w' a len cap t q :=
  ⟨h.le, h.max, fun i hi => by
    obtain ⟨g, off, e, hlt, c0, c1, c2, c3⟩ := h.cell i hi
    exact ⟨g, off, e, Nat.lt_of_lt_of_le hlt hb.size, (hb.cell (p := ⟨g, _, none⟩) hlt).trans c0, (hb.cell (p := ⟨g, _, none⟩) hlt).trans c1, (hb.cell (p := ⟨g, _, none⟩) hlt).trans c2, (hb.cell (p := ⟨g, _, none⟩) hlt).trans c3⟩⟩
/-- what is to be written -/
def rowQ (q : Nat → Int × Int × Int) (len : Nat) : List (Int × Int × Int) := (List.range len).map q
theorem rowQ_drop {q : Nat → Int × Int × Int} {len k : Nat} (h : k < len) : (rowQ q len).drop k = q k :: (rowQ q len).drop (k + 1) := by
  unfold rowQ
  rw [List.drop_eq_getElem_cons (by simpa using h)]
  simp
theorem rowQ_end (q : Nat → Int × Int × Int) (len : Nat) : (rowQ q len).drop len = [] := by
  apply List.drop_eq_nil_of_le
  simp [rowQ]
/-- bytes as cells -/
def byteCells (l : List Nat) : List Value := l.map fun y => .int .u8 (y : Nat)
theorem byteCells_app (l m : List Nat) : byteCells (l ++ m) = byteCells l ++ byteCells m := by simp [byteCells]
theorem byteCells_one (l : List Nat) : ∀ x ∈ byteCells l, x.oneCell' = true := by
  intro x hx
  obtain ⟨y, _, rfl⟩ := List.mem_map.1 hx
  rfl
theorem byteInfo : (Try.prog.info? 5).map (fun i => (i.zero, i.size, i.bytes)) = some (some (.int .u8 0), 1, 1) := by kernel_rfl
/-- what Bytes does -/
def BytesDone (R : List Nat × Nat) (w : World) (en : Ending) (w' : World) : Prop :=
  ∃ v, en = .returned (.tuple #[v, .int .i64 (R.2 : Nat)]) ∧ RowS w' 1 v R.1.length (byteCells R.1) ∧ (∀ g, v.ownBlock = some g → w.heap.size ≤ g) ∧ Below w.heap.size w w'
/-- where Bytes stands -/
structure WrAt (w : World) (q : Nat → Int × Int × Int) (len : Nat) (R : List Nat × Nat) (v : Value) (k : Nat) (acc : List Nat) (wr : World) : Prop where
  row : RowS wr 1 v acc.length (byteCells acc)
  new : ∀ g, v.ownBlock = some g → w.heap.size ≤ g
  bel : Below w.heap.size w wr
  val : wrFrom ((rowQ q len).drop k) acc = R
  le : acc.length ≤ 3 * k
theorem WrAt.start (w : World) (q : Nat → Int × Int × Int) (len : Nat) : WrAt w q len (wrFrom (rowQ q len) []) (.slice none 0 0) 0 [] w :=
  ⟨RowS.nil _ _, (fun _ h => by cases h), Below.refl _ _, rfl, Nat.le_refl _⟩
section
variable {w wr w1 w2 : World} {q : Nat → Int × Int × Int} {len k : Nat} {R : List Nat × Nat} {v v2 : Value} {acc : List Nat}
theorem WrAt.keep (h : WrAt w q len R v k acc wr) (hb : Below wr.heap.size wr w1) : RowS w1 1 v acc.length (byteCells acc) :=
  h.row.keeps (Keeps.of_below hb (Nat.le_refl _) []) fun _ _ => List.not_mem_nil
theorem WrAt.bad (h : WrAt w q len R v k acc wr) (hk : k < len) (ho : okIns (q k) = false) : R = ([], 1) := by
  rw [← h.val, rowQ_drop hk, wrFrom_bad ho]
theorem WrAt.end_ (h : WrAt w q len R v len acc wr) : R = (acc, 0) := by
  rw [← h.val, rowQ_end]; rfl
/-- bytes have been appended -/
theorem WrAt.step (h : WrAt w q len R v k acc wr) (hk : k < len) (ho : okIns (q k) = true) (hb : Below wr.heap.size wr w1) {bs : List Nat} (hbs : bs = insBytes (q k))
    (hr : RowS w2 1 v2 (acc.length + bs.length) (byteCells acc ++ byteCells bs)) (hb2 : Below w.heap.size w w2) (hn : ∀ g, v2.ownBlock = some g → w.heap.size ≤ g) :
    WrAt w q len R v2 (k + 1) (acc ++ bs) w2 := by
  subst hbs
  refine ⟨by rw [List.length_append, byteCells_app]; exact hr, hn, hb2, ?_, ?_⟩
  · rw [← h.val, rowQ_drop hk, wrFrom_on ho]
  · have := h.le
    rw [List.length_append, insBytes_len ho]
    have := widthZ_le (q k).1
    omega
/-- an append's frame -/
theorem app_frame (hb : Below w.heap.size w w1) (hn : ∀ g, v.ownBlock = some g → w.heap.size ≤ g) (hg : w1.grownBy w2 v.ownBlock) (hv : v2.ownBlock = v.ownBlock ∨ ∃ g, v2.ownBlock = some g ∧ w1.heap.size ≤ g) :
    Below w.heap.size w w2 ∧ ∀ g, v2.ownBlock = some g → w.heap.size ≤ g := by
  refine ⟨below_row hb hg hb.size hn, fun g hg' => ?_⟩
  rcases hv with hv | ⟨g', hv, hge⟩
  · exact hn g (by rw [← hv]; exact hg')
  · rw [hv] at hg'; cases hg'; exact Nat.le_trans hb.size hge
end
theorem Src_bytes {w : World} {g c : Nat} {bs : List Nat} (h : ∀ (j y : Nat), bs[j]? = some y → w.cell? ⟨g, j, none⟩ = some (.int .u8 (y : Nat))) : Src w (.slice (some ⟨g, 0, none⟩) bs.length c) bs.length 1 (byteCells bs) := by
  refine .inr ⟨_, _, rfl, by simp [byteCells], fun j u hu => ?_⟩
  unfold byteCells at hu
  rw [List.getElem?_map] at hu
  cases hy : bs[j]? with
  | none => rw [hy] at hu; cases hu
  | some y =>
    rw [hy] at hu
    cases hu
    have e : (⟨g, 0, none⟩ : Addr).add j = ⟨g, j, none⟩ := by unfold Addr.add; split <;> simp_all
    rw [e]
    exact h j y hy
theorem notOk {x : Int × Int × Int} (h : okIns x = false) : widthZ x.1 = 0 ∨ (widthZ x.1 ≠ 0 ∧ x.2.1 < 0) ∨ (widthZ x.1 ≠ 0 ∧ 0 ≤ x.2.1 ∧ (mostA x.1 : Int) < x.2.1) ∨ (widthZ x.1 ≠ 0 ∧ 0 ≤ x.2.1 ∧ x.2.1 ≤ mostA x.1 ∧ x.2.2 < 0) ∨ (widthZ x.1 ≠ 0 ∧ 0 ≤ x.2.1 ∧ x.2.1 ≤ mostA x.1 ∧ 0 ≤ x.2.2 ∧ (mostB x.1 : Int) < x.2.2) := by
  have := of_decide_eq_false h
  omega
theorem isOk {x : Int × Int × Int} (h : okIns x = true) : widthZ x.1 ≠ 0 ∧ 0 ≤ x.2.1 ∧ x.2.1 ≤ mostA x.1 ∧ 0 ≤ x.2.2 ∧ x.2.2 ≤ mostB x.1 := of_decide_eq_true h

set_option maxRecDepth 100000 in
set_option maxHeartbeats 4000000 in
theorem cBytes_pos (g off len cap : Nat) (t : Nat → Int) (q : Nat → Int × Int × Int) (w : World) (hs : InsSl w (some ⟨g, off, none⟩) len cap t q) (hl : len ≤ 4398046511104) (hpos : 0 < len) :
    Calls Try.prog 23 #[.slice (some ⟨g, off, none⟩) len cap] w (BytesDone (wrFrom (rowQ q len) []) w) := by
  have HS0 := Lib.hid (WrAt.start w q len)
  generalize wrFrom (rowQ q len) [] = R at HS0 ⊢
  have HI := Lib.hid hs
  have hmax := hs.max
  have hcap := hs.le
  have hg0 : g < w.heap.size := by obtain ⟨g', off', e, h, _⟩ := hs.cell 0 hpos; cases e; exact h
  clear hs
  obtain ⟨i0, hi, hz0, hz1, hz2⟩ := info_parts byteInfo
  have HI0 := Lib.hid hi
  have HZ0 := Lib.hid hz0
  have HZ1 := Lib.hid hz1
  have HZ2 := Lib.hid hz2
  have HG := Lib.hid hg0
  clear hi hz0 hz1 hz2 hg0
  go_enter Try.func23, Try.ntmps23
  go_wp2
  go_loopw [4, 11] (fun v i wr => ∃ (k : Nat) (acc : List Nat), i = .int .i64 k ∧ k ≤ len ∧ Hid (WrAt w q len R v k acc wr)) (fun _ i _ => len - (intOf i).toNat)
  case atStart => exact ⟨0, [], rfl, Nat.zero_le _, HS0⟩
  case round =>
    obtain ⟨k, acc, rfl, hk, hst⟩ := hrel
    by_cases hlt : k < len
    · obtain ⟨g', off', e, _, c0, c1, c2, c3⟩ := HI.out.cell k hlt
      cases e
      have hgr : g < wr.heap.size := Nat.lt_of_lt_of_le HG.out hst.out.bel.size
      have c0 := (hst.out.bel.cell (p := ⟨g, off + k * 4, none⟩) HG.out).trans c0
      have c1 := (hst.out.bel.cell (p := ⟨g, off + k * 4 + 1, none⟩) HG.out).trans c1
      have c2 := (hst.out.bel.cell (p := ⟨g, off + k * 4 + 2, none⟩) HG.out).trans c2
      have c3 := (hst.out.bel.cell (p := ⟨g, off + k * 4 + 3, none⟩) HG.out).trans c3
      have HBAD := Lib.hid (fun h => hst.out.bad hlt h)
      have HST := Lib.hid (fun (w1 w2 : World) (v2 : Value) (bs : List Nat) => hst.out.step (w1 := w1) (w2 := w2) (v2 := v2) (bs := bs) hlt)
      have HKE := Lib.hid (fun (w1 : World) => hst.out.keep (w1 := w1))
      have HNEW := Lib.hid hst.out.new
      have HBEL := Lib.hid hst.out.bel
      have HLE := Lib.hid hst.out.le
      have HO1 : Hid (acc.length + 3 ≤ maxLen) := (show acc.length + 3 ≤ maxLen by have := hst.out.le; unfold maxLen; omega)
      have HO2 : Hid ((acc.length + 3) * 1 ≤ 140737488355328) := (show (acc.length + 3) * 1 ≤ 140737488355328 by have := hst.out.le; omega)
      clear hst
      generalize t k = t0 at *
      generalize q k = x at *
      obtain ⟨op, A, B⟩ := x
      dsimp only at c1 c2 c3
      have HM := Lib.hid (fun w => most_any op w)
      have HW := Lib.hid (fun w => width_any op w)
      cases hok : okIns (op, A, B)
      · have hno := notOk hok
        dsimp only at hno
        have hR := HBAD.out hok
        subst hR
        clear hok HBAD HST
        generalize widthZ op = n at *
        generalize mostA op = ma at *
        generalize mostB op = mb at *
        rcases hno with h | h | h | h | h
        · have d0 : ((n : Int) == 0) = true := by simpa using (by omega : (n : Int) = 0)
          clear h
          go_wp2_with fail
          refine (HM.out _).mono ?_
          rintro e w' ⟨rfl, rfl⟩
          go_wp2_with fail
          refine (HW.out _).mono ?_
          rintro e w' ⟨rfl, rfl⟩
          go_wp2
          go_ret2
          exact ⟨.slice none 0 0, rfl, RowS.nil _ _, (fun _ h => by cases h), HBEL.out.alloc HBEL.out.size _⟩
        · have d0 : ((n : Int) == 0) = false := by simpa using (by omega : ¬ (n : Int) = 0)
          have d1 : decide (A < 0) = true := by rw [decide_eq_true_eq]; omega
          clear h
          go_wp2_with fail
          refine (HM.out _).mono ?_
          rintro e w' ⟨rfl, rfl⟩
          go_wp2_with fail
          refine (HW.out _).mono ?_
          rintro e w' ⟨rfl, rfl⟩
          go_wp2
          go_ret2
          exact ⟨.slice none 0 0, rfl, RowS.nil _ _, (fun _ h => by cases h), HBEL.out.alloc HBEL.out.size _⟩
        · have d0 : ((n : Int) == 0) = false := by simpa using (by omega : ¬ (n : Int) = 0)
          have d1 : decide (A < 0) = false := by rw [decide_eq_false_iff_not]; omega
          have d2 : decide ((ma : Int) < A) = true := by rw [decide_eq_true_eq]; omega
          clear h
          go_wp2_with fail
          refine (HM.out _).mono ?_
          rintro e w' ⟨rfl, rfl⟩
          go_wp2_with fail
          refine (HW.out _).mono ?_
          rintro e w' ⟨rfl, rfl⟩
          go_wp2
          go_ret2
          exact ⟨.slice none 0 0, rfl, RowS.nil _ _, (fun _ h => by cases h), HBEL.out.alloc HBEL.out.size _⟩
        · have d0 : ((n : Int) == 0) = false := by simpa using (by omega : ¬ (n : Int) = 0)
          have d1 : decide (A < 0) = false := by rw [decide_eq_false_iff_not]; omega
          have d2 : decide ((ma : Int) < A) = false := by rw [decide_eq_false_iff_not]; omega
          have d3 : decide (B < 0) = true := by rw [decide_eq_true_eq]; omega
          clear h
          go_wp2_with fail
          refine (HM.out _).mono ?_
          rintro e w' ⟨rfl, rfl⟩
          go_wp2_with fail
          refine (HW.out _).mono ?_
          rintro e w' ⟨rfl, rfl⟩
          go_wp2
          go_ret2
          exact ⟨.slice none 0 0, rfl, RowS.nil _ _, (fun _ h => by cases h), HBEL.out.alloc HBEL.out.size _⟩
        · have d0 : ((n : Int) == 0) = false := by simpa using (by omega : ¬ (n : Int) = 0)
          have d1 : decide (A < 0) = false := by rw [decide_eq_false_iff_not]; omega
          have d2 : decide ((ma : Int) < A) = false := by rw [decide_eq_false_iff_not]; omega
          have d3 : decide (B < 0) = false := by rw [decide_eq_false_iff_not]; omega
          have d4 : decide ((mb : Int) < B) = true := by rw [decide_eq_true_eq]; omega
          clear h
          go_wp2_with fail
          refine (HM.out _).mono ?_
          rintro e w' ⟨rfl, rfl⟩
          go_wp2_with fail
          refine (HW.out _).mono ?_
          rintro e w' ⟨rfl, rfl⟩
          go_wp2
          go_ret2
          exact ⟨.slice none 0 0, rfl, RowS.nil _ _, (fun _ h => by cases h), HBEL.out.alloc HBEL.out.size _⟩
      · have hyes := isOk hok
        dsimp only at hyes
        have HWR := Lib.hid (fun w => write_any t0 (op, A, B) w hok)
        have hlen := insBytes_len hok
        have hw3 := widthZ_le op
        dsimp only at hlen
        have HST := Lib.hid (fun w1 w2 v2 bs => HST.out w1 w2 v2 bs hok)
        clear hok HBAD
        generalize insBytes (op, A, B) = bs at *
        generalize widthZ op = n at *
        generalize mostA op = ma at *
        generalize mostB op = mb at *
        have d0 : ((n : Int) == 0) = false := by simpa using (by omega : ¬ (n : Int) = 0)
        have d1 : decide (A < 0) = false := by rw [decide_eq_false_iff_not]; omega
        have d2 : decide ((ma : Int) < A) = false := by rw [decide_eq_false_iff_not]; omega
        have d3 : decide (B < 0) = false := by rw [decide_eq_false_iff_not]; omega
        have d4 : decide ((mb : Int) < B) = false := by rw [decide_eq_false_iff_not]; omega
        clear hyes
        have HLEN := Lib.hid hlen
        have HW3 := Lib.hid hw3
        clear hlen hw3
        go_wp2_with fail
        refine (HM.out _).mono ?_
        rintro e w' ⟨rfl, rfl⟩
        go_wp2_with fail
        refine (HW.out _).mono ?_
        rintro e w' ⟨rfl, rfl⟩
        go_wp2_with fail
        refine (HWR.out _).mono ?_
        rintro e w1 ⟨gw, rfl, hgw, hgl, hcw, hb1⟩
        have HB1 : Hid (Below wr.heap.size wr w1) := (show Below wr.heap.size wr w1 from ((Below.refl _ _).alloc (Nat.le_refl _) _).trans (hb1.mono (by rw [size_alloc]; omega)))
        have HSR := Lib.hid (Src_bytes (c := 3) hcw)
        clear hgw hgl hcw hb1
        have HP1 : Hid (acc.length + bs.length ≤ maxLen) := (show acc.length + bs.length ≤ maxLen by have := HO1.out; have := HLEN.out; have := HW3.out; omega)
        have HP2 : Hid ((acc.length + bs.length) * 1 ≤ 140737488355328) := (show (acc.length + bs.length) * 1 ≤ 140737488355328 by have := HO2.out; have := HLEN.out; have := HW3.out; omega)
        go_wp2_with (at_builtin; refine wpList_row (by rfl) (.tmp 47) (.tmp 49) 26 rfl 5 i0 (.int .u8 0) 1 1 Try.underlying26 HI0.out HZ0.out HZ1.out HZ2.out rfl (by decide) u4 acc.length (byteCells acc) rfl (HKE.out _ HB1.out) (.slice (some ⟨gw, 0, none⟩) bs.length 3) bs.length (byteCells bs) rfl HSR.out (byteCells_one bs) HP1.out HP2.out ?_)
        intro v2 w2 hr2 hg2 hv2
        obtain ⟨hb2, hn2⟩ := app_frame (HBEL.out.trans (HB1.out.mono HBEL.out.size)) HNEW.out hg2 hv2
        have HS2 := Lib.hid (HST.out _ w2 v2 bs HB1.out rfl hr2 hb2 hn2)
        clear hr2 hg2 hv2 hb2 hn2
        go_wp2
        go_roundw
        case rel => first | exact ⟨k + 1, _, by go_num, by omega, HS2⟩ | ((repeat apply Exists.intro); exact ⟨⟨k + 1, _, by go_num, by omega, HS2⟩, rfl⟩)
        case measure => simp [intOf]; omega
    · obtain rfl : k = len := by omega
      have hR := hst.out.end_
      subst hR
      clear hlt
      go_wp2
      go_ret2
      exact ⟨u4, rfl, hst.out.row, hst.out.new, hst.out.bel⟩
theorem cBytes_none (a : Option Addr) (cap : Nat) (w : World) :
    Calls Try.prog 23 #[.slice a 0 cap] w (BytesDone ([], 0) w) := by
  go_enter Try.func23, Try.ntmps23
  go_wp2
  go_loop [4, 11] (fun v i => i = .int .i64 0 ∧ v = .slice none 0 0) (fun _ _ => 0)
  case atStart => exact ⟨rfl, rfl⟩
  case round =>
    obtain ⟨rfl, rfl⟩ := hrel
    go_wp2
    go_ret2
    exact ⟨.slice none 0 0, rfl, RowS.nil _ _, (fun _ h => by cases h), Below.refl _ _⟩
theorem cBytes_any (a : Option Addr) (len cap : Nat) (t : Nat → Int) (q : Nat → Int × Int × Int) (w : World) (hs : InsSl w a len cap t q) (hl : len ≤ 4398046511104) :
    Calls Try.prog 23 #[.slice a len cap] w (BytesDone (wrFrom (rowQ q len) []) w) := by
  rcases Nat.eq_zero_or_pos len with rfl | hpos
  · exact cBytes_none a cap w
  · obtain ⟨g, off, rfl, _⟩ := hs.cell 0 hpos
    exact cBytes_pos g off len cap t q w hs hl hpos
end Go.Proofs.Yteipnfnbepnpjaa
