/- arena's Free computes what it says. -/
import Derived.Test.YtfiddodlpppdhaaAsNew
namespace Go.Proofs.Ytfiddodlpppdhaa
open Go.RowKit Go.Maps
set_option linter.unusedVariables false
/-- how Free of a number ends: what it answers, the arena then -/
inductive FreeR (A : Ar) (x : Int) : Int → Ar → Prop
  | no : (∀ (n : Nat) (b : BlkT), x = (n : Int) → A.B n = some b → b.st ≠ 1) → FreeR A x 3 A
  | smash (n : Nat) (b : BlkT) : x = (n : Int) → A.B n = some b → b.st = 1 → ¬ keptA A n b → FreeR A x 4 A
  | ok (n : Nat) (b : BlkT) : x = (n : Int) → A.B n = some b → b.st = 1 → keptA A n b → FreeR A x 0 (freeA A n b)
def FreeDone (B : Nat → Prop) (pa K : Nat) (A : Ar) (x : Int) (w : World) (en : Ending) (w' : World) : Prop := ∃ c A', en = .returned (.int .i64 c) ∧ FreeR A x c A' ∧ ArS B w' pa K A' ∧ ArOk A' ∧ Bel B w w'
theorem ArOk.lineLen {A : Ar} (ok : ArOk A) : A.L.length ≤ 262144 := by
  have := length_le_of_nodup 262144 (l := A.L.map (·.1)) ok.nodup fun x hx => by
    obtain ⟨⟨y, n⟩, h1, rfl⟩ := List.mem_map.1 hx
    obtain ⟨k, b, e1, e2, _⟩ := ok.line y n h1
    have := ok.size_pos e2
    have := ok.n.2
    show 0 ≤ y ∧ y < _
    omega
  simpa using this
section
variable {w w' : World} {B : Nat → Prop} {pa K : Nat} {A : Ar}
theorem ArS.drewN (h : ArS B w pa K A) (k : Nat) : ArS B (w.drewN k) pa K A := by
  obtain ⟨I, own, h1, h2, h3⟩ := h
  exact ⟨I, own, h1.drewN k, h2, h3⟩
theorem bel_drewN (w : World) (B : Nat → Prop) (k : Nat) : Bel B w (w.drewN k) := by
  have h := (Keeps.refl [] w).drewN k
  exact ⟨h.os, h.tape, h.output, h.size, fun j hj => rfl⟩
theorem below_drewN (w : World) (B k : Nat) : Below B w (w.drewN k) := by
  have h := (Keeps.refl [] w).drewN k
  exact ⟨h.os, h.tape, h.output, h.size, fun j hj => rfl⟩
/-- where the poison's loop stands -/
def PoiAt (B : Nat → Prop) (pa K x j : Nat) (A : Ar) (I : ArIds) (own : Nat → Nat) (w wr : World) : Prop :=
  ArAt wr pa I own K { A with wd := laysW A.wd ps x j } ∧ Bel B w wr
/-- line's Add and opens, one behind the other -/
theorem addOpens (n : Nat) (b : BlkT) (w : World) (I : ArIds) (own : Nat → Nat) (h : ArAt w pa I own K A) (hown : ∀ g, own g ≠ 0 → ¬ B g) (hBs : Fits B w) (hlen : A.L.length ≤ 262144) (hs : b.size ≤ 262144)
    (hok : ∀ L, L = stays A.bud (A.L ++ [((n : Int), b.size)]) → ArOk { A with L := L } ∧ OpenOk { A with L := L } (goes A.bud (A.L ++ [((n : Int), b.size)]))) (l : List Int) (hl : l = goes A.bud (A.L ++ [((n : Int), b.size)])) :
    Calls Try.prog 35 #[.pointer (some ⟨I.pl, 0, none⟩), .int .i64 (n : Nat), .int .i64 (b.size : Nat)] w fun e w' => ∃ a cap, e = .returned (.slice a l.length cap) ∧ Hid (Calls Try.prog 29 #[.pointer (some ⟨pa, 0, none⟩), .slice a l.length cap] w' (OsDone B pa K (opensA { A with L := stays A.bud (A.L ++ [((n : Int), b.size)]) } l) w')) ∧ Hid (Bel B w w') := by
  refine (add_line (n : Int) b.size w h.line (by omega) (by omega)).mono ?_
  rintro e w2 ⟨v, q', rfl, hr, hv, hl2, hq, hk⟩
  rw [← hl] at hr
  obtain ⟨a, cap, rfl, _⟩ := hr.read
  have h2 := h.turnLine hl2 (fun g hg => by
    rcases hq with e | ⟨g', e, h6⟩
    · exact .inl (by rw [← e, hg])
    · rw [hg] at e; cases e; exact .inr h6) hk
  have hbel : Bel B w w2 := keeps_below hk hown hBs fun y hy => by
    rcases List.mem_cons.1 hy with rfl | hy
    · rw [h.tline.1]; decide
    · rw [h.tline.2 y (by simpa using hy)]; decide
  obtain ⟨o1, o2⟩ := hok _ rfl
  rw [← hl] at o2
  exact ⟨a, cap, rfl, Lib.hid (opens_at (B := B) l a cap w2 _ _ h2 (newOwn_base hown hBs) (Fits.le hBs hk.size) o1 o2 hr (fun g hg => newOwn_new (hv g hg).1)), Lib.hid hbel⟩
set_option maxRecDepth 100000 in
set_option maxHeartbeats 4000000 in
theorem free_in (n : Nat) (b : BlkT) (w : World) (h : ArS B w pa K A) (ok : ArOk A) (hb : A.B n = some b) (hst : b.st = 1) (hkept : keptA A n b) :
    Calls Try.prog 15 #[.pointer (some ⟨pa, 0, none⟩), .int .i64 (n : Nat)] w (fun en w' => en = .returned (.int .i64 0) ∧ ArS B w' pa K (freeA A n b) ∧ Bel B w w') := by
  obtain ⟨I, own, hat, hown, hBs⟩ := h
  obtain ⟨g1, g2, g3, g4, g5⟩ := ok.blk n b hb
  have hpos := ok.size_pos hb
  have hN := ok.n
  have hxw : (Lit.int .i64 (n : Int)).wf = true := WalkArith.wf_i64 (by omega)
  have HU : Hid (Calls Try.prog 32 #[.pointer (some ⟨pa, 0, none⟩), .int .i64 (n : Nat)] w fun e w' => e = .returned (.tuple #[.pointer (some ⟨I.blk n, 0, none⟩), .bool true]) ∧ ∃ k, w' = w.drewN k) := Lib.hid (by
    refine (used_at (n : Int) w hat hxw).mono ?_
    rintro e w1 ⟨hk, ⟨m, d, e1, e2, rfl⟩ | ⟨hno, rfl⟩⟩
    · obtain rfl : n = m := by omega
      rw [hb] at e2
      cases e2
      rw [hst]
      exact ⟨rfl, hk⟩
    · have := hno n rfl
      rw [hb] at this
      cases this)
  have HKP : Hid (∀ k, Calls Try.prog 33 #[.pointer (some ⟨pa, 0, none⟩), .int .i64 (n : Nat), .pointer (some ⟨I.blk n, 0, none⟩)] (w.drewN k) fun e w' => e = .returned (.bool true) ∧ ∃ m, w' = w.drewN m) := Lib.hid (show ∀ k, Calls Try.prog 33 #[.pointer (some ⟨pa, 0, none⟩), .int .i64 (n : Nat), .pointer (some ⟨I.blk n, 0, none⟩)] (w.drewN k) fun e w' => e = .returned (.bool true) ∧ ∃ m, w' = w.drewN m from fun k => by
    refine (kept_at n b (w.drewN k) (hat.drewN k) hb hpos.2.1 hpos.1 hN.2 g3).mono ?_
    rintro e w1 ⟨rfl, m, rfl⟩
    rw [(keptD_iff (by omega) g3).2 hkept]
    exact ⟨rfl, _, World.drewN_drewN _ _ _⟩)
  obtain ⟨M, hM⟩ : ∃ M, M = 64 * A.N := ⟨_, rfl⟩
  obtain ⟨s, hs⟩ : ∃ s, s = b.size := ⟨_, rfl⟩
  obtain ⟨z, hz⟩ : ∃ z, z = n + s := ⟨_, rfl⟩
  have hws : IntKind.i64.wrap ((n : Int) + (s : Int)) = (z : Int) := by rw [IntWalk.i64_in _ (by omega)]; omega
  have HP0 : Hid (∀ k, PoiAt B pa K n 0 A I own w (w.drewN k)) := Lib.hid (show ∀ k, PoiAt B pa K n 0 A I own w (w.drewN k) from fun k => ⟨by rw [laysW_zero]; exact hat.drewN k, bel_drewN w B k⟩)
  have HYZ : Hid (z = n + s ∧ z ≤ M ∧ M = 64 * A.N ∧ M ≤ 262144 ∧ s = b.size) := Lib.hid (show z = n + s ∧ z ≤ M ∧ M = 64 * A.N ∧ M ≤ 262144 ∧ s = b.size by omega)
  have HOW := Lib.hid (And.intro hown hBs)
  have HB := Lib.hid hb
  have HPC := Lib.hid (fun i w => poison_any i w)
  obtain ⟨l, hl⟩ : ∃ l, l = goes A.bud (A.L ++ [((n : Int), b.size)]) := ⟨_, rfl⟩
  have HFA : Hid (freeA A n b = opensA { A with wd := laysW A.wd ps n s, B := updO A.B n (some { b with st := 2 }), L := stays A.bud (A.L ++ [((n : Int), b.size)]) } l) := Lib.hid (show freeA A n b = _ by rw [hl, hs]; rfl)
  have HAO : Hid (∀ wr, PoiAt B pa K n s A I own w wr → Hid (∀ w1, w1 = wr.setCell ⟨I.blk n, 2, none⟩ (.int .i64 2) ∨ w1 = (wr.setCell ⟨I.blk n, 2, none⟩ (.int .i64 2)).drew → Calls Try.prog 35 #[.pointer (some ⟨I.pl, 0, none⟩), .int .i64 (n : Nat), .int .i64 (s : Nat)] w1 fun e w' => ∃ a cap, e = .returned (.slice a l.length cap) ∧ Hid (Calls Try.prog 29 #[.pointer (some ⟨pa, 0, none⟩), .slice a l.length cap] w' (OsDone B pa K (freeA A n b) w')) ∧ Hid (Bel B w w'))) := Lib.hid (by
    intro wr hp
    refine Lib.hid ?_
    intro w1 hw1
    have h1 := hp.1.setBlk hb (b' := { b with st := 2 }) (i := 2) (u := .int .i64 2) rfl
    have k1 : Keeps [I.blk n] wr (wr.setCell ⟨I.blk n, 2, none⟩ (.int .i64 2)) := keeps_set wr (I.blk n) 2 (.int .i64 2)
    have hBw : Fits B wr := Fits.le hBs (Bel.size hp.2)
    have hb1 : Bel B wr (wr.setCell ⟨I.blk n, 2, none⟩ (.int .i64 2)) := keeps_below k1 hown hBw fun y hy => by
      simp at hy
      rw [hy, hat.tblk n b hb]; omega
    have hx : ArAt w1 pa I own K { A with wd := laysW A.wd ps n s, B := updO A.B n (some { b with st := 2 }) } ∧ Bel B wr w1 ∧ Fits B w1 := by
      rcases hw1 with rfl | rfl
      · exact ⟨h1, hb1, Fits.le hBw k1.size⟩
      · exact ⟨h1.drewN 1, hb1.trans (bel_drewN _ B 1), Fits.le hBw k1.size⟩
    rw [HFA.out]
    clear HFA HP0
    subst hs
    have key := addOpens (B := B) n { b with st := 2 } w1 I own hx.1 hown hx.2.2 ok.lineLen (by show b.size ≤ 262144; omega) (fun L hL => by
      have q := (ok.back hb hst (laysW A.wd ps n b.size)).goesOk A.bud
      rw [hL]
      exact q) l hl
    refine key.mono ?_
    rintro e w2 ⟨a, cap, rfl, q1, q2⟩
    exact ⟨a, cap, rfl, q1, Lib.hid ((hp.2.trans hx.2.1).trans q2.out)⟩)
  have HHB := Lib.hid hat.lt_pa
  have hsv := hs
  clear hat hown hBs ok hb hst hkept g1 g2 g3 g4 g5 hpos hN hM hs hz hl HFA hsv
  go_enter Try.func15, Try.ntmps15
  go_wp2_with fail
  refine HU.out.mono ?_
  rintro e w1 ⟨rfl, k1, rfl⟩
  go_wp2_with fail
  refine (HKP.out k1).mono ?_
  rintro e w2 ⟨rfl, k2, rfl⟩
  go_wp2_with fail
  go_loopw [7] (fun v wr => ∃ q j : Nat, v = .int .i64 (q : Nat) ∧ j ≤ s ∧ Hid (q = n + j) ∧ Hid (PoiAt B pa K n j A I own w wr)) (fun v _ => z - (intOf v).toNat)
  case atStart => exact ⟨n, 0, rfl, Nat.zero_le _, rfl, HP0.out k2⟩
  case round =>
    obtain ⟨q, j, rfl, hj, hq, hp⟩ := hrel
    obtain ⟨wo, rfl⟩ : ∃ wo : World, wo = wr := ⟨_, rfl⟩
    have hqv := hq.out
    obtain ⟨y1, y2, y3, y4, y5⟩ := HYZ.out
    have d0 : wo.cell? ⟨I.blk n, 0, none⟩ = some (.int .i64 (s : Nat)) := by rw [y5]; exact (hp.out.1.bcells HB.out).1
    by_cases hlt : j < s
    · have hqz : (q : Int) < (z : Int) := by omega
      have hq0 : (0 : Int) ≤ (q : Int) := by omega
      have hqM : (q : Int) < (M : Int) := by omega
      have hqm : q ≤ 262144 := by omega
      have e0 : wo.cell? ⟨pa, 0, none⟩ = some (.slice (some ⟨I.gw, 0, none⟩) M M) := by rw [y3]; exact hp.out.1.cells.1
      have e9 := hp.out.1.word (i := q) (by show q < 64 * A.N; omega)
      obtain ⟨v0, e1⟩ : ∃ v0, wo.cell? ⟨I.gw, q, none⟩ = some v0 ∧ wo.frozen? ⟨I.gw, q, none⟩ = false := ⟨_, e9⟩
      obtain ⟨e1, e2⟩ := e1
      clear e9
      have HFN : Hid (PoiAt B pa K n (j + 1) A I own w (wo.setCell ⟨I.gw, q, none⟩ (.int .u64 (ps (q : Nat)))).drew) := Lib.hid (show PoiAt B pa K n (j + 1) A I own w (wo.setCell ⟨I.gw, q, none⟩ (.int .u64 (ps (q : Nat)))).drew from by
        obtain ⟨p1, p2⟩ := hp.out
        have h1 := p1.setWd q (ps (q : Nat)) (ps_wf _)
        have k1 : Keeps [I.gw] wo (wo.setCell ⟨I.gw, q, none⟩ (.int .u64 (ps (q : Nat)))).drew := (keeps_set wo I.gw q (.int .u64 (ps (q : Nat)))).drew
        refine ⟨?_, p2.trans (keeps_below k1 HOW.out.1 (Fits.le HOW.out.2 (Bel.size p2)) fun g hg => by simp at hg; rw [hg, p1.tgw]; decide)⟩
        have e := laysW_succ A.wd ps n j
        rw [show n + j = q by omega] at e
        rw [← e]
        exact h1.same ((Keeps.refl [] _).drew) (fun y hy => absurd hy List.not_mem_nil))
      have hq1 : IntKind.i64.wrap ((q : Int) + 1) = ((q + 1 : Nat) : Int) := by rw [IntWalk.i64_in _ (by omega)]; omega
      clear hqv y1 y2 y3 y4 y5 hp
      go_wp2_with fail
      go_region_law (first
        | (go_simp
           go_at_call 34
           refine (HPC.out _ _).mono ?_
           rintro e w5 ⟨rfl, rfl⟩))
      all_goals
        go_wp2
        go_roundw
      all_goals try (first | exact ⟨q + 1, j + 1, by go_num, by omega, Lib.hid (show q + 1 = n + (j + 1) by have := hq.out; omega), HFN⟩ | ((repeat apply Exists.intro); exact ⟨⟨q + 1, j + 1, by go_num, by omega, Lib.hid (show q + 1 = n + (j + 1) by have := hq.out; omega), HFN⟩, rfl⟩))
      all_goals (have := hq.out; simp [intOf]; omega)
    · obtain rfl : j = s := by omega
      have hqz : ¬ (q : Int) < (z : Int) := by omega
      have HADD := HAO.out wo hp.out
      obtain ⟨_, _, c2, _⟩ := hp.out.1.cells
      obtain ⟨_, _, d2, _, fd2⟩ := hp.out.1.bcells HB.out
      have hne : ¬ (I.blk n = pa) := fun e => by
        have t1 := hp.out.1.tpa
        have t2 := hp.out.1.tblk n b HB.out
        rw [e] at t2
        omega
      have hltpa := hp.out.1.lt_pa
      have hltb := hp.out.1.lt_blk HB.out
      clear hp hlt y1 y2 y3 y4 y5 hqv HAO HP0 HKP HU
      go_wp2_with fail
      go_region_law (first
        | (go_simp
           go_at_call 35
           refine (HADD.out _ (by first | exact .inl rfl | exact .inr rfl)).mono ?_
           rintro e w5 ⟨a5, c5, rfl, ho5, hb5⟩)
        | (go_simp
           go_at_call 29
           refine ho5.out.mono ?_
           rintro e w6 ⟨rfl, h6, ok6, hb6⟩))
      all_goals
        have HF := Lib.hid (And.intro h6 (hb5.out.trans hb6))
        clear h6 ok6 hb6
        go_wp2
        go_ret
        exact ⟨rfl, HF.out.1, HF.out.2⟩
set_option maxRecDepth 100000 in
set_option maxHeartbeats 4000000 in
theorem free_smash (n : Nat) (b : BlkT) (w : World) (h : ArS B w pa K A) (ok : ArOk A) (hb : A.B n = some b) (hst : b.st = 1) (hkept : ¬ keptA A n b) :
    Calls Try.prog 15 #[.pointer (some ⟨pa, 0, none⟩), .int .i64 (n : Nat)] w (fun en w' => en = .returned (.int .i64 4) ∧ ∃ k, w' = w.drewN k) := by
  obtain ⟨I, own, hat, hown, hBs⟩ := h
  obtain ⟨g1, g2, g3, g4, g5⟩ := ok.blk n b hb
  have hpos := ok.size_pos hb
  have hN := ok.n
  have hxw : (Lit.int .i64 (n : Int)).wf = true := WalkArith.wf_i64 (by omega)
  have HU : Hid (Calls Try.prog 32 #[.pointer (some ⟨pa, 0, none⟩), .int .i64 (n : Nat)] w fun e w' => e = .returned (.tuple #[.pointer (some ⟨I.blk n, 0, none⟩), .bool true]) ∧ ∃ k, w' = w.drewN k) := Lib.hid (by
    refine (used_at (n : Int) w hat hxw).mono ?_
    rintro e w1 ⟨hk, ⟨m, d, e1, e2, rfl⟩ | ⟨hno, rfl⟩⟩
    · obtain rfl : n = m := by omega
      rw [hb] at e2
      cases e2
      rw [hst]
      exact ⟨rfl, hk⟩
    · have := hno n rfl
      rw [hb] at this
      cases this)
  have HKP : Hid (∀ k, Calls Try.prog 33 #[.pointer (some ⟨pa, 0, none⟩), .int .i64 (n : Nat), .pointer (some ⟨I.blk n, 0, none⟩)] (w.drewN k) fun e w' => e = .returned (.bool false) ∧ ∃ m, w' = w.drewN m) := Lib.hid (show ∀ k, Calls Try.prog 33 #[.pointer (some ⟨pa, 0, none⟩), .int .i64 (n : Nat), .pointer (some ⟨I.blk n, 0, none⟩)] (w.drewN k) fun e w' => e = .returned (.bool false) ∧ ∃ m, w' = w.drewN m from fun k => by
    refine (kept_at n b (w.drewN k) (hat.drewN k) hb hpos.2.1 hpos.1 hN.2 g3).mono ?_
    rintro e w1 ⟨rfl, m, rfl⟩
    cases hkd : keptD A n b with
    | true => exact absurd ((keptD_iff (by omega) g3).1 hkd) hkept
    | false => exact ⟨rfl, _, World.drewN_drewN _ _ _⟩)
  clear hat hown hBs ok hb hst hkept g1 g2 g3 g4 g5 hpos hN
  go_enter Try.func15, Try.ntmps15
  go_wp2_with fail
  refine HU.out.mono ?_
  rintro e w1 ⟨rfl, k1, rfl⟩
  go_wp2_with fail
  refine (HKP.out k1).mono ?_
  rintro e w2 ⟨rfl, k2, rfl⟩
  go_wp2
  go_ret
  exact ⟨rfl, _, rfl⟩
theorem free_no (x : Int) (hxw : (Lit.int .i64 x).wf = true) (w : World) (h : ArS B w pa K A) (hno : ∀ (n : Nat) (b : BlkT), x = (n : Int) → A.B n = some b → b.st ≠ 1) :
    Calls Try.prog 15 #[.pointer (some ⟨pa, 0, none⟩), .int .i64 x] w (fun en w' => en = .returned (.int .i64 3) ∧ ∃ k, w' = w.drewN k) := by
  obtain ⟨I, own, hat, hown, hBs⟩ := h
  have HU : Hid (Calls Try.prog 32 #[.pointer (some ⟨pa, 0, none⟩), .int .i64 x] w fun e w' => ∃ v, e = .returned (.tuple #[v, .bool false]) ∧ ∃ k, w' = w.drewN k) := Lib.hid (by
    refine (used_at x w hat hxw).mono ?_
    rintro e w1 ⟨hk, ⟨m, d, e1, e2, rfl⟩ | ⟨_, rfl⟩⟩
    · have := hno m d e1 e2
      have hb : ((d.st : Int) == 1) = false := by rw [beq_eq_false_iff_ne]; omega
      rw [hb]
      exact ⟨_, rfl, hk⟩
    · exact ⟨_, rfl, hk⟩)
  clear hat hown hBs hno hxw
  go_enter Try.func15, Try.ntmps15
  go_wp2_with fail
  refine HU.out.mono ?_
  rintro e w1 ⟨v, rfl, k1, rfl⟩
  go_wp2
  go_ret
  exact ⟨rfl, _, rfl⟩
theorem free_at (x : Int) (hxw : (Lit.int .i64 x).wf = true) (w : World) (h : ArS B w pa K A) (ok : ArOk A) :
    Calls Try.prog 15 #[.pointer (some ⟨pa, 0, none⟩), .int .i64 x] w (FreeDone B pa K A x w) := by
  by_cases hu : ∃ (n : Nat) (b : BlkT), x = (n : Int) ∧ A.B n = some b ∧ b.st = 1
  · obtain ⟨n, b, rfl, hb, hst⟩ := hu
    by_cases hk : keptA A n b
    · refine (free_in n b w h ok hb hst hk).mono ?_
      rintro e w1 ⟨rfl, h1, hb1⟩
      exact ⟨0, _, rfl, .ok n b rfl hb hst hk, h1, ok.free_ hb hst, hb1⟩
    · refine (free_smash n b w h ok hb hst hk).mono ?_
      rintro e w1 ⟨rfl, k, rfl⟩
      exact ⟨4, A, rfl, .smash n b rfl hb hst hk, h.drewN k, ok, bel_drewN _ _ _⟩
  · have hno : ∀ (n : Nat) (b : BlkT), x = (n : Int) → A.B n = some b → b.st ≠ 1 := fun n b e1 e2 e3 => hu ⟨n, b, e1, e2, e3⟩
    refine (free_no x hxw w h hno).mono ?_
    rintro e w1 ⟨rfl, k, rfl⟩
    exact ⟨3, A, rfl, .no hno, h.drewN k, ok, bel_drewN _ _ _⟩
end
end Go.Proofs.Ytfiddodlpppdhaa
