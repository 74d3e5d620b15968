/- arena's Alloc computes what it says. -/
import Derived.Test.YtfiddodlpppdhaaAsGive
import Derived.Lib.SliceRun
import Derived.BigFrame
import Derived.Deep.AppendLies
namespace Go.Proofs.Ytfiddodlpppdhaa
open Go.RowKit Go.Maps
set_option linter.unusedVariables false
/-- how the two takes end -/
inductive TwoR (n : Nat) : Ar → Option Nat → Ar → Prop
  | once (A A' : Ar) (x : Nat) : TakeR (clsI n) (szI n) A (some x) A' → TwoR n A (some x) A'
  | again (A A' A2 : Ar) (r : Option Nat) : TakeR (clsI n) (szI n) A none A' → TakeR (clsI n) (szI n) (opensA { A' with L := [] } (A'.L.map (·.1))) r A2 → TwoR n A r A2
/-- behind the two takes -/
def AlMid (B : Nat → Prop) (pa K n : Nat) (A : Ar) (w : World) (r : Option Nat) (A' : Ar) (wx : World) : Prop :=
  TwoR n A r A' ∧ ArS B wx pa (K + 2 * (33 + szI n / 64)) A' ∧ ArOk A' ∧ Bel B w wx ∧ A'.N = A.N ∧ ∀ x, r = some x → ∃ b, A'.B x = some b ∧ b.size = szI n ∧ (b.st = 0 ∨ b.st = 3) ∧ ∀ d, A'.F d x = false
/-- how Alloc ends -/
def alV : Option Nat → Value
  | none => .tuple #[.int .i64 0, .int .i64 2]
  | some x => .tuple #[.int .i64 (x : Nat), .int .i64 0]
def AlDone (B : Nat → Prop) (pa K n : Nat) (A : Ar) (w : World) (en : Ending) (w' : World) : Prop :=
  ∃ r A', en = .returned (alV r) ∧ AllocR n A r A' ∧ ArS B w' pa (K + 2 * (33 + szI n / 64)) A' ∧ ArOk A' ∧ Bel B w w'
theorem TwoR.none_ {n : Nat} {A A' : Ar} (h : TwoR n A none A') : AllocR n A none A' := by
  cases h with
  | again A1 _ _ h1 h2 => exact .full A A1 A' h1 h2
theorem TwoR.some_ {n x : Nat} {A A' : Ar} (h : TwoR n A (some x) A') : AllocR n A (some x) (giveA A' x n (szI n)) := by
  cases h with
  | once _ _ h => exact .at_ A A' x h
  | again A1 _ _ h1 h2 => exact .again A A1 A' x h1 h2
theorem openA_N : ∀ (l : List Int) (A : Ar), (opensA A l).N = A.N ∧ (opensA A l).bud = A.bud ∧ (opensA A l).wd = A.wd ∧ (opensA A l).L = A.L ∧ (opensA A l).bad = A.bad
  | [], A => ⟨rfl, rfl, rfl, rfl, rfl⟩
  | x :: l, A => by
    obtain ⟨h1, h2, h3, h4, h5⟩ := openA_N l (openA A x.toNat)
    obtain ⟨e1, e2, e3, e4, e5⟩ := openA_L A x.toNat
    exact ⟨h1.trans e2, h2.trans e3, h3.trans e4, h4.trans e1, h5.trans e5⟩
section
variable {w w' : World} {B : Nat → Prop} {pa K : Nat} {A : Ar}
/-- where the canaries' loop stands -/
def CanAt (B : Nat → Prop) (pa K x n s j : Nat) (A : Ar) (I : ArIds) (own : Nat → Nat) (w wr : World) : Prop :=
  ArAt wr pa I own K { A with B := updO A.B x (some ⟨s, n, 1⟩), wd := laysW (zerosW A.wd x n) cn (x + n) j } ∧ Bel B w wr
set_option maxRecDepth 100000 in
set_option maxHeartbeats 4000000 in
theorem alloc_in (n : Nat) (hn1 : 1 ≤ n) (hn2 : n ≤ 65536) (w : World) (h : ArS B w pa K A) (ok : ArOk A) (hK : K ≤ 4294967296) :
    Calls Try.prog 13 #[.pointer (some ⟨pa, 0, none⟩), .int .i64 (n : Nat)] w (AlDone B pa K n A w) := by
  obtain ⟨hso, hns, hs6, hcls, hsz, hc5, _⟩ := sizeOk_of hn1 hn2
  have HOF := Lib.hid (fun w => of_any (n : Int) w)
  rw [hcls, hsz] at HOF
  have HT1 := Lib.hid (take_at (clsI n) (szI n) hso (by omega) w h ok (by omega))
  have HT2 := Lib.hid (fun w A (h : ArS B w pa (K + 33 + szI n / 64) A) (ok : ArOk A) => take_at (clsI n) (szI n) hso (by omega) w h ok (by omega))
  have HG := Lib.hid (fun r A' (h : TakeR (clsI n) (szI n) A r A') => h.got ok hso)
  have HG2 := Lib.hid (fun A r A' (ok : ArOk A) (h : TakeR (clsI n) (szI n) A r A') => h.got ok hso)
  have HBW : Hid (Fits B w) := Lib.hid (show Fits B w from by obtain ⟨_, _, _, _, hh⟩ := h; exact hh)
  unfold AlDone
  have HM : Hid (AlMid B pa K n = AlMid B pa K n) := Lib.hid rfl
  obtain ⟨c, hc⟩ : ∃ c, c = clsI n := ⟨_, rfl⟩
  obtain ⟨s, hs⟩ : ∃ s, s = szI n := ⟨_, rfl⟩
  have HC := Lib.hid hc
  have HS := Lib.hid hs
  rw [← hc, ← hs] at HOF HT1 HT2 HG HG2
  rw [← hs]
  have HNS : Hid (n < s ∧ s ≤ 65600) := Lib.hid (show n < s ∧ s ≤ 65600 by omega)
  have hlt1 : ¬ (n : Int) < 1 := by omega
  have hgt1 : ¬ (n : Int) > 65536 := by omega
  have hle1 : (n : Int) ≤ 65536 := by omega
  clear h ok hso hcls hsz hc hs hns hs6 hc5
  go_enter Try.func13, Try.ntmps13
  go_wp2_with fail
  refine (HOF.out _).mono ?_
  rintro e w0 ⟨rfl, rfl⟩
  go_wp2_with fail
  refine HT1.out.mono ?_
  rintro e w1 ⟨r, A1, rfl, hr, h1, hb1⟩
  have HR := Lib.hid hr
  have HA1 := Lib.hid h1
  have HB1 := Lib.hid hb1
  clear hr h1 hb1
  have HX : ∀ rr, r = rr → Hid (r = rr) := fun rr h => Lib.hid h
  obtain ⟨bb, hbb⟩ : ∃ bb, bb = r.isSome := ⟨_, rfl⟩
  obtain ⟨vx, hvx⟩ : ∃ vx : Int, vx = ((r.getD 0 : Nat) : Int) := ⟨_, rfl⟩
  have hfv : firstV r = .tuple #[.int .i64 vx, .bool bb] := by
    rw [hbb, hvx]
    cases r <;> rfl
  rw [hfv]
  have HBB := Lib.hid hbb
  have HVX := Lib.hid hvx
  clear hbb hvx hfv HX
  go_upto_if 31 with (fail)
  go_cut [8, 9] (fun v8 v9 wx => ∃ (r' : Option Nat) (A' : Ar), v8 = .int .i64 ((r'.getD 0 : Nat) : Int) ∧ v9 = .bool r'.isSome ∧ Hid (AlMid B pa K n A w r' A' wx))
  case first =>
    cases r with
    | some x =>
      obtain rfl : bb = true := HBB.out
      have HF : Hid (AlMid B pa K n A w (some x) A1 w1) := Lib.hid (show AlMid B pa K n A w (some x) A1 w1 from by
        obtain ⟨g1, g2, _, _, _, g3⟩ := HG.out _ _ HR.out
        have hr := HR.out
        rw [HC.out, HS.out] at hr
        rw [HS.out] at g3
        exact ⟨.once A A1 x hr, HA1.out.mono (by rw [HS.out]; omega), g1, HB1.out, g2, g3⟩)
      have hv := HVX.out
      clear HBB HVX
      go_wp2_with fail
      go_meet
      exact ⟨some x, A1, by rw [hv], rfl, HF⟩
    | none =>
      obtain rfl : bb = false := HBB.out
      obtain ⟨I, own, hat, hown, hBs⟩ := HA1.out
      obtain ⟨g1, g2, g4, _, _, _⟩ := HG.out _ _ HR.out
      obtain ⟨_, _, c2, _⟩ := hat.cells
      have HFL := Lib.hid (flush_any w1 hat.line)
      have HAT := Lib.hid hat
      have HO := Lib.hid (And.intro hown hBs)
      have HOK := Lib.hid g1
      have HN := Lib.hid g2
      clear hat hown hBs g1 g2 g4 HBB HVX
      go_wp2_with fail
      refine HFL.out.mono ?_
      rintro e w2 ⟨v, rfl, hr2, hv2, hl2, hk2⟩
      have h2 := HAT.out.turnLine hl2 (fun g hg => .inl hg) (hk2.mono (by simp))
      have hbel2 : Bel B w1 w2 := keeps_below hk2 HO.out.1 HO.out.2 fun y hy => by
        simp at hy
        rw [hy, HAT.out.tline.1]; decide
      have hBs2 : Fits B w2 := Fits.le HO.out.2 hk2.size
      have hown2 := newOwn_base (t := 4) HO.out.1 HO.out.2
      have hgo := HOK.out.flushOk
      obtain ⟨l, hl⟩ : ∃ l, l = A1.L.map (·.1) := ⟨_, rfl⟩
      rw [← hl] at hr2 hgo
      have HL := Lib.hid hl
      clear hl
      obtain ⟨a, cap, rfl, _⟩ := hr2.read
      have hok2 : ArOk { A1 with L := [] } := HOK.out.cutLine (List.nil_sublist _)
      have HOS := Lib.hid (opens_at (B := B) l a cap w2 _ _ h2 hown2 hBs2 hok2 hgo hr2 (fun g hg => newOwn_new (hv2 g hg)))
      have HB2 := Lib.hid hbel2
      clear h2 hbel2 hBs2 hown2 hok2 hr2 hv2 hl2 hk2 c2 hgo
      go_wp2_with fail
      refine HOS.out.mono ?_
      rintro e w3 ⟨rfl, h3, ok3, hb3⟩
      have HT := Lib.hid (HT2.out w3 _ h3 ok3)
      have HOK3 := Lib.hid ok3
      have HB3 := Lib.hid hb3
      clear h3 ok3 hb3
      go_wp2_with fail
      refine HT.out.mono ?_
      rintro e w4 ⟨r4, A4, rfl, hr4, h4, hb4⟩
      have HF : Hid (AlMid B pa K n A w r4 A4 w4) := Lib.hid (show AlMid B pa K n A w r4 A4 w4 from by
        obtain ⟨g1, g2, _, _, _, g3⟩ := HG2.out _ _ _ HOK3.out hr4
        have hr := HR.out
        rw [HC.out, HS.out] at hr hr4
        rw [HS.out] at g3 h4
        rw [HL.out] at hr4 g2
        exact ⟨.again A A1 A4 r4 hr hr4, h4.mono (by omega), g1, ((HB1.out.trans HB2.out).trans HB3.out).trans hb4, (g2.trans (openA_N _ _).1).trans HN.out, g3⟩)
      clear hr4 h4 hb4
      cases r4 with
      | none =>
        dsimp only [firstV]
        go_wp2_with fail
        go_meet
        exact ⟨none, A4, rfl, rfl, HF⟩
      | some x =>
        dsimp only [firstV]
        go_wp2_with fail
        go_meet
        exact ⟨some x, A4, rfl, rfl, HF⟩
  case rest =>
    obtain ⟨r', A', rfl, rfl, hmid⟩ := hcut
    clear HBB HVX HR HA1 HB1 HT1 HT2 HG HG2 HOF
    cases r' with
    | none =>
      have HF : Hid (AlDone B pa K n A w (.returned (alV none)) wc) := Lib.hid (show AlDone B pa K n A w (.returned (alV none)) wc from by
        obtain ⟨q1, q2, q3, q4, _⟩ := hmid.out
        exact ⟨none, A', rfl, q1.none_, q2, q3, q4⟩)
      clear hmid
      go_wp2_with fail
      go_ret2
      have := HF.out
      unfold AlDone at this
      rw [← HS.out] at this
      exact this
    | some x =>
      obtain ⟨q1, ⟨I, own, hat, hown, hBs⟩, ok', hbel, hN, hg⟩ := hmid.out
      obtain ⟨b, hb, hbs, hst, hF⟩ := hg x rfl
      rw [← HS.out] at hbs
      have hbk := (ok'.blk x b hb).2.1
      have hNN := ok'.n
      obtain ⟨M, hM⟩ : ∃ M, M = 64 * A'.N := ⟨_, rfl⟩
      have hns := HNS.out
      have hxM : x + s ≤ M := by omega
      have hMm : M ≤ 262144 := by omega
      obtain ⟨c0, _, _, c3, _⟩ := hat.cells
      rw [← hM] at c0
      obtain ⟨_, d1, d2, fd1, fd2⟩ := hat.bcells hb
      have hxw : (Lit.int .i64 (x : Int)).wf = true := WalkArith.wf_i64 (by omega)
      have hlk := hat.map.look ar_key Try.underlying3 Try.underlying53 (ar_zero wc) hxw
      rw [mapP_some hb] at hlk
      simp only [Option.getD_some] at hlk
      have hne : ¬ (I.blk x = pa) := fun e => by
        have t1 := hat.tpa
        have t2 := hat.tblk x b hb
        rw [e] at t2
        omega
      have hltpa := hat.lt_pa
      have hltb := hat.lt_blk hb
      have h1 := hat.setBlk hb (b' := { b with st := 1 }) (i := 2) (u := .int .i64 1) rfl
      have h2 := h1.setBlk (updO_eq _ _ _) (b' := ⟨s, n, 1⟩) (i := 1) (u := .int .i64 (n : Nat)) (by rw [← hbs]; rfl)
      have hk2 : Keeps [I.blk x] wc ((wc.setCell ⟨I.blk x, 2, none⟩ (.int .i64 1)).setCell ⟨I.blk x, 1, none⟩ (.int .i64 (n : Nat))) := ((Keeps.refl _ wc).setCell (p := ⟨I.blk x, 2, none⟩) (.inl (by simp)) _).setCell (p := ⟨I.blk x, 1, none⟩) (.inl (by simp)) _
      dsimp only at h2
      rw [updO_twice] at h2
      obtain ⟨w2, hw2⟩ : ∃ w2, w2 = (wc.setCell ⟨I.blk x, 2, none⟩ (.int .i64 1)).setCell ⟨I.blk x, 1, none⟩ (.int .i64 (n : Nat)) := ⟨_, rfl⟩
      rw [← hw2] at h2 hk2
      have h3 := h2.clearWd x n (by show x + n ≤ 64 * A'.N; omega)
      have hk3 : Keeps [I.gw] w2 (w2.setCells I.gw x (List.replicate n (.int .u64 0))) := Keeps.of_grown (setCells_grown I.gw (List.replicate n (.int .u64 0)) x w2) (by simp)
      obtain ⟨y, hy⟩ : ∃ y, y = x + n := ⟨_, rfl⟩
      obtain ⟨z, hz⟩ : ∃ z, z = x + s := ⟨_, rfl⟩
      obtain ⟨w3, hw3⟩ : ∃ w3, w3 = w2.setCells I.gw x (List.replicate n (.int .u64 0)) := ⟨_, rfl⟩
      have hcl : ∀ ty, (Builtin.clear_ #[48] ty #[.slice (some ⟨I.gw, x, none⟩) (y - x) (M - x)]).run Try.prog w2 = .ok (.tuple #[]) w3 := fun ty => by
        rw [hw3, show y - x = n by omega]
        exact Lib.run_clear_slice w2 48 38 ty (.int .u64 0) Try.underlying48 (fun w => by kernel_rfl) rfl rfl I.gw x n (M - x) (by omega) (fun j hj => by rw [(h2.word (i := x + j) (by show x + j < 64 * A'.N; omega)).1]; rfl) (fun j hj => (h2.word (i := x + j) (by show x + j < 64 * A'.N; omega)).2)
      rw [hw2] at hcl
      rw [← hw3] at h3 hk3
      have HC0 : Hid (CanAt B pa (K + 2 * (33 + s / 64)) x n s 0 A' I own w w3) := Lib.hid (show CanAt B pa (K + 2 * (33 + s / 64)) x n s 0 A' I own w w3 from by
        refine ⟨?_, (hbel.trans (keeps_below hk2 hown hBs fun g hg => ?_)).trans (keeps_below hk3 hown (Fits.le hBs hk2.size) fun g hg => ?_)⟩
        · rw [laysW_zero, HS.out]
          rw [HS.out] at h3
          exact h3
        · simp at hg
          rw [hg, hat.tblk x b hb]; omega
        · simp at hg
          rw [hg, hat.tgw]; decide)
      have HFIN : Hid (∀ wr, CanAt B pa (K + 2 * (33 + s / 64)) x n s (s - n) A' I own w wr → AlDone B pa K n A w (.returned (alV (some x))) wr) := Lib.hid (show ∀ wr, CanAt B pa (K + 2 * (33 + s / 64)) x n s (s - n) A' I own w wr → AlDone B pa K n A w (.returned (alV (some x))) wr from fun wr hc => by
        refine ⟨some x, _, rfl, q1.some_, ⟨I, own, ?_, hown, ?_⟩, ?_, hc.2⟩
        · rw [giveA_eq _ _ _ _ (by rw [← HS.out]; omega), ← HS.out]
          exact hc.1
        · exact Fits.le HBW.out (Bel.size hc.2)
        · have := ok'.give hb (n := n) (by omega) hst hF
          rw [hbs, HS.out] at this
          exact this)
      have hw1 : IntKind.i64.wrap ((x : Int) + (n : Int)) = (y : Int) := by rw [IntWalk.i64_in _ (by omega)]; omega
      have hws : IntKind.i64.wrap ((x : Int) + (s : Int)) = (z : Int) := by rw [IntWalk.i64_in _ (by omega)]; omega
      have hi0 : (0 : Int) ≤ (x : Int) := by omega
      have hi1 : (x : Int) ≤ (y : Int) := by omega
      have hi2 : (y : Int) ≤ (M : Int) := by omega
      have hneM : ¬ (M = x) := by omega
      have HYZ : Hid (y = x + n ∧ z = x + s ∧ n < s ∧ x + s ≤ M ∧ M = 64 * A'.N ∧ M ≤ 262144) := Lib.hid (show y = x + n ∧ z = x + s ∧ n < s ∧ x + s ≤ M ∧ M = 64 * A'.N ∧ M ≤ 262144 by omega)
      have e0 : w3.cell? ⟨pa, 0, none⟩ = some (.slice (some ⟨I.gw, 0, none⟩) M M) := by rw [hM]; exact h3.cells.1
      have HOW := Lib.hid hown
      clear hmid q1 hat hown hBs ok' hbel hN hg hb hbs hst hF hbk hNN hM hns hxM h1 h2 h3 hk2 hk3 hw2 hw3 hy hz hMm
      dsimp only [Option.getD_some, Option.isSome_some]
      go_wp2_with (simp only [hcl])
      have HCN := Lib.hid (fun i w => canary_any i w)
      clear hcl hlk c0 c3 d1 d2 fd1 fd2 hne hltb hltpa hw1 e0
      go_loopw [11] (fun v wr => ∃ q j : Nat, v = .int .i64 (q : Nat) ∧ j ≤ s - n ∧ Hid (q = y + j) ∧ Hid (CanAt B pa (K + 2 * (33 + s / 64)) x n s j A' I own w wr)) (fun v _ => z - (intOf v).toNat)
      case atStart => exact ⟨y, 0, rfl, Nat.zero_le _, rfl, HC0⟩
      case round =>
        obtain ⟨q, j, rfl, hj, hq, hp⟩ := hrel
        obtain ⟨wo, rfl⟩ : ∃ wo : World, wo = wr := ⟨_, rfl⟩
        by_cases hlt : j < s - n
        · have hqv := hq.out
          obtain ⟨y1, y2, y3, y4, y5, y6⟩ := HYZ.out
          have hqz : (q : Int) < (z : Int) := by omega
          have hq0 : (0 : Int) ≤ (q : Int) := by omega
          have hqM : (q : Int) < (M : Int) := by omega
          have hqm : q ≤ 262144 := by omega
          have e0 : wo.cell? ⟨pa, 0, none⟩ = some (.slice (some ⟨I.gw, 0, none⟩) M M) := by rw [y5]; exact hp.out.1.cells.1
          have e9 := hp.out.1.word (i := q) (by show q < 64 * A'.N; omega)
          obtain ⟨v0, e1⟩ : ∃ v0, wo.cell? ⟨I.gw, q, none⟩ = some v0 ∧ wo.frozen? ⟨I.gw, q, none⟩ = false := ⟨_, e9⟩
          obtain ⟨e1, e2⟩ := e1
          clear e9
          have HFN : Hid (CanAt B pa (K + 2 * (33 + s / 64)) x n s (j + 1) A' I own w (wo.setCell ⟨I.gw, q, none⟩ (.int .u64 (cn (q : Nat)))).drew) := Lib.hid (show CanAt B pa (K + 2 * (33 + s / 64)) x n s (j + 1) A' I own w (wo.setCell ⟨I.gw, q, none⟩ (.int .u64 (cn (q : Nat)))).drew from by
            obtain ⟨p1, p2⟩ := hp.out
            have h1 := p1.setWd q (cn (q : Nat)) (cn_wf _)
            have k1 : Keeps [I.gw] wo (wo.setCell ⟨I.gw, q, none⟩ (.int .u64 (cn (q : Nat)))).drew := (keeps_set wo I.gw q (.int .u64 (cn (q : Nat)))).drew
            refine ⟨?_, p2.trans (keeps_below k1 HOW.out (Fits.le HBW.out (Bel.size p2)) fun g hg => by simp at hg; rw [hg, p1.tgw]; decide)⟩
            have e := laysW_succ (zerosW A'.wd x n) cn (x + n) j
            rw [show x + n + j = q by omega] at e
            rw [← e]
            exact h1.same ((Keeps.refl [] _).drew) (fun y hy => absurd hy List.not_mem_nil))
          clear hqv y1 y2 y3 y4 y5 y6 hp
          go_wp2_with fail
          go_region_law (first
            | (go_simp
               go_at_call 31
               refine (HCN.out _ _).mono ?_
               rintro e w5 ⟨rfl, rfl⟩))
          have hq1 : IntKind.i64.wrap ((q : Int) + 1) = ((q + 1 : Nat) : Int) := by rw [IntWalk.i64_in _ (by omega)]; omega
          all_goals
            go_wp2
            go_roundw
          all_goals try (first | exact ⟨q + 1, j + 1, by go_num, by omega, Lib.hid (show q + 1 = y + (j + 1) by have := hq.out; omega), HFN⟩ | ((repeat apply Exists.intro); exact ⟨⟨q + 1, j + 1, by go_num, by omega, Lib.hid (show q + 1 = y + (j + 1) by have := hq.out; omega), HFN⟩, rfl⟩))
          all_goals (have := hq.out; simp [intOf]; omega)
        · obtain rfl : j = s - n := by omega
          have HF := Lib.hid (HFIN.out wo hp.out)
          have hqz : ¬ (q : Int) < (z : Int) := by
            have hqv := hq.out
            obtain ⟨y1, y2, y3, y4, y5, y6⟩ := HYZ.out
            omega
          clear hp hlt
          go_wp2
          go_ret2
          have := HF.out
          unfold AlDone at this
          rw [← HS.out] at this
          obtain ⟨r9, A9, e9, h9⟩ := this
          first | exact ⟨r9, A9, e9, h9⟩ | exact ⟨r9, e9, A9, h9⟩
theorem alloc_bad (n : Int) (hn : n < 1 ∨ 65536 < n) (w : World) : Calls Try.prog 13 #[.pointer (some ⟨pa, 0, none⟩), .int .i64 n] w fun e w' => e = .returned (.tuple #[.int .i64 0, .int .i64 1]) ∧ w = w' := by
  rcases hn with h | h
  · go_enter Try.func13, Try.ntmps13
    go_wp2_with fail
    go_ret2
    exact ⟨rfl, rfl⟩
  · have h1 : ¬ n < 1 := by omega
    go_enter Try.func13, Try.ntmps13
    go_wp2_with fail
    go_ret2
    exact ⟨rfl, rfl⟩
end
end Go.Proofs.Ytfiddodlpppdhaa
