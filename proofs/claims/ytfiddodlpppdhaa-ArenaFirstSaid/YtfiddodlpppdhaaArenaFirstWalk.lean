/- The walk of the law ArenaFirst: it answers true for every input. -/
import Derived.Test.YtfiddodlpppdhaaArOneS
import Derived.Test.YtfiddodlpppdhaaOpen
namespace Go.Proofs.Ytfiddodlpppdhaa
open Go.RowKit Go.Maps
set_option linter.unusedVariables false
section
variable {s n : Nat} {A A' : Ar}
theorem AllocR.oneAt {r : Option Nat} {t : Nat} (h : AllocR n A r A') (f : Fine (· = s) A) (hs : small5 s) (hn : szI n = s) (hc : clsI n = clsN s) (h1 : 1 ≤ n) (h2 : n ≤ 31) (hL : A.L = []) (hD : Dense A)
    (ht : t < (A.N - 1) * (64 / s)) (hl : liveB A (64 + t * s) = none) (hlow : ∀ j, j < t → liveB A (64 + j * s) ≠ none) : r = some (64 + t * s) ∧ Fine (· = s) A' ∧ A'.N = A.N ∧ A'.bud = A.bud ∧ A'.L = [] ∧ Dense A' ∧ liveB A' = updO (liveB A) (64 + t * s) (some ⟨s, n, 1⟩) := by
  obtain ⟨f', e1, e2, e3, e4⟩ := h.fine f h1 (by omega) hn
  cases r with
  | none => exact absurd hl (h.oneNone f hs hn hc _ (slot_at hs ht))
  | some x =>
    obtain ⟨q1, q2, q3⟩ := e4 x rfl
    rw [hn] at q2
    obtain ⟨p1, p2, p3⟩ := h.oneLeast f hs hn hc hL hD
    have hle := p1 _ (slot_at hs ht) hl
    have hlx : liveB A' x = some ⟨s, n, 1⟩ := by rw [q2, updO_eq]
    obtain ⟨j, hj, rfl⟩ := slot_of hs (f'.slotOf hs (liveB_some.1 hlx).1)
    have h0 := (small_at hs).1
    have hjt : j = t := by
      rcases Nat.lt_trichotomy j t with h | h | h
      · exact absurd q1 (hlow j h)
      · exact h
      · have := Nat.mul_le_mul_right s (show t + 1 ≤ j by omega)
        rw [Nat.succ_mul] at this
        omega
    subst hjt
    exact ⟨rfl, f', e1, e2, p3, p2, q2⟩
end
/-- where the arena stands: blocks of one size, nothing waits, those in use -/
def FsAt (B pa K s : Nat) (P : Nat → Prop) (w wr : World) : Prop := ∃ A, ArS B wr pa K A ∧ Fine (· = s) A ∧ A.N = 40 ∧ A.bud = 0 ∧ A.L = [] ∧ Dense A ∧ (∀ j, liveB A (64 + j * s) ≠ none ↔ P j) ∧ Below B w wr
theorem fs_alloc {B pa K n : Nat} (h1 : 1 ≤ n) (h2 : n ≤ 31) {P : Nat → Prop} {w wr : World} (h : FsAt B pa K (szI n) P w wr) (hK : K ≤ 4294967296) (t : Nat) (ht : t ≤ 60) (hl : ¬ P t) (hlow : ∀ j, j < t → P j) :
    Calls Try.prog 13 #[.pointer (some ⟨pa, 0, none⟩), .int .i64 (n : Nat)] wr fun e w' => e = .returned (alV (some (64 + t * szI n))) ∧ FsAt B pa (K + 66) (szI n) (fun j => j = t ∨ P j) w w' := by
  obtain ⟨A, a1, a2, a3, a4, a5, a6, a7, a8⟩ := h
  obtain ⟨g1, g2, g3⟩ := small_of h1 h2
  have g32 := (small_at g1).2.1
  have g0 := (small_at g1).1
  refine (alloc_in n h1 (by omega) wr a1 a2.ok hK).mono ?_
  rintro e w2 ⟨r, A', rfl, hr, b1, b2, b3⟩
  rw [show K + 2 * (33 + szI n / 64) = K + 66 by omega] at b1
  obtain ⟨rfl, c1, c2, c3, c4, c5, c6⟩ := hr.oneAt (t := t) a2 g1 rfl g2 h1 h2 a5 a6 (by
      rw [a3]
      unfold small5 at g1
      rcases g1 with g | g | g | g | g <;> rw [g] <;> omega) (by
      cases hb : liveB A (64 + t * szI n) with
      | none => rfl
      | some b => exact absurd ((a7 t).1 (by rw [hb]; simp)) hl) (fun j hj => (a7 j).2 (hlow j hj))
  refine ⟨rfl, A', b1, c1, c2.trans a3, c3.trans a4, c4, c5, fun j => ?_, a8.trans b3⟩
  rw [c6]
  by_cases hj : j = t
  · subst hj; rw [updO_eq]; exact ⟨fun _ => .inl rfl, fun _ => by simp⟩
  · have hne : 64 + j * szI n ≠ 64 + t * szI n := fun e => hj (Nat.eq_of_mul_eq_mul_right g0 (by omega))
    rw [updO_ne _ _ hne, a7 j]
    exact ⟨fun h => .inr h, fun h => h.resolve_left hj⟩
theorem fs_free {B pa K s : Nat} (hs : small5 s) {P : Nat → Prop} {w wr : World} (h : FsAt B pa K s P w wr) (t : Nat) (hl : P t) :
    Calls Try.prog 15 #[.pointer (some ⟨pa, 0, none⟩), .int .i64 ((64 + t * s : Nat) : Int)] wr fun e w' => e = .returned (.int .i64 0) ∧ FsAt B pa K s (fun j => j ≠ t ∧ P j) w w' := by
  obtain ⟨A, a1, a2, a3, a4, a5, a6, a7, a8⟩ := h
  have g0 := (small_at hs).1
  have hl := (a7 t).2 hl
  cases hb : liveB A (64 + t * s) with
  | none => exact absurd hb hl
  | some b =>
    obtain ⟨q1, q2⟩ := liveB_some.1 hb
    obtain ⟨f', e1, e2, e3, e4, _⟩ := a2.free_ q1 q2
    refine (free_in (64 + t * s) b wr a1 a2.ok q1 q2 (a2.use _ b q1 q2)).mono ?_
    rintro e w2 ⟨rfl, b1, b2⟩
    refine ⟨rfl, _, b1, f', e2.trans a3, e3.trans a4, ?_, ?_, fun j => ?_, a8.trans b2⟩
    · rw [e4, a4, a5]
      refine stays_zero fun x hx => ?_
      have hx := List.mem_singleton.1 hx
      subst hx
      exact (a2.ok.size_pos q1).1
    · have hT := a2.freeT hs q1
      intro p hp q h1 h2
      rw [hT] at hp ⊢
      exact a6 p hp q h1 h2
    · rw [e1]
      by_cases hj : j = t
      · subst hj; rw [updO_eq]; exact ⟨fun h => absurd rfl h, fun h => absurd rfl h.1⟩
      · have hne : 64 + j * s ≠ 64 + t * s := fun e => hj (Nat.eq_of_mul_eq_mul_right g0 (by omega))
        rw [updO_ne _ _ hne, a7 j]
        exact ⟨fun h => ⟨hj, h⟩, fun h => h.2⟩
set_option maxRecDepth 100000 in
set_option maxHeartbeats 1000000 in
theorem arenaFirst.out (a0 a1 a2 : Int) (w : World) (hd : ¬ (1 ≤ a0 ∧ a0 ≤ 31 ∧ 1 ≤ a1 ∧ a1 ≤ 60 ∧ 0 ≤ a2 ∧ a2 < a1)) :
    Calls Try.prog 4 #[.int .i64 a0, .int .i64 a1, .int .i64 a2] w fun e w' => e = .returned (.bool true) ∧ Below w.heap.size w w' := by
  go_enter Try.func4, Try.ntmps4
  go_wp2_with (first | (go_at_call 10; refine (alive_any _).mono ?_; rintro e w' ⟨rfl, hb⟩) | (go_at_call 11; refine (ofRef_any _ _).mono ?_; rintro e w' ⟨rfl, rfl⟩))
  all_goals
    go_ret
    exact ⟨rfl, by assumption⟩
set_option maxRecDepth 100000 in
set_option maxHeartbeats 4000000 in
theorem arenaFirst.into (n k g : Nat) (w : World) (h1 : 1 ≤ n) (h2 : n ≤ 31) (h3 : 1 ≤ k) (h4 : k ≤ 60) (h5 : g < k) :
    Calls Try.prog 4 #[.int .i64 (n : Nat), .int .i64 (k : Nat), .int .i64 (g : Nat)] w fun e w' => e = .returned (.bool true) ∧ Below w.heap.size w w' := by
  have d1 : decide ((n : Int) < 1) = false := by rw [decide_eq_false_iff_not]; omega
  have d2 : decide (31 < (n : Int)) = false := by rw [decide_eq_false_iff_not]; omega
  have d3 : decide ((k : Int) < 1) = false := by rw [decide_eq_false_iff_not]; omega
  have d4 : decide (60 < (k : Int)) = false := by rw [decide_eq_false_iff_not]; omega
  have d5 : decide ((g : Int) < 0) = false := by rw [decide_eq_false_iff_not]; omega
  have d6 : decide (k ≤ g) = false := by rw [decide_eq_false_iff_not]; omega
  obtain ⟨g1, g2, g3⟩ := small_of h1 h2
  obtain ⟨_, _, _, hcls, hsz, _, _⟩ := sizeOk_of h1 (show n ≤ 65536 by omega)
  have HOF := Lib.hid (fun w => ofRef_any (n : Nat) w)
  rw [hcls, hsz] at HOF
  have HAL := Lib.hid (fun B pa K P w wr (h : FsAt B pa K (szI n) P w wr) hK t ht hl hlow => fs_alloc h1 h2 h hK t ht hl hlow)
  obtain ⟨s, hs⟩ : ∃ s, s = szI n := ⟨_, rfl⟩
  obtain ⟨c, hc⟩ : ∃ c, c = clsI n := ⟨_, rfl⟩
  rw [← hs] at g1 HAL HOF
  rw [← hc] at HOF
  have s2 := (small_at g1).2.1
  have HG := Lib.hid g1
  have HNUM := Lib.hid (fun e w => num_any e w)
  have HNW := Lib.hid (fun w => arNew_at 40 0 w)
  obtain ⟨z, hz⟩ : ∃ z, z = g * s := ⟨_, rfl⟩
  have hz2 : z ≤ 60 * 32 := by rw [hz]; exact Nat.mul_le_mul (by omega) s2
  have hw1 : IntKind.i64.wrap ((g : Int) * (s : Int)) = (z : Int) := by
    have : (g : Int) * (s : Int) = ((g * s : Nat) : Int) := by push_cast; rfl
    rw [this, ← hz, IntWalk.i64_in _ (by omega)]
  have hw2 : IntKind.i64.wrap (64 + (z : Int)) = ((64 + z : Nat) : Int) := by rw [IntWalk.i64_in _ (by omega)]; omega
  have HZ := Lib.hid hz
  clear g1 g2 g3 hcls hsz hs hc hz
  go_enter Try.func4, Try.ntmps4
  go_wp2_with fail
  refine (alive_any _).mono ?_
  rintro e wa ⟨rfl, hba⟩
  have HBA := Lib.hid hba
  clear hba
  go_wp2_with fail
  refine (HOF.out _).mono ?_
  rintro e w0 ⟨rfl, rfl⟩
  go_wp2_with fail
  refine (HNW.out _).mono ?_
  rintro e wb ⟨pa, rfl, hO, _, hbb⟩
  have HL0 : Hid (FsAt wa.heap.size pa (66 * 0) s (fun j => j < 0) wa wb) := Lib.hid (show FsAt wa.heap.size pa (66 * 0) s (fun j => j < 0) wa wb from ⟨_, hO, Fine.new (by decide), rfl, rfl, rfl, (fun p hp => absurd rfl hp), fun j => ⟨fun h => absurd rfl h, fun h => absurd h (Nat.not_lt_zero _)⟩, hbb⟩)
  obtain ⟨B, hB⟩ : ∃ B, B = wa.heap.size := ⟨_, rfl⟩
  rw [← hB] at HL0
  have HWB := Lib.hid hB
  clear hO hbb hB
  go_wp2_with fail
  go_loopw [11] (fun v wr => ∃ i : Nat, v = .int .i64 (i : Nat) ∧ i ≤ k ∧ Hid (FsAt B pa (66 * i) s (fun j => j < i) wa wr)) (fun v _ => k - (intOf v).toNat)
  case atStart => exact ⟨0, rfl, Nat.zero_le _, HL0⟩
  case round =>
    obtain ⟨i, rfl, hi, hp⟩ := hrel
    obtain ⟨wo, rfl⟩ : ∃ wo : World, wo = wr := ⟨_, rfl⟩
    by_cases hlt : i < k
    · have hlt2 : (i : Int) < (k : Int) := by omega
      have hi1 : IntKind.i64.wrap ((i : Int) + 1) = ((i + 1 : Nat) : Int) := by rw [IntWalk.i64_in _ (by omega)]; omega
      have HA := Lib.hid (HAL.out B pa _ _ wa wo hp.out (by omega) i (by omega) (by omega) (fun j hj => hj))
      obtain ⟨y, hy⟩ : ∃ y, y = i * s := ⟨_, rfl⟩
      have hy2 : y ≤ 60 * 32 := by rw [hy]; exact Nat.mul_le_mul (by omega) s2
      have hv1 : IntKind.i64.wrap ((i : Int) * (s : Int)) = (y : Int) := by
        have : (i : Int) * (s : Int) = ((i * s : Nat) : Int) := by push_cast; rfl
        rw [this, ← hy, IntWalk.i64_in _ (by omega)]
      have hv2 : IntKind.i64.wrap (64 + (y : Int)) = ((64 + y : Nat) : Int) := by rw [IntWalk.i64_in _ (by omega)]; omega
      rw [← hy] at HA
      clear hp hy
      go_wp2_with fail
      refine HA.out.mono ?_
      rintro e w2 ⟨rfl, hO2⟩
      have HF : Hid (FsAt B pa (66 * (i + 1)) s (fun j => j < i + 1) wa w2) := Lib.hid (show FsAt B pa (66 * (i + 1)) s (fun j => j < i + 1) wa w2 from by
        rw [show 66 * (i + 1) = 66 * i + 66 by omega]
        have e : (fun j => j < i + 1) = (fun j => j = i ∨ j < i) := by funext j; exact propext (by omega)
        rw [e]; exact hO2)
      clear hO2
      dsimp only [alV]
      go_wp2_with (first | (go_at_call 14; refine (HNUM.out _ _).mono ?_; rintro e w5 ⟨rfl, rfl⟩) | fail)
      go_roundw
      case rel => first | exact ⟨i + 1, by go_num, by omega, HF⟩ | ((repeat apply Exists.intro); exact ⟨⟨i + 1, by go_num, by omega, HF⟩, rfl⟩)
      case measure => simp [intOf]; omega
    · obtain rfl : i = k := by omega
      have hlt2 : ¬ (i : Int) < (i : Int) := by omega
      have HFR := Lib.hid (fs_free HG.out hp.out g h5)
      rw [← HZ.out] at HFR
      clear hp
      go_wp2_with fail
      refine HFR.out.mono ?_
      rintro e w3 ⟨rfl, hO3⟩
      have HA3 := Lib.hid (HAL.out B pa _ _ wa w3 hO3 (by omega) g (by omega) (fun h => h.1 rfl) (fun j hj => ⟨by omega, by omega⟩))
      rw [← HZ.out] at HA3
      clear hO3
      go_wp2_with fail
      refine HA3.out.mono ?_
      rintro e w4 ⟨rfl, hO4⟩
      have HF : Hid (Below w.heap.size w w4) := Lib.hid (show Below w.heap.size w w4 from by
        obtain ⟨_, _, _, _, _, _, _, _, b⟩ := hO4
        rw [HWB.out] at b
        exact HBA.out.trans (b.mono (Below.size HBA.out)))
      clear hO4
      dsimp only [alV]
      go_wp2_with (first | (go_at_call 14; refine (HNUM.out _ _).mono ?_; rintro e w5 ⟨rfl, rfl⟩) | fail)
      go_ret
      exact ⟨rfl, HF.out⟩
theorem arenaFirst.walk (a0 : Int) (a1 : Int) (a2 : Int) (w : World) (w0 : (Lit.int .i64 a0).wf = true) (w1 : (Lit.int .i64 a1).wf = true) (w2 : (Lit.int .i64 a2).wf = true) :
    Calls Try.prog 4 #[.int .i64 a0, .int .i64 a1, .int .i64 a2] w fun e w' => e = .returned (.bool true) ∧ Below w.heap.size w w' := by
  by_cases h : 1 ≤ a0 ∧ a0 ≤ 31 ∧ 1 ≤ a1 ∧ a1 ≤ 60 ∧ 0 ≤ a2 ∧ a2 < a1
  · obtain ⟨n, rfl⟩ : ∃ n : Nat, a0 = n := ⟨a0.toNat, by omega⟩
    obtain ⟨k, rfl⟩ : ∃ n : Nat, a1 = n := ⟨a1.toNat, by omega⟩
    obtain ⟨g, rfl⟩ : ∃ n : Nat, a2 = n := ⟨a2.toNat, by omega⟩
    exact arenaFirst.into n k g w (by omega) (by omega) (by omega) (by omega) (by omega)
  · exact arenaFirst.out a0 a1 a2 w h
end Go.Proofs.Ytfiddodlpppdhaa
