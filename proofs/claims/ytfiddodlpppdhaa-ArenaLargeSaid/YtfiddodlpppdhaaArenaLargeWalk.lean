/- The walk of the law ArenaLarge: it answers true for every input. -/
import Derived.Test.YtfiddodlpppdhaaArAlive
import Derived.Test.YtfiddodlpppdhaaOpen
namespace Go.Proofs.Ytfiddodlpppdhaa
open Go.RowKit Go.Maps
set_option linter.unusedVariables false
theorem usedB_iff {T : Nat → Option RunT} {j : Nat} : usedB T j = true ↔ j = 0 ∨ T j ≠ none := by
  unfold usedB
  cases T j <;> simp
theorem usedB_not {T : Nat → Option RunT} {j : Nat} (h0 : j ≠ 0) (h : T j = none) : usedB T j = false := by
  cases hu : usedB T j with
  | false => rfl
  | true =>
    rcases usedB_iff.1 hu with e | e
    · exact absurd e h0
    · exact absurd h e
theorem runIs_at {n K p : Nat} {S : Nat → Bool} (hp : p + K ≤ n) (hK : 1 ≤ K) (hf : ∀ j, p ≤ j → j < p + K → S j = false) (hu : ∀ j, j < p → S j = true) : RunIs n S K (p : Int) :=
  .inr ⟨p, rfl, ⟨hp, hf⟩, fun j hj q => by
    have := q.2 j (Nat.le_refl _) (by omega)
    rw [hu j hj] at this
    cases this⟩
theorem runIs_full {n K : Nat} {S : Nat → Bool} (hK : 1 ≤ K) (hu : ∀ j, j < n → S j = true) : RunIs n S K (-1) :=
  .inl ⟨rfl, fun i q => by
    have := q.2 i (Nat.le_refl _) (by omega)
    rw [hu i (by have := q.1; omega)] at this
    cases this⟩
/-- the arena: its table, which places have nothing free, the blocks in use -/
structure LgM (A : Ar) (N : Nat) (T : Nat → Option RunT) (FE : Nat → Prop) (live : Nat → Option BlkT) : Prop where
  fine : Fine (fun _ => True) A
  n : A.N = N
  bud : A.bud = 0
  L : A.L = []
  T : A.T = T
  F : ∀ c, FE c → ∀ x, A.F c x = false
  live : liveB A = live
section
variable {A A' : Ar} {N n : Nat} {T : Nat → Option RunT} {FE : Nat → Prop} {live : Nat → Option BlkT} {r : Option Nat}
theorem LgM.noFlush (m : LgM A N T FE live) : opensA { A with L := [] } (A.L.map (·.1)) = A := by
  have := m.L
  rw [this]
  show ({ A with L := [] } : Ar) = A
  cases A
  dsimp only at this
  rw [this]
theorem LgM.great (m : LgM A N T FE live) (h : AllocR n A r A') (h1 : 32 ≤ n) (h2 : n ≤ 65536) {p : Nat} (hp : RunIs N (usedB T) (szI n / 64) (p : Int)) :
    r = some (64 * p) ∧ LgM A' N (putT T p (szI n / 64) 6 (szI n / 64)) FE (updO live (64 * p) (some ⟨szI n, n, 1⟩)) := by
  obtain ⟨hso, hns, _, hcls, _, _, _⟩ := sizeOk_of (show 1 ≤ n by omega) h2
  have hc : clsI n = 5 := by
    rcases hso with ⟨g, _⟩ | ⟨g, _⟩
    · have := (small_at g).2.1; omega
    · exact g
  obtain ⟨f', e1, e2, e3, e4⟩ := h.fine m.fine (by omega) h2 trivial
  rw [← m.n, ← m.T] at hp
  have key : ∀ {x : Nat} {A1 : Ar}, TakeR (clsI n) (szI n) A (some x) A1 → x = 64 * p ∧ A1 = greatA A (szI n) p := by
    intro x A1 ht
    cases ht with
    | great p' _ hr =>
      have := hr.unique hp
      obtain rfl : p' = p := by omega
      exact ⟨rfl, rfl⟩
    | first _ _ hc' _ => omega
    | page _ _ p' hc' _ _ _ => omega
  have knone : ∀ {A1 : Ar}, ¬ TakeR (clsI n) (szI n) A none A1 := by
    intro A1 ht
    cases ht with
    | noGreat _ hr => have := hr.unique hp; omega
    | noPage _ hc' _ _ => omega
    | page _ _ p' hc' _ _ _ => omega
  cases h with
  | again A1 A2 x ht ht2 => exact absurd ht knone
  | full A1 _ ht ht2 => exact absurd ht knone
  | at_ A1 x ht =>
    obtain ⟨rfl, rfl⟩ := key ht
    refine ⟨rfl, f', e1.trans m.n, e2.trans m.bud, m.L, ?_, fun c hc x => m.F c hc x, ?_⟩
    · show putT A.T p (szI n / 64) 6 (szI n / 64) = _
      rw [m.T]
    · rw [(e4 _ rfl).2.1, m.live]
theorem LgM.none_ (m : LgM A N T FE live) (h : AllocR n A r A') (h1 : 1 ≤ n) (h2 : n ≤ 31) (hF : FE (clsI n)) (hp : RunIs N (usedB T) 1 (-1)) : r = none ∧ A' = A := by
  obtain ⟨g1, g2, g3⟩ := small_of h1 h2
  rw [← m.n, ← m.T] at hp
  have key : ∀ {r : Option Nat} {A1 : Ar}, TakeR (clsI n) (szI n) A r A1 → r = none ∧ A1 = A := by
    intro r A1 ht
    rcases ht.small m.fine g1 g2 with ⟨h1, h2, _⟩ | ⟨x, _, h2, _⟩ | ⟨p, _, _, h2, _⟩
    · exact ⟨h1, h2⟩
    · have := m.F _ hF x
      rw [h2.1] at this
      cases this
    · have := h2.unique hp; omega
  cases h with
  | at_ A1 x ht => exact absurd (key ht).1 (by simp)
  | again A1 A2 x ht ht2 =>
    obtain ⟨_, rfl⟩ := key ht
    rw [m.noFlush] at ht2
    exact absurd (key ht2).1 (by simp)
  | full A1 _ ht ht2 =>
    obtain ⟨_, rfl⟩ := key ht
    rw [m.noFlush] at ht2
    exact ⟨rfl, (key ht2).2⟩
theorem LgM.page (m : LgM A N T FE live) (h : AllocR n A r A') (h1 : 1 ≤ n) (h2 : n ≤ 31) (hF : FE (clsI n)) {p : Nat} (hp : RunIs N (usedB T) 1 (p : Int)) :
    r = some (64 * p) ∧ LgM A' N (putT T p 1 ((clsI n : Int) + 1) 1) (fun c => c ≠ clsI n ∧ FE c) (updO live (64 * p) (some ⟨szI n, n, 1⟩)) := by
  obtain ⟨g1, g2, g3⟩ := small_of h1 h2
  obtain ⟨f', e1, e2, e3, e4⟩ := h.fine m.fine h1 (by omega) trivial
  rw [← m.n, ← m.T] at hp
  have key : ∀ {r : Option Nat} {A1 : Ar}, TakeR (clsI n) (szI n) A r A1 → r = some (64 * p) ∧ A1 = { pageA A (clsI n) (szI n) p with F := updF (pageA A (clsI n) (szI n) p).F (clsI n) (64 * p) false } := by
    intro r A1 ht
    rcases ht.small m.fine g1 g2 with ⟨_, _, _, h2⟩ | ⟨x, _, h2, _⟩ | ⟨p', h1, _, h2, h3⟩
    · have := h2.unique hp; omega
    · have := m.F _ hF x
      rw [h2.1] at this
      cases this
    · have := h2.unique hp
      obtain rfl : p' = p := by omega
      exact ⟨h1, h3⟩
  cases h with
  | again A1 A2 x ht ht2 => exact absurd (key ht).1 (by simp)
  | full A1 _ ht ht2 => exact absurd (key ht).1 (by simp)
  | at_ A1 x ht =>
    obtain ⟨hx, rfl⟩ := key ht
    cases hx
    refine ⟨rfl, f', e1.trans m.n, e2.trans m.bud, m.L, ?_, fun c hc x => ?_, ?_⟩
    · show putT A.T p 1 ((clsI n : Int) + 1) 1 = _
      rw [m.T]
    · show updF (pageF A.F (clsI n) p (szI n) (64 / szI n)) (clsI n) (64 * p) false c x = false
      unfold updF pageF
      rw [if_neg (fun h => hc.1 h.1), if_neg (fun h => hc.1 h.1)]
      exact m.F c hc.2 x
    · rw [(e4 _ rfl).2.1, m.live]
theorem LgM.free (m : LgM A N T FE live) {x : Nat} {b : BlkT} (hb : live x = some b) (h64 : 64 ≤ b.size) : LgM (freeA A x b) N (cutT T (x / 64) (b.size / 64)) FE (updO live x none) := by
  rw [← m.live] at hb
  obtain ⟨q1, q2⟩ := liveB_some.1 hb
  obtain ⟨f', e1, e2, e3, e4, _⟩ := m.fine.free_ q1 q2
  have hst : stays A.bud (A.L ++ [((x : Int), b.size)]) = [] := by
    rw [m.bud, m.L]
    exact stays_zero fun y hy => by rw [List.mem_singleton.1 hy]; show 0 < b.size; omega
  have hgo : goes A.bud (A.L ++ [((x : Int), b.size)]) = [(x : Int)] := by
    obtain ⟨pre, h1, h2⟩ := goes_split A.bud (A.L ++ [((x : Int), b.size)])
    rw [hst, List.append_nil] at h1
    rw [h2, ← h1, m.L]
    rfl
  have hf : freeA A x b = openA { A with wd := fun i => if x ≤ i ∧ i < x + b.size then ps ((i : Nat) : Int) else A.wd i, B := updO A.B x (some { b with st := 2 }), L := [] } x := by
    rw [freeA_eq, hgo, hst]
    show openA _ (x : Int).toNat = _
    rw [Int.toNat_natCast]
  have hl : freeA A x b = _ := hf.trans (openA_large (b := { b with st := 2 }) (updO_eq _ _ _) (by show ¬ b.size ≤ 32; omega))
  refine ⟨f', e2.trans m.n, e3.trans m.bud, e4.trans hst, ?_, fun c hc y => ?_, ?_⟩
  · rw [hl]
    show givenT A.T ((x / 64 : Nat) : Int) = _
    rw [m.fine.ok.given q1, (clsN_large h64).2, m.T]
  · rw [hl]; exact m.F c hc y
  · rw [e1, m.live]
end
/-- the arena in memory -/
def LgAt (B pa k N : Nat) (T : Nat → Option RunT) (FE : Nat → Prop) (live : Nat → Option BlkT) (w wr : World) : Prop := ∃ A, ArS B wr pa k A ∧ LgM A N T FE live ∧ Below B w wr
section
variable {B pa k N n : Nat} {T : Nat → Option RunT} {FE : Nat → Prop} {live : Nat → Option BlkT} {w wr : World}
theorem lg_great (h : LgAt B pa k N T FE live w wr) (hk : k ≤ 4294967296) (h1 : 32 ≤ n) (h2 : n ≤ 65536) {p : Nat} (hp : RunIs N (usedB T) (szI n / 64) (p : Int)) :
    Calls Try.prog 13 #[.pointer (some ⟨pa, 0, none⟩), .int .i64 (n : Nat)] wr fun e w' => e = .returned (alV (some (64 * p))) ∧ LgAt B pa (k + 2 * (33 + szI n / 64)) N (putT T p (szI n / 64) 6 (szI n / 64)) FE (updO live (64 * p) (some ⟨szI n, n, 1⟩)) w w' := by
  obtain ⟨A, a1, m, a3⟩ := h
  refine (alloc_in n (by omega) h2 wr a1 m.fine.ok hk).mono ?_
  rintro e w2 ⟨r, A', rfl, hr, b1, b2, b3⟩
  obtain ⟨rfl, m'⟩ := m.great hr h1 h2 hp
  exact ⟨rfl, A', b1, m', a3.trans b3⟩
theorem lg_none (h : LgAt B pa k N T FE live w wr) (hk : k ≤ 4294967296) (h1 : 1 ≤ n) (h2 : n ≤ 31) (hF : FE (clsI n)) (hp : RunIs N (usedB T) 1 (-1)) :
    Calls Try.prog 13 #[.pointer (some ⟨pa, 0, none⟩), .int .i64 (n : Nat)] wr fun e w' => e = .returned (alV none) ∧ LgAt B pa (k + 2 * (33 + szI n / 64)) N T FE live w w' := by
  obtain ⟨A, a1, m, a3⟩ := h
  refine (alloc_in n (by omega) (by omega) wr a1 m.fine.ok hk).mono ?_
  rintro e w2 ⟨r, A', rfl, hr, b1, b2, b3⟩
  obtain ⟨rfl, rfl⟩ := m.none_ hr h1 h2 hF hp
  exact ⟨rfl, A', b1, m, a3.trans b3⟩
theorem lg_page (h : LgAt B pa k N T FE live w wr) (hk : k ≤ 4294967296) (h1 : 1 ≤ n) (h2 : n ≤ 31) (hF : FE (clsI n)) {p : Nat} (hp : RunIs N (usedB T) 1 (p : Int)) :
    Calls Try.prog 13 #[.pointer (some ⟨pa, 0, none⟩), .int .i64 (n : Nat)] wr fun e w' => e = .returned (alV (some (64 * p))) ∧ LgAt B pa (k + 2 * (33 + szI n / 64)) N (putT T p 1 ((clsI n : Int) + 1) 1) (fun c => c ≠ clsI n ∧ FE c) (updO live (64 * p) (some ⟨szI n, n, 1⟩)) w w' := by
  obtain ⟨A, a1, m, a3⟩ := h
  refine (alloc_in n (by omega) (by omega) wr a1 m.fine.ok hk).mono ?_
  rintro e w2 ⟨r, A', rfl, hr, b1, b2, b3⟩
  obtain ⟨rfl, m'⟩ := m.page hr h1 h2 hF hp
  exact ⟨rfl, A', b1, m', a3.trans b3⟩
theorem lg_free (h : LgAt B pa k N T FE live w wr) {x : Nat} {b : BlkT} (hb : live x = some b) (h64 : 64 ≤ b.size) :
    Calls Try.prog 15 #[.pointer (some ⟨pa, 0, none⟩), .int .i64 (x : Nat)] wr fun e w' => e = .returned (.int .i64 0) ∧ LgAt B pa k N (cutT T (x / 64) (b.size / 64)) FE (updO live x none) w w' := by
  obtain ⟨A, a1, m, a3⟩ := h
  have hb' := hb
  rw [← m.live] at hb'
  obtain ⟨q1, q2⟩ := liveB_some.1 hb'
  refine (free_in x b wr a1 m.fine.ok q1 q2 (m.fine.use _ b q1 q2)).mono ?_
  rintro e w2 ⟨rfl, b1, b2⟩
  exact ⟨rfl, _, b1, m.free hb h64, a3.trans b2⟩
end
set_option maxRecDepth 100000 in
set_option maxHeartbeats 1000000 in
theorem arenaLarge.out (a0 a1 : Int) (w : World) (hd : ¬ (32 ≤ a0 ∧ a0 ≤ 600 ∧ 32 ≤ a1 ∧ a1 ≤ 600)) :
    Calls Try.prog 3 #[.int .i64 a0, .int .i64 a1] w fun e w' => e = .returned (.bool true) ∧ Below w.heap.size w w' := by
  go_enter Try.func3, Try.ntmps3
  go_wp2_with (first | (go_at_call 10; refine (alive_any _).mono ?_; rintro e w' ⟨rfl, hb⟩))
  all_goals
    go_ret
    exact ⟨rfl, by assumption⟩
theorem szI_large {n : Nat} (h1 : 32 ≤ n) (h2 : n ≤ 600) : szI n = 64 * (n / 64 + 1) := by
  unfold szI szOf pagesOf
  rw [if_neg (by omega), if_neg (by omega), if_neg (by omega), if_neg (by omega), if_neg (by omega)]
  omega
set_option maxRecDepth 100000 in
set_option maxHeartbeats 4000000 in
theorem arenaLarge.into (n m : Nat) (w : World) (h1 : 32 ≤ n) (h2 : n ≤ 600) (h3 : 32 ≤ m) (h4 : m ≤ 600) :
    Calls Try.prog 3 #[.int .i64 (n : Nat), .int .i64 (m : Nat)] w fun e w' => e = .returned (.bool true) ∧ Below w.heap.size w w' := by
  have d1 : decide ((n : Int) < 32) = false := by rw [decide_eq_false_iff_not]; omega
  have d2 : decide (600 < (n : Int)) = false := by rw [decide_eq_false_iff_not]; omega
  have d3 : decide ((m : Int) < 32) = false := by rw [decide_eq_false_iff_not]; omega
  have d4 : decide (600 < (m : Int)) = false := by rw [decide_eq_false_iff_not]; omega
  obtain ⟨_, _, _, hcn, hsn, _, _⟩ := sizeOk_of (show 1 ≤ n by omega) (show n ≤ 65536 by omega)
  obtain ⟨_, _, _, hcm, hsm, _, _⟩ := sizeOk_of (show 1 ≤ m by omega) (show m ≤ 65536 by omega)
  have HOF1 := Lib.hid (fun w => ofRef_any (n : Nat) w)
  have HOF2 := Lib.hid (fun w => ofRef_any (m : Nat) w)
  rw [hcn, hsn] at HOF1
  rw [hcm, hsm] at HOF2
  have en := szI_large h1 h2
  have em := szI_large h3 h4
  obtain ⟨s, hs⟩ : ∃ s, s = szI n := ⟨_, rfl⟩
  obtain ⟨t, ht⟩ : ∃ t, t = szI m := ⟨_, rfl⟩
  obtain ⟨q, hq⟩ : ∃ q, q = n / 64 + 1 := ⟨_, rfl⟩
  obtain ⟨p, hp⟩ : ∃ p, p = m / 64 + 1 := ⟨_, rfl⟩
  rw [← hs] at HOF1 en
  rw [← ht] at HOF2 em
  have hqs : s = 64 * q := by omega
  have hpt : t = 64 * p := by omega
  have hdq : Int.tdiv (s : Int) 64 = (q : Int) := by rw [Int.tdiv_eq_ediv_of_nonneg (by omega)]; omega
  have hdp : Int.tdiv (t : Int) 64 = (p : Int) := by rw [Int.tdiv_eq_ediv_of_nonneg (by omega)]; omega
  have hdq2 : (s : Int) / 64 = (q : Int) := by omega
  have hdp2 : (t : Int) / 64 = (p : Int) := by omega
  have hqb : 1 ≤ q ∧ q ≤ 10 := by omega
  have hpb : 1 ≤ p ∧ p ≤ 10 := by omega
  have hqw : IntKind.i64.wrap (q : Int) = (q : Int) := IntWalk.i64_in _ (by omega)
  have hpw : IntKind.i64.wrap (p : Int) = (p : Int) := IntWalk.i64_in _ (by omega)
  have hw1 : IntKind.i64.wrap (1 + (q : Int)) = ((1 + q : Nat) : Int) := by rw [IntWalk.i64_in _ (by omega)]; omega
  obtain ⟨a, ha⟩ : ∃ a, a = 1 + q := ⟨_, rfl⟩
  obtain ⟨N, hN⟩ : ∃ N, N = 1 + q + p := ⟨_, rfl⟩
  rw [← ha] at hw1
  have hw2 : IntKind.i64.wrap ((a : Int) + (p : Int)) = (N : Int) := by rw [IntWalk.i64_in _ (by omega)]; omega
  have hw3 : IntKind.i64.wrap (64 + (s : Int)) = ((64 + s : Nat) : Int) := by rw [IntWalk.i64_in _ (by omega)]; omega
  have hs0 : (0 : Int) ≤ (s : Int) := by omega
  have ht0 : (0 : Int) ≤ (t : Int) := by omega
  have HNW := Lib.hid (fun w => arNew_at (N : Nat) 0 w)
  rw [show pagesN (N : Nat) = N by unfold pagesN; omega, show budN 0 = 0 by rfl] at HNW
  have HNUM := Lib.hid (fun e w => num_any e w)
  have HV : Hid (s = szI n ∧ t = szI m ∧ s = 64 * q ∧ t = 64 * p ∧ N = 1 + q + p ∧ a = 1 + q ∧ (1 ≤ q ∧ q ≤ 10) ∧ (1 ≤ p ∧ p ≤ 10)) := Lib.hid ⟨hs, ht, hqs, hpt, hN, ha, hqb, hpb⟩
  have hone : clsI 1 = 0 ∧ szI 1 = 2 ∧ clsI 31 = 4 ∧ szI 31 = 32 := by decide
  have HONE := Lib.hid hone
  clear hs ht hqs hpt hN ha en em hq hp hcn hsn hcm hsm hone
  go_enter Try.func3, Try.ntmps3
  go_wp2_with fail
  refine (alive_any _).mono ?_
  rintro e wa ⟨rfl, hba⟩
  have HBA := Lib.hid hba
  clear hba
  go_wp2_with fail
  refine (HOF1.out _).mono ?_
  rintro e w0 ⟨rfl, rfl⟩
  go_wp2_with fail
  refine (HOF2.out _).mono ?_
  rintro e w0 ⟨rfl, rfl⟩
  go_wp2_with fail
  refine (HNW.out _).mono ?_
  rintro e wb ⟨pa, rfl, hO, _, hbb⟩
  obtain ⟨v1, v2, v3, v4, v5, v6, v7, v8⟩ := HV.out
  have hL0 : LgAt wa.heap.size pa 0 N (fun _ => none) (fun _ => True) (fun _ => none) wa wb := ⟨_, hO, ⟨Fine.new (by omega), rfl, rfl, rfl, rfl, fun _ _ _ => rfl, rfl⟩, hbb⟩
  obtain ⟨B, hB⟩ : ∃ B, B = wa.heap.size := ⟨_, rfl⟩
  rw [← hB] at hL0
  have HWB := Lib.hid hB
  have HA1 := Lib.hid (lg_great (n := n) (p := 1) hL0 (by omega) h1 (by omega) (by
    rw [← v1]
    exact runIs_at (by omega) (by omega) (fun j hj1 hj2 => usedB_not (by omega) rfl) (fun j hj => usedB_iff.2 (.inl (by omega)))))
  rw [← v1, show s / 64 = q by omega] at HA1
  clear v1 v2 v3 v4 v5 v6 v7 v8 hL0 hO hbb hB
  go_wp2_with fail
  refine HA1.out.mono ?_
  rintro e w1 ⟨rfl, hL1⟩
  obtain ⟨v1, v2, v3, v4, v5, v6, v7, v8⟩ := HV.out
  have HA2 := Lib.hid (lg_great (n := m) (p := 1 + q) hL1 (by omega) h3 (by omega) (by
    rw [← v2]
    refine runIs_at (by omega) (by omega) (fun j hj1 hj2 => usedB_not (by omega) ?_) (fun j hj => usedB_iff.2 ?_)
    · unfold putT; rw [if_neg (by omega)]
    · by_cases h0 : j = 0
      · exact .inl h0
      · right; unfold putT; rw [if_pos (by omega)]; simp))
  rw [← v2, show t / 64 = p by omega, show 64 * (1 + q) = 64 + s by omega] at HA2
  clear v1 v2 v3 v4 v5 v6 v7 v8 hL1
  dsimp only [alV]
  go_wp2_with fail
  refine HA2.out.mono ?_
  rintro e w2 ⟨rfl, hL2⟩
  obtain ⟨v1, v2, v3, v4, v5, v6, v7, v8⟩ := HV.out
  have HA3 := Lib.hid (lg_none (n := 1) hL2 (by omega) (by decide) (by decide) trivial (by
    refine runIs_full (by decide) fun j hj => usedB_iff.2 ?_
    by_cases h0 : j = 0
    · exact .inl h0
    · right
      unfold putT
      split
      · simp
      · rw [if_pos (by omega)]; simp))
  clear v1 v2 v3 v4 v5 v6 v7 v8 hL2
  dsimp only [alV]
  go_wp2_with fail
  refine HA3.out.mono ?_
  rintro e w3 ⟨rfl, hL3⟩
  obtain ⟨v1, v2, v3, v4, v5, v6, v7, v8⟩ := HV.out
  have HA4 := Lib.hid (lg_free (x := 64) (b := ⟨s, n, 1⟩) hL3 (by rw [updO_ne _ _ (by omega)]; exact updO_eq _ _ _) (by show 64 ≤ s; omega))
  rw [show (⟨s, n, 1⟩ : BlkT).size / 64 = q from (show s / 64 = q by omega)] at HA4
  clear v1 v2 v3 v4 v5 v6 v7 v8 hL3
  dsimp only [alV]
  go_wp2_with (first | (go_at_call 14; refine (HNUM.out _ _).mono ?_; rintro e w5 ⟨rfl, rfl⟩) | fail)
  refine HA4.out.mono ?_
  rintro e w4 ⟨rfl, hL4⟩
  obtain ⟨v1, v2, v3, v4, v5, v6, v7, v8⟩ := HV.out
  have HA5 := Lib.hid (lg_page (n := 1) (p := 1) hL4 (by
      have : szI 1 / 64 = 0 := by rw [HONE.out.2.1]
      rw [this]; omega) (by decide) (by decide) trivial (by
    refine runIs_at (by omega) (by decide) (fun j hj1 hj2 => usedB_not (by omega) ?_) (fun j hj => usedB_iff.2 (.inl (by omega)))
    unfold cutT
    rw [if_pos (by omega)]))
  clear v1 v2 v3 v4 v5 v6 v7 v8 hL4
  go_wp2_with fail
  refine HA5.out.mono ?_
  rintro e w5 ⟨rfl, hL5⟩
  have hend : ∀ (k : Nat) (T : Nat → Option RunT) (FE : Nat → Prop) (live : Nat → Option BlkT) (wf : World), LgAt B pa k N T FE live wa wf → Below w.heap.size w wf := fun _ _ _ _ _ h => by
    obtain ⟨_, _, _, b⟩ := h
    rw [HWB.out] at b
    exact HBA.out.trans (b.mono (Below.size HBA.out))
  have HEND := Lib.hid hend
  obtain ⟨v1, v2, v3, v4, v5, v6, v7, v8⟩ := HV.out
  have hk5 : 0 + 2 * (33 + q) + 2 * (33 + p) + 2 * (33 + szI 1 / 64) + 2 * (33 + szI 1 / 64) ≤ 4294967296 := by
    have : szI 1 / 64 = 0 := by rw [HONE.out.2.1]
    rw [this]; omega
  by_cases hq1 : q = 1
  · have HA6 := Lib.hid (lg_none (n := 31) hL5 hk5 (by decide) (by decide) ⟨by decide, trivial⟩ (by
      refine runIs_full (by decide) fun j hj => usedB_iff.2 ?_
      by_cases h0 : j = 0
      · exact .inl h0
      · right
        unfold putT cutT
        split
        · simp
        · rw [if_neg (by omega)]
          dsimp only
          rw [if_pos (by omega)]; simp))
    obtain rfl : s = 64 := by omega
    clear v1 v2 v3 v4 v5 v6 v7 v8 hL5 hk5 hend hq1
    dsimp only [alV]
    go_wp2_with fail
    refine HA6.out.mono ?_
    rintro e w6 ⟨rfl, hL6⟩
    have HF := Lib.hid (HEND.out _ _ _ _ _ hL6)
    clear hL6
    dsimp only [alV]
    go_wp2_with (first | (go_at_call 14; refine (HNUM.out _ _).mono ?_; rintro e w5 ⟨rfl, rfl⟩) | fail)
    go_ret
    exact ⟨rfl, HF.out⟩
  · have HA6 := Lib.hid (lg_page (n := 31) (p := 2) hL5 hk5 (by decide) (by decide) ⟨by decide, trivial⟩ (by
      refine runIs_at (by omega) (by decide) (fun j hj1 hj2 => usedB_not (by omega) ?_) (fun j hj => usedB_iff.2 ?_)
      · unfold putT cutT
        rw [if_neg (by omega), if_pos (by omega)]
      · by_cases h0 : j = 0
        · exact .inl h0
        · right
          unfold putT
          rw [if_pos (by omega)]; simp))
    have hs1 : ((s : Int) == 64) = false := by rw [beq_eq_false_iff_ne]; omega
    have hs2 : (64 : Int) < (s : Int) := by omega
    clear v1 v2 v3 v4 v5 v6 v7 v8 hL5 hk5 hend hq1
    dsimp only [alV]
    go_wp2_with fail
    refine HA6.out.mono ?_
    rintro e w6 ⟨rfl, hL6⟩
    have HF := Lib.hid (HEND.out _ _ _ _ _ hL6)
    clear hL6
    dsimp only [alV]
    go_wp2_with (first | (go_at_call 14; refine (HNUM.out _ _).mono ?_; rintro e w5 ⟨rfl, rfl⟩) | fail)
    go_ret
    exact ⟨rfl, HF.out⟩
theorem arenaLarge.walk (a0 : Int) (a1 : Int) (w : World) (w0 : (Lit.int .i64 a0).wf = true) (w1 : (Lit.int .i64 a1).wf = true) :
    Calls Try.prog 3 #[.int .i64 a0, .int .i64 a1] w fun e w' => e = .returned (.bool true) ∧ Below w.heap.size w w' := by
  by_cases h : 32 ≤ a0 ∧ a0 ≤ 600 ∧ 32 ≤ a1 ∧ a1 ≤ 600
  · obtain ⟨n, rfl⟩ : ∃ n : Nat, a0 = n := ⟨a0.toNat, by omega⟩
    obtain ⟨m, rfl⟩ : ∃ n : Nat, a1 = n := ⟨a1.toNat, by omega⟩
    exact arenaLarge.into n m w (by omega) (by omega) (by omega) (by omega)
  · exact arenaLarge.out a0 a1 w h
end Go.Proofs.Ytfiddodlpppdhaa
