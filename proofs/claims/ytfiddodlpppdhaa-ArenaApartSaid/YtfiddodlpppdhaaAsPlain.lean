/- Plain: what holds of every arena holds behind each of its changes. -/
import Derived.Test.YtfiddodlpppdhaaAsPage
namespace Go.Proofs.Ytfiddodlpppdhaa
open Go.RowKit Go.Maps
set_option linter.unusedVariables false
theorem RunIs.at_ {n K p : Nat} {S : Nat → Bool} (h : RunIs n S K (p : Int)) : runP n S K p := by
  rcases h with ⟨h, _⟩ | ⟨i, h, h1, _⟩
  · omega
  · obtain rfl : p = i := by omega
    exact h1
theorem used_none {T : Nat → Option RunT} {p : Nat} (h : usedB T p = false) : 1 ≤ p ∧ T p = none := by
  unfold usedB at h
  simp at h
  exact ⟨by omega, h.2⟩
theorem clsN_large {s : Nat} (h : 64 ≤ s) : clsN s = 5 ∧ runLenN s = s / 64 := by
  unfold clsN runLenN
  exact ⟨by rw [if_neg (by omega), if_neg (by omega), if_neg (by omega), if_neg (by omega), if_neg (by omega)], if_neg (by omega)⟩
theorem clsN_inj {s t : Nat} (hs : small5 s) (ht : small5 t) (h : clsN s = clsN t) : s = t := by
  unfold small5 at hs ht
  rcases hs with rfl | rfl | rfl | rfl | rfl <;> rcases ht with rfl | rfl | rfl | rfl | rfl <;> first | rfl | (exact absurd h (by decide))
section
variable {A : Ar}
/-- one block turned, and what is free and what waits -/
theorem ArOk.upd (ok : ArOk A) {x : Nat} {b b' : BlkT} (hb : A.B x = some b) (hs : b'.size = b.size) (ha : b'.asked ≤ b'.size) (hst : b'.st ≤ 4) (h4 : b.st ≠ 4) (F' : Nat → Nat → Bool) (L' : List (Int × Nat)) (wd' : Nat → Int)
    (hF : ∀ c y, F' c y = true → (y ≠ x ∧ A.F c y = true) ∨ (y = x ∧ small5 b.size ∧ clsN b.size = c ∧ (b'.st = 0 ∨ b'.st = 3)))
    (hL : ∀ y n, (y, n) ∈ L' → (y ≠ (x : Int) ∧ (y, n) ∈ A.L) ∨ (y = (x : Int) ∧ n = b.size ∧ b'.st = 2)) (hn : (L'.map (·.1)).Nodup) :
    ArOk { A with B := updO A.B x (some b'), F := F', L := L', wd := wd' } := by
  refine ⟨ok.n, fun y d hd => ?_, fun c y hy => ?_, fun y n hy => ?_, hn, fun y d hd => ?_, ?_, ok.runs⟩
  · unfold updO at hd
    dsimp only at hd
    split at hd
    · next e =>
      subst e
      cases hd
      obtain ⟨h1, h2, h3, h5, h6⟩ := ok.blk y b hb
      rw [hs] at ha ⊢
      exact ⟨h1, h2, ha, h5, hst⟩
    · exact ok.blk y d hd
  · rcases hF c y hy with ⟨h1, h2⟩ | ⟨rfl, h1, h2, h3⟩
    · obtain ⟨d, e1, e2⟩ := ok.free c y h2
      exact ⟨d, (updO_ne _ _ h1).trans e1, e2⟩
    · exact ⟨b', updO_eq _ _ _, by rw [hs]; exact h1, by rw [hs]; exact h2, h3⟩
  · rcases hL y n hy with ⟨h1, h2⟩ | ⟨rfl, h1, h2⟩
    · obtain ⟨k, d, rfl, e2, e3⟩ := ok.line y n h2
      exact ⟨k, d, rfl, (updO_ne _ _ (fun e => h1 (by rw [e]))).trans e2, e3⟩
    · exact ⟨x, b', rfl, updO_eq _ _ _, h2, by rw [hs, h1]⟩
  · unfold updO at hd
    dsimp only at hd
    split at hd
    · next e => subst e; cases hd; rw [hs]; exact ok.tab y b hb
    · exact ok.tab y d hd
  · obtain ⟨l, h1, h2, h3⟩ := ok.badn
    refine ⟨l, h1, h2, fun y hy => ?_⟩
    obtain ⟨k, d, rfl, e2, e3⟩ := h3 y hy
    refine ⟨k, d, rfl, (updO_ne _ _ ?_).trans e2, e3⟩
    rintro rfl
    rw [hb] at e2
    cases e2
    exact h4 e3
/-- a large block laid -/
theorem ArOk.great (ok : ArOk A) {s p : Nat} (hs : 64 ≤ s) (hs2 : s % 64 = 0) (hr : RunIs A.N (usedB A.T) (s / 64) (p : Int)) : ArOk (greatA A s p) := by
  have hrp := hr.at_
  obtain ⟨hp1, hpT⟩ := used_none (hrp.2 p (Nat.le_refl _) (by omega))
  have hN := hrp.1
  obtain ⟨hc, hl⟩ := clsN_large hs
  have hnone : A.B (64 * p) = none := by
    cases hb : A.B (64 * p) with
    | none => rfl
    | some b => exact absurd (by omega) (ok.notIn hpT hb)
  have hne : ∀ y b, A.B y = some b → y ≠ 64 * p := fun y b hb e => by rw [e, hnone] at hb; cases hb
  refine ⟨ok.n, fun y d hd => ?_, fun c y hy => ?_, fun y n hy => ?_, ok.nodup, fun y d hd => ?_, ?_, runsOK_put ok.runs _ hrp (by omega)⟩
  · unfold greatA updO at hd
    dsimp only at hd
    split at hd
    · next e =>
      subst e
      cases hd
      refine ⟨by omega, ?_, Nat.zero_le _, .inr ⟨hs, hs2, by omega⟩, Nat.zero_le _⟩
      show 64 * p + s ≤ 64 * A.N
      omega
    · exact ok.blk y d hd
  · obtain ⟨b, h1, h2⟩ := ok.free c y hy
    exact ⟨b, (updO_ne _ _ (hne y b h1)).trans h1, h2⟩
  · obtain ⟨k, b, h1, h2, h3⟩ := ok.line y n hy
    exact ⟨k, b, h1, (updO_ne _ _ (hne k b h2)).trans h2, h3⟩
  · show putT A.T p (s / 64) 6 (s / 64) (y / 64) = _
    unfold putT
    unfold greatA updO at hd
    dsimp only at hd
    split at hd
    · next e =>
      subst e
      cases hd
      rw [if_pos (by omega)]
      show _ = some (64 * p / 64, runLenN s, (clsN s : Int) + 1)
      rw [hc, hl, show 64 * p / 64 = p by omega]
      rfl
    · rw [if_neg ?_]
      · exact ok.tab y d hd
      · rintro ⟨q1, q2⟩
        have := hrp.2 (y / 64) q1 q2
        unfold usedB at this
        rw [ok.tab y d hd] at this
        simp at this
  · obtain ⟨l, h1, h2, h3⟩ := ok.badn
    refine ⟨l, h1, h2, fun y hy => ?_⟩
    obtain ⟨k, b, e1, e2, e3⟩ := h3 y hy
    exact ⟨k, b, e1, (updO_ne _ _ (hne k b e2)).trans e2, e3⟩
/-- a large block's run -/
theorem ArOk.inRun (ok : ArOk A) {x y : Nat} {b d : BlkT} (hb : A.B x = some b) (hd : A.B y = some d) (h1 : x / 64 ≤ y / 64) (h2 : y / 64 < x / 64 + runLenN b.size) : x / 64 = y / 64 ∧ clsN b.size = clsN d.size ∧ (small5 b.size ∧ b.size = d.size ∨ 64 ≤ b.size ∧ x = y) := by
  have e1 := ok.tab x b hb
  have e2 := ok.tab y d hd
  have e3 := (ok.runs _ _ _ _ e1).2.2.2.2 (y / 64) h1 h2
  rw [e2] at e3
  cases hT : A.T (y / 64)
  · rw [hT] at e2; cases e2
  have e4 : (y / 64, runLenN d.size, (clsN d.size : Int) + 1) = (x / 64, runLenN b.size, (clsN b.size : Int) + 1) := Option.some.inj e3
  obtain ⟨f1, f2⟩ := Prod.mk.inj e4
  obtain ⟨f2, f3⟩ := Prod.mk.inj f2
  have fc : clsN b.size = clsN d.size := by omega
  refine ⟨f1.symm, fc, ?_⟩
  obtain ⟨_, _, _, g1, _⟩ := ok.blk x b hb
  obtain ⟨_, _, _, g2, _⟩ := ok.blk y d hd
  rcases g1 with ⟨g1, _⟩ | ⟨g1, _, g3⟩
  · refine .inl ⟨g1, ?_⟩
    rcases g2 with ⟨g2, _⟩ | ⟨g2, _⟩
    · exact clsN_inj g1 g2 fc
    · have := (small_at g1).2.2.2.2.2
      have := (clsN_large g2).1
      omega
  · refine .inr ⟨g1, ?_⟩
    rcases g2 with ⟨g2, _⟩ | ⟨_, _, g4⟩
    · have := (small_at g2).2.2.2.2.2
      have := (clsN_large g1).1
      omega
    · omega
theorem openA_small {x : Nat} {b : BlkT} (hb : A.B x = some b) (hs : b.size ≤ 32) : openA A x = { A with B := updO A.B x (some { b with st := 3 }), F := updF A.F (clsN b.size) x true } := by
  unfold openA
  rw [hb]
  dsimp only
  rw [if_pos hs]
theorem openA_large {x : Nat} {b : BlkT} (hb : A.B x = some b) (hs : ¬ b.size ≤ 32) : openA A x = { A with B := updO A.B x none, T := givenT A.T ((x / 64 : Nat) : Int) } := by
  unfold openA
  rw [hb]
  dsimp only
  rw [if_neg hs]
theorem ArOk.given (ok : ArOk A) {x : Nat} {b : BlkT} (hb : A.B x = some b) : givenT A.T ((x / 64 : Nat) : Int) = cutT A.T (x / 64) (runLenN b.size) := by
  unfold givenT atT
  rw [if_pos (by omega), Int.toNat_natCast, ok.tab x b hb]
  exact if_pos rfl
theorem updF_true {F : Nat → Nat → Bool} {c x d y : Nat} {v : Bool} (h : updF F c x v d y = true) : (d = c ∧ y = x ∧ v = true) ∨ (¬ (d = c ∧ y = x) ∧ F d y = true) := by
  unfold updF at h
  split at h
  · next e => exact .inl ⟨e.1, e.2, h⟩
  · next e => exact .inr ⟨e, h⟩
theorem ArOk.open_ (ok : ArOk A) {x : Nat} {b : BlkT} (hb : A.B x = some b) (hst : b.st = 2) (hL : (x : Int) ∉ A.L.map (·.1)) : ArOk (openA A x) := by
  obtain ⟨g1, g2, g3, g4, g5⟩ := ok.blk x b hb
  by_cases hs : b.size ≤ 32
  · rw [openA_small hb hs]
    have h5 : small5 b.size := by
      rcases g4 with ⟨h, _⟩ | ⟨h, _⟩
      · exact h
      · omega
    refine ok.upd hb (b' := { b with st := 3 }) rfl g3 (by decide : (3 : Nat) ≤ 4) (by omega) _ _ _ (fun c y hy => ?_) (fun y n hy => .inl ⟨fun e => hL (by rw [← e]; exact List.mem_map_of_mem (f := (·.1)) hy), hy⟩) ok.nodup
    rcases updF_true hy with ⟨rfl, rfl, _⟩ | ⟨h1, h2⟩
    · exact .inr ⟨rfl, h5, rfl, .inr rfl⟩
    · refine .inl ⟨?_, h2⟩
      rintro rfl
      obtain ⟨d, e1, _, _, e2⟩ := ok.free c y h2
      rw [hb] at e1
      cases e1
      omega
  · have h64 : 64 ≤ b.size := by
      rcases g4 with ⟨h, _⟩ | ⟨h, _⟩
      · have := (small_at h).2.1; omega
      · exact h
    rw [openA_large hb hs, ok.given hb]
    have hsome : ∀ {y : Nat} {d : BlkT}, updO A.B x none y = some d → y ≠ x ∧ A.B y = some d := fun {y d} h => by
      unfold updO at h
      split at h
      · cases h
      · next e => exact ⟨e, h⟩
    refine ⟨ok.n, fun y d hd => ok.blk y d (hsome hd).2, fun c y hy => ?_, fun y n hy => ?_, ok.nodup, fun y d hd => ?_, ?_, runsOK_cut ok.runs (ok.tab x b hb)⟩
    · obtain ⟨d, e1, e2⟩ := ok.free c y hy
      refine ⟨d, (updO_ne _ _ ?_).trans e1, e2⟩
      rintro rfl
      rw [hb] at e1
      cases e1
      have := (small_at e2.1).2.1
      omega
    · obtain ⟨k, d, rfl, e2, e3⟩ := ok.line y n hy
      refine ⟨k, d, rfl, (updO_ne _ _ ?_).trans e2, e3⟩
      rintro rfl
      exact hL (List.mem_map_of_mem (f := (·.1)) hy)
    · obtain ⟨hne, hd⟩ := hsome hd
      show cutT A.T (x / 64) (runLenN b.size) (y / 64) = _
      unfold cutT
      rw [if_neg ?_]
      · exact ok.tab y d hd
      · rintro ⟨q1, q2⟩
        rcases (ok.inRun hb hd q1 q2).2.2 with ⟨h, _⟩ | ⟨_, h⟩
        · have := (small_at h).2.1; omega
        · exact hne h.symm
    · obtain ⟨l, h1, h2, h3⟩ := ok.badn
      refine ⟨l, h1, h2, fun y hy => ?_⟩
      obtain ⟨k, d, rfl, e2, e3⟩ := h3 y hy
      refine ⟨k, d, rfl, (updO_ne _ _ ?_).trans e2, e3⟩
      rintro rfl
      rw [hb] at e2
      cases e2
      omega
/-- what may be opened -/
def OpenOk (A : Ar) (l : List Int) : Prop := l.Nodup ∧ ∀ x ∈ l, x ∉ A.L.map (·.1) ∧ ∃ (k : Nat) (b : BlkT), x = (k : Int) ∧ A.B k = some b ∧ b.st = 2
theorem openA_L (A : Ar) (x : Nat) : (openA A x).L = A.L ∧ (openA A x).N = A.N ∧ (openA A x).bud = A.bud ∧ (openA A x).wd = A.wd ∧ (openA A x).bad = A.bad := by
  unfold openA
  split
  · exact ⟨rfl, rfl, rfl, rfl, rfl⟩
  · split <;> exact ⟨rfl, rfl, rfl, rfl, rfl⟩
theorem openA_B (A : Ar) {x y : Nat} (h : y ≠ x) : (openA A x).B y = A.B y := by
  unfold openA
  split
  · rfl
  · split <;> exact updO_ne _ _ h
theorem OpenOk.step {x : Nat} {l : List Int} (h : OpenOk A ((x : Int) :: l)) : OpenOk (openA A x) l := by
  obtain ⟨h1, h2⟩ := h
  have h3 := List.nodup_cons.1 h1
  refine ⟨h3.2, fun y hy => ?_⟩
  obtain ⟨e1, k, b, rfl, e2, e3⟩ := h2 y (List.mem_cons_of_mem _ hy)
  refine ⟨by rw [(openA_L A x).1]; exact e1, k, b, rfl, (openA_B A ?_).trans e2, e3⟩
  rintro rfl
  exact h3.1 hy
theorem OpenOk.head {x : Int} {l : List Int} (h : OpenOk A (x :: l)) : ∃ (k : Nat) (b : BlkT), x = (k : Int) ∧ A.B k = some b ∧ b.st = 2 ∧ (k : Int) ∉ A.L.map (·.1) := by
  obtain ⟨e1, k, b, rfl, e2, e3⟩ := h.2 x (by simp)
  exact ⟨k, b, rfl, e2, e3, e1⟩
theorem ArOk.opens : ∀ {l : List Int} {A : Ar}, ArOk A → OpenOk A l → ArOk (opensA A l)
  | [], A, ok, _ => ok
  | x :: l, A, ok, h => by
    obtain ⟨k, b, rfl, e1, e2, e3⟩ := h.head
    show ArOk (opensA (openA A (k : Int).toNat) l)
    rw [Int.toNat_natCast]
    exact ArOk.opens (ok.open_ e1 e2 e3) h.step
theorem opensA_snoc (x : Int) : ∀ (l : List Int) (A : Ar), opensA A (l ++ [x]) = openA (opensA A l) x.toNat
  | [], A => rfl
  | y :: l, A => opensA_snoc x l _
/-- the line cut -/
theorem ArOk.cutLine (ok : ArOk A) {L' : List (Int × Nat)} (h : L'.Sublist A.L) : ArOk { A with L := L' } :=
  ⟨ok.n, ok.blk, ok.free, fun y n hy => ok.line y n (h.mem hy), (h.map _).nodup ok.nodup, ok.tab, ok.badn, ok.runs⟩
theorem ArOk.flushOk (ok : ArOk A) : OpenOk { A with L := [] } (A.L.map (·.1)) := by
  refine ⟨ok.nodup, fun x hx => ⟨by simp, ?_⟩⟩
  obtain ⟨⟨y, n⟩, h1, rfl⟩ := List.mem_map.1 hx
  obtain ⟨k, b, e1, e2, e3, _⟩ := ok.line y n h1
  exact ⟨k, b, e1, e2, e3⟩
theorem goes_split (bud : Nat) : ∀ l, ∃ pre, l = pre ++ stays bud l ∧ goes bud l = pre.map (·.1)
  | [] => ⟨[], by simp [stays], by simp [goes]⟩
  | x :: r => by
    by_cases h : bud < sumL (x :: r)
    · obtain ⟨h1, h2⟩ := goes_on h
      obtain ⟨pre, e1, e2⟩ := goes_split bud r
      exact ⟨x :: pre, by rw [h2, List.cons_append, ← e1], by rw [h1, e2]; rfl⟩
    · obtain ⟨h1, h2⟩ := goes_stop h
      exact ⟨[], by rw [h2]; rfl, by rw [h1]; rfl⟩
theorem ArOk.goesOk (ok : ArOk A) (bud : Nat) : ArOk { A with L := stays bud A.L } ∧ OpenOk { A with L := stays bud A.L } (goes bud A.L) := by
  obtain ⟨pre, e1, e2⟩ := goes_split bud A.L
  have hs : (stays bud A.L).Sublist A.L := by
    have := List.sublist_append_right pre (stays bud A.L)
    rw [← e1] at this
    exact this
  refine ⟨ok.cutLine hs, ?_, fun x hx => ?_⟩
  · rw [e2]
    have := ok.nodup
    rw [e1, List.map_append, List.nodup_append] at this
    exact this.1
  · rw [e2] at hx
    have hn := ok.nodup
    rw [e1, List.map_append, List.nodup_append] at hn
    refine ⟨fun hm => hn.2.2 x hx x hm rfl, ?_⟩
    obtain ⟨⟨y, n⟩, h1, rfl⟩ := List.mem_map.1 hx
    obtain ⟨k, b, f1, f2, f3, _⟩ := ok.line y n (by rw [e1]; exact List.mem_append_left _ h1)
    exact ⟨k, b, f1, f2, f3⟩
/-- a block given out -/
theorem ArOk.give (ok : ArOk A) {x n : Nat} {b : BlkT} (hb : A.B x = some b) (hn : n ≤ b.size) (hst : b.st = 0 ∨ b.st = 3) (hF : ∀ c, A.F c x = false) : ArOk (giveA A x n b.size) := by
  refine ok.upd hb (b' := ⟨b.size, n, 1⟩) rfl hn (by decide : (1 : Nat) ≤ 4) (by omega) _ _ _ (fun c y hy => .inl ⟨?_, hy⟩) (fun y m hy => .inl ⟨?_, hy⟩) ok.nodup
  · rintro rfl
    rw [hF c] at hy
    cases hy
  · rintro rfl
    obtain ⟨k, d, e1, e2, e3, _⟩ := ok.line _ _ hy
    obtain rfl : x = k := by omega
    rw [hb] at e2
    cases e2
    omega
/-- a block taken back, ahead of what goes -/
theorem ArOk.back (ok : ArOk A) {x : Nat} {b : BlkT} (hb : A.B x = some b) (hst : b.st = 1) (wd' : Nat → Int) : ArOk { A with wd := wd', B := updO A.B x (some { b with st := 2 }), L := A.L ++ [((x : Int), b.size)] } := by
  obtain ⟨g1, g2, g3, g4, g5⟩ := ok.blk x b hb
  have hx : (x : Int) ∉ A.L.map (·.1) := fun hm => by
    obtain ⟨⟨y, n⟩, h1, h2⟩ := List.mem_map.1 hm
    obtain ⟨k, d, e1, e2, e3, _⟩ := ok.line y n h1
    have h2 : y = (x : Int) := h2
    obtain rfl : x = k := by omega
    rw [hb] at e2
    cases e2
    omega
  refine ok.upd hb (b' := { b with st := 2 }) rfl g3 (by decide : (2 : Nat) ≤ 4) (by omega) _ _ _ (fun c y hy => .inl ⟨?_, hy⟩) (fun y m hy => ?_) ?_
  · rintro rfl
    obtain ⟨d, e1, _, _, e2⟩ := ok.free c y hy
    rw [hb] at e1
    cases e1
    omega
  · rcases List.mem_append.1 hy with h | h
    · exact .inl ⟨fun e => hx (by rw [← e]; exact List.mem_map_of_mem (f := (·.1)) h), h⟩
    · have h := List.mem_singleton.1 h
      cases h
      exact .inr ⟨rfl, rfl, rfl⟩
  · rw [List.map_append, List.nodup_append]
    refine ⟨ok.nodup, by simp, fun a ha c hc => ?_⟩
    rw [List.map_singleton, List.mem_singleton] at hc
    intro e
    rw [hc] at e
    have e : a = (x : Int) := e
    exact hx (e ▸ ha)
theorem freeA_eq (A : Ar) (x : Nat) (b : BlkT) : freeA A x b = opensA { A with wd := fun i => if x ≤ i ∧ i < x + b.size then ps ((i : Nat) : Int) else A.wd i, B := updO A.B x (some { b with st := 2 }), L := stays A.bud (A.L ++ [((x : Int), b.size)]) } (goes A.bud (A.L ++ [((x : Int), b.size)])) := rfl
theorem ArOk.free_ (ok : ArOk A) {x : Nat} {b : BlkT} (hb : A.B x = some b) (hst : b.st = 1) : ArOk (freeA A x b) := by
  rw [freeA_eq]
  obtain ⟨h1, h2⟩ := (ok.back hb hst (fun i => if x ≤ i ∧ i < x + b.size then ps ((i : Nat) : Int) else A.wd i)).goesOk A.bud
  exact ArOk.opens h1 h2
/-- what first took -/
theorem FirstR.got {c : Nat} {r : Option Nat} {A' : Ar} (h : FirstR c A r A') : ArOk A → ArOk A' ∧ A'.N = A.N ∧ A'.L = A.L ∧ A'.T = A.T ∧ A'.wd = A.wd ∧ A'.bud = A.bud ∧ (∀ x, r = some x → ∃ b, A'.B x = some b ∧ small5 b.size ∧ clsN b.size = c ∧ (b.st = 0 ∨ b.st = 3) ∧ ∀ d, A'.F d x = false) := by
  induction h with
  | none A h => exact fun ok => ⟨ok, rfl, rfl, rfl, rfl, rfl, fun x e => by cases e⟩
  | hit A x b hl hb hw =>
    intro ok
    refine ⟨ok.popF c x, rfl, rfl, rfl, rfl, rfl, fun y e => ?_⟩
    cases e
    obtain ⟨d, e0, e1, e2, e3⟩ := ok.free c x hl.1
    refine ⟨d, e0, e1, e2, e3, fun k => ?_⟩
    show updF A.F c x false k x = false
    unfold updF
    split
    · rfl
    · next hk =>
      cases hf : A.F k x with
      | false => rfl
      | true =>
        obtain ⟨d', f0, f1, f2, _⟩ := ok.free k x hf
        rw [e0] at f0
        cases f0
        exact absurd ⟨by rw [← f2, e2], rfl⟩ hk
  | miss A A' x b r hl hb hw h ih =>
    intro ok
    obtain ⟨h1, h2, h3, h4, h5, h6, h7⟩ := ih (ok.badB hb hl.1)
    exact ⟨h1, h2, h3, h4, h5, h6, h7⟩
/-- which sizes take knows -/
def SizeOk (c s : Nat) : Prop := (small5 s ∧ c = clsN s) ∨ (c = 5 ∧ 64 ≤ s ∧ s % 64 = 0)
theorem pageA_eq (A : Ar) (c s p : Nat) : pageA A c s p = pageS A c s p (64 / s) := rfl
theorem ArOk.page (ok : ArOk A) {s p : Nat} (hs : small5 s) (hr : RunIs A.N (usedB A.T) 1 (p : Int)) : ArOk (pageA A (clsN s) s p) := by
  have hrp := hr.at_
  obtain ⟨hp1, hpT⟩ := used_none (hrp.2 p (Nat.le_refl _) (by omega))
  have := hrp.1
  rw [pageA_eq]
  exact ok.pageS hs hp1 (by omega) hpT (by rw [(small_at hs).2.2.2.1]; exact Nat.le_refl _)
theorem TakeR.got {c s : Nat} {r : Option Nat} {A' : Ar} (h : TakeR c s A r A') (ok : ArOk A) (hs : SizeOk c s) : ArOk A' ∧ A'.N = A.N ∧ A'.L = A.L ∧ A'.wd = A.wd ∧ A'.bud = A.bud ∧ (∀ x, r = some x → ∃ b, A'.B x = some b ∧ b.size = s ∧ (b.st = 0 ∨ b.st = 3) ∧ ∀ d, A'.F d x = false) := by
  have key : ∀ {x : Nat} {A0 : Ar}, small5 s → c = clsN s → (∃ b, A0.B x = some b ∧ small5 b.size ∧ clsN b.size = c ∧ (b.st = 0 ∨ b.st = 3) ∧ ∀ d, A0.F d x = false) → ∃ b, A0.B x = some b ∧ b.size = s ∧ (b.st = 0 ∨ b.st = 3) ∧ ∀ d, A0.F d x = false := by
    rintro x A0 h5 hc ⟨b, e1, e2, e3, e4⟩
    exact ⟨b, e1, clsN_inj e2 h5 (by rw [e3, hc]), e4⟩
  cases h with
  | great p hc hr =>
    rcases hs with ⟨h1, h2⟩ | ⟨_, h1, h2⟩
    · have := (small_at h1).2.2.2.2.2; omega
    have okg := ok.great h1 h2 hr
    refine ⟨okg, rfl, rfl, rfl, rfl, fun x e => ?_⟩
    cases e
    refine ⟨⟨s, 0, 0⟩, updO_eq _ _ _, rfl, .inl rfl, fun d => ?_⟩
    cases hf : (greatA A s p).F d (64 * p) with
    | false => rfl
    | true =>
      obtain ⟨b, e1, e2, _⟩ := okg.free d _ hf
      have e0 : (greatA A s p).B (64 * p) = some ⟨s, 0, 0⟩ := updO_eq _ _ _
      rw [e0] at e1
      cases e1
      have := (small_at e2).2.1
      have : s ≤ 32 := this
      omega
  | noGreat hc hr => exact ⟨ok, rfl, rfl, rfl, rfl, fun x e => by cases e⟩
  | first _ x hc hf =>
    obtain ⟨h1, h2, h3, h4, h5, h6, h7⟩ := hf.got ok
    refine ⟨h1, h2, h3, h5, h6, fun y e => ?_⟩
    rcases hs with ⟨g1, g2⟩ | ⟨g1, _⟩
    · exact key g1 g2 (h7 y e)
    · omega
  | noPage _ hc hf hr =>
    obtain ⟨h1, h2, h3, h4, h5, h6, h7⟩ := hf.got ok
    exact ⟨h1, h2, h3, h5, h6, fun x e => by cases e⟩
  | page A1 _ p _ hc hf hr hf2 =>
    obtain ⟨h1, h2, h3, h4, h5, h6, h7⟩ := hf.got ok
    rcases hs with ⟨g1, g2⟩ | ⟨g1, _⟩
    · subst g2
      obtain ⟨k1, k2, k3, k4, k5, k6, k7⟩ := hf2.got (h1.page g1 hr)
      exact ⟨k1, k2.trans h2, k3.trans h3, k5.trans h5, k6.trans h6, fun y e => key g1 rfl (k7 y e)⟩
    · omega
/-- of sizes -/
theorem sizeOk_of {n : Nat} (h1 : 1 ≤ n) (h2 : n ≤ 65536) : SizeOk (clsI n) (szI n) ∧ n < szI n ∧ szI n ≤ 65600 ∧ clsOf (n : Int) = (clsI n : Int) ∧ szOf (n : Int) = (szI n : Int) ∧ clsI n ≤ 5 ∧ (n ≤ 31 → szI n ≤ 32) := by
  unfold SizeOk clsI szI clsOf szOf pagesOf small5 clsN
  by_cases a1 : (n : Int) < 2
  · simp only [a1, if_true]
    have : n = 1 := by omega
    subst this
    decide
  · by_cases a2 : (n : Int) < 4
    · simp only [a1, a2, if_true, if_false]
      rcases (by omega : n = 2 ∨ n = 3) with rfl | rfl <;> decide
    · by_cases a3 : (n : Int) < 8
      · simp only [a1, a2, a3, if_true, if_false]
        exact ⟨.inl ⟨by omega, by decide⟩, by omega, by omega, by omega, by omega, by omega, by omega⟩
      · by_cases a4 : (n : Int) < 16
        · simp only [a1, a2, a3, a4, if_true, if_false]
          exact ⟨.inl ⟨by omega, by decide⟩, by omega, by omega, by omega, by omega, by omega, by omega⟩
        · by_cases a5 : (n : Int) < 32
          · simp only [a1, a2, a3, a4, a5, if_true, if_false]
            exact ⟨.inl ⟨by omega, by decide⟩, by omega, by omega, by omega, by omega, by omega, by omega⟩
          · simp only [a1, a2, a3, a4, a5, if_false]
            refine ⟨.inr ⟨by omega, ?_, ?_⟩, ?_, ?_, by omega, ?_, by omega, by omega⟩ <;> omega
end
end Go.Proofs.Ytfiddodlpppdhaa
