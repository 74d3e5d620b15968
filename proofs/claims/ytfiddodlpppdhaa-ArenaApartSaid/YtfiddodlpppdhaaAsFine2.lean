/- Plain: what Alloc, Free and Write leave of an arena where nobody wrote where nobody may. -/
import Derived.Test.YtfiddodlpppdhaaAsFine
import Derived.Test.YtfiddodlpppdhaaAsRead
namespace Go.Proofs.Ytfiddodlpppdhaa
open Go.RowKit Go.Maps
set_option linter.unusedVariables false
section
variable {S : Nat → Prop} {A : Ar} {E : Nat → Prop} {R : List Int}
theorem liveB_upd_off {A A' : Ar} {x : Nat} {o : Option BlkT} (hB : A'.B = updO A.B x o) (ho : ∀ b, o = some b → b.st ≠ 1) : liveB A' = updO (liveB A) x none := by
  funext y
  unfold liveB
  rw [hB]
  unfold updO
  by_cases e : y = x
  · rw [if_pos e, if_pos e]
    cases o with
    | none => rfl
    | some b => dsimp only; rw [if_neg (ho b rfl)]
  · rw [if_neg e, if_neg e]
theorem liveB_upd_on {A A' : Ar} {x : Nat} {b : BlkT} (hB : A'.B = updO A.B x (some b)) (hs : b.st = 1) : liveB A' = updO (liveB A) x (some b) := by
  funext y
  unfold liveB
  rw [hB]
  unfold updO
  by_cases e : y = x
  · rw [if_pos e, if_pos e]; dsimp only; rw [if_pos hs]
  · rw [if_neg e, if_neg e]
theorem updO_none {α : Type} {f : Nat → Option α} {x : Nat} (h : f x = none) : updO f x none = f := by
  funext y; unfold updO; split
  · next e => rw [e, h]
  · rfl
/-- a block given out -/
theorem FineE.give {x n : Nat} {b : BlkT} (f : FineE S A (· = x) R) (hb : A.B x = some b) (hn : n ≤ b.size) (hst : b.st = 0 ∨ b.st = 3) (hF : ∀ c, A.F c x = false) :
    FineE S (giveA A x n b.size) noneE R ∧ liveB A x = none ∧ liveB (giveA A x n b.size) = updO (liveB A) x (some ⟨b.size, n, 1⟩) := by
  have hB : (giveA A x n b.size).B = updO A.B x (some ⟨b.size, n, 1⟩) := rfl
  have hwd : ∀ i, (giveA A x n b.size).wd i = if x ≤ i ∧ i < x + n then 0 else if x + n ≤ i ∧ i < x + b.size then cn ((i : Nat) : Int) else A.wd i := fun i => rfl
  have hother : ∀ {y : Nat} {d : BlkT}, y ≠ x → A.B y = some d → ∀ i, i < d.size → (giveA A x n b.size).wd (y + i) = A.wd (y + i) := fun {y d} hne hd i hi => by
    have key : ∀ j, j < b.size → x + j ≠ y + i := fun j hj => f.ok.disj hb hd (Ne.symm hne) hj hi
    rw [hwd, if_neg, if_neg]
    · rintro ⟨h1, h2⟩
      exact key (y + i - x) (by omega) (by omega)
    · rintro ⟨h1, h2⟩
      exact key (y + i - x) (by omega) (by omega)
  refine ⟨⟨f.ok.give hb hn hst hF, fun y d hd hs => ?_, fun y d hd hs i hi => ?_, fun y d hd => ?_, f.bad0, fun y d _ hd h5 hs => ?_, fun y d hd hs => ?_, fun y d _ hd h64 => ?_, page_upd (b' := ⟨b.size, n, 1⟩) hb rfl f.page, fun y d hd => ?_⟩, ?_, liveB_upd_on hB rfl⟩
  · rcases upd_case hd with ⟨rfl, rfl⟩ | ⟨hne, hd⟩
    · intro i h1 h2
      have h1 : n ≤ i := h1
      have h2 : i < b.size := h2
      rw [hwd, if_neg (by omega), if_pos (by omega)]
    · intro i h1 h2
      rw [hother hne hd i h2]
      exact f.use y d hd hs i h1 h2
  · rcases upd_case hd with ⟨rfl, rfl⟩ | ⟨hne, hd⟩
    · rcases hs with h | h <;> cases h
    · rw [hother hne hd i hi]
      exact f.poi y d hd hs i hi
  · rcases upd_case hd with ⟨rfl, rfl⟩ | ⟨hne, hd⟩
    · exact (by decide : (1 : Nat) ≠ 4)
    · exact f.nobad y d hd
  · rcases upd_case hd with ⟨rfl, rfl⟩ | ⟨hne, hd⟩
    · rcases hs with h | h <;> cases h
    · exact f.fullF y d hne hd h5 hs
  · rcases upd_case hd with ⟨rfl, rfl⟩ | ⟨hne, hd⟩
    · cases hs
    · exact f.fullL y d hd hs
  · rcases upd_case hd with ⟨rfl, rfl⟩ | ⟨hne, hd⟩
    · exact .inl rfl
    · exact f.large y d hne hd h64
  · rcases upd_case hd with ⟨rfl, rfl⟩ | ⟨hne, hd⟩
    · exact f.sz y b hb
    · exact f.sz y d hd
  · rw [liveB_none]
    intro d hd
    rw [hb] at hd
    cases hd
    omega
/-- a block that waited is free -/
theorem FineE.open_ {x : Nat} {b : BlkT} (f : FineE S A noneE ((x : Int) :: R)) (hb : A.B x = some b) (hst : b.st = 2) (hL : (x : Int) ∉ A.L.map (·.1)) :
    FineE S (openA A x) noneE R ∧ liveB (openA A x) = liveB A := by
  have okO := f.ok.open_ hb hst hL
  obtain ⟨g1, g2, g3, g4, g5⟩ := f.ok.blk x b hb
  have hln : liveB A x = none := by
    rw [liveB_none]; intro d hd; rw [hb] at hd; cases hd; omega
  by_cases hs : b.size ≤ 32
  · rw [openA_small hb hs] at okO ⊢
    refine ⟨⟨okO, fun y d hd hs => ?_, fun y d hd hs i hi => ?_, fun y d hd => ?_, f.bad0, fun y d _ hd h5 hs => ?_, fun y d hd hs => ?_, fun y d _ hd h64 => ?_, page_upd (b' := { b with st := 3 }) hb rfl f.page, fun y d hd => ?_⟩, ?_⟩
    · rcases upd_case hd with ⟨rfl, rfl⟩ | ⟨hne, hd⟩
      · cases hs
      · exact f.use y d hd hs
    · rcases upd_case hd with ⟨rfl, rfl⟩ | ⟨hne, hd⟩
      · exact f.poi y b hb (.inl hst) i hi
      · exact f.poi y d hd hs i hi
    · rcases upd_case hd with ⟨rfl, rfl⟩ | ⟨hne, hd⟩
      · exact (by decide : (3 : Nat) ≠ 4)
      · exact f.nobad y d hd
    · show updF A.F (clsN b.size) x true (clsN d.size) y = true
      unfold updF
      rcases upd_case hd with ⟨rfl, rfl⟩ | ⟨hne, hd⟩
      · exact if_pos ⟨rfl, rfl⟩
      · rw [if_neg (fun h => hne h.2)]
        exact f.fullF y d (fun h => h) hd h5 hs
    · rcases upd_case hd with ⟨rfl, rfl⟩ | ⟨hne, hd⟩
      · cases hs
      · rcases f.fullL y d hd hs with h | h
        · exact .inl h
        · rcases List.mem_cons.1 h with h | h
          · exact absurd (by omega) hne
          · exact .inr h
    · rcases upd_case hd with ⟨rfl, rfl⟩ | ⟨hne, hd⟩
      · have h64 : 64 ≤ b.size := h64
        omega
      · exact f.large y d (fun h => h) hd h64
    · rcases upd_case hd with ⟨rfl, rfl⟩ | ⟨hne, hd⟩
      · exact f.sz y b hb
      · exact f.sz y d hd
    · exact (liveB_upd_off (A := A) (x := x) (o := some { b with st := 3 }) rfl (fun d e => by cases e; exact (by decide : (3 : Nat) ≠ 1))).trans (updO_none hln)
  · have h64 : 64 ≤ b.size := by
      rcases g4 with ⟨h, _⟩ | ⟨h, _⟩
      · have := (small_at h).2.1; omega
      · exact h
    rw [openA_large hb hs, f.ok.given hb] at okO ⊢
    have hsome : ∀ {y : Nat} {d : BlkT}, updO A.B x none y = some d → y ≠ x ∧ A.B y = some d := fun {y d} h => by
      unfold updO at h
      split at h
      · cases h
      · next e => exact ⟨e, h⟩
    have hkeep : ∀ {y : Nat} {d : BlkT}, A.B y = some d → y ≠ x → updO A.B x none y = some d := fun {y d} h hne => (updO_ne _ _ hne).trans h
    refine ⟨⟨okO, fun y d hd hs => f.use y d (hsome hd).2 hs, fun y d hd hs i hi => f.poi y d (hsome hd).2 hs i hi, fun y d hd => f.nobad y d (hsome hd).2, f.bad0, fun y d _ hd h5 hs => f.fullF y d (fun h => h) (hsome hd).2 h5 hs, fun y d hd hs => ?_, fun y d _ hd h64 => f.large y d (fun h => h) (hsome hd).2 h64, fun q r hq => ?_, fun y d hd => f.sz y d (hsome hd).2⟩, ?_⟩
    · obtain ⟨hne, hd⟩ := hsome hd
      rcases f.fullL y d hd hs with h | h
      · exact .inl h
      · rcases List.mem_cons.1 h with h | h
        · exact absurd (by omega) hne
        · exact .inr h
    · have hq : cutT A.T (x / 64) (runLenN b.size) q = some r := hq
      unfold cutT at hq
      split at hq
      · cases hq
      · next hout =>
        obtain ⟨d, h1, h2, h3⟩ := f.page q r hq
        have hx1 := f.ok.tab x b hb
        have hneq : 64 * r.1 ≠ x := fun e => by
          obtain ⟨r1, r2, r3⟩ := r
          obtain ⟨q1, q2, q3, q4, q5⟩ := f.ok.runs q r1 r2 r3 hq
          have h6 := q5 r1 (Nat.le_refl _) (by omega)
          have e : 64 * r1 = x := e
          rw [show x / 64 = r1 by omega] at hx1 hout
          rw [hx1] at h6
          cases h6
          exact hout ⟨by omega, by omega⟩
        refine ⟨d, hkeep h1 hneq, h2, fun h5 j hj => ?_⟩
        obtain ⟨k, e1, e2⟩ := h3 h5 j hj
        refine ⟨k, hkeep e1 fun e => ?_, e2⟩
        rw [e, hb] at e1
        cases e1
        have := (small_at h5).2.1
        omega
    · exact (liveB_upd_off (A := A) (x := x) (o := none) rfl (fun d e => by cases e)).trans (updO_none hln)
theorem FineE.opens : ∀ {l : List Int} {A : Ar}, FineE S A noneE l → OpenOk A l → FineE S (opensA A l) noneE [] ∧ liveB (opensA A l) = liveB A
  | [], A, f, _ => ⟨f, rfl⟩
  | x :: l, A, f, h => by
    obtain ⟨k, b, rfl, e1, e2, e3⟩ := h.head
    show FineE S (opensA (openA A (k : Int).toNat) l) noneE [] ∧ liveB (opensA (openA A (k : Int).toNat) l) = _
    rw [Int.toNat_natCast]
    obtain ⟨f1, h1⟩ := f.open_ e1 e2 e3
    obtain ⟨f2, h2⟩ := FineE.opens f1 h.step
    exact ⟨f2, h2.trans h1⟩
theorem FineE.cut (f : Fine S A) {L' : List (Int × Nat)} {R : List Int} (h : L'.Sublist A.L) (hR : ∀ x, x ∈ A.L.map (·.1) → x ∈ L'.map (·.1) ∨ x ∈ R) : FineE S { A with L := L' } noneE R :=
  ⟨f.ok.cutLine h, f.use, f.poi, f.nobad, f.bad0, f.fullF, fun y d hd hs => by
    rcases f.fullL y d hd hs with h | h
    · exact hR _ h
    · exact absurd h List.not_mem_nil, f.large, f.page, f.sz⟩
theorem Fine.flush (f : Fine S A) : Fine S (opensA { A with L := [] } (A.L.map (·.1))) ∧ liveB (opensA { A with L := [] } (A.L.map (·.1))) = liveB A :=
  FineE.opens (f.cut (List.nil_sublist _) fun x hx => .inr hx) f.ok.flushOk
/-- a block taken back -/
theorem Fine.free_ (f : Fine S A) {x : Nat} {b : BlkT} (hb : A.B x = some b) (hst : b.st = 1) : Fine S (freeA A x b) ∧ liveB (freeA A x b) = updO (liveB A) x none ∧ (freeA A x b).N = A.N ∧ (freeA A x b).bud = A.bud ∧ (freeA A x b).L = stays A.bud (A.L ++ [((x : Int), b.size)]) ∧ ∀ i, (freeA A x b).wd i = if x ≤ i ∧ i < x + b.size then ps ((i : Nat) : Int) else A.wd i := by
  have hn := openA_N (goes A.bud (A.L ++ [((x : Int), b.size)])) { A with wd := fun i => if x ≤ i ∧ i < x + b.size then ps ((i : Nat) : Int) else A.wd i, B := updO A.B x (some { b with st := 2 }), L := stays A.bud (A.L ++ [((x : Int), b.size)]) }
  rw [freeA_eq]
  obtain ⟨n1, n2, n3, n4, n5⟩ := hn
  have okb := f.ok.back hb hst (fun i => if x ≤ i ∧ i < x + b.size then ps ((i : Nat) : Int) else A.wd i)
  have hother : ∀ {y : Nat} {d : BlkT}, y ≠ x → A.B y = some d → ∀ i, i < d.size → (if x ≤ y + i ∧ y + i < x + b.size then ps ((y + i : Nat) : Int) else A.wd (y + i)) = A.wd (y + i) := fun {y d} hne hd i hi => by
    rw [if_neg]
    rintro ⟨h1, h2⟩
    exact f.ok.disj hb hd (Ne.symm hne) (i := y + i - x) (by omega) hi (by omega)
  have f1 : Fine S { A with wd := fun i => if x ≤ i ∧ i < x + b.size then ps ((i : Nat) : Int) else A.wd i, B := updO A.B x (some { b with st := 2 }), L := A.L ++ [((x : Int), b.size)] } := by
    refine ⟨okb, fun y d hd hs => ?_, fun y d hd hs i hi => ?_, fun y d hd => ?_, f.bad0, fun y d _ hd h5 hs => ?_, fun y d hd hs => ?_, fun y d _ hd h64 => ?_, page_upd (b' := { b with st := 2 }) hb rfl f.page, fun y d hd => ?_⟩
    · rcases upd_case hd with ⟨rfl, rfl⟩ | ⟨hne, hd⟩
      · cases hs
      · intro i h1 h2
        show (if x ≤ y + i ∧ y + i < x + b.size then ps ((y + i : Nat) : Int) else A.wd (y + i)) = _
        rw [hother hne hd i h2]
        exact f.use y d hd hs i h1 h2
    · show (if x ≤ y + i ∧ y + i < x + b.size then ps ((y + i : Nat) : Int) else A.wd (y + i)) = _
      rcases upd_case hd with ⟨rfl, rfl⟩ | ⟨hne, hd⟩
      · have hi : i < b.size := hi
        rw [if_pos (by omega)]
      · rw [hother hne hd i hi]
        exact f.poi y d hd hs i hi
    · rcases upd_case hd with ⟨rfl, rfl⟩ | ⟨hne, hd⟩
      · exact (by decide : (2 : Nat) ≠ 4)
      · exact f.nobad y d hd
    · rcases upd_case hd with ⟨rfl, rfl⟩ | ⟨hne, hd⟩
      · rcases hs with h | h <;> cases h
      · exact f.fullF y d (fun h => h) hd h5 hs
    · show _ ∈ (A.L ++ [((x : Int), b.size)]).map (·.1) ∨ _
      rw [List.map_append]
      rcases upd_case hd with ⟨rfl, rfl⟩ | ⟨hne, hd⟩
      · exact .inl (by simp)
      · rcases f.fullL y d hd hs with h | h
        · exact .inl (List.mem_append_left _ h)
        · cases h
    · rcases upd_case hd with ⟨rfl, rfl⟩ | ⟨hne, hd⟩
      · exact .inr rfl
      · exact f.large y d (fun h => h) hd h64
    · rcases upd_case hd with ⟨rfl, rfl⟩ | ⟨hne, hd⟩
      · exact f.sz y b hb
      · exact f.sz y d hd
  obtain ⟨pre, e1, e2⟩ := goes_split A.bud (A.L ++ [((x : Int), b.size)])
  have hsub : (stays A.bud (A.L ++ [((x : Int), b.size)])).Sublist (A.L ++ [((x : Int), b.size)]) := by
    have := List.sublist_append_right pre (stays A.bud (A.L ++ [((x : Int), b.size)]))
    rw [← e1] at this
    exact this
  have f2 := f1.cut (R := goes A.bud (A.L ++ [((x : Int), b.size)])) hsub (fun z hz => by
    have hz : z ∈ (A.L ++ [((x : Int), b.size)]).map (·.1) := hz
    rw [e1, List.map_append, List.mem_append] at hz
    rcases hz with h | h
    · exact .inr (by rw [e2]; exact h)
    · exact .inl h)
  obtain ⟨f3, h3⟩ := FineE.opens f2 (okb.goesOk A.bud).2
  refine ⟨f3, h3.trans ?_, n1, n2, n4, fun i => by rw [n3]⟩
  exact liveB_upd_off (A := A) (x := x) (o := some { b with st := 2 }) rfl (fun d e => by cases e; exact (by decide : (2 : Nat) ≠ 1))
/-- which block take takes, of small ones -/
theorem TakeR.small {c s : Nat} {r : Option Nat} {A' : Ar} (h : TakeR c s A r A') (f : FineE S A noneE R) (hs : small5 s) (hc : c = clsN s) :
    (r = none ∧ A' = A ∧ (∀ x, A.F c x = false) ∧ RunIs A.N (usedB A.T) 1 (-1)) ∨
    (∃ x, r = some x ∧ LeastF A c x ∧ A' = { A with F := updF A.F c x false }) ∨
    (∃ p : Nat, r = some (64 * p) ∧ (∀ x, A.F c x = false) ∧ RunIs A.N (usedB A.T) 1 (p : Int) ∧ A' = { pageA A c s p with F := updF (pageA A c s p).F c (64 * p) false }) := by
  have c5 := (small_at hs).2.2.2.2.2
  have hw : ∀ x b, A.F c x = true → A.B x = some b → wholeA A x b := fun x b h1 h2 => f.whole h1 h2
  cases h with
  | great p h1 _ => omega
  | noGreat h1 _ => omega
  | first _ x _ hf =>
    rcases hf.fine hw with ⟨h, _⟩ | ⟨y, h1, h2, h3⟩
    · cases h
    · cases h1; exact .inr (.inl ⟨x, rfl, h2, h3⟩)
  | noPage _ _ hf hr =>
    rcases hf.fine hw with ⟨_, h2, h3⟩ | ⟨y, h1, _⟩
    · subst h2; exact .inl ⟨rfl, rfl, h3, hr⟩
    · cases h1
  | page A1 _ p _ _ hf hr hf2 =>
    rcases hf.fine hw with ⟨_, h2, h3⟩ | ⟨y, h1, _⟩
    · subst h2
      have hp := hr.at_
      obtain ⟨hp1, hpT⟩ := used_none (hp.2 p (Nat.le_refl _) (by omega))
      subst hc
      have okp := f.ok.page hs hr
      have hnew : ∀ x, (pageA A1 (clsN s) s p).F (clsN s) x = true ↔ (64 * p ≤ x ∧ x < 64 * p + 64 / s * s ∧ (x - 64 * p) % s = 0) := fun x => by
        show pageF A1.F (clsN s) p s (64 / s) (clsN s) x = true ↔ _
        unfold pageF
        constructor
        · intro h
          split at h
          · next e => exact e.2
          · rw [h3] at h; cases h
        · intro h; rw [if_pos ⟨rfl, h⟩]
      have h64 := (small_at hs).2.2.2.1
      have hs0 := (small_at hs).1
      have hf0 : (pageA A1 (clsN s) s p).F (clsN s) (64 * p) = true := (hnew _).2 ⟨Nat.le_refl _, by omega, by simp⟩
      have hw2 : ∀ x b, (pageA A1 (clsN s) s p).F (clsN s) x = true → (pageA A1 (clsN s) s p).B x = some b → wholeA (pageA A1 (clsN s) s p) x b := fun x b q1 q2 => by
        have := (pageB_new (B := A1.B) ((hnew x).1 q1)).symm.trans q2
        cases this
        exact .inl rfl
      rcases hf2.fine hw2 with ⟨_, _, h6⟩ | ⟨y, q1, q2, q3⟩
      · rw [h6] at hf0; cases hf0
      · have hy : y = 64 * p := by
          have a1 := (hnew y).1 q2.1
          have a2 := q2.2 _ hf0
          omega
        subst hy
        exact .inr (.inr ⟨p, q1, h3, hr, q3⟩)
    · cases h1
/-- take, of any size -/
theorem TakeR.fine {c s : Nat} {r : Option Nat} {A' : Ar} (h : TakeR c s A r A') (f : FineE S A noneE R) (hs : SizeOk c s) (hS : S s) :
    (r = none → A' = A) ∧ ∀ x, r = some x → FineE S A' (· = x) R ∧ liveB A' = liveB A := by
  rcases hs with ⟨h5, hc⟩ | ⟨hc, h64, hm⟩
  · rcases h.small f h5 hc with ⟨rfl, rfl, _⟩ | ⟨x, rfl, h1, rfl⟩ | ⟨p, rfl, h1, h2, rfl⟩
    · exact ⟨fun _ => rfl, fun x e => (by cases e)⟩
    · refine ⟨fun e => (by cases e), fun y e => ?_⟩
      cases e
      exact ⟨f.pop c x, rfl⟩
    · refine ⟨fun e => (by cases e), fun y e => ?_⟩
      cases e
      subst hc
      obtain ⟨f1, h3⟩ := f.pageOk h5 hS h2
      exact ⟨f1.pop _ _, h3⟩
  · cases h with
    | great p _ hr =>
      refine ⟨fun e => (by cases e), fun y e => ?_⟩
      cases e
      exact f.greatOk h64 hm hS hr
    | noGreat _ _ => exact ⟨fun _ => rfl, fun x e => (by cases e)⟩
    | first _ x h1 _ => omega
    | noPage _ h1 _ _ => omega
    | page _ _ p _ h1 _ _ _ => omega
/-- Alloc -/
theorem AllocR.fine {n : Nat} {r : Option Nat} {A' : Ar} (h : AllocR n A r A') (f : Fine S A) (hn : 1 ≤ n) (hn2 : n ≤ 65536) (hS : S (szI n)) :
    Fine S A' ∧ A'.N = A.N ∧ A'.bud = A.bud ∧ (r = none → liveB A' = liveB A ∧ A'.wd = A.wd) ∧ ∀ x, r = some x → liveB A x = none ∧ liveB A' = updO (liveB A) x (some ⟨szI n, n, 1⟩) ∧ ∀ i, A'.wd i = if x ≤ i ∧ i < x + n then 0 else if x + n ≤ i ∧ i < x + szI n then cn ((i : Nat) : Int) else A.wd i := by
  obtain ⟨hso, hns, _, _, _, _, _⟩ := sizeOk_of hn hn2
  have key : ∀ {A0 A1 : Ar} {x : Nat}, Fine S A0 → TakeR (clsI n) (szI n) A0 (some x) A1 → Fine S (giveA A1 x n (szI n)) ∧ A1.N = A0.N ∧ A1.bud = A0.bud ∧ A1.wd = A0.wd ∧ liveB A0 x = none ∧ liveB (giveA A1 x n (szI n)) = updO (liveB A0) x (some ⟨szI n, n, 1⟩) := by
    intro A0 A1 x f0 ht
    obtain ⟨_, g2, _, g3, g4, g5⟩ := ht.got f0.ok hso
    obtain ⟨b, b1, b2, b3, b4⟩ := g5 x rfl
    obtain ⟨f1, h1⟩ := (ht.fine f0 hso hS).2 x rfl
    obtain ⟨f2, h2, h3⟩ := f1.give (n := n) b1 (by omega) b3 b4
    rw [b2] at f2 h3
    rw [h1] at h2 h3
    exact ⟨f2, g2, g4, g3, h2, h3⟩
  obtain ⟨ff, hf⟩ := f.flush
  obtain ⟨n1, n2, n3, n4, n5⟩ := openA_N (A.L.map (·.1)) { A with L := [] }
  cases h with
  | at_ A1 x ht =>
    obtain ⟨f2, g2, g4, g3, h2, h3⟩ := key f ht
    refine ⟨f2, g2, g4, fun e => (by cases e), fun y e => ?_⟩
    cases e
    refine ⟨h2, h3, fun i => ?_⟩
    rw [← g3]; rfl
  | again A1 A2 x ht ht2 =>
    have e1 := (ht.fine f hso hS).1 rfl
    subst e1
    obtain ⟨f2, g2, g4, g3, h2, h3⟩ := key ff ht2
    rw [hf] at h2 h3
    refine ⟨f2, g2.trans n1, g4.trans n2, fun e => (by cases e), fun y e => ?_⟩
    cases e
    refine ⟨h2, h3, fun i => ?_⟩
    have e3 : A1.wd = A2.wd := (g3.trans n3).symm
    rw [e3]; rfl
  | full A1 _ ht ht2 =>
    have e1 := (ht.fine f hso hS).1 rfl
    subst e1
    have e2 := (ht2.fine ff hso hS).1 rfl
    subst e2
    exact ⟨ff, n1, n2, fun _ => ⟨hf, n3⟩, fun x e => (by cases e)⟩
/-- Free -/
theorem FreeR.fine {x c : Int} {A' : Ar} (h : FreeR A x c A') (f : Fine S A) :
    (c = 3 ∧ A' = A ∧ ∀ n : Nat, x = (n : Int) → liveB A n = none) ∨
    (c = 0 ∧ ∃ (n : Nat) (b : BlkT), x = (n : Int) ∧ liveB A n = some b ∧ A' = freeA A n b) := by
  cases h with
  | no h =>
    exact .inl ⟨rfl, rfl, fun n hn => by rw [liveB_none]; exact fun b hb => h n b hn hb⟩
  | smash n b h1 h2 h3 h4 => exact absurd (f.use n b h2 h3) h4
  | ok n b h1 h2 h3 h4 => exact .inr ⟨rfl, n, b, h1, liveB_some.2 ⟨h2, h3⟩, rfl⟩
theorem Fine.new {N bud : Nat} (h : 1 ≤ N ∧ N ≤ 4096) : Fine S (newA N bud) := by
  refine ⟨newA_ok h, ?_, ?_, ?_, rfl, ?_, ?_, ?_, ?_, ?_⟩
  · intro x b hb; cases hb
  · intro x b hb; cases hb
  · intro x b hb; cases hb
  · intro x b hx hb; cases hb
  · intro x b hb; cases hb
  · intro x b hx hb; cases hb
  · intro p r hr; cases hr
  · intro x b hb; cases hb
/-- a word of a block in use written -/
theorem Fine.write (f : Fine S A) {x i : Nat} {b : BlkT} (hb : liveB A x = some b) (hi : i < b.asked) (v : Int) : Fine S { A with wd := fun j => if j = x + i then v else A.wd j } ∧ liveB { A with wd := fun j => if j = x + i then v else A.wd j } = liveB A := by
  obtain ⟨hB, hst⟩ := liveB_some.1 hb
  have ha := (f.ok.blk x b hB).2.2.1
  refine ⟨⟨⟨f.ok.n, f.ok.blk, f.ok.free, f.ok.line, f.ok.nodup, f.ok.tab, f.ok.badn, f.ok.runs⟩, fun y d hd hs j h1 h2 => ?_, fun y d hd hs j hj => ?_, f.nobad, f.bad0, f.fullF, f.fullL, f.large, f.page, f.sz⟩, rfl⟩
  · show (if y + j = x + i then v else A.wd (y + j)) = _
    rw [if_neg]
    · exact f.use y d hd hs j h1 h2
    · intro e
      by_cases hxy : x = y
      · subst hxy
        have hd : A.B x = some d := hd
        rw [hB] at hd
        cases hd
        omega
      · exact f.ok.disj hB hd hxy (i := i) (j := j) (by omega) h2 e.symm
  · show (if y + j = x + i then v else A.wd (y + j)) = _
    rw [if_neg]
    · exact f.poi y d hd hs j hj
    · intro e
      by_cases hxy : x = y
      · subst hxy
        have hd : A.B x = some d := hd
        rw [hB] at hd
        cases hd
        omega
      · exact f.ok.disj hB hd hxy (i := i) (j := j) (by omega) hj e.symm
end
end Go.Proofs.Ytfiddodlpppdhaa
