/- Plain: an arena where somebody wrote into one block. A row beside an arena. -/
import Derived.Test.YtfiddodlpppdhaaAsGrow
namespace Go.Proofs.Ytfiddodlpppdhaa
open Go.RowKit Go.Maps
set_option linter.unusedVariables false
/-- a word written -/
def pokeA (A : Ar) (j : Nat) (v : Int) : Ar := { A with wd := fun i => if i = j then v else A.wd i }
section
variable {S : Nat → Prop} {A A' : Ar} {x j n s : Nat} {b : BlkT} {v : Int}
theorem ArOk.poke (ok : ArOk A) (j : Nat) (v : Int) : ArOk (pokeA A j v) := ⟨ok.n, ok.blk, ok.free, ok.line, ok.nodup, ok.tab, ok.badn, ok.runs⟩
theorem poke_same : pokeA A j (A.wd j) = A := by
  unfold pokeA
  have : (fun i => if i = j then A.wd j else A.wd i) = A.wd := by
    funext i
    split
    · next e => rw [e]
    · rfl
  rw [this]
theorem ArOk.pokeOff (ok : ArOk A) (hb : A.B x = some b) (h1 : x ≤ j) (h2 : j < x + b.size) {y : Nat} {d : BlkT} (hd : A.B y = some d) (hne : y ≠ x) {i : Nat} (hi : i < d.size) : (pokeA A j v).wd (y + i) = A.wd (y + i) := by
  show (if y + i = j then v else A.wd (y + i)) = _
  rw [if_neg]
  intro e
  exact ok.disj hb hd (Ne.symm hne) (i := j - x) (j := i) (by omega) hi (by omega)
/-- all that is not in use, nor bad, is whole -/
theorem FineE.wholeAt {E : Nat → Prop} {R : List Int} (f : FineE S A E R) {y : Nat} {d : BlkT} (hd : A.B y = some d) (h1 : d.st ≠ 1) : wholeA A y d := by
  by_cases h0 : d.st = 0
  · exact .inl h0
  · refine .inr (f.poi y d hd ?_)
    have := (f.ok.blk y d hd).2.2.2.2
    have := f.nobad y d hd
    omega
theorem Fine.checkPoke (f : Fine S A) (hb : A.B x = some b) (h1 : x ≤ j) (h2 : j < x + b.size) (hbad : (b.st = 1 ∧ ¬ keptA (pokeA A j v) x b) ∨ (b.st ≠ 1 ∧ b.st ≠ 4 ∧ ¬ wholeA (pokeA A j v) x b)) : checkL (pokeA A j v) = [x] :=
  rise_eq suchL_rise (List.pairwise_singleton _ _) fun y => by
    rw [mem_checkL (f.ok.poke j v), List.mem_singleton]
    constructor
    · rintro ⟨d, hd, h⟩
      refine Classical.byContradiction fun hne => ?_
      have hd : A.B y = some d := hd
      have hoff := fun i (hi : i < d.size) => f.ok.pokeOff (v := v) hb h1 h2 hd hne hi
      rcases h with ⟨g1, g2⟩ | ⟨g1, _, g2⟩
      · exact g2 fun i q1 q2 => (hoff i q2).trans (f.use y d hd g1 i q1 q2)
      · exact g2 ((f.wholeAt hd g1).imp id fun h i hi => (hoff i hi).trans (h i hi))
    · rintro rfl
      exact ⟨b, hb, hbad⟩
/-- a block given back, where nothing waits -/
theorem freeA_now (hb : A.B x = some b) (hs : b.size ≤ 32) (h0 : 0 < b.size) (hbud : A.bud = 0) (hL : A.L = []) :
    freeA A x b = { A with wd := fun i => if x ≤ i ∧ i < x + b.size then ps ((i : Nat) : Int) else A.wd i, B := updO (updO A.B x (some { b with st := 2 })) x (some { b with st := 3 }), L := [], F := updF A.F (clsN b.size) x true } := by
  have e1 : stays 0 ([] ++ [((x : Int), b.size)]) = [] := stays_zero fun y hy => by
    rw [List.nil_append, List.mem_singleton] at hy
    rw [hy]
    exact h0
  obtain ⟨pre, p1, p2⟩ := goes_split 0 ([] ++ [((x : Int), b.size)])
  rw [e1, List.append_nil] at p1
  rw [← p1] at p2
  rw [freeA_eq, hbud, hL, e1, p2]
  show openA _ ((x : Int)).toNat = _
  rw [Int.toNat_natCast, openA_small (b := { b with st := 2 }) (updO_eq _ _ _) hs]
/-- first, where the least that is free was written over -/
theorem smash_first {c off : Nat} {r : Option Nat} (h : FirstR c (pokeA A (64 + off) v) r A') (f : Fine (· = s) A) (hs : small5 s) (hc : c = clsN s) (hN : A.N = 4) (hL : A.L = []) (hb : A.B 64 = some ⟨s, n, 3⟩) (hl : ∀ x, liveB A x = none) (hoff : off < s) (hv : v ≠ A.wd (64 + off)) :
    ∃ (y : Nat) (d : BlkT) (G : Nat → Nat → Bool), r = some y ∧ y ≠ 64 ∧ A.B y = some d ∧ A' = { pokeA A (64 + off) v with F := G, B := updO A.B 64 (some ⟨s, n, 4⟩), bad := A.bad + 1 } := by
  have s32 := (small_at hs).2.1
  have hF : A.F c 64 = true := by
    have := f.fullF 64 _ (fun h => h) hb hs (.inr rfl)
    rw [hc]; exact this
  have h64 : ∀ {x : Nat}, A.F c x = true → 64 ≤ x := fun {x} hx => by
    obtain ⟨b, e, _⟩ := f.ok.free c x hx
    exact (f.ok.blk x b e).1
  have hnw : ¬ wholeA (pokeA A (64 + off) v) 64 ⟨s, n, 3⟩ := by
    rintro (h | h)
    · cases h
    · have h1 : (if 64 + off = 64 + off then v else A.wd (64 + off)) = ps ((64 + off : Nat) : Int) := h off hoff
      rw [if_pos rfl] at h1
      exact hv (h1.trans (f.poi 64 _ hb (.inr rfl) off hoff).symm)
  have hst : ∀ {y : Nat} {d : BlkT}, A.B y = some d → d.st ≠ 1 := fun {y d} hd => liveB_none.1 (hl y) d hd
  cases h with
  | none _ hno => exact absurd ((hno 64).symm.trans hF) (by simp)
  | hit _ x b hx hb' hw =>
    have h1 := hx.2 64 hF
    have h2 := h64 hx.1
    obtain rfl : x = 64 := by omega
    rw [show (pokeA A (64 + off) v).B 64 = A.B 64 from rfl, hb] at hb'
    cases hb'
    exact absurd hw hnw
  | miss _ _ x b _ hx hb' hw h2 =>
    have h1 := hx.2 64 hF
    have h3 := h64 hx.1
    obtain rfl : x = 64 := by omega
    rw [show (pokeA A (64 + off) v).B 64 = A.B 64 from rfl, hb] at hb'
    cases hb'
    cases h2 with
    | none _ hno =>
      have hslot : slot A.N s (64 + s) := by
        rw [hN]
        unfold small5 at hs
        rcases hs with g | g | g | g | g <;> (rw [g]; unfold slot; decide)
      have hT : A.T ((64 + s) / 64) ≠ none := by
        have := f.ok.tab 64 _ hb
        rw [show (64 + s) / 64 = 64 / 64 by omega, this]
        simp
      have h4 := f.slotFree hs hL hslot hT (hl _)
      have h5 : updF A.F c 64 false c (64 + s) = false := hno (64 + s)
      unfold updF at h5
      have s0 := (small_at hs).1
      rw [if_neg (fun e => by have := e.2; omega), hc, h4] at h5
      cases h5
    | hit _ y d hy hd hw2 =>
      have hne : y ≠ 64 := by
        rintro rfl
        have h5 : updF A.F c 64 false c 64 = true := hy.1
        unfold updF at h5
        rw [if_pos ⟨rfl, rfl⟩] at h5
        cases h5
      exact ⟨y, d, _, rfl, hne, (updO_ne _ _ hne).symm.trans hd, rfl⟩
    | miss _ _ y d _ hy hd hw2 _ =>
      have hne : y ≠ 64 := by
        rintro rfl
        have h5 : updF A.F c 64 false c 64 = true := hy.1
        unfold updF at h5
        rw [if_pos ⟨rfl, rfl⟩] at h5
        cases h5
      have hd : A.B y = some d := (updO_ne _ _ hne).symm.trans hd
      refine absurd ?_ hw2
      exact (f.wholeAt hd (hst hd)).imp id fun h i hi => (f.ok.pokeOff (v := v) hb (Nat.le_add_right 64 off) (by show 64 + off < 64 + s; omega) hd hne hi).trans (h i hi)
theorem smash_alloc {off : Nat} {r : Option Nat} (h : AllocR n (pokeA A (64 + off) v) r A') (ok' : ArOk A') (f : Fine (· = s) A) (hs : small5 s) (hn : szI n = s) (hc : clsI n = clsN s) (hN : A.N = 4) (hL : A.L = []) (hb : A.B 64 = some ⟨s, n, 3⟩) (hl : ∀ x, liveB A x = none) (hoff : off < s) (hv : v ≠ A.wd (64 + off)) :
    ∃ y : Nat, r = some y ∧ y ≠ 64 ∧ A'.N = 4 ∧ A'.bad = 1 ∧ checkL A' = [] := by
  have key : ∀ {r : Option Nat} {A1 : Ar}, TakeR (clsI n) (szI n) (pokeA A (64 + off) v) r A1 → ∃ (y : Nat) (d : BlkT) (G : Nat → Nat → Bool), r = some y ∧ y ≠ 64 ∧ A.B y = some d ∧ A1 = { pokeA A (64 + off) v with F := G, B := updO A.B 64 (some ⟨s, n, 4⟩), bad := A.bad + 1 } := by
    intro r A1 ht
    have hc5 : clsI n < 5 := by
      rw [hc]
      unfold small5 at hs
      rcases hs with g | g | g | g | g <;> rw [g] <;> decide
    cases ht with
    | great _ h5 _ => omega
    | noGreat h5 _ => omega
    | first _ x _ hf => exact smash_first hf f hs hc hN hL hb hl hoff hv
    | noPage _ _ hf _ =>
      obtain ⟨y, _, _, h, _⟩ := smash_first hf f hs hc hN hL hb hl hoff hv
      cases h
    | page _ _ _ _ _ hf _ _ =>
      obtain ⟨y, _, _, h, _⟩ := smash_first hf f hs hc hN hL hb hl hoff hv
      cases h
  cases h with
  | again A1 _ x ht _ =>
    obtain ⟨_, _, _, h, _⟩ := key ht
    cases h
  | full A1 _ ht _ =>
    obtain ⟨_, _, _, h, _⟩ := key ht
    cases h
  | at_ A1 x ht =>
    obtain ⟨y, d, G, h, hne, hd, rfl⟩ := key ht
    cases h
    have hds : d.size = s := f.sz x d hd
    refine ⟨x, rfl, hne, hN, by show A.bad + 1 = 1; rw [f.bad0], ?_⟩
    rw [List.eq_nil_iff_forall_not_mem]
    intro z hz
    obtain ⟨e, he, hbad⟩ := (mem_checkL ok').1 hz
    rcases upd_case he with ⟨rfl, rfl⟩ | ⟨hzx, he⟩
    · rcases hbad with ⟨_, hk⟩ | ⟨h1, _⟩
      · refine hk fun i q1 q2 => ?_
        have q1 : n ≤ i := q1
        have q2 : i < szI n := q2
        show (if z ≤ z + i ∧ z + i < z + n then (0 : Int) else if z + n ≤ z + i ∧ z + i < z + szI n then cn ((z + i : Nat) : Int) else _) = _
        rw [if_neg (by omega), if_pos (by omega)]
      · exact h1 rfl
    · rcases upd_case he with ⟨rfl, rfl⟩ | ⟨hz64, he⟩
      · rcases hbad with ⟨h1, _⟩ | ⟨_, h1, _⟩
        · cases h1
        · exact h1 rfl
      · have hst : e.st ≠ 1 := liveB_none.1 (hl z) e he
        rcases hbad with ⟨h1, _⟩ | ⟨_, _, hw⟩
        · exact hst h1
        · refine hw ((f.wholeAt he hst).imp id fun h i hi => ?_)
          show (if x ≤ z + i ∧ z + i < x + n then (0 : Int) else if x + n ≤ z + i ∧ z + i < x + szI n then cn ((z + i : Nat) : Int) else (pokeA A (64 + off) v).wd (z + i)) = _
          have hsn : n ≤ szI n := by
            have h1 := ok'.size_pos (x := x) (b := ⟨szI n, n, 1⟩) (updO_eq _ _ _)
            exact h1.2.2.2
          have hout : ¬ (x ≤ z + i ∧ z + i < x + szI n) := fun q => f.ok.disj hd he (Ne.symm hzx) (i := z + i - x) (j := i) (by rw [hds, ← hn]; omega) hi (by omega)
          rw [if_neg (fun q => hout ⟨q.1, by omega⟩), if_neg (fun q => hout ⟨by omega, q.2⟩), f.ok.pokeOff (v := v) hb (Nat.le_add_right 64 off) (by show 64 + off < 64 + s; omega) he hz64 hi]
          exact h i hi
end
/-- an arena made since w0, and a row beside it -/
def ARow (w0 : World) (pa K : Nat) (A : Ar) (v : Value) (l : List Int) (wr : World) : Prop := ∃ B : Nat → Prop, (∀ g, g < w0.heap.size → B g) ∧ (∀ g, v.ownBlock = some g → B g) ∧ ArS B wr pa K A ∧ Below w0.heap.size w0 wr ∧ RowS wr 1 v l.length (intC l)
section
variable {w0 wr : World} {pa K n : Nat} {A : Ar} {v : Value} {l : List Int}
theorem ARow.at_ (h : ARow w0 pa K A v l wr) : AtA w0 pa K A wr := by
  obtain ⟨B, h1, h2, h3, h4, h5⟩ := h
  exact ⟨h3.grow (Keeps.refl [] wr) (fun g hg => absurd hg List.not_mem_nil) fun g hg => .inl (h1 g hg), h4⟩
theorem ARow.row (h : ARow w0 pa K A v l wr) : RowS wr 1 v l.length (intC l) := by
  obtain ⟨B, h1, h2, h3, h4, h5⟩ := h
  exact h5
theorem ARow.drewN (h : ARow w0 pa K A v l wr) (k : Nat) : ARow w0 pa K A v l (wr.drewN k) := by
  obtain ⟨B, h1, h2, h3, h4, h5⟩ := h
  exact ⟨B, h1, h2, h3.drewN k, h4.trans (below_drewN wr _ k), h5.bel (bel_drewN wr B k) h2⟩
theorem AtA.row {wn : World} {e : Ending} (h : AtA w0 pa K A wr) (hr : RowDone wr l e wn) : ∃ v, e = .returned v ∧ ARow w0 pa K A v l wn := by
  obtain ⟨v, rfl, r1, r2, r3⟩ := hr
  exact ⟨v, rfl, addB (low w0.heap.size) wr wn, fun g hg => .inl hg, fun g hg => .inr ⟨r2 g hg, r1.lt g hg⟩, h.1.growBelow r3 (fun g hg => hg), h.2.trans (r3.mono h.2.size), r1⟩
theorem a_check (h : AtA w0 pa K A wr) (ok : ArOk A) (hK : K ≤ 1048576) : Calls Try.prog 19 #[.pointer (some ⟨pa, 0, none⟩)] wr fun e w' => ∃ v, e = .returned v ∧ ARow w0 pa K A v (natI (checkL A)) w' :=
  (check_any wr h.1 ok hK).mono fun _ _ hr => h.row hr
theorem a_live (h : AtA w0 pa K A wr) (ok : ArOk A) (hK : K ≤ 1048576) : Calls Try.prog 16 #[.pointer (some ⟨pa, 0, none⟩)] wr fun e w' => ∃ v, e = .returned v ∧ ARow w0 pa K A v (natI (liveL A)) w' :=
  (live_any wr h.1 ok hK).mono fun _ _ hr => h.row hr
theorem a_alloc (h : ARow w0 pa K A v l wr) (ok : ArOk A) (h1 : 1 ≤ n) (h2 : n ≤ 65536) (hK : K ≤ 4294967296) : Calls Try.prog 13 #[.pointer (some ⟨pa, 0, none⟩), .int .i64 (n : Nat)] wr fun e w' => ∃ r A', e = .returned (alV r) ∧ AllocR n A r A' ∧ ArOk A' ∧ ARow w0 pa (K + 2 * (33 + szI n / 64)) A' v l w' := by
  obtain ⟨B, q1, q2, q3, q4, q5⟩ := h
  refine (alloc_in n h1 h2 wr q3 ok hK).mono ?_
  rintro e w2 ⟨r, A', rfl, hr, b1, b2, b3⟩
  exact ⟨r, A', rfl, hr, b2, B, q1, q2, b1, q4.trans (b3.below q1), q5.bel b3 q2⟩
theorem a_write (h : AtA w0 pa K A wr) (ok : ArOk A) (x : Nat) (u : Int) (hu : (Lit.int .u64 u).wf = true) (hx : x < 64 * A.N) : Calls Try.prog 18 #[.pointer (some ⟨pa, 0, none⟩), .int .i64 (x : Nat), .int .u64 u] wr fun e w' => e = .returned (.int .i64 0) ∧ AtA w0 pa K (pokeA A x u) w' :=
  (write_in x u hu wr h.1 ok hx).mono fun _ _ ⟨h1, h2, h3⟩ => ⟨h1, h.bel h2 h3⟩
theorem a_free (h : AtA w0 pa K A wr) (ok : ArOk A) (x : Nat) (b : BlkT) (hb : A.B x = some b) (hst : b.st = 1) (hk : keptA A x b) : Calls Try.prog 15 #[.pointer (some ⟨pa, 0, none⟩), .int .i64 (x : Nat)] wr fun e w' => e = .returned (.int .i64 0) ∧ AtA w0 pa K (freeA A x b) w' :=
  (free_in x b wr h.1 ok hb hst hk).mono fun _ _ ⟨h1, h2, h3⟩ => ⟨h1, h.bel h2 h3⟩
end
end Go.Proofs.Ytfiddodlpppdhaa
