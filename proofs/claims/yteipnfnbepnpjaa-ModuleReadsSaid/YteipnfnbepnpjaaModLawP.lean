/- Plain: parts of a reader that take what they need, and no less. -/
import Derived.Test.YteipnfnbepnpjaaModModel
namespace Go.Proofs.Yteipnfnbepnpjaa
set_option linter.unusedVariables false
theorem manyA_stop' {α : Type} (f : RS → α × RS) (k : Nat) (s : RS) (acc : List α) (h : s.2 ≠ 0) : manyA f k s acc = (acc, s) := by
  cases k with
  | zero => rfl
  | succ k => exact if_neg h
/-- a part of a reader: a failure stays; where it ends well it has taken a beginning c, takes just that whatever follows, and falls short of any shorter one -/
structure PG {α : Type} (f : RS → α × RS) : Prop where
  stay : ∀ l e, e ≠ 0 → (f (l, e)).2.2 = e
  good : ∀ l v r, f (l, 0) = (v, (r, 0)) → ∃ c, l = c ++ r ∧ (∀ t, f (c ++ t, 0) = (v, (t, 0))) ∧ ∀ p q, c = p ++ q → q ≠ [] → (f (p, 0)).2.2 = 7
theorem PG.pure {α : Type} (x : α) : PG (fun s => (x, s)) :=
  ⟨fun l e he => rfl, fun l v r h => by
    cases h
    exact ⟨[], rfl, fun t => rfl, fun p q h hq => by
      have := congrArg List.length h
      simp at this
      exact absurd (List.length_eq_zero_iff.1 (by omega)) hq⟩⟩
theorem PG.bind {α β : Type} {f : RS → α × RS} {g : α → RS → β × RS} (hf : PG f) (hg : ∀ x, PG (g x)) : PG (fun s => g (f s).1 (f s).2) := by
  refine ⟨fun l e he => ?_, fun l v r h => ?_⟩
  · have h1 := hf.stay l e he
    show (g (f (l, e)).1 (f (l, e)).2).2.2 = e
    cases hx : f (l, e) with
    | mk x s2 =>
      obtain ⟨l2, e2⟩ := s2
      rw [hx] at h1
      have h1 : e2 = e := h1
      subst h1
      exact (hg x).stay l2 e2 he
  · cases hs : f (l, 0) with
    | mk x s2 =>
      obtain ⟨l2, e2⟩ := s2
      have h' : g x (l2, e2) = (v, (r, 0)) := by
        have := h
        simp only [hs] at this
        exact this
      have he : e2 = 0 := by
        refine Decidable.byContradiction fun he => ?_
        have := (hg x).stay l2 e2 he
        rw [h'] at this
        exact he this.symm
      subst he
      obtain ⟨c1, e1, t1, p1⟩ := hf.good l x l2 hs
      obtain ⟨c2, e2, t2, p2⟩ := (hg x).good l2 v r h'
      refine ⟨c1 ++ c2, by rw [e1, e2, List.append_assoc], fun t => ?_, fun p q hc hq => ?_⟩
      · show g (f (c1 ++ c2 ++ t, 0)).1 (f (c1 ++ c2 ++ t, 0)).2 = _
        rw [List.append_assoc, t1]
        exact t2 t
      · show (g (f (p, 0)).1 (f (p, 0)).2).2.2 = 7
        rcases List.append_eq_append_iff.1 hc with ⟨a, ha, hb⟩ | ⟨a, ha, hb⟩
        · -- p = c1 ++ a
          rw [ha, t1]
          exact p2 a q hb hq
        · -- c1 = p ++ a
          by_cases hn : a = []
          · subst hn
            have hpc : p = c1 := by rw [ha, List.append_nil]
            have hqc : q = c2 := by rw [hb, List.nil_append]
            rw [hpc, ← List.append_nil c1, t1]
            exact p2 [] q (by rw [hqc]; rfl) hq
          · have h7 := p1 p a ha hn
            cases hx : f (p, 0) with
            | mk x7 s7 =>
              obtain ⟨l7, e7⟩ := s7
              rw [hx] at h7
              have h7 : e7 = 7 := h7
              subst h7
              exact (hg x7).stay l7 7 (by decide)
theorem PG.take (n : Nat) : PG (takeM n) := by
  refine ⟨fun l e he => by rw [takeM_fail he], fun l v r h => ?_⟩
  by_cases hl : l.length < n
  · rw [takeM_short hl] at h; cases h
  · rw [takeM_ok (by omega)] at h
    cases h
    refine ⟨l.take n, (List.take_append_drop n l).symm, fun t => ?_, fun p q hc hq => ?_⟩
    · have hln : (l.take n).length = n := by simp; omega
      rw [takeM_ok (by rw [List.length_append, hln]; omega)]
      rw [List.take_append_of_le_length (by omega), List.take_of_length_le (by omega), List.drop_append_of_le_length (by omega), List.drop_of_length_le (by omega), List.nil_append]
    · have hln : (l.take n).length = n := by simp; omega
      have hpq := congrArg List.length hc
      rw [List.length_append, hln] at hpq
      have hq0 : 0 < q.length := List.length_pos_iff.2 hq
      rw [takeM_short (by omega)]
theorem PG.one : PG oneM := PG.bind (g := fun (x : List Nat) s => (x.headD 0, s)) (PG.take 1) (fun x => PG.pure _)
theorem PG.wrong (b : Bool) : PG (fun s => ((), wrongM b s)) := by
  refine ⟨fun l e he => by show (wrongM b (l, e)).2 = e; unfold wrongM; rw [if_neg (by rintro ⟨h, _⟩; exact he h)], fun l v r h => ?_⟩
  have h2 : wrongM b (l, 0) = (r, 0) := congrArg (·.2) h
  cases b with
  | true => unfold wrongM at h2; rw [if_pos ⟨rfl, rfl⟩] at h2; cases h2
  | false =>
    have e : ∀ s : RS, wrongM false s = s := fun s => by unfold wrongM; rw [if_neg (by simp)]
    rw [e] at h2
    cases h2
    refine ⟨[], rfl, fun t => by rw [e]; rfl, fun p q h hq => ?_⟩
    have := congrArg List.length h
    simp at this
    exact absurd (List.length_eq_zero_iff.1 (by omega)) hq
theorem PG.congr {α : Type} {f f' : RS → α × RS} (hf : PG f) (he : ∀ l, f' (l, 0) = f (l, 0)) (hs : ∀ l e, e ≠ 0 → (f' (l, e)).2.2 = e) : PG f' := by
  refine ⟨hs, fun l v r h => ?_⟩
  rw [he] at h
  obtain ⟨c, h1, h2, h3⟩ := hf.good l v r h
  exact ⟨c, h1, fun t => by rw [he]; exact h2 t, fun p q hc hq => by rw [he]; exact h3 p q hc hq⟩
theorem PG.class : PG classM := PG.bind (g := fun (x : Nat) s => ((((x : Nat) : Int), ((oneM s).1 : Int) - 1), (oneM s).2)) PG.one (fun x => PG.bind (g := fun (y : Nat) s => ((((x : Nat) : Int), (y : Int) - 1), s)) PG.one (fun y => PG.pure _))
theorem PG.func : PG funcM :=
  PG.bind (g := fun (p : Nat) s => ((((p : Nat) : Int), (((oneM s).1 : Nat) : Int), (takeM ((oneM (oneM s).2).1 + 256 * (oneM (oneM (oneM s).2).2).1) (oneM (oneM (oneM s).2).2).2).1), (takeM ((oneM (oneM s).2).1 + 256 * (oneM (oneM (oneM s).2).2).1) (oneM (oneM (oneM s).2).2).2).2)) PG.one fun p =>
  PG.bind (g := fun (q : Nat) s => ((((p : Nat) : Int), ((q : Nat) : Int), (takeM ((oneM s).1 + 256 * (oneM (oneM s).2).1) (oneM (oneM s).2).2).1), (takeM ((oneM s).1 + 256 * (oneM (oneM s).2).1) (oneM (oneM s).2).2).2)) PG.one fun q =>
  PG.bind (g := fun (x : Nat) s => ((((p : Nat) : Int), ((q : Nat) : Int), (takeM (x + 256 * (oneM s).1) (oneM s).2).1), (takeM (x + 256 * (oneM s).1) (oneM s).2).2)) PG.one fun x =>
  PG.bind (g := fun (y : Nat) s => ((((p : Nat) : Int), ((q : Nat) : Int), (takeM (x + 256 * y) s).1), (takeM (x + 256 * y) s).2)) PG.one fun y =>
  PG.bind (g := fun (t : List Nat) s => ((((p : Nat) : Int), ((q : Nat) : Int), t), s)) (PG.take _) fun t => PG.pure _
/-- what a constant's kind leads to -/
def conK (k : Nat) (s : RS) : ConT × RS := if k = 1 then ((true, 0, strOf (takeM (oneM s).1 (oneM s).2).1), (takeM (oneM s).1 (oneM s).2).2) else ((false, RowKit.wrap64 (leN (takeM 8 s).1 : Nat), ByteArray.empty), (takeM 8 s).2)
theorem PG.conK (k : Nat) : PG (conK k) := by
  by_cases h : k = 1
  · have e : Go.Proofs.Yteipnfnbepnpjaa.conK k = fun s => ((true, 0, strOf (takeM (oneM s).1 (oneM s).2).1), (takeM (oneM s).1 (oneM s).2).2) := by funext s; exact if_pos h
    rw [e]
    exact PG.bind (g := fun (n : Nat) s => ((true, 0, strOf (takeM n s).1), (takeM n s).2)) PG.one fun n => PG.bind (g := fun (t : List Nat) s => ((true, 0, strOf t), s)) (PG.take n) fun t => PG.pure _
  · have e : Go.Proofs.Yteipnfnbepnpjaa.conK k = fun s => ((false, RowKit.wrap64 (leN (takeM 8 s).1 : Nat), ByteArray.empty), (takeM 8 s).2) := by funext s; exact if_neg h
    rw [e]
    exact PG.bind (g := fun (t : List Nat) s => ((false, RowKit.wrap64 (leN t : Nat), ByteArray.empty), s)) (PG.take 8) fun t => PG.pure _
theorem PG.const : PG constM := PG.bind (g := fun (k : Nat) s => Go.Proofs.Yteipnfnbepnpjaa.conK k (wrongM (decide (1 < k)) s)) PG.one fun k => PG.bind (g := fun (_ : Unit) s => Go.Proofs.Yteipnfnbepnpjaa.conK k s) (PG.wrong _) fun _ => PG.conK k
theorem PG.manyA {α : Type} {f : RS → α × RS} (hf : PG f) : ∀ (n : Nat) (acc : List α), PG (fun s => manyA f n s acc)
  | 0, acc => PG.pure acc
  | n + 1, acc => by
    refine PG.congr (PG.bind (g := fun (x : α) s => Go.Proofs.Yteipnfnbepnpjaa.manyA f n s (acc ++ [x])) hf fun x => PG.manyA hf n _) (fun l => if_pos rfl) fun l e he => ?_
    show (Go.Proofs.Yteipnfnbepnpjaa.manyA f (n + 1) (l, e) acc).2.2 = e
    rw [manyA_stop' f (n + 1) (l, e) acc he]
theorem PG.many {α : Type} {f : RS → α × RS} (hf : PG f) : PG (manyM f) := PG.bind (g := fun (n : Nat) s => Go.Proofs.Yteipnfnbepnpjaa.manyA f n s []) PG.one fun n => PG.manyA hf n []
end Go.Proofs.Yteipnfnbepnpjaa
