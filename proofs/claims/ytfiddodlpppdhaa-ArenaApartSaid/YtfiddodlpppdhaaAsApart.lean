/- Plain: what the law ArenaApart holds of its blocks; bits of numbers. -/
import Derived.Test.YtfiddodlpppdhaaAsGrow
import Derived.Laws.BitsAllLaws
import Derived.Laws.BitsLemmas
namespace Go.Proofs.Ytfiddodlpppdhaa
open Go.RowKit Go.Maps
set_option linter.unusedVariables false
theorem ofInt64 (a : Nat) (ha : a < 9223372036854775808) : (BitVec.ofInt 64 (a : Int)).toNat = a := by
  rw [BitVec.ofInt_natCast, BitVec.toNat_ofNat]; exact Nat.mod_eq_of_lt (by omega)
theorem and_low (x : Int) (m : Nat) (hm : m < 9223372036854775808) : ∃ v : Nat, bits .and .i64 x (m : Int) = v ∧ v ≤ m := by
  refine ⟨(BitVec.ofInt 64 x &&& BitVec.ofInt 64 (m : Int)).toNat, ?_, ?_⟩
  · show IntKind.i64.wrap ((BitVec.ofInt 64 x &&& BitVec.ofInt 64 (m : Int)).toNat : Int) = _
    have h : (BitVec.ofInt 64 x &&& BitVec.ofInt 64 (m : Int)).toNat ≤ m := by
      rw [BitVec.toNat_and, ofInt64 m hm]; exact Nat.and_le_right
    rw [IntKind.wrap_i64]; omega
  · rw [BitVec.toNat_and, ofInt64 m hm]; exact Nat.and_le_right
/-- words of a run have got a number -/
def fillZ (z : Nat → Int) (r j : Nat) (u : Int) : Nat → Int := fun i => if r ≤ i ∧ i < r + j then u else z i
theorem fillZ_zero (z : Nat → Int) (r : Nat) (u : Int) : fillZ z r 0 u = z := by
  funext i
  unfold fillZ
  rw [if_neg (by omega)]
theorem fillZ_succ (z : Nat → Int) (r j : Nat) (u : Int) : (fun i => if i = r + j then u else fillZ z r j u i) = fillZ z r (j + 1) u := by
  funext i
  unfold fillZ
  by_cases h : i = r + j
  · rw [if_pos h, if_pos (by omega)]
  · rw [if_neg h]
    by_cases h1 : r ≤ i ∧ i < r + j
    · rw [if_pos h1, if_pos (by omega)]
    · rw [if_neg h1, if_neg (by omega)]
/-- so many words of a block have their marks -/
def marksA (A : Ar) (p m j : Nat) : Ar := { A with wd := fun x => if p ≤ x ∧ x < p + j then ((m * 1000 + (x - p) : Nat) : Int) else A.wd x }
section
variable {S : Nat → Prop} {A A' : Ar} {p m n j k : Nat} {O : Nat → Int} {R : List (Nat × Nat × Nat)}
theorem marksA_zero : marksA A p m 0 = A := by
  unfold marksA
  have : (fun x => if p ≤ x ∧ x < p + 0 then ((m * 1000 + (x - p) : Nat) : Int) else A.wd x) = A.wd := by
    funext x
    rw [if_neg (by omega)]
  rw [this]
theorem marksA_succ : { marksA A p m j with wd := fun x => if x = p + j then ((m * 1000 + j : Nat) : Int) else (marksA A p m j).wd x } = marksA A p m (j + 1) := by
  unfold marksA
  dsimp only
  congr 1
  funext x
  by_cases h : x = p + j
  · subst h
    rw [if_pos rfl, if_pos (by omega), Nat.add_sub_cancel_left]
  · rw [if_neg h]
    by_cases h1 : p ≤ x ∧ x < p + j
    · rw [if_pos h1, if_pos (by omega)]
    · rw [if_neg h1, if_neg (by omega)]
theorem marksA_fine (f : Fine S A) {b : BlkT} (hb : liveB A p = some b) : ∀ j, j ≤ b.asked → Fine S (marksA A p m j)
  | 0, _ => by rw [marksA_zero]; exact f
  | j + 1, hj => by
    have h := marksA_fine f hb j (by omega)
    have := (h.write (x := p) (i := j) (b := b) hb (by omega) ((m * 1000 + j : Nat) : Int)).1
    rw [marksA_succ] at this
    exact this
theorem marksA_next (hj : A.wd (p + j) = 0) : (marksA A p m j).wd (p + j) = 0 := by
  show (if p ≤ p + j ∧ p + j < p + j then ((m * 1000 + (p + j - p) : Nat) : Int) else A.wd (p + j)) = 0
  rw [if_neg (by omega)]
  exact hj
/-- what the law holds: a block begins at r.1, r.2.1 words are its owner's (0: it was given back), r.2.2 is its mark -/
structure ApI (A : Ar) (O : Nat → Int) (R : List (Nat × Nat × Nat)) : Prop where
  fine : Fine (fun _ => True) A
  recs : ∀ k p n m : Nat, R[k]? = some (p, n, m) → n ≠ 0 → ∃ b, liveB A p = some b ∧ b.asked = n ∧ ∀ j, j < n → A.wd (p + j) = ((m * 1000 + j : Nat) : Int)
  uniq : ∀ k k' p n m n' m' : Nat, R[k]? = some (p, n, m) → R[k']? = some (p, n', m') → n ≠ 0 → n' ≠ 0 → k = k'
  own : ∀ x, O x ≠ 0 → ∃ k p n m : Nat, R[k]? = some (p, n, m) ∧ n ≠ 0 ∧ p ≤ x ∧ x < p + n
  bd : ∀ k p n m : Nat, R[k]? = some (p, n, m) → p < 262144 ∧ n ≤ 64 ∧ m ≤ 80
theorem ApI.new {N bud : Nat} (h : 1 ≤ N ∧ N ≤ 4096) : ApI (newA N bud) (fun _ => 0) [] :=
  ⟨Fine.new h, fun k p n m h => by simp at h, fun k k' p n m n' m' h => by simp at h, fun x h => absurd rfl h, fun k p n m h => by simp at h⟩
theorem ApI.same (h : ApI A O R) (f : Fine (fun _ => True) A') (hl : liveB A' = liveB A) (hw : A'.wd = A.wd) : ApI A' O R :=
  ⟨f, fun k p n m hk hn => by rw [hl, hw]; exact h.recs k p n m hk hn, h.uniq, h.own, h.bd⟩
theorem set_at {a r : Nat × Nat × Nat} {k k' : Nat} (h : (R.set k a)[k']? = some r) : (k = k' ∧ r = a) ∨ (k ≠ k' ∧ R[k']? = some r) := by
  by_cases e : k = k'
  · subst e
    rw [List.getElem?_set_self' ] at h
    cases hr : R[k]? with
    | none => rw [hr] at h; cases h
    | some x => rw [hr] at h; cases h; exact .inl ⟨rfl, rfl⟩
  · rw [List.getElem?_set_ne e] at h
    exact .inr ⟨e, h⟩
theorem add_at {a r : Nat × Nat × Nat} {k : Nat} (h : (R ++ [a])[k]? = some r) : (k < R.length ∧ R[k]? = some r) ∨ (k = R.length ∧ r = a) := by
  by_cases e : k < R.length
  · rw [List.getElem?_append_left e] at h
    exact .inl ⟨e, h⟩
  · rw [List.getElem?_append_right (by omega)] at h
    have h1 : k - R.length < 1 := by
      have := (List.getElem?_eq_some_iff.1 h).1
      simpa using this
    have e2 : k = R.length := by omega
    subst e2
    rw [Nat.sub_self] at h
    exact .inr ⟨rfl, by cases h; rfl⟩
/-- one is given back -/
theorem ApI.free (h : ApI A O R) (hk : R[k]? = some (p, n, m)) (hn : n ≠ 0) {b : BlkT} (hb : liveB A p = some b) (ha : b.asked = n) : ApI (freeA A p b) (fillZ O p n 0) (R.set k (p, 0, m)) := by
  obtain ⟨hB, hst⟩ := liveB_some.1 hb
  obtain ⟨f', l', _, _, _, w'⟩ := h.fine.free_ hB hst
  refine ⟨f', fun k' p' n' m' hk' hn' => ?_, fun k1 k2 p1 n1 m1 n2 m2 h1 h2 e1 e2 => ?_, fun x hx => ?_, fun k' p' n' m' hk' => ?_⟩
  · rcases set_at hk' with ⟨_, e⟩ | ⟨hne, hk'⟩
    · cases e; exact absurd rfl hn'
    · obtain ⟨b', q1, q2, q3⟩ := h.recs k' p' n' m' hk' hn'
      have hpp : p' ≠ p := fun e => hne (h.uniq k k' p n m n' m' hk (e ▸ hk') hn hn')
      refine ⟨b', ?_, q2, fun j hj => ?_⟩
      · rw [l', updO_ne _ _ hpp]; exact q1
      · rw [w', if_neg]
        · exact q3 j hj
        · rintro ⟨z1, z2⟩
          obtain ⟨hB', _⟩ := liveB_some.1 q1
          have := (h.fine.ok.blk p' b' hB').2.2.1
          exact h.fine.ok.disj hB hB' (Ne.symm hpp) (i := p' + j - p) (j := j) (by omega) (by omega) (by omega)
  · rcases set_at h1 with ⟨_, e⟩ | ⟨_, h1⟩
    · cases e; exact absurd rfl e1
    · rcases set_at h2 with ⟨_, e⟩ | ⟨_, h2⟩
      · cases e; exact absurd rfl e2
      · exact h.uniq k1 k2 p1 n1 m1 n2 m2 h1 h2 e1 e2
  · unfold fillZ at hx
    split at hx
    · exact absurd rfl hx
    · next hout =>
      obtain ⟨k', p', n', m', hk', hn', g1, g2⟩ := h.own x hx
      have hne : k ≠ k' := by
        rintro rfl
        rw [hk] at hk'
        cases hk'
        exact hout ⟨g1, g2⟩
      exact ⟨k', p', n', m', by rw [List.getElem?_set_ne hne]; exact hk', hn', g1, g2⟩
  · rcases set_at hk' with ⟨_, e⟩ | ⟨_, hk'⟩
    · cases e
      have := h.bd k p n m hk
      exact ⟨this.1, Nat.zero_le _, this.2.2⟩
    · exact h.bd k' p' n' m' hk'
/-- one more is given out -/
theorem ApI.add (h : ApI A O R) (hr : AllocR n A (some p) A') (h1 : 1 ≤ n) (h2 : n ≤ 64) (hm : m ≤ 80) :
    liveB A' p = some ⟨szI n, n, 1⟩ ∧ A'.N = A.N ∧ Fine (fun _ => True) A' ∧ 64 ≤ p ∧ p + n ≤ 64 * A.N ∧ (∀ j, j < n → A'.wd (p + j) = 0) ∧ (∀ j, j < n → O (p + j) = 0) ∧ ApI (marksA A' p m n) (fillZ O p n ((m : Int) + 1)) (R ++ [(p, n, m)]) := by
  obtain ⟨f', eN, _, _, e4⟩ := hr.fine h.fine h1 (by omega) trivial
  obtain ⟨q1, q2, q3⟩ := e4 p rfl
  have hlp : liveB A' p = some ⟨szI n, n, 1⟩ := by rw [q2, updO_eq]
  obtain ⟨hBp, _⟩ := liveB_some.1 hlp
  obtain ⟨z0, z1, z2, z3⟩ := f'.ok.size_pos hBp
  have z1 : p + szI n ≤ 64 * A'.N := z1
  have z3 : n ≤ szI n := z3
  have hN := f'.ok.n.2
  have hold : ∀ {k' p' n' m' : Nat}, R[k']? = some (p', n', m') → n' ≠ 0 → ∃ b', p' ≠ p ∧ liveB A' p' = some b' ∧ b'.asked = n' ∧ (∀ j, j < n' → A.wd (p' + j) = ((m' * 1000 + j : Nat) : Int)) ∧ ∀ j, j < n' → ¬ (p ≤ p' + j ∧ p' + j < p + szI n) := by
    intro k' p' n' m' hk' hn'
    obtain ⟨b', g1, g2, g3⟩ := h.recs k' p' n' m' hk' hn'
    have hpp : p' ≠ p := by
      rintro rfl
      rw [q1] at g1
      cases g1
    have hl' : liveB A' p' = some b' := by rw [q2, updO_ne _ _ hpp]; exact g1
    obtain ⟨hB', _⟩ := liveB_some.1 hl'
    have := (f'.ok.blk p' b' hB').2.2.1
    refine ⟨b', hpp, hl', g2, g3, fun j hj hin => ?_⟩
    exact f'.ok.disj hBp hB' (Ne.symm hpp) (i := p' + j - p) (j := j) (by show p' + j - p < szI n; omega) (by omega) (by omega)
  refine ⟨hlp, eN, f', z2, by rw [← eN]; omega, fun j hj => ?_, fun j hj => ?_, ?_⟩
  · rw [q3, if_pos (by omega)]
  · refine Classical.byContradiction fun hne => ?_
    obtain ⟨k', p', n', m', hk', hn', g1, g2⟩ := h.own _ hne
    obtain ⟨_, _, _, _, _, hout⟩ := hold hk' hn'
    exact hout (p + j - p') (by omega) (by omega)
  · refine ⟨marksA_fine f' hlp n (Nat.le_refl _), fun k' p' n' m' hk' hn' => ?_, fun k1 k2 p1 n1 m1 n2 m2 a1 a2 e1 e2 => ?_, fun x hx => ?_, fun k' p' n' m' hk' => ?_⟩
    · rcases add_at hk' with ⟨_, hk'⟩ | ⟨_, e⟩
      · obtain ⟨b', _, g1, g2, g3, hout⟩ := hold hk' hn'
        refine ⟨b', g1, g2, fun j hj => ?_⟩
        show (if p ≤ p' + j ∧ p' + j < p + n then ((m * 1000 + (p' + j - p) : Nat) : Int) else A'.wd (p' + j)) = _
        have ho := hout j hj
        rw [if_neg (fun e => ho ⟨e.1, by omega⟩), q3, if_neg (fun e => ho ⟨e.1, by omega⟩), if_neg (fun e => ho ⟨by omega, e.2⟩)]
        exact g3 j hj
      · cases e
        refine ⟨_, hlp, rfl, fun j hj => ?_⟩
        show (if p ≤ p + j ∧ p + j < p + n then ((m * 1000 + (p + j - p) : Nat) : Int) else A'.wd (p + j)) = _
        rw [if_pos (by omega), Nat.add_sub_cancel_left]
    · rcases add_at a1 with ⟨_, a1⟩ | ⟨i1, e⟩
      · rcases add_at a2 with ⟨_, a2⟩ | ⟨i2, e'⟩
        · exact h.uniq k1 k2 p1 n1 m1 n2 m2 a1 a2 e1 e2
        · cases e'
          obtain ⟨_, hpp, _⟩ := hold a1 e1
          exact absurd rfl hpp
      · cases e
        rcases add_at a2 with ⟨_, a2⟩ | ⟨i2, e'⟩
        · obtain ⟨_, hpp, _⟩ := hold a2 e2
          exact absurd rfl hpp
        · omega
    · unfold fillZ at hx
      split at hx
      · next hin => exact ⟨R.length, p, n, m, by simp, by omega, hin.1, hin.2⟩
      · obtain ⟨k', p', n', m', hk', g⟩ := h.own x hx
        have hlt := (List.getElem?_eq_some_iff.1 hk').1
        exact ⟨k', p', n', m', by rw [List.getElem?_append_left hlt]; exact hk', g⟩
    · rcases add_at hk' with ⟨_, hk'⟩ | ⟨_, e⟩
      · exact h.bd k' p' n' m' hk'
      · cases e
        exact ⟨by omega, h2, hm⟩
/-- what stands in the law's rows -/
def colP (R : List (Nat × Nat × Nat)) : List Int := R.map fun r => (r.1 : Int)
def colS (R : List (Nat × Nat × Nat)) : List Int := R.map fun r => (r.2.1 : Int)
def colM (R : List (Nat × Nat × Nat)) : List Int := R.map fun r => (r.2.2 : Int)
theorem col_len : (colP R).length = R.length ∧ (colS R).length = R.length ∧ (colM R).length = R.length := by simp [colP, colS, colM]
theorem col_at (h : R[k]? = some (p, n, m)) : (colP R)[k]? = some (p : Int) ∧ (colS R)[k]? = some (n : Int) ∧ (colM R)[k]? = some (m : Int) := by
  unfold colP colS colM
  rw [List.getElem?_map, List.getElem?_map, List.getElem?_map, h]
  exact ⟨rfl, rfl, rfl⟩
theorem col_add : colP (R ++ [(p, n, m)]) = colP R ++ [(p : Int)] ∧ colS (R ++ [(p, n, m)]) = colS R ++ [(n : Int)] ∧ colM (R ++ [(p, n, m)]) = colM R ++ [(m : Int)] := by simp [colP, colS, colM]
theorem col_set (h : R[k]? = some (p, n, m)) : colP (R.set k (p, 0, m)) = colP R ∧ colS (R.set k (p, 0, m)) = (colS R).set k 0 ∧ colM (R.set k (p, 0, m)) = colM R := by
  have hlt := (List.getElem?_eq_some_iff.1 h)
  refine ⟨?_, ?_, ?_⟩
  · unfold colP
    rw [List.map_set]
    refine List.ext_getElem? fun i => ?_
    by_cases e : k = i
    · subst e
      rw [List.getElem?_set_self (by simpa using hlt.1), List.getElem?_map, h]
      rfl
    · rw [List.getElem?_set_ne e]
  · unfold colS
    rw [List.map_set]
    rfl
  · unfold colM
    rw [List.map_set]
    refine List.ext_getElem? fun i => ?_
    by_cases e : k = i
    · subst e
      rw [List.getElem?_set_self (by simpa using hlt.1), List.getElem?_map, h]
      rfl
    · rw [List.getElem?_set_ne e]
end
end Go.Proofs.Ytfiddodlpppdhaa
