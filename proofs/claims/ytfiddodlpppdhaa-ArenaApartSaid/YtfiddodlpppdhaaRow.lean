/- A slice of the call's own, wherever it begins in its block: read, shortened, appended to. -/
import Derived.Test.YtfiddodlpppdhaaMem
import Derived.ArgAppend
import Derived.Laws.IdiomCopy
namespace Go.Proofs.Ytfiddodlpppdhaa
open Go.RowKit
set_option linter.unusedVariables false

/-- the value v is a slice of n elements (size cells each) that hold xs; it is nil, or lies in a block that may be written -/
def RowS (w : World) (size : Nat) (v : Value) (n : Nat) (xs : List Value) : Prop :=
  xs.length = n * size ∧ ((v = .slice none 0 0 ∧ n = 0) ∨
    ∃ g off cap cur e, v = .slice (some ⟨g, off, none⟩) n cap ∧ w.heap[g]? = some (.cells cur e (0, 0)) ∧ n ≤ cap ∧ cap ≤ maxLen ∧ off + cap * size ≤ cur.size ∧ ∀ j u, xs[j]? = some u → cur[off + j]? = some u)

section
variable {w w' : World} {size n : Nat} {v : Value} {xs : List Value}
theorem RowS.nil (w : World) (size : Nat) : RowS w size (.slice none 0 0) 0 [] := ⟨by simp, .inl ⟨rfl, rfl⟩⟩
theorem RowS.of_owns {base : Nat} {e : TypeId} (h : w.ownsRow base e size v n xs) : RowS w size v n xs := by
  obtain ⟨h1, h2⟩ := h
  refine ⟨h1, ?_⟩
  rcases h2 with h2 | ⟨g, cap, cur, rfl, _, hg, hn, hm, hs, ht⟩
  · exact .inl h2
  · refine .inr ⟨g, 0, cap, cur, e, rfl, hg, hn, hm, by omega, fun j u hu => ?_⟩
    rw [← ht, List.getElem?_take] at hu
    split at hu
    · rw [Nat.zero_add]; simpa using hu
    · cases hu
theorem RowS.lt (h : RowS w size v n xs) : ∀ g, v.ownBlock = some g → g < w.heap.size := by
  intro g hg
  rcases h.2 with ⟨rfl, _⟩ | ⟨g', off, cap, cur, e, rfl, hh, _⟩
  · cases hg
  · cases hg
    exact (Array.getElem?_eq_some_iff.1 hh).1
theorem RowS.keeps {l : List Nat} (h : RowS w size v n xs) (k : Keeps l w w') (hn : ∀ g, v.ownBlock = some g → g ∉ l) : RowS w' size v n xs := by
  refine ⟨h.1, ?_⟩
  rcases h.2 with h2 | ⟨g, off, cap, cur, e, rfl, hh, r⟩
  · exact .inl h2
  · exact .inr ⟨g, off, cap, cur, e, rfl, k.at hh (hn g rfl), r⟩
/-- what a walk reads of it -/
theorem RowS.read (h : RowS w size v n xs) : ∃ a cap, v = .slice a n cap ∧ n ≤ cap ∧ cap ≤ maxLen ∧ (a = none → n = 0 ∧ cap = 0) ∧ ∀ j u, xs[j]? = some u → ∃ b off, a = some ⟨b, off, none⟩ ∧ b < w.heap.size ∧ w.cell? ⟨b, off + j, none⟩ = some u := by
  rcases h.2 with ⟨rfl, rfl⟩ | ⟨g, off, cap, cur, e, rfl, hh, h1, h2, h3, h4⟩
  · refine ⟨none, 0, rfl, Nat.le_refl _, Nat.zero_le _, fun _ => ⟨rfl, rfl⟩, fun j u hu => ?_⟩
    have hx := h.1
    have := (List.getElem?_eq_some_iff.1 hu).1
    omega
  · exact ⟨_, cap, rfl, h1, h2, fun q => (by cases q), fun j u hu => ⟨g, off, rfl, (Array.getElem?_eq_some_iff.1 hh).1, by rw [cell_of_block hh]; exact h4 j u hu⟩⟩
end

/-- some cells of a block written -/
theorem setCells_block {b : Nat} {t : TypeId} : ∀ (vs : List Value) (o : Nat) (w : World) (cs : Array Value), w.heap[b]? = some (.cells cs t (0, 0)) → o + vs.length ≤ cs.size →
    ∃ cs' : Array Value, (w.setCells b o vs).heap[b]? = some (.cells cs' t (0, 0)) ∧ cs'.size = cs.size ∧ (∀ j, j < o ∨ o + vs.length ≤ j → cs'[j]? = cs[j]?) ∧ ∀ j u, vs[j]? = some u → cs'[o + j]? = some u
  | [], o, w, cs, h, _ => ⟨cs, h, rfl, fun _ _ => rfl, fun j u hu => by simp at hu⟩
  | v :: vs, o, w, cs, h, hl => by
    rw [List.length_cons] at hl
    have h1 := setCell_block (i := o) h v
    obtain ⟨cs', e1, e2, e3, e4⟩ := setCells_block vs (o + 1) (w.setCell ⟨b, o, none⟩ v) _ h1 (by simp; omega)
    refine ⟨cs', e1, by simpa using e2, fun j hj => ?_, fun j u hu => ?_⟩
    · rw [List.length_cons] at hj
      rw [e3 j (by omega), Array.getElem?_setIfInBounds, if_neg (by omega)]
    · cases j with
      | zero =>
        simp only [List.getElem?_cons_zero, Option.some.injEq] at hu
        subst hu
        rw [Nat.add_zero, e3 o (by omega), Array.getElem?_setIfInBounds, if_pos rfl, if_pos (by omega)]
      | succ j =>
        rw [List.getElem?_cons_succ] at hu
        have := e4 j u hu
        rw [show o + (j + 1) = o + 1 + j by omega]
        exact this
theorem setCells_other (b : Nat) : ∀ (vs : List Value) (o : Nat) (w : World) (k : Nat), k ≠ b → (w.setCells b o vs).heap[k]? = w.heap[k]?
  | [], _, _, _, _ => rfl
  | v :: vs, o, w, k, h => (setCells_other b vs (o + 1) _ k h).trans (setCell_other v h)
theorem setCells_grown (b : Nat) : ∀ (vs : List Value) (o : Nat) (w : World), w.grownBy (w.setCells b o vs) (some b)
  | [], _, w => World.grownBy.refl w _
  | v :: vs, o, w => grown_trans (grown_set w ⟨b, o, none⟩ v) (setCells_grown b vs (o + 1) _)

section
variable {P : Program} {w : World}
/-- append: where it lies then, and what it holds -/
theorem run_append_row (t ty e : TypeId) (i : TypeInfo) (z : Value) (size bytes : Nat) (ht : P.underlying t = some (.slice e)) (hi : P.info? e = some i) (hz : i.zero = some z)
    (hsize : i.size = size) (hby : i.bytes = bytes) (hzs : z.cells.size = size) (hsz : 0 < size)
    (v : Value) (n : Nat) (xs : List Value) (h : RowS w size v n xs) (sv : Value) (m : Nat) (news : List Value) (hsrc : Src w sv m size news) (h1 : ∀ u ∈ news, u.oneCell' = true)
    (h63 : n + m ≤ maxLen) (hbytes : (n + m) * bytes ≤ 140737488355328) :
    ∃ v' w', (Builtin.append_ #[t, t] ty #[v, sv]).run P w = .ok v' w' ∧ RowS w' size v' (n + m) (xs ++ news) ∧ w.grownBy w' v.ownBlock ∧ (v'.ownBlock = v.ownBlock ∨ ∃ g, v'.ownBlock = some g ∧ w.heap.size ≤ g) := by
  rcases hsrc with ⟨rfl, rfl, rfl⟩ | ⟨ad, c, rfl, hl, hnews⟩
  · rcases h.2 with ⟨rfl, rfl⟩ | ⟨g, off, cap, cur, e', rfl, hh, h2, h3, h4, h5⟩
    · exact ⟨_, w, run_append_owned_none (P := P) (w := w) w.heap.size t ty e i size ht hi _ 0 [] (World.ownsRow_nil _ _ _ _), by simpa using h, World.grownBy.refl _ _, .inl rfl⟩
    · refine ⟨.slice (some ⟨g, off, none⟩) n cap, w, ?_, by simpa using h, World.grownBy.refl _ _, .inl rfl⟩
      have hf := run_firstCells_none (P := P) w i.size 0 0 0
      simp [Builtin.append_, run_underlying ht, sizeOf, typeInfo, hi, Builtin.lenOf, h2, hf, storeCells]
  · rcases h.2 with ⟨rfl, rfl⟩ | ⟨g, off, cap, cur, e', rfl, hh, h2, h3, h4, h5⟩
    · obtain ⟨v', w', hr, ho, hg, _⟩ := run_append_own (P := P) w w.heap.size t ty e i z size bytes ht hi hz hsize hby hzs hsz (.slice none 0 0) 0 [] (World.ownsRow_nil _ _ _ _) ad m c news hl hnews h1 h63 hbytes (Nat.le_refl _)
      have hx : xs = [] := List.length_eq_zero_iff.1 (by rw [h.1]; simp)
      subst hx
      refine ⟨v', w', hr, RowS.of_owns ho, hg, ?_⟩
      rcases ho.2 with ⟨rfl, _⟩ | ⟨g, cap, cur, rfl, hb, _⟩
      · exact .inl rfl
      · exact .inr ⟨g, rfl, hb⟩
    · by_cases hroom : n + m ≤ cap
      · have hmul : (n + m) * size ≤ cap * size := Nat.mul_le_mul_right _ hroom
        rw [Nat.add_mul] at hmul
        have hb : off + n * size + news.length ≤ cur.size := by rw [hl]; omega
        have hr := run_append_room_cells (P := P) w t ty e i ht hi g off n cap ad m c news (by rw [hsize]; exact hl) hnews h1 hroom
          (fun j hj => by rw [hsize, cell_of_block hh]; rw [Array.getElem?_eq_getElem (by omega)]; rfl) (fun j _ => free_of_block hh)
        rw [hsize] at hr
        obtain ⟨cs', e1, e2, e3, e4⟩ := setCells_block news (off + n * size) w cur hh hb
        refine ⟨_, _, hr, ⟨by rw [List.length_append, h.1, hl, Nat.add_mul], .inr ⟨g, off, cap, cs', e', rfl, e1, hroom, h3, by rw [e2]; exact h4, fun j u hu => ?_⟩⟩, setCells_grown g news _ w, .inl rfl⟩
        rw [List.getElem?_append] at hu
        have hx := h.1
        split at hu
        · rw [e3 _ (by omega)]; exact h5 j u hu
        · have := e4 _ u hu
          rw [show off + j = off + n * size + (j - xs.length) by omega]
          exact this
      · obtain ⟨v', w', hr, ho, hg⟩ := run_append_arg_grows (P := P) w t ty e i z size bytes ht hi hz hsize hby hzs hsz ⟨g, off, none⟩ n cap xs h.1
          (fun j u hu => by
            have := h5 j u hu
            unfold Addr.add
            split
            · next h0 => subst h0; rw [cell_of_block hh]; simpa using this
            · rw [cell_of_block hh]; exact this) ad m c news hl hnews (by omega) h63 hbytes
        refine ⟨v', w', hr, RowS.of_owns ho, ⟨hg.os, hg.tape, hg.output, hg.size, fun k hk _ => hg.block k hk (by simp)⟩, ?_⟩
        rcases ho.2 with ⟨_, h0⟩ | ⟨g', cap', cur', rfl, hb, _⟩
        · omega
        · exact .inr ⟨g', rfl, hb⟩
end
section
variable {P : Program} {w : World} {ops : Array Oper} {rest : List Oper} {o : Oper} {a : Act} {Q : Exit → Act → World → Prop}
/-- append in a walk -/
theorem wpList_row (hw : Region.wanted o (yielded ops a.tmps) = true) (s x : Operand) (t : TypeId)
    (ho : o.op = .call { callee := .builtin .append, args := #[s, x], argTypes := #[t, t] })
    (e : TypeId) (i : TypeInfo) (z : Value) (size bytes : Nat) (ht : P.underlying t = some (.slice e)) (hi : P.info? e = some i) (hz : i.zero = some z)
    (hsize : i.size = size) (hby : i.bytes = bytes) (hzs : z.cells.size = size) (hsz : 0 < size)
    (v : Value) (n : Nat) (xs : List Value) (hs : a.eval s = v) (h : RowS w size v n xs)
    (sv : Value) (m : Nat) (news : List Value) (hx : a.eval x = sv) (hsrc : Src w sv m size news) (h1 : ∀ u ∈ news, u.oneCell' = true)
    (h63 : n + m ≤ maxLen) (hbytes : (n + m) * bytes ≤ 140737488355328)
    (hK : ∀ v' w', RowS w' size v' (n + m) (xs ++ news) → w.grownBy w' v.ownBlock → (v'.ownBlock = v.ownBlock ∨ ∃ g, v'.ownBlock = some g ∧ w.heap.size ≤ g) → wpList P ops Q rest (a.put o.dst v') w') :
    wpList P ops Q (o :: rest) a w := by
  refine wpList_step fun K hK' => ?_
  rw [if_pos hw]
  obtain ⟨v', w', hrun, h2, h3, h4⟩ := run_append_row (P := P) t o.type e i z size bytes ht hi hz hsize hby hzs hsz v n xs h sv m news hsrc h1 h63 hbytes
  unfold Oper.wp
  simp [execOp, ho, resolve, invoke, builtin, hs, hx, hrun, Result.andThen]
  exact hK' _ _ (hK v' w' h2 h3 h4)
end
end Go.Proofs.Ytfiddodlpppdhaa
