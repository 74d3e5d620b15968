/- append of a string's bytes onto a row of the call's own. -/
import Derived.Test.YteipnfnbepnpjaaAccB
import Derived.Test.YteipnfnbepnpjaaModClo
import Derived.Test.YteipnfnbepnpjaaModLawOk
import Derived.Deep.AppendSrc
import Derived.Lib.AppendStr
namespace Go.Proofs.Yteipnfnbepnpjaa
open Go.RowKit
set_option linter.unusedVariables false
theorem cells_bsOf (s : ByteArray) : Go.byteCells s = byteCells (bsOf s) := by
  unfold Go.byteCells byteCells bsOf
  rw [List.map_map]
  rfl
theorem strCells_bsOf (s : ByteArray) : Go.Lib.strCells s = byteCells (bsOf s) := by
  unfold Go.Lib.strCells byteCells bsOf
  rw [List.map_map]
  rfl
theorem bsOf_lt (s : ByteArray) : ∀ y ∈ bsOf s, y < 256 := by
  intro y hy
  obtain ⟨b, _, rfl⟩ := List.mem_map.1 hy
  exact b.toNat_lt
section
variable {P : Program} {w : World}
theorem run_append_row_str (t u ty e : TypeId) (i : TypeInfo) (ht : P.underlying t = some (.slice e)) (hu : P.underlying u = some .string) (hi : P.info? e = some i) (hz : i.zero = some (.int .u8 0))
    (hsize : i.size = 1) (hby : i.bytes = 1) (v : Value) (n : Nat) (xs : List Value) (h : RowS w 1 v n xs) (s : ByteArray) (h63 : n + s.size ≤ maxLen) (hbytes : n + s.size ≤ 140737488355328) :
    ∃ v' w', (Builtin.append_ #[t, u] ty #[v, .string s]).run P w = .ok v' w' ∧ RowS w' 1 v' (n + s.size) (xs ++ byteCells (bsOf s)) ∧ w.grownBy w' v.ownBlock ∧ (v'.ownBlock = v.ownBlock ∨ ∃ g, v'.ownBlock = some g ∧ w.heap.size ≤ g) := by
  rcases h.2 with ⟨rfl, rfl⟩ | ⟨g, off, cap, cur, e', rfl, hh, h2, h3, h4, h5⟩
  · obtain ⟨v', w', hr, ho, hg, _⟩ := Go.Lib.run_append_own_string (P := P) w w.heap.size t u ty e i ht hu hi hz hsize hby (.slice none 0 0) 0 [] (World.ownsRow_nil _ _ _ _) s h63 hbytes (Nat.le_refl _)
    have hx : xs = [] := List.length_eq_zero_iff.1 (by rw [h.1])
    subst hx
    rw [strCells_bsOf] at ho
    refine ⟨v', w', hr, RowS.of_owns ho, hg, ?_⟩
    rcases ho.2 with ⟨rfl, _⟩ | ⟨g, cap, cur, rfl, hb, _⟩
    · exact .inl rfl
    · exact .inr ⟨g, rfl, hb⟩
  · have hl := length_bsOf s
    have hbl : (byteCells (bsOf s)).length = s.size := by unfold byteCells; rw [List.length_map, hl]
    have hS : Go.Src P i.size u (.string s) s.size (byteCells (bsOf s)) w := by rw [hsize, ← cells_bsOf]; exact Go.Src.ofString w hu s
    have hx := h.1
    rw [Nat.mul_one] at hx h4
    by_cases hroom : n + s.size ≤ cap
    · have hr := run_append_room_src (P := P) w t u ty e i ht hi g off n cap (.string s) s.size _ hS hroom
        (fun j hj => by rw [hsize, cell_of_block hh]; rw [hbl] at hj; rw [Array.getElem?_eq_getElem (by omega)]; rfl) (fun j _ => free_of_block hh)
      rw [hsize, Nat.mul_one] at hr
      obtain ⟨cs', e1, e2, e3, e4⟩ := setCells_block (byteCells (bsOf s)) (off + n) w cur hh (by rw [hbl]; omega)
      refine ⟨_, _, hr, ⟨by rw [List.length_append, hx, hbl, Nat.mul_one], .inr ⟨g, off, cap, cs', e', rfl, e1, hroom, h3, by rw [e2]; omega, fun j x hj => ?_⟩⟩, setCells_grown g _ _ w, .inl rfl⟩
      rw [List.getElem?_append] at hj
      split at hj
      · rw [e3 _ (by omega)]; exact h5 j x hj
      · have := e4 _ x hj
        rw [show off + j = off + n + (j - xs.length) by omega]
        exact this
    · have hold := run_firstCells_some (P := P) w.drew i.size n ⟨g, off, none⟩ n cap xs (by rw [hsize, Nat.mul_one]; exact hx) (fun j x hj => by
          have h0 := h5 j x hj
          show w.cell? _ = _
          have e : (⟨g, off, none⟩ : Addr).add j = ⟨g, off + j, none⟩ := by unfold Addr.add; split <;> simp_all
          rw [e, cell_of_block hh]; exact h0)
      have hold2 : (Builtin.firstCells i.size n (.slice (some ⟨g, off, none⟩) n cap)).run P w.drew = .ok xs.toArray w.drew := hold
      have hr := run_append_grow_src (P := P) w t u ty e i (.int .u8 0) ht hi hz (some ⟨g, off, none⟩) n cap xs hold2 (.string s) s.size _ hS (by omega) (by unfold maxLen at h63; omega) (growslice_fits (by omega) (by rw [hby]; omega))
      have hge := grownCap_ge w (n + s.size) cap e
      have hcm : grownCap w (n + s.size) cap e ≤ maxLen := grownCap_le_maxLen w (n + s.size) cap e h63
      refine ⟨_, _, hr, ⟨by rw [List.length_append, hx, hbl, Nat.mul_one], .inr ⟨w.heap.size, 0, _, _, _, rfl, heap_alloc_new w.drew _, hge, hcm, ?_, fun j x hj => ?_⟩⟩, ⟨rfl, rfl, rfl, by simp, fun k hk _ => heap_alloc_old w.drew _ hk⟩, .inr ⟨w.heap.size, rfl, Nat.le_refl _⟩⟩
      · have hz1 : (Value.int IntKind.u8 0).cells.size = 1 := rfl
        simp only [Array.size_append, List.size_toArray, List.length_append, size_zeroCells, hz1, hx, hbl]
        omega
      · rw [Nat.zero_add, Array.getElem?_append_left (by have := (List.getElem?_eq_some_iff.1 hj).1; simpa using this)]
        simpa using hj
end
section
variable {P : Program} {w : World} {ops : Array Oper} {rest : List Oper} {o : Oper} {a : Act} {Q : Exit → Act → World → Prop}
/-- append of a string in a walk -/
theorem wpList_row_str (hw : Region.wanted o (yielded ops a.tmps) = true) (s x : Operand) (t u : TypeId)
    (ho : o.op = .call { callee := .builtin .append, args := #[s, x], argTypes := #[t, u] })
    (e : TypeId) (i : TypeInfo) (ht : P.underlying t = some (.slice e)) (hu : P.underlying u = some .string) (hi : P.info? e = some i) (hz : i.zero = some (.int .u8 0))
    (hsize : i.size = 1) (hby : i.bytes = 1)
    (v : Value) (n : Nat) (xs : List Value) (hs : a.eval s = v) (h : RowS w 1 v n xs)
    (sv : ByteArray) (hx : a.eval x = .string sv)
    (h63 : n + sv.size ≤ maxLen) (hbytes : n + sv.size ≤ 140737488355328)
    (hK : ∀ v' w', RowS w' 1 v' (n + sv.size) (xs ++ byteCells (bsOf sv)) → w.grownBy w' v.ownBlock → (v'.ownBlock = v.ownBlock ∨ ∃ g, v'.ownBlock = some g ∧ w.heap.size ≤ g) → wpList P ops Q rest (a.put o.dst v') w') :
    wpList P ops Q (o :: rest) a w := by
  refine wpList_step fun K hK' => ?_
  rw [if_pos hw]
  obtain ⟨v', w', hrun, h2, h3, h4⟩ := run_append_row_str (P := P) t u o.type e i ht hu hi hz hsize hby v n xs h sv h63 hbytes
  unfold Oper.wp
  simp [execOp, ho, resolve, invoke, builtin, hs, hx, hrun, Result.andThen]
  exact hK' _ _ (hK v' w' h2 h3 h4)
/-- the same at a step of a region that draws its order -/
theorem step_row_str {K : Act → World → Prop} {E : Prop} (hgd : o.guard = none) (s x : Operand) (t u : TypeId)
    (ho : o.op = .call { callee := .builtin .append, args := #[s, x], argTypes := #[t, u] })
    (e : TypeId) (i : TypeInfo) (ht : P.underlying t = some (.slice e)) (hu : P.underlying u = some .string) (hi : P.info? e = some i) (hz : i.zero = some (.int .u8 0))
    (hsize : i.size = 1) (hby : i.bytes = 1)
    (v : Value) (n : Nat) (xs : List Value) (hs : a.eval s = v) (h : RowS w 1 v n xs)
    (sv : ByteArray) (hx : a.eval x = .string sv)
    (h63 : n + sv.size ≤ maxLen) (hbytes : n + sv.size ≤ 140737488355328)
    (hK : ∀ v' w', RowS w' 1 v' (n + sv.size) (xs ++ byteCells (bsOf sv)) → w.grownBy w' v.ownBlock → (v'.ownBlock = v.ownBlock ∨ ∃ g, v'.ownBlock = some g ∧ w.heap.size ≤ g) → K (a.put o.dst v') w') :
    if Region.wanted o (yielded ops a.tmps) = true then Oper.wp P o a w K Q else E := by
  have hw : Region.wanted o (yielded ops a.tmps) = true := by simp [Region.wanted, hgd]
  rw [if_pos hw]
  obtain ⟨v', w', hrun, h2, h3, h4⟩ := run_append_row_str (P := P) t u o.type e i ht hu hi hz hsize hby v n xs h sv h63 hbytes
  unfold Oper.wp execOp
  simp only [ho, resolve, invoke, builtin, Sem.run_bind, Sem.run_pure, Result.andThen_ok, List.map_toArray, List.map_cons, List.map_nil, hs, hx, hrun]
  exact hK _ _ h2 h3 h4
end
end Go.Proofs.Yteipnfnbepnpjaa
