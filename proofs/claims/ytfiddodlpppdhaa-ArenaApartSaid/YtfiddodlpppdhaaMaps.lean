/- A map from integers to any values, as a function: look up, store, delete. -/
import Derived.Test.YtfiddodlpppdhaaMem
import Derived.Maps.Own
import Derived.Maps.OwnOps
import Derived.Maps.OwnSet
import Derived.Maps.Views
namespace Go.Proofs.Ytfiddodlpppdhaa
open Go.RowKit Go.Maps
set_option linter.unusedVariables false

/-- how an element is read: as itself -/
def selfElem (v : Value) : Option (DataW Value × List MemPlace) := some (.held v, [])
/-- what a map's datum says at a key -/
def asData : Option Value → DataW Value
  | some v => .held v
  | none => .nil

/-- block b is a map of at most n entries; f says what stands at each key -/
def MapAt (P : Program) (w : World) (k : TypeId) (b n : Nat) (f : Int → Option Value) : Prop :=
  ∃ D : DataW Value, w.ownsMap P k selfElem b n D ∧ ∀ x : Int, (Lit.int .i64 x).wf = true → D.atKey (.int .i64 x) .nil = asData (f x) ∧ has D (.int .i64 x) = (f x).isSome

section
variable {P : Program} {w w' : World} {k t e : TypeId} {b n : Nat} {f : Int → Option Value}
theorem MapAt.lt (h : MapAt P w k b n f) : b < w.heap.size := by obtain ⟨D, h, _⟩ := h; exact h.lt
theorem MapAt.same (h : MapAt P w k b n f) (hb : w'.heap[b]? = w.heap[b]?) : MapAt P w' k b n f := by
  obtain ⟨D, ⟨es, clock, h1, h2⟩, h3⟩ := h
  exact ⟨D, ⟨es, clock, hb.trans h1, h2⟩, h3⟩
theorem MapAt.keeps {l : List Nat} (h : MapAt P w k b n f) (hk : Keeps l w w') (hn : b ∉ l) : MapAt P w' k b n f := h.same (hk.block b h.lt hn)
theorem MapAt.drewN (h : MapAt P w k b n f) (m : Nat) : MapAt P (w.drewN m) k b n f := h.same rfl
theorem MapAt.mono (h : MapAt P w k b n f) {m : Nat} (hm : n ≤ m) : MapAt P w k b m f := by
  obtain ⟨D, h1, h2⟩ := h
  exact ⟨D, h1.mono hm, h2⟩
theorem MapAt.congr {g : Int → Option Value} (h : MapAt P w k b n f) (hg : ∀ x, (Lit.int .i64 x).wf = true → f x = g x) : MapAt P w k b n g := by
  obtain ⟨D, h1, h2⟩ := h
  exact ⟨D, h1, fun x hx => by rw [← hg x hx]; exact h2 x hx⟩
theorem MapAt.made (P : Program) (w : World) (k : TypeId) : MapAt P (w.alloc (.map #[] 0)) k w.heap.size 0 (fun _ => none) :=
  ⟨.map [], World.ownsMap_made w P k selfElem, fun x _ => ⟨rfl, rfl⟩⟩

theorem atKey_held {D : DataW Value} {kl : Lit} {o : Option Value} {z : Value} (h1 : D.atKey kl .nil = asData o) (h2 : has D kl = o.isSome) : D.atKey kl (.held z) = .held (o.getD z) := by
  cases o with
  | none => exact atKey_of_not_has h2 _
  | some v =>
    cases D with
    | map es =>
      simp only [DataW.atKey, asData] at h1 ⊢
      revert h1
      cases h : es.find? fun x => x.1.sameKey kl with
      | none => intro h1; simp at h1
      | some p => intro h1; simpa using h1
    | _ => simp [DataW.atKey, asData] at h1

variable (K : Keyed P k) (hk : P.underlying k = some (.int .i64)) (ht : P.underlying t = some (.map k e)) {z : Value} {x : Int}
include K hk ht
theorem MapAt.look (h : MapAt P w k b n f) (hz : (zeroValue e).run P w = .ok z w) (hx : (Lit.int .i64 x).wf = true) :
    (Instr.lookup t (.map (some b)) (.int .i64 x) false).run P w = .ok ((f x).getD z) w := by
  obtain ⟨D, h1, h2⟩ := h
  obtain ⟨v, ps, hr, hv⟩ := h1.lookup K ht hz (zd := .held z) (zp := []) rfl (keyOf_int_mk hk hx)
  rw [atKey_held (h2 x hx).1 (h2 x hx).2] at hv
  simp only [selfElem, Option.some.injEq, Prod.mk.injEq, DataW.held.injEq] at hv
  rw [hr, hv.1]
theorem MapAt.look_ok (h : MapAt P w k b n f) (hz : (zeroValue e).run P w = .ok z w) (hx : (Lit.int .i64 x).wf = true) :
    (Instr.lookup t (.map (some b)) (.int .i64 x) true).run P w = .ok (.tuple #[(f x).getD z, .bool (f x).isSome]) w := by
  obtain ⟨D, h1, h2⟩ := h
  obtain ⟨v, ps, hr, hv⟩ := h1.look_ok K ht hz (zd := .held z) (zp := []) rfl (keyOf_int_mk hk hx)
  rw [atKey_held (h2 x hx).1 (h2 x hx).2] at hv
  simp only [selfElem, Option.some.injEq, Prod.mk.injEq, DataW.held.injEq] at hv
  rw [hr, hv.1, (h2 x hx).2]
theorem MapAt.store (h : MapAt P w k b n f) (hn : n < maxLen) (hx : (Lit.int .i64 x).wf = true) (v : Value) :
    ∃ w', (Instr.mapUpdate t (.map (some b)) (.int .i64 x) v).run P w = .ok () w' ∧ MapAt P w' k b (n + 1) (fun y => if y = x then some v else f y) ∧ w.grownBy w' (some b) := by
  obtain ⟨D, h1, h2⟩ := h
  obtain ⟨w', hr, h3, h4⟩ := h1.store K ht hn (val := v) (d := .held v) (ps := []) (keyOf_int_mk hk hx) rfl
  refine ⟨w', hr, ⟨_, h3, fun y hy => ?_⟩, h4.grown⟩
  by_cases hyx : y = x
  · subst hyx
    dsimp only
    rw [if_pos rfl]
    exact ⟨atKey_put_same h1.isMap (K.key (keyOf_int_mk hk hx)) _ _, has_put_same h1.isMap (K.key (keyOf_int_mk hk hx)) _⟩
  · dsimp only
    rw [if_neg hyx]
    have hne : Lit.int .i64 y ≠ Lit.int .i64 x := fun q => hyx (by injection q)
    exact ⟨(atKey_put_other hne _ _).trans (h2 y hy).1, (has_put_other hne _).trans (h2 y hy).2⟩
theorem MapAt.drop (h : MapAt P w k b n f) (hx : (Lit.int .i64 x).wf = true) (ty : TypeId) :
    ∃ w', (Builtin.delete_ #[t, k] ty #[.map (some b), .int .i64 x]).run P w = .ok (.tuple #[]) w' ∧ MapAt P w' k b n (fun y => if y = x then none else f y) ∧ w.grownBy w' (some b) := by
  obtain ⟨D, h1, h2⟩ := h
  obtain ⟨w', hr, h3, h4⟩ := h1.drop K ht (keyOf_int_mk hk hx) ty
  refine ⟨w', hr, ⟨_, h3, fun y hy => ?_⟩, h4.grown⟩
  by_cases hyx : y = x
  · subst hyx
    dsimp only
    rw [if_pos rfl]
    exact ⟨atKey_del_same _, has_del_same⟩
  · dsimp only
    rw [if_neg hyx]
    have hne : Lit.int .i64 y ≠ Lit.int .i64 x := fun q => hyx (by injection q)
    exact ⟨(atKey_del_other hne _).trans (h2 y hy).1, (has_del_other hne).trans (h2 y hy).2⟩
end
section
variable {P : Program} {w : World} {ops : Array Oper} {rest : List Oper} {o : Oper} {a : Act} {Q : Exit → Act → World → Prop} {k t e : TypeId} {b n : Nat} {f : Int → Option Value}
/-- 'm[x] = v' in a walk -/
theorem wpList_store (hw : Region.wanted o (yielded ops a.tmps) = true) (mo xo vo : Operand) (t : TypeId) (ho : o.op = Op.mapUpdate t mo xo vo) (k e : TypeId) (K : Keyed P k) (hk : P.underlying k = some (.int .i64)) (ht : P.underlying t = some (.map k e))
    (b n : Nat) (f : Int → Option Value) (hm : a.eval mo = .map (some b)) (h : MapAt P w k b n f) (hn : n < maxLen) (x : Int) (v : Value) (hx : a.eval xo = .int .i64 x) (hv : a.eval vo = v) (hwf : (Lit.int .i64 x).wf = true)
    (hK : ∀ w', MapAt P w' k b (n + 1) (fun y => if y = x then some v else f y) → w.grownBy w' (some b) → wpList P ops Q rest (a.put o.dst undef) w') : wpList P ops Q (o :: rest) a w := by
  refine wpList_step fun K' hK' => ?_
  rw [if_pos hw]
  obtain ⟨w', hr, h1, h2⟩ := h.store K hk ht hn hwf v
  unfold Oper.wp
  simp [execOp, ho, hm, hx, hv, hr, Result.andThen]
  exact hK' _ _ (hK w' h1 h2)
/-- 'delete(m, x)' in a walk -/
theorem wpList_drop (hw : Region.wanted o (yielded ops a.tmps) = true) (mo xo : Operand) (t k : TypeId) (ho : o.op = Op.call { callee := Callee.builtin Builtin.delete, args := #[mo, xo], argTypes := #[t, k] }) (e : TypeId) (K : Keyed P k) (hk : P.underlying k = some (.int .i64)) (ht : P.underlying t = some (.map k e))
    (b n : Nat) (f : Int → Option Value) (hm : a.eval mo = .map (some b)) (h : MapAt P w k b n f) (x : Int) (hx : a.eval xo = .int .i64 x) (hwf : (Lit.int .i64 x).wf = true)
    (hK : ∀ w', MapAt P w' k b n (fun y => if y = x then none else f y) → w.grownBy w' (some b) → wpList P ops Q rest (a.put o.dst (.tuple #[])) w') : wpList P ops Q (o :: rest) a w := by
  refine wpList_step fun K' hK' => ?_
  rw [if_pos hw]
  obtain ⟨w', hr, h1, h2⟩ := h.drop K hk ht hwf o.type
  unfold Oper.wp
  simp [execOp, ho, resolve, invoke, builtin, hm, hx, hr, Result.andThen]
  exact hK' _ _ (hK w' h1 h2)
end
end Go.Proofs.Ytfiddodlpppdhaa
