/- module's Read, of any bytes: its own memory, and what the parts make together. -/
import Derived.Test.YteipnfnbepnpjaaModPre
namespace Go.Proofs.Yteipnfnbepnpjaa
open Go.RowKit Go.Maps
set_option linter.unusedVariables false

theorem flat_at {α : Type} (cv : α → List Value) (k : Nat) (hk : ∀ x, (cv x).length = k) : ∀ (l : List α) (i j : Nat) (x : α) (u : Value), l[i]? = some x → (cv x)[j]? = some u → (l.flatMap cv)[i * k + j]? = some u
  | [], i, j, x, u, h, _ => by simp at h
  | y :: l, 0, j, x, u, h, hu => by
    cases (by simpa using h : y = x)
    rw [List.flatMap_cons, Nat.zero_mul, Nat.zero_add, List.getElem?_append_left (List.getElem?_eq_some_iff.1 hu).1]
    exact hu
  | y :: l, i + 1, j, x, u, h, hu => by
    rw [List.flatMap_cons, List.getElem?_append_right (by rw [hk, Nat.add_mul]; omega), hk, show (i + 1) * k + j - k = i * k + j by rw [Nat.add_mul]; omega]
    exact flat_at cv k hk l i j x u (by simpa using h) hu
theorem rows_of_row {w : World} {α : Type} (cv : α → List Value) (k : Nat) (hk : ∀ x, (cv x).length = k) {v : Value} {l : List α} (h : RowS w k v l.length (l.flatMap cv)) :
    ∃ a cap, v = .slice a l.length cap ∧ ∀ F : Nat → Nat → Value, (∀ i x, l[i]? = some x → ∀ j, j < k → (cv x)[j]? = some (F i j)) → Rows w a l.length cap k F := by
  obtain ⟨a, cap, rfl, h1, h2, h3, h4⟩ := h.read
  refine ⟨a, cap, rfl, fun F hF => ⟨h1, by simpa [maxLen] using h2, h3, fun i j hi hj => ?_⟩⟩
  exact h4 _ _ (flat_at cv k hk l i j _ _ (List.getElem?_eq_getElem hi) (hF i _ (List.getElem?_eq_getElem hi) j hj))
theorem conV_at (c : ConT) (j : Nat) (hj : j < 3) : (conV c)[j]? = some (if j = 0 then .bool c.1 else if j = 1 then .int .i64 c.2.1 else .string c.2.2) := by
  rcases (by omega : j = 0 ∨ j = 1 ∨ j = 2) with rfl | rfl | rfl <;> rfl
theorem clsV_at (c : ClsT) (j : Nat) (hj : j < 2) : (clsV c)[j]? = some (if j = 0 then .int .i64 c.1 else .int .i64 c.2) := by
  rcases (by omega : j = 0 ∨ j = 1) with rfl | rfl <;> rfl
theorem funV_at (f : FunT × Nat) (j : Nat) (hj : j < 3) : (funV f)[j]? = some (if j = 0 then .int .i64 f.1.1 else if j = 1 then .int .i64 f.1.2.1 else .slice (some ⟨f.2, 0, none⟩) f.1.2.2.length f.1.2.2.length) := by
  rcases (by omega : j = 0 ∨ j = 1 ∨ j = 2) with rfl | rfl | rfl <;> rfl
/-- three rows are a module -/
theorem ams_made {W : World} (G : Int) (cs : List ConT) (acc : List (FunT × Nat)) (ks : List ClsT) {v1 v2 v3 : Value} (h1 : RowS W 3 v1 cs.length (cs.flatMap conV)) (h2 : RowS W 3 v2 acc.length (acc.flatMap funV)) (h3 : RowS W 2 v3 ks.length (ks.flatMap clsV))
    (hm : ∀ f ∈ acc, MadeB W f.2 f.1.2.2.length f.1.2.2 ∧ f.1.2.2.length ≤ 65535) : AMS W ⟨G, cs, acc.map (·.1), ks⟩ (.agg #[.int .i64 G, v1, v2, v3]) := by
  obtain ⟨a1, c1, rfl, r1⟩ := rows_of_row conV 3 (fun _ => rfl) h1
  obtain ⟨a2, c2, rfl, r2⟩ := rows_of_row funV 3 (fun _ => rfl) h2
  obtain ⟨a3, c3, rfl, r3⟩ := rows_of_row clsV 2 (fun _ => rfl) h3
  refine ⟨⟨a1, c1, a2, c2, a3, c3, fun i => some ⟨(acc[i]?.getD ((0, 0, []), 0)).2, 0, none⟩, fun i => (acc[i]?.getD ((0, 0, []), 0)).1.2.2.length, ?_, ⟨?_, ?_, ?_⟩, ?_⟩⟩
  · simp [modXV, AM.x]
  · exact r1 _ (fun i x hx j hj => by rw [conV_at x j hj]; simp [ModX.cF, AM.x, hx])
  · have := r2 (ModX.fF (AM.x ⟨G, cs, acc.map (·.1), ks⟩ c1 c2 c3 (fun i => some ⟨(acc[i]?.getD ((0, 0, []), 0)).2, 0, none⟩) (fun i => (acc[i]?.getD ((0, 0, []), 0)).1.2.2.length))) (fun i x hx j hj => by rw [funV_at x j hj]; simp [ModX.fF, AM.x, hx])
    simpa [AM.x] using this
  · exact r3 _ (fun i x hx j hj => by rw [clsV_at x j hj]; simp [ModX.kF, AM.x, hx])
  · intro i f hf
    have hf' : (acc.map (·.1))[i]? = some f := hf
    rw [List.getElem?_map] at hf'
    cases hx : acc[i]? with
    | none => rw [hx] at hf'; cases hf'
    | some y =>
      rw [hx] at hf'
      cases (by simpa using hf' : y.1 = f)
      obtain ⟨m, hl⟩ := hm y (List.mem_of_getElem? hx)
      simpa [hx] using m.holds (by omega)
theorem ams_none (W : World) : AMS W AM.none (.agg #[.int .i64 0, .slice none 0 0, .slice none 0 0, .slice none 0 0]) :=
  ams_made 0 [] [] [] (RowS.nil _ _) (RowS.nil _ _) (RowS.nil _ _) (fun f h => by simp at h)
/-- Read's own memory ahead of the module -/
structure R0 (w : World) (s : RS) (W : World) : Prop where
  res : W.heap[w.heap.size]? = some (.cells #[.int .i64 0, .slice none 0 0, .slice none 0 0, .slice none 0 0] 47 (0, 0))
  r : RdS (w.heap.size + 1) W (w.heap.size + 1) s
  p : W.heap[w.heap.size + 1 + 1]? = some (.cells #[.pointer (some ⟨w.heap.size + 1, 0, none⟩)] 80 (0, 0))
  bel : Below w.heap.size w W
section
variable {w W W' : World} {s s' : RS}
theorem R0.keeps (h : R0 w s W) (k : Keeps [w.heap.size + 1] W W') (hr : RdS (w.heap.size + 1) W' (w.heap.size + 1) s') : R0 w s' W' :=
  ⟨k.at h.res (by simp), hr, k.at h.p (by simp), h.bel.trans (k.below h.bel.size (by simp))⟩
theorem R0.same (h : R0 w s W) (k : Keeps [] W W') : R0 w s W' := h.keeps (k.mono (fun x hx => absurd hx List.not_mem_nil)) (h.r.keeps k List.not_mem_nil (fun x hx => absurd hx List.not_mem_nil))
theorem R0.ptr (h : R0 w s W) : W.cell? ⟨w.heap.size + 1 + 1, 0, none⟩ = some (.pointer (some ⟨w.heap.size + 1, 0, none⟩)) := cell_of_block h.p
/-- ahead of region 2 -/
theorem r0_start (a : Option Addr) (len cap : Nat) (bs : List Nat) (w : World) (h : HoldsB w a len cap bs) (hn : bs.length ≤ 1000000) (ha : ∀ g off, a = some ⟨g, off, none⟩ → g < w.heap.size) :
    R0 w (bs, 0) (((w.alloc (.cells #[.int .i64 0, .slice none 0 0, .slice none 0 0, .slice none 0 0] 47)).alloc (.cells #[.slice a len cap, .int .i64 0] 82)).alloc (.cells #[.pointer (some ⟨w.heap.size + 1, 0, none⟩)] 80)) := by
  have b3 : Below w.heap.size w (((w.alloc (.cells #[.int .i64 0, .slice none 0 0, .slice none 0 0, .slice none 0 0] 47)).alloc (.cells #[.slice a len cap, .int .i64 0] 82)).alloc (.cells #[.pointer (some ⟨w.heap.size + 1, 0, none⟩)] 80)) := (two_alloc _ _ _).alloc (by simp only [size_alloc]; omega) _
  refine ⟨?_, ⟨⟨a, len, cap, ?_, h.below b3, fun g off e => by have := ha g off e; omega⟩, by omega, hn, (by decide : (0 : Nat) < 100)⟩, ?_, b3⟩
  · rw [heap_alloc_lt _ _ (by simp only [size_alloc]; omega), heap_alloc_lt _ _ (by simp only [size_alloc]; omega)]
    exact heap_alloc_at _ _
  · unfold RdSt
    rw [heap_alloc_lt _ _ (by simp only [size_alloc]; omega), ← size_alloc w]
    exact heap_alloc_at _ _
  · have := heap_alloc_at ((w.alloc (.cells #[.int .i64 0, .slice none 0 0, .slice none 0 0, .slice none 0 0] 47)).alloc (.cells #[.slice a len cap, .int .i64 0] 82)) (.cells #[.pointer (some ⟨w.heap.size + 1, 0, none⟩)] 80)
    simp only [size_alloc] at this
    exact this
/-- Read's own memory with the module -/
structure R1 (w : World) (gm : Nat) (G : Int) (v1 v2 v3 : Value) (s : RS) (W : World) : Prop where
  rf : RF (w.heap.size + 1) (w.heap.size + 1) gm (w.heap.size + 1 + 1) G v1 v2 v3 s W
  res : W.heap[w.heap.size]? = some (.cells #[.int .i64 0, .slice none 0 0, .slice none 0 0, .slice none 0 0] 47 (0, 0))
  bel : Below w.heap.size w W
  gt : w.heap.size + 1 + 1 < gm
theorem R1.made (h : R0 w s W) (G : Int) : R1 w W.heap.size G (.slice none 0 0) (.slice none 0 0) (.slice none 0 0) s (W.alloc (.cells #[.int .i64 G, .slice none 0 0, .slice none 0 0, .slice none 0 0] 47)) := by
  have hl := (Array.getElem?_eq_some_iff.1 h.p).1
  have h2 := h.same ((Keeps.refl [] W).alloc (.cells #[.int .i64 G, .slice none 0 0, .slice none 0 0, .slice none 0 0] 47))
  exact ⟨⟨heap_alloc_at _ _, h2.p, h2.r, by omega, by omega, by omega, by omega, by omega⟩, h2.res, h2.bel, hl⟩
theorem R1.many {gm : Nat} {G : Int} {v1 v2 v3 u1 u2 u3 : Value} (h : R1 w gm G v1 v2 v3 s W) (k : Keeps [w.heap.size + 1, gm] W W') (hf : RF (w.heap.size + 1) (w.heap.size + 1) gm (w.heap.size + 1 + 1) G u1 u2 u3 s' W') : R1 w gm G u1 u2 u3 s' W' :=
  ⟨hf, k.at h.res (by have := h.gt; simp; omega), h.bel.trans (k.below h.bel.size (by have := h.gt; simp; omega)), h.gt⟩
theorem R1.ptr {gm : Nat} {G : Int} {v1 v2 v3 : Value} (h : R1 w gm G v1 v2 v3 s W) : W.cell? ⟨w.heap.size + 1 + 1, 0, none⟩ = some (.pointer (some ⟨w.heap.size + 1, 0, none⟩)) := cell_of_block h.rf.p
end
/-- a phase of Read with all that it holds -/
structure P1 (w : World) (gm : Nat) (G : Int) (t1 : List ConT × RS) (W : World) : Prop where
  at_ : ∃ v1, R1 w gm G v1 (.slice none 0 0) (.slice none 0 0) t1.2 W ∧ RowR (w.heap.size + 1) (w.heap.size + 1) gm (w.heap.size + 1 + 1) 3 W v1 t1.1.length (t1.1.flatMap conV)
structure P2 (w : World) (gm : Nat) (G : Int) (cs : List ConT) (t2 : List FunT × RS) (W : World) : Prop where
  at_ : ∃ (v1 v2 : Value) (acc : List (FunT × Nat)), R1 w gm G v1 v2 (.slice none 0 0) t2.2 W ∧ RowR (w.heap.size + 1) (w.heap.size + 1) gm (w.heap.size + 1 + 1) 3 W v1 cs.length (cs.flatMap conV) ∧ RowR (w.heap.size + 1) (w.heap.size + 1) gm (w.heap.size + 1 + 1) 3 W v2 acc.length (acc.flatMap funV) ∧ acc.map (·.1) = t2.1 ∧ ∀ f ∈ acc, MadeB W f.2 f.1.2.2.length f.1.2.2 ∧ f.1.2.2.length ≤ 65535 ∧ w.heap.size + 1 < f.2 ∧ f.2 ≠ gm
structure P3 (w : World) (gm : Nat) (m : AM) (s : RS) (v1 v2 v3 : Value) (W : World) : Prop where
  r1 : R1 w gm m.G v1 v2 v3 s W
  ams : ∀ W', Keeps [w.heap.size, w.heap.size + 1] W W' → AMS W' m (.agg #[.int .i64 m.G, v1, v2, v3])
theorem p1_many {w : World} {gm : Nat} {G : Int} {s : RS} {W : World} (h : R1 w gm G (.slice none 0 0) (.slice none 0 0) (.slice none 0 0) s W) :
    Calls Try.prog 49 #[.pointer (some ⟨w.heap.size + 1, 0, none⟩), .func (.func 50) #[] #[.pointer (some ⟨gm, 0, none⟩), .pointer (some ⟨w.heap.size + 1 + 1, 0, none⟩)]] W fun en W' => en = .returned (.tuple #[]) ∧ P1 w gm G (manyM constM s) W' := by
  refine (many1 h.rf).mono ?_
  rintro en W' ⟨v, e, f, r, o, k⟩
  exact ⟨e, ⟨v, h.many k f, r⟩⟩
theorem p2_many {w : World} {gm : Nat} {G : Int} {t1 : List ConT × RS} {W : World} (h : P1 w gm G t1 W) :
    Calls Try.prog 49 #[.pointer (some ⟨w.heap.size + 1, 0, none⟩), .func (.func 52) #[] #[.pointer (some ⟨gm, 0, none⟩), .pointer (some ⟨w.heap.size + 1 + 1, 0, none⟩)]] W fun en W' => en = .returned (.tuple #[]) ∧ P2 w gm G t1.1 (manyM funcM t1.2) W' := by
  obtain ⟨v1, r1, row⟩ := h.at_
  have hlt := r1.rf.lt
  refine (many2 r1.rf).mono ?_
  rintro en W' ⟨v, acc, e, f, r, ea, o, ha, k⟩
  refine ⟨e, ⟨v1, v, acc, r1.many k f, row.keeps k (fun g hg hm => by have := row.own g hg; simp at hm; omega), r, ea, fun f hf => ?_⟩⟩
  obtain ⟨m1, m2, m3⟩ := ha f hf
  exact ⟨m1, m2, by omega, by omega⟩
theorem p3_many {w : World} {gm : Nat} {G : Int} {cs : List ConT} {t2 : List FunT × RS} {W : World} (h : P2 w gm G cs t2 W) :
    Calls Try.prog 49 #[.pointer (some ⟨w.heap.size + 1, 0, none⟩), .func (.func 54) #[] #[.pointer (some ⟨gm, 0, none⟩), .pointer (some ⟨w.heap.size + 1 + 1, 0, none⟩)]] W fun en W' => en = .returned (.tuple #[]) ∧ ∃ v1 v2 v3, P3 w gm ⟨G, cs, t2.1, (manyM classM t2.2).1⟩ (manyM classM t2.2).2 v1 v2 v3 W' := by
  obtain ⟨v1, v2, acc, r1, row1, row2, ea, ha⟩ := h.at_
  have hlt := r1.rf.lt
  refine (many3 r1.rf).mono ?_
  rintro en W' ⟨v, e, f, r, o, k⟩
  refine ⟨e, v1, v2, v, r1.many k f, fun W2 k2 => ?_⟩
  have h1 := row1.keeps k (fun g hg hm => by have := row1.own g hg; simp at hm; omega)
  have h2 := row2.keeps k (fun g hg hm => by have := row2.own g hg; simp at hm; omega)
  have h1' := h1.keeps k2 (fun g hg hm => by have := h1.own g hg; simp at hm; omega)
  have h2' := h2.keeps k2 (fun g hg hm => by have := h2.own g hg; simp at hm; omega)
  have h3' := r.keeps k2 (fun g hg hm => by have := r.own g hg; simp at hm; omega)
  rw [← ea]
  exact ams_made G cs acc _ h1'.row h2'.row h3'.row (fun f hf => ⟨((ha f hf).1.keeps k (by have := (ha f hf).2.2; simp; omega)).keeps k2 (by have := (ha f hf).2.2; simp; omega), (ha f hf).2.1⟩)
theorem P3.same {w : World} {gm : Nat} {m : AM} {s : RS} {v1 v2 v3 : Value} {W W' : World} (h : P3 w gm m s v1 v2 v3 W) (k : Keeps [] W W') : P3 w gm m s v1 v2 v3 W' := by
  have no : ∀ {x : Nat}, x ∉ ([] : List Nat) := List.not_mem_nil
  exact ⟨⟨h.r1.rf.keeps k no no no (fun x hx => absurd hx no), k.at h.r1.res no, h.r1.bel.trans (k.below h.r1.bel.size (fun x hx => absurd hx no)), h.r1.gt⟩, fun W2 k2 => h.ams W2 ((k.mono (fun x hx => absurd hx no)).trans k2)⟩
theorem P3.read {w : World} {gm : Nat} {m : AM} {s s' : RS} {v1 v2 v3 : Value} {W W' : World} (h : P3 w gm m s v1 v2 v3 W) (k : Keeps [w.heap.size + 1] W W') (hr : RdS (w.heap.size + 1) W' (w.heap.size + 1) s') : P3 w gm m s' v1 v2 v3 W' :=
  ⟨⟨h.r1.rf.read k hr, k.at h.r1.res (by simp), h.r1.bel.trans (k.below h.r1.bel.size (by simp)), h.r1.gt⟩, fun W2 k2 => h.ams W2 ((k.mono (fun x hx => by simp at hx; simp [hx])).trans k2)⟩
end Go.Proofs.Yteipnfnbepnpjaa
