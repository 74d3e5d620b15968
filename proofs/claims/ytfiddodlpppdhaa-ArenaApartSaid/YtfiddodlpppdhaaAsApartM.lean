/- What the law ArenaApart keeps in memory: an arena, a made row of numbers, three rows that grow; and the arena's calls beside them. -/
import Derived.Test.YtfiddodlpppdhaaAsApart
namespace Go.Proofs.Ytfiddodlpppdhaa
open Go.RowKit Go.Maps
set_option linter.unusedVariables false
/-- whose a word is, as the law writes it down -/
def OwnAt (w : World) (b n : Nat) (z : Nat → Int) : Prop := ∃ cs ty, w.heap[b]? = some (.cells cs ty (0, 0)) ∧ cs.size = n ∧ ∀ i, i < n → cs[i]? = some (.int .i64 (z i))
section
variable {w w' : World} {b n : Nat} {z : Nat → Int}
theorem OwnAt.keeps {l : List Nat} (h : OwnAt w b n z) (k : Keeps l w w') (hb : b ∉ l) : OwnAt w' b n z := by
  obtain ⟨cs, ty, h1, h2⟩ := h
  exact ⟨cs, ty, k.at h1 hb, h2⟩
theorem OwnAt.bel {B : Nat → Prop} (h : OwnAt w b n z) (hb : Bel B w w') (hB : B b) : OwnAt w' b n z := by
  obtain ⟨cs, ty, h1, h2⟩ := h
  exact ⟨cs, ty, (hb.block b hB).trans h1, h2⟩
theorem OwnAt.lt (h : OwnAt w b n z) : b < w.heap.size := by obtain ⟨cs, ty, h1, _⟩ := h; exact (Array.getElem?_eq_some_iff.1 h1).1
theorem OwnAt.cell (h : OwnAt w b n z) {i : Nat} (hi : i < n) : w.cell? ⟨b, i, none⟩ = some (.int .i64 (z i)) ∧ w.frozen? ⟨b, i, none⟩ = false := by
  obtain ⟨cs, ty, h1, h2, h3⟩ := h
  exact ⟨(cell_of_block h1).trans (h3 i hi), free_of_block h1⟩
theorem OwnAt.set (h : OwnAt w b n z) (j : Nat) (u : Int) : OwnAt (w.setCell ⟨b, j, none⟩ (.int .i64 u)) b n (fun i => if i = j then u else z i) := by
  obtain ⟨cs, ty, h1, h2, h3⟩ := h
  refine ⟨_, ty, setCell_block h1 _, by simpa using h2, fun i hi => ?_⟩
  rw [Array.getElem?_setIfInBounds]
  try dsimp only
  by_cases hij : j = i
  · subst hij; rw [if_pos rfl, if_pos (by omega), if_pos rfl]
  · rw [if_neg hij, if_neg (fun e => hij e.symm)]; exact h3 i hi
theorem OwnAt.made (w : World) (n : Nat) (ty : TypeId) : OwnAt (w.alloc (.cells (madeCells #[Value.int .i64 0] n) ty)) w.heap.size n (fun _ => 0) := by
  refine ⟨_, ty, heap_alloc_at w _, by simp [size_madeCells], fun i hi => ?_⟩
  rw [← Array.getElem?_toList, toList_madeCells_one, List.getElem?_replicate, if_pos hi]
end
/-- a number of a row turned -/
theorem row_set {w : World} {g off n cap k : Nat} {l : List Int} (h : RowS w 1 (.slice (some ⟨g, off, none⟩) n cap) n (intC l)) (hk : k < l.length) (u : Int) : RowS (w.setCell ⟨g, off + k, none⟩ (.int .i64 u)) 1 (.slice (some ⟨g, off, none⟩) n cap) n (intC (l.set k u)) ∧ w.frozen? ⟨g, off + k, none⟩ = false := by
  obtain ⟨h1, h2⟩ := h
  have hlen : (intC l).length = l.length := by simp [intC]
  rcases h2 with ⟨h2, _⟩ | ⟨g', off', cap', cur, e, hv, hh, hn, hm, hs, hc⟩
  · cases h2
  · cases hv
    refine ⟨⟨by simp [intC] at h1 ⊢; exact h1, .inr ⟨g, off, cap, _, e, rfl, setCell_block hh _, hn, hm, by simpa using hs, fun j v hj => ?_⟩⟩, free_of_block hh⟩
    unfold intC at hj
    rw [List.getElem?_map] at hj
    rw [Array.getElem?_setIfInBounds]
    by_cases e1 : k = j
    · subst e1
      rw [if_pos rfl]
      rw [List.getElem?_set_self hk] at hj
      have := h1
      rw [hlen] at this
      rw [if_pos (by omega)]
      exact hj
    · rw [if_neg (by omega)]
      rw [List.getElem?_set_ne e1] at hj
      refine hc j v ?_
      unfold intC
      rw [List.getElem?_map]
      exact hj
/-- three of a kind -/
def tri {α : Type} (a b c : α) : Nat → α := fun i => if i = 0 then a else if i = 1 then b else c
theorem tri0 {α : Type} (a b c x : α) : (fun i => if i = 0 then x else tri a b c i) = tri x b c := by
  funext i; unfold tri; by_cases h : i = 0 <;> simp [h]
theorem tri1 {α : Type} (a b c x : α) : (fun i => if i = 1 then x else tri a b c i) = tri a x c := by
  funext i; unfold tri; by_cases h : i = 0
  · subst h; rfl
  · by_cases h1 : i = 1 <;> simp [h, h1]
theorem tri2 {α : Type} (a b c x : α) (i : Nat) (hi : i < 3) : (if i = 2 then x else tri a b c i) = tri a b x i := by
  unfold tri
  rcases (by omega : i = 0 ∨ i = 1 ∨ i = 2) with rfl | rfl | rfl <;> rfl
/-- what the law keeps in memory; B: the blocks that are not the arena's -/
structure ApB (B : Nat → Prop) (w0 : World) (pa K M go : Nat) (A : Ar) (O : Nat → Int) (V : Nat → Value) (X : Nat → List Int) (wr : World) : Prop where
  low : ∀ g, g < w0.heap.size → B g
  ar : ArS B wr pa K A
  bel : Below w0.heap.size w0 wr
  own : OwnAt wr go M O
  goB : B go ∧ w0.heap.size ≤ go
  row : ∀ c, c < 3 → RowS wr 1 (V c) (X c).length (intC (X c))
  new : ∀ c, c < 3 → ∀ g, (V c).ownBlock = some g → B g ∧ w0.heap.size ≤ g ∧ g ≠ go
  apart : ∀ c d, c < 3 → d < 3 → c ≠ d → ∀ g, (V c).ownBlock = some g → (V d).ownBlock ≠ some g
section
variable {B B' : Nat → Prop} {w0 wr w' w2 : World} {pa K K' M go : Nat} {A A' : Ar} {O : Nat → Int} {V : Nat → Value} {X : Nat → List Int}
theorem ApB.call (h : ApB B w0 pa K M go A O V X wr) (ha : ArS B w' pa K' A') (hb : Bel B wr w') : ApB B w0 pa K' M go A' O V X w' :=
  ⟨h.low, ha, h.bel.trans (hb.below h.low), h.own.bel hb h.goB.1, h.goB, fun c hc => (h.row c hc).bel hb fun g hg => (h.new c hc g hg).1, h.new, h.apart⟩
theorem ApB.keep (h : ApB B w0 pa K M go A O V X wr) (hb : Below wr.heap.size wr w') : ApB B w0 pa K M go A O V X w' :=
  h.call (h.ar.keep hb) (Below.bel hb h.ar.base)
theorem ApB.drewN (h : ApB B w0 pa K M go A O V X wr) (k : Nat) : ApB B w0 pa K M go A O V X (wr.drewN k) := h.keep (below_drewN wr _ k)
/-- foreign blocks turn -/
theorem ApB.turn (h : ApB B w0 pa K M go A O V X wr) {L : List Nat} (k : Keeps L wr w') (hL : ∀ g ∈ L, B g) : ArS B w' pa K A := h.ar.grow k (fun g hg => .inr (hL g hg)) fun g hg => .inl hg
theorem ApB.setO (h : ApB B w0 pa K M go A O V X wr) (j : Nat) (u : Int) : ApB B w0 pa K M go A (fun i => if i = j then u else O i) V X (wr.setCell ⟨go, j, none⟩ (.int .i64 u)) := by
  have k := keeps_set wr go j (.int .i64 u)
  refine ⟨h.low, h.turn k fun g hg => ?_, h.bel.trans (k.below h.bel.size fun g hg => ?_), h.own.set j u, h.goB, fun c hc => (h.row c hc).keeps k fun g hg hm => ?_, h.new, h.apart⟩
  · rw [List.mem_singleton.1 hg]; exact h.goB.1
  · rw [List.mem_singleton.1 hg]; exact h.goB.2
  · exact (h.new c hc g hg).2.2 (List.mem_singleton.1 hm)
theorem ApB.setX (h : ApB B w0 pa K M go A O V X wr) {c : Nat} (hc : c < 3) {g off n cap k : Nat} (hv : V c = .slice (some ⟨g, off, none⟩) n cap) (hn : n = (X c).length) (hk : k < (X c).length) (u : Int) :
    ApB B w0 pa K M go A O V (fun d => if d = c then (X c).set k u else X d) (wr.setCell ⟨g, off + k, none⟩ (.int .i64 u)) ∧ wr.frozen? ⟨g, off + k, none⟩ = false := by
  have hr := h.row c hc
  rw [hv, ← hn] at hr
  obtain ⟨r1, r2⟩ := row_set hr hk u
  have hg : (V c).ownBlock = some g := by rw [hv]; rfl
  obtain ⟨n1, n2, n3⟩ := h.new c hc g hg
  have k0 := keeps_set wr g (off + k) (.int .i64 u)
  refine ⟨⟨h.low, h.turn k0 fun x hx => ?_, h.bel.trans (k0.below h.bel.size fun x hx => ?_), h.own.keeps k0 fun hx => ?_, h.goB, fun d hd => ?_, h.new, h.apart⟩, r2⟩
  · rw [List.mem_singleton.1 hx]; exact n1
  · rw [List.mem_singleton.1 hx]; exact n2
  · exact n3 (List.mem_singleton.1 hx).symm
  · by_cases e : d = c
    · subst e
      try dsimp only
      rw [if_pos rfl, List.length_set, hv, ← hn]
      exact r1
    · try dsimp only
      rw [if_neg e]
      refine (h.row d hd).keeps k0 fun x hx hm => ?_
      rw [List.mem_singleton.1 hm] at hx
      exact h.apart d c hd hc e g hx hg
theorem ApB.push (h : ApB B w0 pa K M go A O V X wr) {c : Nat} (hc : c < 3) {x : Int} {ob : Obj} {v2 : Value} (hr : RowS w2 1 v2 ((X c).length + 1) (intC (X c) ++ [.int .i64 x])) (hg : (wr.alloc ob).grownBy w2 (V c).ownBlock) (hv : v2.ownBlock = (V c).ownBlock ∨ ∃ g, v2.ownBlock = some g ∧ wr.heap.size + 1 ≤ g) :
    ApB (addB B wr w2) w0 pa K M go A O (fun d => if d = c then v2 else V d) (fun d => if d = c then X c ++ [x] else X d) w2 := by
  have k0 : Keeps (V c).ownBlock.toList wr w2 := ((Keeps.refl (V c).ownBlock.toList wr).alloc ob).trans (Keeps.of_row hg fun g e => by rw [e]; simp)
  have hmem : ∀ g, g ∈ (V c).ownBlock.toList → (V c).ownBlock = some g := fun g hm => by simpa using hm
  have hlt : ∀ d, d < 3 → ∀ g, (V d).ownBlock = some g → g < wr.heap.size := fun d hd => (h.row d hd).lt
  have hgo := h.own.lt
  have hx : intC (X c) ++ [Value.int .i64 x] = intC (X c ++ [x]) := by simp [intC]
  rw [hx] at hr
  have hlt2 := hr.lt
  refine ⟨fun g hg => .inl (h.low g hg), h.ar.grow k0 (fun g hm => .inr (h.new c hc g (hmem g hm)).1) fun g hg => hg, h.bel.trans (k0.below h.bel.size fun g hm => (h.new c hc g (hmem g hm)).2.1), h.own.keeps k0 fun hm => (h.new c hc go (hmem go hm)).2.2 rfl, ⟨.inl h.goB.1, h.goB.2⟩, fun d hd => ?_, fun d hd g hgd => ?_, fun d e hd he hne g hgd => ?_⟩
  · by_cases e : d = c
    · subst e
      try dsimp only
      rw [if_pos rfl, if_pos rfl, List.length_append, List.length_singleton]
      exact hr
    · try dsimp only
      rw [if_neg e, if_neg e]
      exact (h.row d hd).keeps k0 fun g hg hm => h.apart d c hd hc e g hg (hmem g hm)
  · try dsimp only at hgd
    by_cases e : d = c
    · rw [if_pos e] at hgd
      rcases hv with hv | ⟨g', hv, hge⟩
      · obtain ⟨q1, q2, q3⟩ := h.new c hc g (hv ▸ hgd)
        exact ⟨.inl q1, q2, q3⟩
      · rw [hv] at hgd
        cases hgd
        have := h.bel.size
        exact ⟨.inr ⟨by omega, hlt2 g hv⟩, by omega, by omega⟩
    · rw [if_neg e] at hgd
      obtain ⟨q1, q2, q3⟩ := h.new d hd g hgd
      exact ⟨.inl q1, q2, q3⟩
  · try dsimp only at hgd ⊢
    by_cases e1 : d = c
    · rw [if_pos e1] at hgd
      have e2 : ¬ e = c := fun q => hne (e1.trans q.symm)
      rw [if_neg e2]
      intro hge
      rcases hv with hv | ⟨g', hv, hg'⟩
      · exact h.apart c e hc he (fun q => e2 q.symm) g (hv ▸ hgd) hge
      · rw [hv] at hgd
        cases hgd
        have := hlt e he g hge
        omega
    · rw [if_neg e1] at hgd
      by_cases e2 : e = c
      · rw [if_pos e2]
        intro hge
        rcases hv with hv | ⟨g', hv, hg'⟩
        · exact h.apart d c hd hc e1 g hgd (hv ▸ hge)
        · rw [hv] at hge
          cases hge
          have := hlt d hd g hgd
          omega
      · rw [if_neg e2]
        exact h.apart d e hd he hne g hgd
theorem ApB.congr (h : ApB B w0 pa K M go A O V X wr) {V' : Nat → Value} {X' : Nat → List Int} (hV : ∀ c, c < 3 → V' c = V c) (hX : ∀ c, c < 3 → X' c = X c) : ApB B w0 pa K M go A O V' X' wr :=
  ⟨h.low, h.ar, h.bel, h.own, h.goB, fun c hc => by rw [hV c hc, hX c hc]; exact h.row c hc, fun c hc => by rw [hV c hc]; exact h.new c hc, fun c d hc hd => by rw [hV c hc, hV d hd]; exact h.apart c d hc hd⟩
end
/-- what the law keeps: its blocks R, the values of its three rows -/
def ApW (w0 : World) (pa K M go : Nat) (A : Ar) (O : Nat → Int) (R : List (Nat × Nat × Nat)) (vP vS vM : Value) (wr : World) : Prop := ∃ B : Nat → Prop, ApB B w0 pa K M go A O (tri vP vS vM) (tri (colP R) (colS R) (colM R)) wr
section
variable {w0 wr w' w2 : World} {pa K K' M go p n m k : Nat} {A A' : Ar} {O : Nat → Int} {R : List (Nat × Nat × Nat)} {vP vS vM : Value}
theorem ApW.rows (h : ApW w0 pa K M go A O R vP vS vM wr) : RowS wr 1 vP R.length (intC (colP R)) ∧ RowS wr 1 vS R.length (intC (colS R)) ∧ RowS wr 1 vM R.length (intC (colM R)) := by
  obtain ⟨B, h⟩ := h
  obtain ⟨l1, l2, l3⟩ := col_len (R := R)
  have r0 := h.row 0 (by decide)
  have r1 := h.row 1 (by decide)
  have r2 := h.row 2 (by decide)
  have r0 : RowS wr 1 vP (colP R).length (intC (colP R)) := r0
  have r1 : RowS wr 1 vS (colS R).length (intC (colS R)) := r1
  have r2 : RowS wr 1 vM (colM R).length (intC (colM R)) := r2
  rw [l1] at r0
  rw [l2] at r1
  rw [l3] at r2
  exact ⟨r0, r1, r2⟩
theorem ApW.below (h : ApW w0 pa K M go A O R vP vS vM wr) : Below w0.heap.size w0 wr := by obtain ⟨B, h⟩ := h; exact h.bel
theorem ApW.own (h : ApW w0 pa K M go A O R vP vS vM wr) : OwnAt wr go M O := by obtain ⟨B, h⟩ := h; exact h.own
theorem ApW.ar (h : ApW w0 pa K M go A O R vP vS vM wr) : ∃ B, ArS B wr pa K A := by obtain ⟨B, h⟩ := h; exact ⟨B, h.ar⟩
theorem ApW.drewN (h : ApW w0 pa K M go A O R vP vS vM wr) (k : Nat) : ApW w0 pa K M go A O R vP vS vM (wr.drewN k) := by obtain ⟨B, h⟩ := h; exact ⟨B, h.drewN k⟩
theorem ApW.mono (h : ApW w0 pa K M go A O R vP vS vM wr) (hK : K ≤ K') : ApW w0 pa K' M go A O R vP vS vM wr := by
  obtain ⟨B, h⟩ := h
  obtain ⟨I, own, h1, h2, h3⟩ := h.ar
  exact ⟨B, h.low, ⟨I, own, h1.mono hK, h2, h3⟩, h.bel, h.own, h.goB, h.row, h.new, h.apart⟩
theorem ApW.setO (h : ApW w0 pa K M go A O R vP vS vM wr) (j : Nat) (u : Int) : ApW w0 pa K M go A (fun i => if i = j then u else O i) R vP vS vM (wr.setCell ⟨go, j, none⟩ (.int .i64 u)) := by
  obtain ⟨B, h⟩ := h
  exact ⟨B, h.setO j u⟩
theorem ApW.back {g off L cap : Nat} (h : ApW w0 pa K M go A O R vP (.slice (some ⟨g, off, none⟩) L cap) vM wr) (hL : L = R.length) (hk : R[k]? = some (p, n, m)) :
    ApW w0 pa K M go A O (R.set k (p, 0, m)) vP (.slice (some ⟨g, off, none⟩) L cap) vM (wr.setCell ⟨g, off + k, none⟩ (.int .i64 0)) ∧ wr.frozen? ⟨g, off + k, none⟩ = false := by
  obtain ⟨B, h⟩ := h
  obtain ⟨l1, l2, l3⟩ := col_len (R := R)
  obtain ⟨c1, c2, c3⟩ := col_set hk
  have hlt := (List.getElem?_eq_some_iff.1 hk).1
  obtain ⟨h1, h2⟩ := h.setX (c := 1) (by decide) (k := k) (show tri vP (.slice (some ⟨g, off, none⟩) L cap) vM 1 = _ from rfl) (show L = (colS R).length by rw [l2]; exact hL) (show k < (colS R).length by rw [l2]; exact hlt) 0
  rw [show tri (colP R) (colS R) (colM R) 1 = colS R from rfl, tri1] at h1
  refine ⟨⟨B, ?_⟩, h2⟩
  rw [c1, c2, c3]
  exact h1
theorem a3_read (h : ApW w0 pa K M go A O R vP vS vM wr) (ok : ArOk A) (x : Nat) (hx : x < 64 * A.N) : Calls Try.prog 17 #[.pointer (some ⟨pa, 0, none⟩), .int .i64 (x : Nat)] wr (fun e w' => e = .returned (.tuple #[.int .u64 (A.wd x), .int .i64 0]) ∧ wr = w') := by
  obtain ⟨B, h⟩ := h
  exact read_in x wr h.ar ok hx
theorem a3_write (h : ApW w0 pa K M go A O R vP vS vM wr) (ok : ArOk A) (x : Nat) (u : Int) (hu : (Lit.int .u64 u).wf = true) (hx : x < 64 * A.N) : Calls Try.prog 18 #[.pointer (some ⟨pa, 0, none⟩), .int .i64 (x : Nat), .int .u64 u] wr (fun e w' => e = .returned (.int .i64 0) ∧ ApW w0 pa K M go { A with wd := fun i => if i = x then u else A.wd i } O R vP vS vM w') := by
  obtain ⟨B, h⟩ := h
  exact (write_in x u hu wr h.ar ok hx).mono fun _ _ ⟨h1, h2, h3⟩ => ⟨h1, B, h.call h2 h3⟩
theorem a3_alloc (h : ApW w0 pa K M go A O R vP vS vM wr) (ok : ArOk A) (h1 : 1 ≤ n) (h2 : n ≤ 65536) (hK : K ≤ 4294967296) : Calls Try.prog 13 #[.pointer (some ⟨pa, 0, none⟩), .int .i64 (n : Nat)] wr (fun e w' => ∃ r A', e = .returned (alV r) ∧ AllocR n A r A' ∧ ApW w0 pa (K + 2 * (33 + szI n / 64)) M go A' O R vP vS vM w') := by
  obtain ⟨B, h⟩ := h
  refine (alloc_in n h1 h2 wr h.ar ok hK).mono ?_
  rintro e w2 ⟨r, A', rfl, hr, b1, b2, b3⟩
  exact ⟨r, A', rfl, hr, B, h.call b1 b3⟩
theorem a3_free (h : ApW w0 pa K M go A O R vP vS vM wr) (ok : ArOk A) (x : Nat) (b : BlkT) (hb : A.B x = some b) (hst : b.st = 1) (hk : keptA A x b) : Calls Try.prog 15 #[.pointer (some ⟨pa, 0, none⟩), .int .i64 (x : Nat)] wr (fun e w' => e = .returned (.int .i64 0) ∧ ApW w0 pa K M go (freeA A x b) O R vP vS vM w') := by
  obtain ⟨B, h⟩ := h
  exact (free_in x b wr h.ar ok hb hst hk).mono fun _ _ ⟨h1, h2, h3⟩ => ⟨h1, B, h.call h2 h3⟩
theorem a3_no (h : ApW w0 pa K M go A O R vP vS vM wr) (x : Nat) (hx : x < 262144) (hl : liveB A x = none) : Calls Try.prog 15 #[.pointer (some ⟨pa, 0, none⟩), .int .i64 (x : Nat)] wr (fun e w' => e = .returned (.int .i64 3) ∧ ∃ k, w' = wr.drewN k) := by
  obtain ⟨B, h⟩ := h
  exact free_no (x : Int) (WalkArith.wf_i64 (by omega)) wr h.ar fun m b e1 e2 => liveB_none.1 (by rw [show m = x by omega]; exact hl) b e2
/-- the three rows, one by one longer -/
def ApT (w0 : World) (pa K M go : Nat) (A : Ar) (O : Nat → Int) (vP vS vM : Value) (P S Mk : List Int) (wr : World) : Prop := ∃ B : Nat → Prop, ApB B w0 pa K M go A O (tri vP vS vM) (tri P S Mk) wr
variable {P S Mk : List Int}
theorem ApT.drewN (h : ApT w0 pa K M go A O vP vS vM P S Mk wr) (k : Nat) : ApT w0 pa K M go A O vP vS vM P S Mk (wr.drewN k) := by obtain ⟨B, h⟩ := h; exact ⟨B, h.drewN k⟩
theorem ApT.rows (h : ApT w0 pa K M go A O vP vS vM P S Mk wr) : RowS wr 1 vP P.length (intC P) ∧ RowS wr 1 vS S.length (intC S) ∧ RowS wr 1 vM Mk.length (intC Mk) := by
  obtain ⟨B, h⟩ := h
  exact ⟨h.row 0 (by decide), h.row 1 (by decide), h.row 2 (by decide)⟩
theorem RowS.src {v : Value} {l : Nat} {xs : List Value} (h : RowS wr 1 v l xs) (ob : Obj) : RowS (wr.alloc ob) 1 v l xs := h.keeps ((Keeps.refl [] wr).alloc ob) fun _ _ => List.not_mem_nil
theorem ApT.push0 (h : ApT w0 pa K M go A O vP vS vM P S Mk wr) {x : Int} {ob : Obj} {v2 : Value} (hr : RowS w2 1 v2 (P.length + 1) (intC P ++ [.int .i64 x])) (hg : (wr.alloc ob).grownBy w2 vP.ownBlock) (hv : v2.ownBlock = vP.ownBlock ∨ ∃ g, v2.ownBlock = some g ∧ wr.heap.size + 1 ≤ g) : ApT w0 pa K M go A O v2 vS vM (P ++ [x]) S Mk w2 := by
  obtain ⟨B, h⟩ := h
  have := h.push (c := 0) (by decide) (x := x) (ob := ob) (v2 := v2) hr hg hv
  rw [tri0, show tri P S Mk 0 = P from rfl, tri0] at this
  exact ⟨_, this⟩
theorem ApT.push1 (h : ApT w0 pa K M go A O vP vS vM P S Mk wr) {x : Int} {ob : Obj} {v2 : Value} (hr : RowS w2 1 v2 (S.length + 1) (intC S ++ [.int .i64 x])) (hg : (wr.alloc ob).grownBy w2 vS.ownBlock) (hv : v2.ownBlock = vS.ownBlock ∨ ∃ g, v2.ownBlock = some g ∧ wr.heap.size + 1 ≤ g) : ApT w0 pa K M go A O vP v2 vM P (S ++ [x]) Mk w2 := by
  obtain ⟨B, h⟩ := h
  have := h.push (c := 1) (by decide) (x := x) (ob := ob) (v2 := v2) hr hg hv
  rw [tri1, show tri P S Mk 1 = S from rfl, tri1] at this
  exact ⟨_, this⟩
theorem ApT.push2 (h : ApT w0 pa K M go A O vP vS vM P S Mk wr) {x : Int} {ob : Obj} {v2 : Value} (hr : RowS w2 1 v2 (Mk.length + 1) (intC Mk ++ [.int .i64 x])) (hg : (wr.alloc ob).grownBy w2 vM.ownBlock) (hv : v2.ownBlock = vM.ownBlock ∨ ∃ g, v2.ownBlock = some g ∧ wr.heap.size + 1 ≤ g) : ApT w0 pa K M go A O vP vS v2 P S (Mk ++ [x]) w2 := by
  obtain ⟨B, h⟩ := h
  have := h.push (c := 2) (by decide) (x := x) (ob := ob) (v2 := v2) hr hg hv
  exact ⟨_, this.congr (fun c hc => (tri2 _ _ _ _ c hc).symm) fun c hc => by
    rw [show tri P S Mk 2 = Mk from rfl]
    exact (tri2 _ _ _ _ c hc).symm⟩
theorem ApT.done (h : ApT w0 pa K M go A O vP vS vM (colP R ++ [(p : Int)]) (colS R ++ [(n : Int)]) (colM R ++ [(m : Int)]) wr) : ApW w0 pa K M go A O (R ++ [(p, n, m)]) vP vS vM wr := by
  obtain ⟨c1, c2, c3⟩ := col_add (R := R) (p := p) (n := n) (m := m)
  unfold ApW
  rw [c1, c2, c3]
  exact h
end
/-- it begins -/
theorem ApW.start {w0 wb : World} {pa N bud : Nat} (h : ArS (low w0.heap.size) wb pa 0 (newA N bud)) (hb : Below w0.heap.size w0 wb) (ty : TypeId) (M : Nat) : ApW w0 pa 0 M wb.heap.size (newA N bud) (fun _ => 0) [] (.slice none 0 0) (.slice none 0 0) (.slice none 0 0) (wb.alloc (.cells (madeCells #[Value.int .i64 0] M) ty)) := by
  have k : Below wb.heap.size wb (wb.alloc (.cells (madeCells #[Value.int .i64 0] M) ty)) := (Below.refl _ _).alloc (Nat.le_refl _) _
  have hV : ∀ c, tri (Value.slice none 0 0) (.slice none 0 0) (.slice none 0 0) c = .slice none 0 0 := fun c => by
    unfold tri
    split
    · rfl
    · split <;> rfl
  have hX : ∀ c, tri (colP []) (colS []) (colM []) c = [] := fun c => by
    unfold tri
    split
    · rfl
    · split <;> rfl
  refine ⟨addB (low w0.heap.size) wb (wb.alloc (.cells (madeCells #[Value.int .i64 0] M) ty)), fun g hg => .inl hg, h.growBelow k (fun g hg => hg), hb.trans (k.mono hb.size), OwnAt.made wb M ty, ⟨.inr ⟨Nat.le_refl _, by rw [size_alloc]; omega⟩, hb.size⟩, fun c _ => ?_, fun c _ g hg => ?_, fun c d _ _ _ g hg => ?_⟩
  · rw [hV, hX]; exact RowS.nil _ _
  · rw [hV] at hg; cases hg
  · rw [hV] at hg; cases hg
end Go.Proofs.Ytfiddodlpppdhaa
