/- audit's byHandle: a range over slices.Backward that writes a map: the first object of each handle. -/
import Derived.RangeFuncNested
import Derived.RangeFuncLeaves
import Derived.Shelf.Abstract
import Derived.OwnWalkIn
import Derived.TacticsInMore
import Derived.LoopNIn
import Derived.LoopIn
import Derived.Maps.OwnIn
import Derived.Test.YtogifanooleppaaAudObj
namespace Go.Proofs.Ytogifanooleppaa
open Go.RowKit Go.Shelf Go.Maps
set_option linter.unusedVariables false
attribute [local go_sem] Oper.semAt_some

/-- an index and an object whose handle is within an int's range -/
abbrev Item := { x : Nat × ObjV // (Lit.int .i64 x.2.h).wf = true }
def ObjV.blk (o : ObjV) : Array Value := #[.int .i64 o.h, .int .i64 o.k, .int .i64 o.c, .bool o.s, .slice o.ra o.rl o.rc]
/-- what has come when k rounds are over -/
def fromEnd (f : Nat → Item) (len k : Nat) : List Item := (List.range k).map fun j => f (len - 1 - j)
theorem fromEnd_succ (f : Nat → Item) (len k : Nat) : fromEnd f len (k + 1) = fromEnd f len k ++ [f (len - 1 - k)] := by simp [fromEnd, List.range_succ]
theorem fromEnd_length (f : Nat → Item) (len k : Nat) : (fromEnd f len k).length = k := by simp [fromEnd]
/-- the cells of a slice of objects -/
def ObjCells (W : World) (b off len : Nat) (f : Nat → Item) : Prop :=
  ∀ i, i < len → (f i).1.1 = i ∧ W.cell? ⟨b, off + i * 5, none⟩ = some (.int .i64 (f i).1.2.h) ∧ W.cell? ⟨b, off + i * 5 + 1, none⟩ = some (.int .i64 (f i).1.2.k) ∧ W.cell? ⟨b, off + i * 5 + 2, none⟩ = some (.int .i64 (f i).1.2.c) ∧ W.cell? ⟨b, off + i * 5 + 3, none⟩ = some (.bool (f i).1.2.s) ∧ W.cell? ⟨b, off + i * 5 + 4, none⟩ = some (.slice (f i).1.2.ra (f i).1.2.rl (f i).1.2.rc)
theorem ObjCells.below {n₀ : Nat} {A B : World} {b off len : Nat} {f : Nat → Item} (h : ObjCells A b off len f) (hb : b < n₀) (hB : Below n₀ A B) : ObjCells B b off len f := fun i hi => by
  obtain ⟨h0, c0, c1, c2, c3, c4⟩ := h i hi
  exact ⟨h0, (hB.cell (p := ⟨b, off + i * 5, none⟩) hb).trans c0, (hB.cell (p := ⟨b, off + i * 5 + 1, none⟩) hb).trans c1, (hB.cell (p := ⟨b, off + i * 5 + 2, none⟩) hb).trans c2, (hB.cell (p := ⟨b, off + i * 5 + 3, none⟩) hb).trans c3, (hB.cell (p := ⟨b, off + i * 5 + 4, none⟩) hb).trans c4⟩
def encI (x : Item) : Array Value := #[.int .i64 (x.1.1 : Nat), x.1.2.agg]
/-- what a round keeps: all below n₀, and the box that the iterator reads -/
structure KpB (n₀ Bs : Nat) (W W' : World) : Prop where
  below : Below n₀ W W'
  box : ∀ o, W.heap[Bs]? = some o → W'.heap[Bs]? = some o
theorem KpB.t {n₀ Bs : Nat} {A B C : World} (h : KpB n₀ Bs A B) (k : KpB n₀ Bs B C) : KpB n₀ Bs A C := ⟨h.below.trans k.below, fun o ho => k.box o (h.box o ho)⟩
theorem KpB.b {n₀ Bs : Nat} {w : World} (hn : n₀ ≤ w.heap.size) (hB : Bs < w.heap.size) (W : World) (l : Nat) (o o' : Obj) (hl : w.heap.size ≤ l) (h : W.heap[l]? = some o) (hc : o.isCells = false) (hw : o.isWalk = false) : KpB n₀ Bs W (W.putObj l o') :=
  ⟨belowK_b hn W l o o' hl h hc hw, fun o2 ho => by rw [World.putObj_heap_other (by omega)]; exact ho⟩
set_option maxRecDepth 100000 in
set_option maxHeartbeats 2000000 in
theorem back1_in (F : Fence) (n : Nat) (h7 : F.fn 76) (hro : F.round = none) (hn : 1 ≤ n) (l Bs n₀ b off len cap : Nat) (a : Option Addr) (f : Nat → Item) (hreach : len ≤ 1048576) (ha : 0 < len → a = some ⟨b, off, none⟩) (hb : 0 < len → b < n₀) (J Jx : List Item → World → Prop)
    (hY : ∀ pre x W, J pre W → pre.length < len → YieldAt F (n - 1) Try.prog l (encI x) W fun e W' =>
      (e = .returned (.bool true) ∧ J (pre ++ [x]) W' ∧ KpB n₀ Bs W W') ∨ (e = .returned (.bool false) ∧ Jx (pre ++ [x]) W'))
    (W : World) (hBs : Boxed W Bs 45 (.slice a len cap)) (hc : ObjCells W b off len f) (h0 : J [] W) :
    CallsIn F n Try.prog 76 #[.func (.yield l) #[] #[], .pointer (some ⟨Bs, 0, none⟩)] W fun e W' => (∃ v, e = .returned v) ∧
      ((∃ ys, ys = fromEnd f len len ∧ J ys W') ∨ (∃ pre, (∃ k, k ≤ len ∧ pre = fromEnd f len k) ∧ Jx pre W')) := by
  refine callsIn_of_wp Try.func76 rfl h7 ?_ hro
  simp only [Try.ntmps76, List.size_toArray, List.length_cons, List.length_nil, Nat.reduceAdd, Nat.reduceSub, Array.replicate_succ, Array.replicate_zero, List.push_toArray, List.append_toArray, List.nil_append, List.cons_append]
  have hBc := hBs.cell
  gi_wp2
  gi_loopw [3] (fun i wr => ∃ m : Nat, m ≤ len ∧ i = .int .i64 ((m : Int) - 1) ∧ J (fromEnd f len (len - m)) wr ∧ KpB n₀ Bs W wr) (fun i _ => ((intOf i) + 1).toNat)
  case atStart => exact ⟨len, Nat.le_refl _, rfl, by rw [Nat.sub_self]; exact h0, ⟨Below.refl _ _, fun _ ho => ho⟩⟩
  case round =>
    obtain ⟨m, hm, rfl, hJs, hnx⟩ := hrel
    have hBs' : wr.cell? ⟨Bs, 0, none⟩ = some (.slice a len cap) := (show Boxed wr Bs 45 (.slice a len cap) from hnx.box _ hBs).cell
    clear hBc
    cases m with
    | zero =>
      gi_wp2
      go_end0
      exact ⟨⟨_, rfl⟩, .inl ⟨_, rfl, by simpa using hJs⟩⟩
    | succ k =>
      have e1 : ((k + 1 : Nat) : Int) - 1 = (k : Int) := by omega
      obtain ⟨hk0, c0, c1, c2, c3, c4⟩ := (hc.below (hb (by omega)) hnx.below) k (by omega)
      obtain rfl := ha (by omega)
      obtain ⟨fn, tmps, assign, body, hy, hR⟩ := hY _ (f k) wr hJs (by rw [fromEnd_length]; omega)
      have hfe : fromEnd f len (len - (k + 1)) ++ [f k] = fromEnd f len (len - k) := by
        rw [show len - k = len - (k + 1) + 1 by omega, fromEnd_succ, show len - 1 - (len - (k + 1)) = k by omega]
      rw [hfe] at hR
      unfold encI ObjV.agg at hy
      rw [hk0] at hy
      generalize (f k).1.2 = o at hy c0 c1 c2 c3 c4
      rw [e1]
      clear e1 hk0 hfe hJs
      gi_wp2
      refine hR.mono ?_
      rintro e W3 (⟨rfl, hJ3, hk3⟩ | ⟨rfl, hJx3⟩)
      · gi_wp2
        go_roundw
        case rel => exact ⟨k, by omega, by go_num, hJ3, hnx.t hk3⟩
        case measure => simp [intOf]
      · gi_wp2
        refine bodyPost_ret (results_none rfl _ _ _) rfl ?_
        exact ⟨⟨_, rfl⟩, .inr ⟨_, ⟨len - k, by omega, rfl⟩, hJx3⟩⟩
theorem backward_in (F : Fence) (n : Nat) (h5 : F.fn 71) (hro : F.round = none) (a : Option Addr) (len cap : Nat) (w : World) :
    CallsIn F n Try.prog 71 #[.slice a len cap] w fun e w' => e = .returned (.func (.func 76) #[] #[.pointer (some ⟨w.heap.size, 0, none⟩)]) ∧ w' = w.alloc (.cells #[.slice a len cap] 45) := by
  refine callsIn_of_wp Try.func71 rfl h5 ?_ hro
  simp only [Try.ntmps71, List.size_toArray, List.length_cons, List.length_nil, Nat.reduceAdd, Nat.reduceSub, Array.replicate_succ, Array.replicate_zero, List.push_toArray, List.append_toArray, List.nil_append, List.cons_append]
  gi_wp2
  go_ret
  exact ⟨rfl, rfl⟩
theorem back_stops (F : Fence) (n : Nat) (h7 : F.fn 76) (hro : F.round = none) (hn : 1 ≤ n) (Bs n₀ b off len cap : Nat) (a : Option Addr) (f : Nat → Item) (hreach : len ≤ 1048576) (w : World) (hn₀ : n₀ ≤ w.heap.size) (ha : 0 < len → a = some ⟨b, off, none⟩) (hb : 0 < len → b < n₀) (hBs : Boxed w Bs 45 (.slice a len cap)) (hc : 0 < len → ObjCells w b off len f) :
    SeqStopsK F n Try.prog 76 #[.pointer (some ⟨Bs, 0, none⟩)] encI (KpB n₀ Bs) (fun ys => ys = fromEnd f len len) (fun pre => ∃ k, k ≤ len ∧ pre = fromEnd f len k) len w := fun l J Jx W hW _ _ hY h0 => by
  have hW' := hW.mono hn₀
  refine back1_in F n h7 hro hn l Bs n₀ b off len cap a f hreach ha hb J Jx hY W ((hW.block Bs hBs.lt).trans hBs) ?_ h0
  by_cases hl : 0 < len
  · exact (hc hl).below (hb hl) hW'
  · exact fun i hi => absurd hi (by omega)

/-! ### the caller -/
/-- what the map says when these have come -/
def putAll (l : List Item) : Int → Option Value := l.foldl (fun g x => fun y => if y = x.1.2.h then some x.1.2.agg else g y) (fun _ => none)
theorem putAll_snoc (l : List Item) (x : Item) : putAll (l ++ [x]) = fun y => if y = x.1.2.h then some x.1.2.agg else putAll l y := by simp [putAll]
theorem putAll_fromEnd {l : List ObjV} {f : Nat → Item} (hf : ∀ i o, l[i]? = some o → (f i).1.2 = o) : ∀ k, k ≤ l.length → ∀ y, putAll (fromEnd f l.length k) y = (firstO (l.drop (l.length - k)) y).map ObjV.agg := by
  intro k
  induction k with
  | zero => intro _ y; simp [fromEnd, putAll, firstO]
  | succ k ih =>
    intro hk y
    have hlt : l.length - 1 - k < l.length := by omega
    have e : l.drop (l.length - (k + 1)) = l[l.length - 1 - k] :: l.drop (l.length - k) := by
      rw [show l.length - (k + 1) = l.length - 1 - k by omega, List.drop_eq_getElem_cons hlt, show l.length - 1 - k + 1 = l.length - k by omega]
    rw [fromEnd_succ, putAll_snoc, e]
    have h2 := hf _ _ (List.getElem?_eq_getElem hlt)
    dsimp only
    rw [h2, ih (by omega) y, firstO]
    by_cases hy : y = l[l.length - 1 - k].h
    · rw [if_pos hy, if_pos hy.symm]; rfl
    · rw [if_neg hy, if_neg fun q => hy q.symm]
theorem MapAt.put {P : Program} {w w' : World} {k : TypeId} {b n n' : Nat} {f : Int → Option Value} {x : Int} {v : Value} {D : DataW Value} (K : Keyed P k) (hk : P.underlying k = some (.int .i64)) (h1 : w.ownsMap P k selfElem b n D) (h2 : ∀ x : Int, (Lit.int .i64 x).wf = true → D.atKey (.int .i64 x) .nil = asData (f x) ∧ has D (.int .i64 x) = (f x).isSome) (hx : (Lit.int .i64 x).wf = true)
    (h3 : w'.ownsMap P k selfElem b n' (D.put (.int .i64 x) (.held v))) : MapAt P w' k b n' (fun y => if y = x then some v else f y) := by
  refine ⟨_, h3, fun y hy => ?_⟩
  by_cases hyx : y = x
  · subst hyx
    dsimp only
    rw [if_pos rfl]
    exact ⟨atKey_put_same h1.isMap (K.key (keyOf_int_mk hk hx)) _ _, has_put_same h1.isMap (K.key (keyOf_int_mk hk hx)) _⟩
  · dsimp only
    rw [if_neg hyx]
    have hne : Lit.int .i64 y ≠ Lit.int .i64 x := fun q => hyx (by injection q)
    exact ⟨(atKey_put_other hne _ _).trans (h2 y hy).1, (has_put_other hne _).trans (h2 y hy).2⟩
/-- a block of cells is as it lay -/
theorem block_own {β : Type} (B : Nat) (o : β → Obj) (ho : ∀ s, (o s).isCells = true) : Own (fun s W => W.heap[B]? = some (o s)) := fun s X Y row hs hg hrow =>
  (hg.block B (Array.getElem?_eq_some_iff.1 hs).1 (fun e' => by obtain ⟨o', ho', hc⟩ := hrow B e'.symm; rw [hs] at ho'; cases ho'; rw [ho] at hc; cases hc)).trans hs
def zeroO : ObjV := ⟨0, 0, 0, false, none, 0, 0, []⟩
def itemOf (l : List ObjV) (h : ∀ o ∈ l, (Lit.int .i64 o.h).wf = true) (i : Nat) : Item :=
  if hi : i < l.length then ⟨(i, l[i]), h _ (List.getElem_mem hi)⟩ else ⟨(i, zeroO), (show (Lit.int .i64 0).wf = true by decide)⟩
theorem itemOf_at {l : List ObjV} {h : ∀ o ∈ l, (Lit.int .i64 o.h).wf = true} {i : Nat} {o : ObjV} (ho : l[i]? = some o) : (itemOf l h i).1 = (i, o) := by
  obtain ⟨hi, rfl⟩ := List.getElem?_eq_some_iff.1 ho
  unfold itemOf
  rw [dif_pos hi]
theorem ObjsAt.cells {w : World} {b off len cap : Nat} {l : List ObjV} (h : ObjsAt w (some ⟨b, off, none⟩) len cap l) : ObjCells w b off len (itemOf l h.wf) := fun i hi => by
  have hi' : i < l.length := by have := h.size; omega
  obtain ⟨b', off', e, _, c⟩ := h.cell i _ (List.getElem?_eq_getElem hi')
  cases e
  rw [itemOf_at (List.getElem?_eq_getElem hi')]
  exact ⟨rfl, c⟩
set_option maxRecDepth 100000 in
set_option maxHeartbeats 4000000 in
theorem byHandle_any (a : Option Addr) (len cap : Nat) (l : List ObjV) (w : World) (h : ObjsAt w a len cap l) (hlen : len ≤ 1048576) :
    Calls Try.prog 61 #[.slice a len cap] w fun e W' => ∃ m, e = .returned (.map (some m)) ∧ MapAt Try.prog W' 3 m len (fun x => (firstO l x).map ObjV.agg) ∧ w.heap.size ≤ m ∧ Below w.heap.size w W' := by
  refine (callsIn_wide (n := 6)).1 ?_
  have h1 : 1 ≤ 6 := by decide
  have hfl : ∀ i o, l[i]? = some o → (itemOf l h.wf i).1.2 = o := fun i o ho => by rw [itemOf_at ho]
  have hpa := putAll_fromEnd hfl l.length (Nat.le_refl _)
  rw [h.size, Nat.sub_self, List.drop_zero] at hpa
  obtain ⟨b, off, hab, hbl⟩ : ∃ b off, (0 < len → a = some ⟨b, off, none⟩) ∧ (0 < len → b < w.heap.size) := by
    by_cases hl : 0 < len
    · obtain ⟨b, off, e, hlt, _⟩ := h.cell 0 _ (List.getElem?_eq_getElem (by have := h.size; omega))
      exact ⟨b, off, fun _ => e, fun _ => hlt⟩
    · exact ⟨0, 0, fun q => absurd q hl, fun q => absurd q hl⟩
  have hcl : 0 < len → ObjCells w b off len (itemOf l h.wf) := fun hl => by
    obtain rfl := hab hl
    exact h.cells
  generalize itemOf l h.wf = f at hpa hcl
  have hmm := @run_makeMap Try.prog
  refine callsIn_of_wp_marks Try.func61 rfl trivial ?_ rfl
  simp only [Try.ntmps61, List.size_toArray, List.length_cons, List.length_nil, Nat.reduceAdd, Nat.reduceSub, Array.replicate_succ, Array.replicate_zero, List.push_toArray, List.append_toArray, List.nil_append, List.cons_append]
  gi_wp2_with (refine ⟨trivial, ?_⟩; gi_at_call 71; refine (backward_in Fence.wide 5 trivial rfl _ _ _ _).mono ?_; rintro e w' ⟨rfl, rfl⟩)
  have bM : MapAt Try.prog ((w.alloc (.map #[] 0)).alloc (.cells #[.map (some w.heap.size)] 90)) 3 w.heap.size 0 (fun _ => none) :=
    (MapAt.made Try.prog w 3).keeps ((Keeps.refl [] _).alloc _) List.not_mem_nil
  have bM2 : MapAt Try.prog (((w.alloc (.map #[] 0)).alloc (.cells #[.map (some w.heap.size)] 90)).alloc (.cells #[.slice a len cap] 45)) 3 w.heap.size 0 (fun _ => none) := bM.keeps ((Keeps.refl [] _).alloc _) List.not_mem_nil
  have bS := (Boxed.new (w.alloc (.map #[] 0)) 90 (.map (some w.heap.size))).alloc (.cells #[.slice a len cap] 45)
  have bN := Boxed.new ((w.alloc (.map #[] 0)).alloc (.cells #[.map (some w.heap.size)] 90)) 45 (.slice a len cap)
  simp only [World.size_alloc] at bS bN
  have hB0 : Below w.heap.size w (((w.alloc (.map #[] 0)).alloc (.cells #[.map (some w.heap.size)] 90)).alloc (.cells #[.slice a len cap] 45)) := (((Below.refl _ w).alloc (Nat.le_refl _) _).alloc (by simp) _).alloc (by simp; omega) _
  have hsz : (((w.alloc (.map #[] 0)).alloc (.cells #[.map (some w.heap.size)] 90)).alloc (.cells #[.slice a len cap] 45)).heap.size = w.heap.size + 3 := by simp
  obtain ⟨W0, hW0⟩ : ∃ W0, ((w.alloc (.map #[] 0)).alloc (.cells #[.map (some w.heap.size)] 90)).alloc (.cells #[.slice a len cap] 45) = W0 := ⟨_, rfl⟩
  rw [hW0] at bM2 bS bN hB0 hsz ⊢
  clear hW0 bM
  refine wpIn_rangeFunc_ownH rfl h1 (gf := 76) (lb := #[.pointer (some ⟨w.heap.size + 1 + 1, 0, none⟩)]) rfl trivial (enters_of Try.func76 (by kernel_rfl) rfl)
    (back_stops Fence.wide 5 trivial rfl (by omega) (w.heap.size + 1 + 1) w.heap.size b off len cap a f hlen W0 (by omega) hab hbl bN (fun hl => (hcl hl).below (hbl hl) hB0)) KpB.t (KpB.b (by omega) (by omega)) (Below.refl _ _) (fun _ => rfl)
    (fun pre W => (Boxed W (w.heap.size + 1) 90 (.map (some w.heap.size)) ∧ MapAt Try.prog W 3 w.heap.size pre.length (putAll pre)) ∧ Below w.heap.size w W)
    (fun _ _ _ => False)
    (OwnFrom.and (OwnFrom.and (Own.from (boxed_own _ _ (fun _ => Value.map (some w.heap.size))) _) (fun s A B row hs hg hr => hs.same (hg.block _ hs.lt (fun e => by have := (hr _ e.symm).1; omega)))) (ownFrom_below (Nat.le_refl _) (by omega)))
    (fun _ _ _ _ _ hs _ _ => hs)
    ⟨⟨bS, bM2⟩, hB0⟩
    (fun x a' W => ∃ Bx, w.heap.size + 1 < Bx ∧ W.heap[Bx]? = some (.cells x.1.2.blk 47 (0, 0)) ∧ a' = { tmps := #[.slice a len cap, undef, .map none, .pointer (some ⟨w.heap.size + 1, 0, none⟩), undef, .pointer (some ⟨Bx, 0, none⟩), .map (some w.heap.size), .slice a len cap, .func (.func 76) #[] #[.pointer (some ⟨w.heap.size + 1 + 1, 0, none⟩)], .int .i64 (x.1.1 : Nat), x.1.2.agg, undef, undef, undef, undef, undef], defers := [] })
    (fun x a' _ X Y row hs hg hr => by obtain ⟨Bx, h1, h2, h3⟩ := hs; exact ⟨Bx, h1, block_own Bx (fun (_ : Unit) => Obj.cells x.1.2.blk 47 (0, 0)) (fun _ => rfl) () X Y row h2 hg (fun r e => (hr r e).2), h3⟩)
    ?assign ?body ?done ?stop
  case assign =>
    rintro l pre x W K ⟨⟨bS1, bM1⟩, hB1⟩ hK
    obtain ⟨⟨i, o⟩, hwf⟩ := x
    obtain ⟨oh, ok, oc, os, ora, orl, orc, orefs⟩ := o
    simp only [encI, ObjV.agg]
    gi_wp2
    exact hK _ _ ((KeepsOthers.alloc _ _).from _) ⟨(Below.refl _ W).alloc hB1.size _, fun o ho => (Below.heap_alloc W _ _ (Array.getElem?_eq_some_iff.1 ho).1).trans ho⟩ ⟨⟨bS1.alloc _, bM1.keeps ((Keeps.refl [] _).alloc _) List.not_mem_nil⟩, hB1.alloc hB1.size _⟩ ⟨W.heap.size, bS1.lt, heap_alloc_at _ _, rfl⟩
  case body =>
    rintro l pre x a' W hl hr ⟨⟨bS1, bM1⟩, hB1⟩ ⟨Bx, hBx, bX, rfl⟩ hlt
    obtain ⟨⟨i, o⟩, hwf⟩ := x
    obtain ⟨oh, ok, oc, os, ora, orl, orc, orefs⟩ := o
    obtain ⟨D, hown, hat⟩ := bM1
    have hkey := Maps.keyOf_int_mk Try.underlying3 hwf
    have hmlt := hown.lt
    have e0 : W.cell? ⟨Bx, 0, none⟩ = some (.int .i64 oh) := cell_of_block bX
    have e1 : W.cell? ⟨Bx, 1, none⟩ = some (.int .i64 ok) := cell_of_block bX
    have e2 : W.cell? ⟨Bx, 2, none⟩ = some (.int .i64 oc) := cell_of_block bX
    have e3 : W.cell? ⟨Bx, 3, none⟩ = some (.bool os) := cell_of_block bX
    have e4 : W.cell? ⟨Bx, 4, none⟩ = some (.slice ora orl orc) := cell_of_block bX
    have cS := bS1.cell
    have hKI : ∀ w1, w1.ownsMap Try.prog 3 selfElem w.heap.size (pre.length + 1) (D.put (.int .i64 oh) (.held (.agg #[.int .i64 oh, .int .i64 ok, .int .i64 oc, .bool os, .slice ora orl orc]))) → W.grownBy w1 (some w.heap.size) →
        KeepsFrom (w.heap.size + 3) W w1 ∧ KpB w.heap.size (w.heap.size + 1 + 1) W w1 ∧ (Boxed w1 (w.heap.size + 1) 90 (.map (some w.heap.size)) ∧ MapAt Try.prog w1 3 w.heap.size (pre ++ [(⟨(i, ⟨oh, ok, oc, os, ora, orl, orc, orefs⟩), hwf⟩ : Item)]).length (putAll (pre ++ [(⟨(i, ⟨oh, ok, oc, os, ora, orl, orc, orefs⟩), hwf⟩ : Item)]))) ∧ Below w.heap.size w w1 := by
      intro w1 hown1 hgrow1
      refine ⟨KeepsFrom.of_grownBy hgrow1 (fun j e => by cases e; omega), ⟨(Below.refl _ W).grown hgrow1 hB1.size (fun k e => by cases e; exact Nat.le_refl _), fun o2 ho2 => (hgrow1.block _ (Array.getElem?_eq_some_iff.1 ho2).1 (fun e => by injection e with e; omega)).trans ho2⟩,
        ⟨bS1.kept hgrow1 (fun e => by injection e with e; omega), ?_⟩, hB1.grown hgrow1 hB1.size (fun k e => by cases e; exact Nat.le_refl _)⟩
      rw [putAll_snoc, List.length_append]
      exact MapAt.put (int_keyed Try.underlying3) Try.underlying3 hown hat hwf hown1
    have HKI := Lib.hid hKI
    clear hKI
    simp only [ObjV.agg]
    gi_wp2_with (gi_at_mapUpdate; refine wpListIn_mapUpdate_own _ rfl _ _ _ 90 rfl 3 47 (Maps.int_keyed Try.underlying3) Try.underlying90 _ w.heap.size pre.length _ rfl hown (by unfold maxLen; omega) _ _ _ rfl rfl hkey _ [] rfl ?_; intro w1 hown1 hgrow1)
    exact HKI.out w1 hown1 hgrow1
  case done =>
    rintro D ys W hD rfl ⟨⟨bS1, bM1⟩, hB1⟩ hK
    have cS := bS1.cell
    have bM2 := bM1.congr (fun x _ => hpa x)
    rw [fromEnd_length] at bM2
    gi_wp2
    refine ⟨by simp, .inl ⟨_, _, rfl, run_takeDeferred hK, ?_⟩⟩
    exact ⟨_, results_tmp rfl _ _ _, _, rfl, bM2.same (World.putObj_heap_other (by omega)), Nat.le_refl _, hB1.trans (belowK_b (w := w) (Nat.le_refl _) W D _ _ (by omega) hK rfl rfl)⟩
  case stop =>
    rintro D c pre W _ _ h _
    exact h.elim
end Go.Proofs.Ytogifanooleppaa
