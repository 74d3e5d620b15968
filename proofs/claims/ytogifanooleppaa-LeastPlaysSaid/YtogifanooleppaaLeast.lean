/- least's Heap: New, Has, Push, Drop compute what they say. -/
import Derived.Test.YtogifanooleppaaHeapDown
namespace Go.Proofs.Ytogifanooleppaa
open Go.RowKit Go.Maps
set_option linter.unusedVariables false

theorem ls_key : Keyed Try.prog 3 := int_keyed Try.underlying3
theorem ls_zero (w : World) : (zeroValue 4).run Try.prog w = .ok (.bool false) w := by kernel_rfl
/-- a map of truth values -/
def mapB (M : Int → Option Bool) : Int → Option Value := fun x => (M x).map Value.bool
theorem mapB_getD (M : Int → Option Bool) (x : Int) : (mapB M x).getD (.bool false) = .bool ((M x).getD false) := by
  unfold mapB
  cases M x <;> rfl
theorem mapB_isSome (M : Int → Option Bool) (x : Int) : (mapB M x).isSome = (M x).isSome := by
  unfold mapB
  cases M x <;> rfl
/-- one key more -/
def updB (M : Int → Option Bool) (x : Int) (b : Option Bool) : Int → Option Bool := fun y => if y = x then b else M y
theorem mapB_upd (M : Int → Option Bool) (x : Int) (b : Bool) : (fun y => if y = x then some (Value.bool b) else mapB M y) = mapB (updB M x (some b)) := by
  funext y
  unfold mapB updB
  by_cases h : y = x
  · rw [if_pos h, if_pos h]; rfl
  · rw [if_neg h, if_neg h]
theorem mapB_del (M : Int → Option Bool) (x : Int) : (fun y => if y = x then none else mapB M y) = mapB (updB M x none) := by
  funext y
  unfold mapB updB
  by_cases h : y = x
  · rw [if_pos h, if_pos h]; rfl
  · rw [if_neg h, if_neg h]
/-- block p is a Heap: its map m (M), its row (l) in the block q -/
structure LeastAt (w : World) (p m c : Nat) (q : Option Nat) (l : List Int) (M : Int → Option Bool) : Prop where
  row : ∃ v ty, RowAt w p 0 ty #[v, .map (some m)] q l
  map : MapAt Try.prog w 3 m c (mapB M)
  heap : HeapN l l.length
  nodup : l.Nodup
  dom : ∀ x, x ∈ l ↔ M x ≠ none
  wfl : ∀ x ∈ l, (Lit.int .i64 x).wf = true
  ne : m ≠ p ∧ q ≠ some m
section
variable {w w' : World} {p m c : Nat} {q : Option Nat} {l : List Int} {M : Int → Option Bool}
theorem LeastAt.keeps {L : List Nat} (h : LeastAt w p m c q l M) (k : Keeps L w w') (hp : p ∉ L) (hm : m ∉ L) (hq : ∀ g, q = some g → g ∉ L) : LeastAt w' p m c q l M := by
  obtain ⟨⟨v, ty, h1⟩, h2, h3, h4, h5, h6, h7⟩ := h
  exact ⟨⟨v, ty, h1.keeps k hp hq⟩, h2.keeps k hm, h3, h4, h5, h6, h7⟩
theorem LeastAt.drewN (h : LeastAt w p m c q l M) (n : Nat) : LeastAt (w.drewN n) p m c q l M :=
  h.keeps ((Keeps.refl [] w).drewN n) List.not_mem_nil List.not_mem_nil fun _ _ => List.not_mem_nil
theorem LeastAt.below (h : LeastAt w p m c q l M) (hb : Below w.heap.size w w') : LeastAt w' p m c q l M :=
  h.keeps (Keeps.of_below hb (Nat.le_refl _) []) List.not_mem_nil List.not_mem_nil fun _ _ => List.not_mem_nil
theorem LeastAt.lt (h : LeastAt w p m c q l M) : p < w.heap.size ∧ m < w.heap.size ∧ ∀ g, q = some g → g < w.heap.size := by
  obtain ⟨⟨v, ty, h1⟩, h2, _⟩ := h
  exact ⟨h1.lt.1, h2.lt, h1.lt.2⟩
theorem LeastAt.cell (h : LeastAt w p m c q l M) : w.cell? ⟨p, 1, none⟩ = some (.map (some m)) := by
  obtain ⟨⟨v, ty, h1⟩, _⟩ := h
  rw [cell_of_block h1.at_]
  rfl
/-- what a new one is -/
def SomeLeast (w : World) (en : Ending) (w' : World) : Prop := ∃ p m, en = .returned (.pointer (some ⟨p, 0, none⟩)) ∧ LeastAt w' p m 0 none [] (fun _ => none) ∧ (w.heap.size ≤ p ∧ w.heap.size ≤ m) ∧ Below w.heap.size w w'
theorem lsNew_any (w : World) : Calls Try.prog 20 #[] w (SomeLeast w) := by
  have hmm := @run_makeMap Try.prog
  go_enter Try.func20, Try.ntmps20
  go_wp2
  go_ret
  have hb : Below w.heap.size w (w.alloc (.map #[] 0)) := (Below.refl _ _).alloc (Nat.le_refl _) _
  have e1 : (w.alloc (.map #[] 0)).heap.size = w.heap.size + 1 := size_alloc _ _
  refine ⟨w.heap.size + 1, w.heap.size, rfl, ⟨⟨.slice none 0 0, _, ⟨by rw [← e1]; exact heap_alloc_at _ _, ⟨_, rfl, rfl, RowS.nil _ _⟩, by simp⟩⟩, ?_, fun k h1 h2 => absurd h2 (by simp), List.nodup_nil, fun x => by simp, fun x hx => (by cases hx), by omega, by simp⟩, ⟨by omega, by omega⟩, hb.alloc (by rw [e1]; omega) _⟩
  exact (MapAt.made Try.prog w 3).keeps (Keeps.of_below ((Below.refl _ _).alloc (Nat.le_refl _) _) (Nat.le_refl _) []) List.not_mem_nil
theorem lsHas_any (x : Int) (w : World) (h : LeastAt w p m c q l M) (hx : (Lit.int .i64 x).wf = true) :
    Calls Try.prog 21 #[.pointer (some ⟨p, 0, none⟩), .int .i64 x] w fun e w' => e = .returned (.bool ((M x).getD false)) ∧ w = w' := by
  have c1 := h.cell
  have hl := h.map.look ls_key Try.underlying3 Try.underlying67 (ls_zero w) hx
  rw [mapB_getD] at hl
  clear h hx
  go_enter Try.func21, Try.ntmps21
  go_wp2
  go_ret
  exact ⟨rfl, rfl⟩
/-- what Drop does -/
def DropDone (w : World) (p m c : Nat) (q : Option Nat) (l : List Int) (M : Int → Option Bool) (x : Int) (en : Ending) (w' : World) : Prop :=
  en = .returned (.bool ((M x).getD false)) ∧ LeastAt w' p m (c + 1) q l (if M x = some true then updB M x (some false) else M) ∧ Keeps [m] w w'
theorem lsDrop_any (x : Int) (w : World) (h : LeastAt w p m c q l M) (hx : (Lit.int .i64 x).wf = true) (hc : c < 1048576) :
    Calls Try.prog 45 #[.pointer (some ⟨p, 0, none⟩), .int .i64 x] w (DropDone w p m c q l M x) := by
  have c1 := h.cell
  have hl := h.map.look ls_key Try.underlying3 Try.underlying67 (ls_zero w) hx
  rw [mapB_getD] at hl
  have H := Lib.hid h
  have HX := Lib.hid hx
  have HM : Hid (c < maxLen) := (show c < maxLen by unfold maxLen; omega)
  unfold DropDone
  clear h hx
  by_cases hM : M x = some true
  · rw [hM] at hl ⊢
    rw [if_pos rfl]
    have HMX := Lib.hid hM
    clear hM
    simp only [Option.getD_some] at hl ⊢
    go_enter Try.func45, Try.ntmps45
    go_wp2_with (at_mapUpdate; refine wpList_store (by rfl) (.tmp 16) (.tmp 17) (.const (.bool false)) 67 rfl 3 4 ls_key Try.underlying3 Try.underlying67 m c _ rfl H.out.map HM.out x (.bool false) rfl rfl HX.out ?_)
    intro w2 hm2 hg2
    have HD : Hid (LeastAt w2 p m (c + 1) q l (updB M x (some false)) ∧ Keeps [m] w w2) := (show _ ∧ _ by
      have hk : Keeps [m] w w2 := Keeps.of_grown hg2 (by simp)
      obtain ⟨⟨v, ty, h1⟩, h2, h3, h4, h5, h6, h7⟩ := H.out
      rw [mapB_upd] at hm2
      refine ⟨⟨⟨v, ty, h1.keeps hk (by simp; omega) (fun g hg => by simp; intro e; exact h7.2 (by rw [hg, e]))⟩, hm2, h3, h4, fun y => ?_, h6, h7⟩, hk⟩
      rw [h5 y]
      unfold updB
      by_cases hy : y = x
      · rw [if_pos hy, hy, HMX.out]; simp
      · rw [if_neg hy])
    clear hm2 hg2
    go_wp2
    go_ret
    exact ⟨rfl, HD.out⟩
  · rw [if_neg hM]
    have hf : (M x).getD false = false := by
      cases hb : M x with
      | none => rfl
      | some b => cases b with
        | false => rfl
        | true => exact absurd hb hM
    rw [hf] at hl ⊢
    clear hM hf
    go_enter Try.func45, Try.ntmps45
    go_wp2
    go_ret
    obtain ⟨h1, h2, h3, h4, h5, h6, h7⟩ := H.out
    exact ⟨rfl, ⟨h1, h2.mono (by omega), h3, h4, h5, h6, h7⟩, Keeps.refl _ _⟩
/-- what Push does -/
def LPush (w : World) (p m c : Nat) (q : Option Nat) (l : List Int) (M : Int → Option Bool) (x : Int) (en : Ending) (w' : World) : Prop :=
  en = .returned (.bool (!(M x).getD false)) ∧ ∃ q' l', LeastAt w' p m (c + 1) q' l' (updB M x (some true)) ∧ l'.length ≤ l.length + 1 ∧ (∀ g, q' = some g → q = some g ∨ w.heap.size ≤ g) ∧ Keeps (p :: m :: q.toList) w w'
set_option maxRecDepth 100000 in
set_option maxHeartbeats 1000000 in
theorem lsPush_any (x : Int) (w : World) (h : LeastAt w p m c q l M) (hx : (Lit.int .i64 x).wf = true) (hc : c < 1048576) (hl : l.length < 1048576) :
    Calls Try.prog 22 #[.pointer (some ⟨p, 0, none⟩), .int .i64 x] w (LPush w p m c q l M x) := by
  have c1 := h.cell
  have hlk := h.map.look_ok ls_key Try.underlying3 Try.underlying67 (ls_zero w) hx
  rw [mapB_getD, mapB_isSome] at hlk
  have H := Lib.hid h
  have HX := Lib.hid hx
  have HM : Hid (c < maxLen) := (show c < maxLen by unfold maxLen; omega)
  have hml := h.lt.2.1
  unfold LPush
  clear h hx
  cases hM : M x with
  | none =>
    have HMX := Lib.hid hM
    rw [hM] at hlk
    clear hM
    simp only [Option.getD_none, Option.isSome_none, Bool.not_false] at hlk ⊢
    go_enter Try.func22, Try.ntmps22
    go_wp2_with (at_mapUpdate; refine wpList_store (by rfl) (.tmp 20) (.tmp 21) (.const (.bool true)) 67 rfl 3 4 ls_key Try.underlying3 Try.underlying67 m c _ rfl H.out.map HM.out x (.bool true) rfl rfl HX.out ?_)
    intro w2 hm2 hg2
    have hk : Keeps [m] w w2 := Keeps.of_grown hg2 (by simp)
    have hrow : ∃ v ty, RowAt w2 p 0 ty #[v, .map (some m)] q l := by
      obtain ⟨⟨v, ty, h1⟩, h2, h3, h4, h5, h6, h7⟩ := H.out
      exact ⟨v, ty, h1.keeps hk (by simp; omega) (fun g hg => by simp; intro e; exact h7.2 (by rw [hg, e]))⟩
    obtain ⟨v, ty, hrow⟩ := hrow
    rw [mapB_upd] at hm2
    have HPH := Lib.hid (heapPush_any x w2 hrow H.out.heap hl)
    have HFIN : Hid (∀ w3, PushDone w2 p 0 ty #[v, .map (some m)] q (l ++ [x]) w3 → ∃ q' l', LeastAt w3 p m (c + 1) q' l' (updB M x (some true)) ∧ l'.length ≤ l.length + 1 ∧ (∀ g, q' = some g → q = some g ∨ w.heap.size ≤ g) ∧ Keeps (p :: m :: q.toList) w w3) := (show ∀ w3, _ → _ by
      rintro w3 ⟨l', v', q', r1, r2, r3, r4, r5⟩
      obtain ⟨_, h2, h3, h4, h5, h6, h7⟩ := H.out
      have hxl : x ∉ l := by rw [h5 x, HMX.out]; simp
      have hsz := hk.size
      have hmq : m ∉ p :: q.toList := by
        have := h7.1
        simp
        refine ⟨this, ?_⟩
        cases hq : q with
        | none => simp
        | some g => simp; intro e; exact h7.2 (by rw [hq, e])
      refine ⟨q', l', ⟨⟨v', ty, by simpa using r1⟩, hm2.keeps r5 hmq, r3, ?_, fun y => ?_, fun y hy => ?_, h7.1, ?_⟩, ?_, fun g hg => ?_, ?_⟩
      · rw [r2.nodup_iff, List.nodup_append]
        refine ⟨h4, by simp, fun a ha b hb => ?_⟩
        cases List.mem_singleton.1 hb
        intro e; exact hxl (e ▸ ha)
      · rw [r2.mem_iff, List.mem_append, List.mem_singleton, h5 y]
        unfold updB
        by_cases hy : y = x
        · rw [if_pos hy]; simp [hy]
        · rw [if_neg hy]; simp [hy]
      · rw [r2.mem_iff, List.mem_append, List.mem_singleton] at hy
        rcases hy with hy | rfl
        · exact h6 y hy
        · exact HX.out
      · intro e
        rcases r4 m e with h | h
        · exact h7.2 h
        · omega
      · rw [r2.length_eq]; simp
      · rcases r4 g hg with h | h
        · exact .inl h
        · exact .inr (by omega)
      · exact (hk.mono (by intro y hy; simp at hy; simp [hy])).trans (r5.mono (by intro y hy; simp at hy; rcases hy with hy | hy <;> simp [hy])))
    clear hm2 hg2 hk hrow
    go_wp2_with fail
    refine HPH.out.mono ?_
    rintro en w3 ⟨rfl, hd⟩
    have HD := Lib.hid (HFIN.out w3 hd)
    clear hd
    go_wp2
    go_ret
    exact ⟨rfl, HD.out⟩
  | some b =>
    have HMX := Lib.hid hM
    rw [hM] at hlk
    clear hM
    simp only [Option.getD_some, Option.isSome_some] at hlk ⊢
    cases b with
    | true =>
      go_enter Try.func22, Try.ntmps22
      go_wp2
      go_ret
      obtain ⟨h1, h2, h3, h4, h5, h6, h7⟩ := H.out
      refine ⟨rfl, q, l, ⟨h1, ?_, h3, h4, fun y => ?_, h6, h7⟩, by omega, fun g hg => .inl hg, Keeps.refl _ _⟩
      · refine (h2.mono (Nat.le_succ c)).congr fun y _ => ?_
        unfold mapB updB
        by_cases hy : y = x
        · rw [if_pos hy, hy, HMX.out]
        · rw [if_neg hy]
      · rw [h5 y]
        unfold updB
        by_cases hy : y = x
        · rw [if_pos hy, hy, HMX.out]
        · rw [if_neg hy]
    | false =>
      go_enter Try.func22, Try.ntmps22
      go_wp2_with (at_mapUpdate; refine wpList_store (by rfl) (.tmp 20) (.tmp 21) (.const (.bool true)) 67 rfl 3 4 ls_key Try.underlying3 Try.underlying67 m c _ rfl H.out.map HM.out x (.bool true) rfl rfl HX.out ?_)
      intro w2 hm2 hg2
      have HD : Hid (LeastAt w2 p m (c + 1) q l (updB M x (some true)) ∧ Keeps (p :: m :: q.toList) w w2) := (show _ ∧ _ by
        have hk : Keeps [m] w w2 := Keeps.of_grown hg2 (by simp)
        obtain ⟨⟨v, ty, h1⟩, h2, h3, h4, h5, h6, h7⟩ := H.out
        rw [mapB_upd] at hm2
        refine ⟨⟨⟨v, ty, h1.keeps hk (by simp; omega) (fun g hg => by simp; intro e; exact h7.2 (by rw [hg, e]))⟩, hm2, h3, h4, fun y => ?_, h6, h7⟩, hk.mono (by intro y hy; simp at hy; simp [hy])⟩
        rw [h5 y]
        unfold updB
        by_cases hy : y = x
        · rw [if_pos hy, hy, HMX.out]; simp
        · rw [if_neg hy])
      clear hm2 hg2
      go_wp2
      go_ret
      exact ⟨rfl, q, l, HD.out.1, by omega, fun g hg => .inl hg, HD.out.2⟩
/-- what Pop does: the least number that is there goes; none is there: 0, false -/
def LPop (w : World) (p m c : Nat) (q : Option Nat) (l : List Int) (M : Int → Option Bool) (en : Ending) (w' : World) : Prop :=
  ∃ q' l' M', LeastAt w' p m c q' l' M' ∧ l'.length ≤ l.length ∧ (∀ g, q' = some g → q = some g ∨ w.heap.size ≤ g) ∧ Keeps (p :: m :: q.toList) w w' ∧
    ((en = .returned (.tuple #[.int .i64 0, .bool false]) ∧ (∀ y, M y ≠ some true) ∧ ∀ y, M' y ≠ some true) ∨
     ∃ x, en = .returned (.tuple #[.int .i64 x, .bool true]) ∧ M x = some true ∧ (∀ y, M y = some true → x ≤ y) ∧ (Lit.int .i64 x).wf = true ∧ ∀ y, M' y = some true ↔ y ≠ x ∧ M y = some true)
/-- how long the row is, as the memory says -/
def lsLen (p : Nat) (w : World) : Nat := match w.cell? ⟨p, 0, none⟩ with
  | some (.slice _ n _) => n
  | _ => 0
theorem lsLen_eq {w : World} {p n cap : Nat} {a : Option Addr} (h : w.cell? ⟨p, 0, none⟩ = some (.slice a n cap)) : lsLen p w = n := by unfold lsLen; rw [h]
/-- where Pop stands -/
structure PopAt (w : World) (p m c : Nat) (q : Option Nat) (l : List Int) (M : Int → Option Bool) (q' : Option Nat) (l' : List Int) (M' : Int → Option Bool) (wr : World) : Prop where
  at_ : LeastAt wr p m c q' l' M'
  len : l'.length ≤ l.length
  own : ∀ g, q' = some g → q = some g ∨ w.heap.size ≤ g
  keep : Keeps (p :: m :: q.toList) w wr
  same : ∀ y, M' y = some true ↔ M y = some true
/-- the row's least number has gone -/
theorem LeastAt.popped {w3 : World} {v : Value} {ty : TypeId} (h : LeastAt w p m c q l M) {ht : w.heap[p]? = some (.cells #[v, .map (some m)] ty (0, 0))} (hl : l ≠ []) (hd : PopDone w p 0 ty #[v, .map (some m)] q l w3)
    {w4 : World} (hm4 : MapAt Try.prog w4 3 m c (fun y => if y = hg l 0 then none else mapB M y)) (hg4 : w3.grownBy w4 (some m)) :
    ∃ q' l', LeastAt w4 p m c q' l' (updB M (hg l 0) none) ∧ l'.length + 1 = l.length ∧ (∀ g, q' = some g → q = some g ∨ w.heap.size ≤ g) ∧ Keeps (p :: m :: q.toList) w w4 := by
  obtain ⟨l', v', q', r1, r2, r3, r4, r5⟩ := hd
  obtain ⟨_, h2, h3, h4, h5, h6, h7⟩ := h
  have hml := h2.lt
  have hk : Keeps [m] w3 w4 := Keeps.of_grown hg4 (by simp)
  have hnd : (hg l 0 :: l').Nodup := r2.nodup_iff.2 h4
  rw [List.nodup_cons] at hnd
  have hqm : q' ≠ some m := by
    intro e
    rcases r4 m e with h | h
    · exact h7.2 h
    · omega
  rw [mapB_del] at hm4
  refine ⟨q', l', ⟨⟨v', ty, by simpa using r1.keeps hk (by simp; omega) (fun g hg => by simp; intro e; exact hqm (by rw [hg, e]))⟩, hm4, r3, hnd.2, fun y => ?_, fun y hy => ?_, h7.1, hqm⟩, ?_, r4, ?_⟩
  · unfold updB
    by_cases hy : y = hg l 0
    · rw [if_pos hy, hy]; simp [hnd.1]
    · rw [if_neg hy, ← h5 y, ← r2.mem_iff]; simp [hy]
  · exact h6 y (r2.mem_iff.1 (by simp [hy]))
  · have := r2.length_eq; simpa using this
  · exact (r5.mono (by intro y hy; simp at hy; rcases hy with hy | hy <;> simp [hy])).trans (hk.mono (by intro y hy; simp at hy; simp [hy]))
set_option maxRecDepth 100000 in
set_option maxHeartbeats 2000000 in
theorem lsPop_any (w : World) (h : LeastAt w p m c q l M) (hl : l.length < 1048576) :
    Calls Try.prog 23 #[.pointer (some ⟨p, 0, none⟩)] w (LPop w p m c q l M) := by
  have H0 : Hid (PopAt w p m c q l M q l M w) := (show PopAt w p m c q l M q l M w from ⟨h, Nat.le_refl _, fun g hg => .inl hg, Keeps.refl _ _, fun y => Iff.rfl⟩)
  have HLT := Lib.hid h.lt
  have hta := assert_int
  clear h
  go_enter Try.func23, Try.ntmps23
  go_wp2_with fail
  go_loopw [4] (fun _ wr => ∃ (q' : Option Nat) (l' : List Int) (M' : Int → Option Bool), Hid (PopAt w p m c q l M q' l' M' wr)) (fun _ wr => lsLen p wr)
  case atStart => exact ⟨_, _, _, H0⟩
  case round =>
    obtain ⟨q', l', M', hp⟩ := hrel
    obtain ⟨wo, rfl⟩ : ∃ wo : World, wo = wr := ⟨_, rfl⟩
    obtain ⟨v, ty, hrow⟩ := hp.out.at_.row
    obtain ⟨a, cap, c0, _⟩ := hrow.read
    have HLL := Lib.hid hp.out.len
    have hlen0 := lsLen_eq c0
    have HL0 := Lib.hid hlen0
    clear hlen0
    by_cases h0 : l'.length = 0
    · have HD : Hid (LPop w p m c q l M (.returned (.tuple #[.int .i64 0, .bool false])) wo) := (show LPop w p m c q l M (.returned (.tuple #[.int .i64 0, .bool false])) wo by
        obtain ⟨k1, k2, k3, k4, k5⟩ := hp.out
        have hn : ∀ y, M' y ≠ some true := by
          intro y hy
          have := (k1.dom y).2 (by rw [hy]; simp)
          rw [List.length_eq_zero_iff.1 h0] at this
          cases this
        exact ⟨q', l', M', k1, k2, k3, k4, .inl ⟨rfl, fun y hy => hn y ((k5 y).2 hy), hn⟩⟩)
      rw [h0] at c0
      clear hp hrow h0
      go_wp2_with fail
      refine (rowLen_any _ _ _ _).mono ?_
      rintro e w1 ⟨rfl, rfl⟩
      go_wp2
      go_ret2
      exact HD.out
    · obtain ⟨n, hn⟩ : ∃ n, l'.length = n + 1 := ⟨l'.length - 1, by omega⟩
      have HN := Lib.hid hn
      have HROW := Lib.hid hrow
      have HPP := Lib.hid (heapPop_any n wo hrow hp.out.at_.heap hn (by have := HLL.out; omega))
      have hxm : hg l' 0 ∈ l' := List.mem_of_getElem? (hg_some (by omega))
      have HXM := Lib.hid hxm
      have HXW := Lib.hid (hp.out.at_.wfl _ hxm)
      have HMIN := Lib.hid (fun y (hy : y ∈ l') => (show hg l' 0 ≤ y by
        obtain ⟨k, hk, e⟩ := List.getElem_of_mem hy
        have := hp.out.at_.heap.least k hk
        have e2 : hg l' k = y := by unfold hg; rw [List.getElem?_eq_getElem hk, e]; rfl
        rw [e2] at this
        exact this))
      generalize hX : hg l' 0 = x at HPP HXM HXW HMIN
      have HX := Lib.hid hX
      obtain ⟨b, hb⟩ : ∃ b, M' x = some b := by
        have := (hp.out.at_.dom x).1 HXM.out
        cases hM : M' x with
        | none => exact absurd hM this
        | some b => exact ⟨b, rfl⟩
      have HB := Lib.hid hb
      have hpos : (0 : Int) < ((n + 1 : Nat) : Int) := by omega
      have hpos2 : (0 : Int) < (n : Int) + 1 := by omega
      rw [hn] at c0
      clear hrow hxm hX hb h0 hn
      go_wp2_with fail
      refine (rowLen_any _ _ _ _).mono ?_
      rintro e w1 ⟨rfl, rfl⟩
      go_wp2_with fail
      refine HPP.out.mono ?_
      rintro e w3 ⟨rfl, hd⟩
      have HD := Lib.hid hd
      obtain ⟨l3, v3, q3, r1, r2, r3, r4, r5⟩ := hd
      have g1 : w3.cell? ⟨p, 1, none⟩ = some (.map (some m)) := by
        rw [cell_of_block r1.at_]; rfl
      have hmap3 := hp.out.at_.map.keeps r5 (by
        have := hp.out.at_.ne
        simp
        refine ⟨this.1, ?_⟩
        cases hq : q' with
        | none => simp
        | some g => simp; intro e; exact this.2 (by rw [hq, e]))
      have hlk := hmap3.look ls_key Try.underlying3 Try.underlying67 (ls_zero w3) HXW.out
      rw [mapB_getD, HB.out] at hlk
      simp only [Option.getD_some] at hlk
      have HM3 := Lib.hid hmap3
      clear r1 r2 r3 r4 r5 hmap3
      go_wp2_with (at_delete; refine wpList_drop (by rfl) (.tmp 27) (.tmp 28) 67 3 rfl 4 ls_key Try.underlying3 Try.underlying67 m c _ rfl HM3.out x rfl HXW.out ?_)
      intro w4 hm4 hg4
      have HP4 := Lib.hid (hp.out.at_.popped (ht := HROW.out.at_) (by intro e; have := HN.out; rw [e] at this; simp at this) HD.out (by rw [HX.out]; exact hm4) hg4)
      have HOLD := Lib.hid hp.out.at_.lt
      clear hm4 hg4
      cases b with
      | true =>
        have HF : Hid (LPop w p m c q l M (.returned (.tuple #[.int .i64 x, .bool true])) w4) := (show LPop w p m c q l M (.returned (.tuple #[.int .i64 x, .bool true])) w4 by
          obtain ⟨q4, l4, s1, s2, s3, s4⟩ := HP4.out
          rw [HX.out] at s1
          obtain ⟨k1, k2, k3, k4, k5⟩ := hp.out
          refine ⟨q4, l4, _, s1, by omega, fun g hg => ?_, k4.then s4 (fun y hy => ?_), .inr ⟨x, rfl, (k5 x).1 HB.out, fun y hy => HMIN.out y ((k1.dom y).2 (by rw [(k5 y).2 hy]; simp)), HXW.out, fun y => ?_⟩⟩
          · rcases s3 g hg with h | h
            · exact k3 g h
            · exact .inr (Nat.le_trans k4.size h)
          · simp at hy
            rcases hy with rfl | rfl | hy
            · exact .inl (by simp)
            · exact .inl (by simp)
            · rcases k3 y hy with h | h
              · exact .inl (by simp [h])
              · exact .inr h
          · unfold updB
            by_cases hy : y = x
            · rw [if_pos hy]; simp [hy]
            · rw [if_neg hy, k5 y]; simp [hy])
        clear hp
        go_wp2
        go_ret2
        exact HF.out
      | false =>
        have HR : Hid (∃ q4 l4, PopAt w p m c q l M q4 l4 (updB M' x none) w4 ∧ l4.length + 1 = l'.length) := (show ∃ q4 l4, PopAt w p m c q l M q4 l4 (updB M' x none) w4 ∧ l4.length + 1 = l'.length by
          obtain ⟨q4, l4, s1, s2, s3, s4⟩ := HP4.out
          rw [HX.out] at s1
          obtain ⟨k1, k2, k3, k4, k5⟩ := hp.out
          refine ⟨q4, l4, ⟨s1, by omega, fun g hg => ?_, k4.then s4 (fun y hy => ?_), fun y => ?_⟩, s2⟩
          · rcases s3 g hg with h | h
            · exact k3 g h
            · exact .inr (Nat.le_trans k4.size h)
          · simp at hy
            rcases hy with rfl | rfl | hy
            · exact .inl (by simp)
            · exact .inl (by simp)
            · rcases k3 y hy with h | h
              · exact .inl (by simp [h])
              · exact .inr h
          · unfold updB
            by_cases hy : y = x
            · rw [if_pos hy, hy, ← k5 x, HB.out]; simp
            · rw [if_neg hy, k5 y])
        obtain ⟨q4, l4, hp4, hl4⟩ := HR.out
        have HP5 := Lib.hid hp4
        have HME : Hid (lsLen p w4 < lsLen p wo) := (show lsLen p w4 < lsLen p wo by
          obtain ⟨v5, ty5, hrow5⟩ := hp4.at_.row
          obtain ⟨a5, cap5, c5, _⟩ := hrow5.read
          rw [lsLen_eq c5, HL0.out]
          omega)
        clear hp4 hl4 hp
        go_wp2
        go_roundw
        case rel => first | exact ⟨_, _, _, HP5⟩ | ((repeat apply Exists.intro); exact ⟨⟨_, _, _, HP5⟩, rfl⟩)
        case measure => exact HME.out
end
end Go.Proofs.Ytogifanooleppaa
