/- audit, in plain Lean: objects, what is reached from some, how often each is referred to, which have wrong counts. -/
import Derived.Test.YtogifanooleppaaMem
namespace Go.Proofs.Ytogifanooleppaa
open Go.RowKit
set_option linter.unusedVariables false

/-! ### lists that rise -/
theorem rise_one {a b : List Int} (ha : a.Pairwise (· < ·)) (hb : b.Pairwise (· < ·)) (h : ∀ x, x ∈ a ↔ x ∈ b) : a = b := by
  have na : a.Nodup := ha.imp fun {x y} h => by omega
  have nb : b.Nodup := hb.imp fun {x y} h => by omega
  exact List.Perm.eq_of_pairwise (le := fun a b : Int => a < b) (fun a b _ _ h1 h2 => by omega) ha hb ((List.perm_ext_iff_of_nodup na nb).2 h)
theorem rise_add {S : List Int} (hS : S.Pairwise (· < ·)) (a : Int) : ∃ T : List Int, T.Pairwise (· < ·) ∧ ∀ x, x ∈ T ↔ x = a ∨ x ∈ S := by
  refine ⟨S.filter (fun x => decide (x < a)) ++ a :: S.filter (fun x => decide (a < x)), ?_, fun x => ?_⟩
  · rw [List.pairwise_append, List.pairwise_cons]
    refine ⟨hS.filter _, ⟨fun x hx => by simpa using (List.mem_filter.1 hx).2, hS.filter _⟩, fun x hx y hy => ?_⟩
    have h1 : x < a := by simpa using (List.mem_filter.1 hx).2
    rcases List.mem_cons.1 hy with rfl | hy
    · exact h1
    · have h2 : a < y := by simpa using (List.mem_filter.1 hy).2
      omega
  · rw [List.mem_append, List.mem_cons, List.mem_filter, List.mem_filter]
    simp only [decide_eq_true_eq]
    constructor
    · rintro (⟨h, _⟩ | rfl | ⟨h, _⟩)
      · exact .inr h
      · exact .inl rfl
      · exact .inr h
    · rintro (rfl | h)
      · exact .inr (.inl rfl)
      · rcases Int.lt_trichotomy x a with h1 | h1 | h1
        · exact .inl ⟨h, h1⟩
        · exact .inr (.inl h1)
        · exact .inr (.inr ⟨h, h1⟩)
theorem rise_of (L : List Int) (p : Int → Prop) : ∃ S : List Int, S.Pairwise (· < ·) ∧ ∀ x, x ∈ S ↔ x ∈ L ∧ p x := by
  induction L with
  | nil => exact ⟨[], List.Pairwise.nil, fun x => by simp⟩
  | cons a L ih =>
    obtain ⟨S, h1, h2⟩ := ih
    by_cases hp : p a
    · obtain ⟨T, h3, h4⟩ := rise_add h1 a
      refine ⟨T, h3, fun x => ?_⟩
      rw [h4, h2, List.mem_cons]
      constructor
      · rintro (rfl | ⟨h5, h6⟩)
        · exact ⟨.inl rfl, hp⟩
        · exact ⟨.inr h5, h6⟩
      · rintro ⟨rfl | h5, h6⟩
        · exact .inl rfl
        · exact .inr ⟨h5, h6⟩
    · refine ⟨S, h1, fun x => ?_⟩
      rw [h2, List.mem_cons]
      constructor
      · rintro ⟨h5, h6⟩; exact ⟨.inr h5, h6⟩
      · rintro ⟨rfl | h5, h6⟩
        · exact absurd h6 hp
        · exact ⟨h5, h6⟩

/-! ### objects -/
structure ObjV where
  h : Int
  k : Int
  c : Int
  s : Bool
  ra : Option Addr
  rl : Nat
  rc : Nat
  refs : List Int
def ObjV.agg (o : ObjV) : Value := .agg #[.int .i64 o.h, .int .i64 o.k, .int .i64 o.c, .bool o.s, .slice o.ra o.rl o.rc]
/-- the first with a handle -/
def firstO : List ObjV → Int → Option ObjV
  | [], _ => none
  | o :: l, x => if o.h = x then some o else firstO l x
theorem firstO_some {l : List ObjV} {x : Int} {o : ObjV} (h : firstO l x = some o) : o ∈ l ∧ o.h = x := by
  induction l with
  | nil => cases h
  | cons y l ih =>
    unfold firstO at h
    split at h
    · rename_i e
      cases h
      exact ⟨List.mem_cons_self, e⟩
    · exact ⟨List.mem_cons_of_mem _ (ih h).1, (ih h).2⟩
theorem firstO_isSome {l : List ObjV} {x : Int} : (firstO l x).isSome = true ↔ ∃ o ∈ l, o.h = x := by
  induction l with
  | nil => simp [firstO]
  | cons y l ih =>
    unfold firstO
    by_cases e : y.h = x
    · rw [if_pos e]; simp [e]
    · rw [if_neg e, ih]; simp [e]
theorem firstO_none {l : List ObjV} {x : Int} (h : firstO l x = none) : ∀ o ∈ l, o.h ≠ x := fun o ho e => by
  have := firstO_isSome.2 ⟨o, ho, e⟩
  rw [h] at this
  cases this
theorem firstO_app (l m : List ObjV) (x : Int) : firstO (l ++ m) x = (firstO l x).or (firstO m x) := by
  induction l with
  | nil => simp [firstO]
  | cons y l ih =>
    simp only [List.cons_append, firstO]
    split
    · simp
    · exact ih
/-- how many references there are to one -/
def countR : List ObjV → Int → Nat
  | [], _ => 0
  | o :: l, x => o.refs.count x + countR l x
theorem countR_app (l m : List ObjV) (x : Int) : countR (l ++ m) x = countR l x + countR m x := by
  induction l with
  | nil => simp [countR]
  | cons y l ih => simp only [List.cons_append, countR]; rw [ih]; omega
/-- how many references there are -/
def refsN : List ObjV → Nat
  | [] => 0
  | o :: l => o.refs.length + refsN l
theorem refsN_app (l m : List ObjV) : refsN (l ++ m) = refsN l + refsN m := by
  induction l with
  | nil => simp [refsN]
  | cons y l ih => simp only [List.cons_append, refsN]; rw [ih]; omega
theorem refsN_take_le (l : List ObjV) (k : Nat) : refsN (l.take k) ≤ refsN l := by
  have := refsN_app (l.take k) (l.drop k)
  rw [List.take_append_drop] at this
  omega
theorem countR_le (l : List ObjV) (x : Int) : countR l x ≤ refsN l := by
  induction l with
  | nil => exact Nat.le_refl _
  | cons y l ih => unfold countR refsN; have := List.count_le_length (a := x) (l := y.refs); omega
theorem refsN_mem {l : List ObjV} {o : ObjV} (h : o ∈ l) : o.refs.length ≤ refsN l := by
  induction l with
  | nil => cases h
  | cons y l ih =>
    unfold refsN
    rcases List.mem_cons.1 h with rfl | h
    · omega
    · have := ih h; omega
theorem refsN_le {l : List ObjV} {m : Nat} (h : ∀ o ∈ l, o.refs.length ≤ m) : refsN l ≤ l.length * m := by
  induction l with
  | nil => simp [refsN]
  | cons y l ih =>
    unfold refsN
    have h1 := h y List.mem_cons_self
    have h2 := ih fun o ho => h o (List.mem_cons_of_mem _ ho)
    rw [List.length_cons, Nat.succ_mul]
    omega

/-! ### what is reached -/
inductive Rch (l : List ObjV) (roots : List Int) : Int → Prop
  | root {x : Int} (h : x ∈ roots) (ho : (firstO l x).isSome = true) : Rch l roots x
  | step {x y : Int} {o : ObjV} (h : Rch l roots x) (hx : firstO l x = some o) (hy : y ∈ o.refs) (ho : (firstO l y).isSome = true) : Rch l roots y
theorem Rch.is {l : List ObjV} {roots : List Int} {x : Int} (h : Rch l roots x) : (firstO l x).isSome = true := by cases h <;> assumption
/-- what is still to be met -/
def todo (met : Int → Bool) : List ObjV → Nat
  | [] => 0
  | o :: l => (if met o.h then 0 else o.refs.length) + todo met l
def addB (met : Int → Bool) (x : Int) : Int → Bool := fun y => decide (y = x) || met y
theorem todo_mono {met : Int → Bool} {x : Int} (l : List ObjV) : todo (addB met x) l ≤ todo met l := by
  induction l with
  | nil => exact Nat.le_refl _
  | cons y l ih =>
    unfold todo addB
    unfold addB at ih
    by_cases h : met y.h = true
    · simp [h]; exact ih
    · by_cases h2 : y.h = x
      · simp [h2]; split <;> omega
      · simp [h, h2]; omega
theorem todo_less {met : Int → Bool} {x : Int} {o : ObjV} : ∀ {l : List ObjV}, firstO l x = some o → met x = false → todo (addB met x) l + o.refs.length ≤ todo met l := by
  intro l
  induction l with
  | nil => intro h; cases h
  | cons y l ih =>
    intro h hm
    unfold firstO at h
    split at h
    · rename_i e
      cases h
      have := todo_mono (met := met) (x := x) l
      unfold todo
      have e2 : addB met x x = true := by simp [addB]
      rw [e, hm, e2]
      simp
      omega
    · rename_i e
      have := ih h hm
      unfold todo
      by_cases h3 : met y.h = true
      · have h4 : addB met x y.h = true := by simp [addB, h3]
        rw [if_pos h3, if_pos h4]; omega
      · have h4 : addB met x y.h ≠ true := by simp [addB, h3, e]
        rw [if_neg h3, if_neg h4]; omega
theorem todo_none (l : List ObjV) : todo (fun _ => false) l = refsN l := by
  induction l with
  | nil => rfl
  | cons y l ih => unfold todo refsN; rw [ih]; simp
/-- where the search stands -/
structure RInv (l : List ObjV) (roots : List Int) (met : Int → Bool) (work : List Int) : Prop where
  a : ∀ x, met x = true → Rch l roots x
  b : ∀ x ∈ work, (firstO l x).isSome = true → Rch l roots x
  c : ∀ x ∈ roots, (firstO l x).isSome = true → met x = true ∨ x ∈ work
  d : ∀ x, met x = true → ∀ o, firstO l x = some o → ∀ y ∈ o.refs, (firstO l y).isSome = true → met y = true ∨ y ∈ work
theorem RInv.start (l : List ObjV) (roots : List Int) : RInv l roots (fun _ => false) roots :=
  ⟨fun x h => (by cases h), fun x h ho => .root h ho, fun x h _ => .inr h, fun x h => (by cases h)⟩
theorem RInv.skip {l : List ObjV} {roots work rest : List Int} {met : Int → Bool} {x : Int} (h : RInv l roots met work) (hw : ∀ y, y ∈ work ↔ y = x ∨ y ∈ rest) (hx : firstO l x = none ∨ met x = true) : RInv l roots met rest := by
  have key : ∀ y, (firstO l y).isSome = true → met y = true ∨ y ∈ work → met y = true ∨ y ∈ rest := by
    rintro y ho (h1 | h1)
    · exact .inl h1
    · rcases (hw y).1 h1 with rfl | h1
      · rcases hx with hx | hx
        · rw [hx] at ho; cases ho
        · exact .inl hx
      · exact .inr h1
  exact ⟨h.a, fun y hy => h.b y ((hw y).2 (.inr hy)), fun y hy ho => key y ho (h.c y hy ho), fun y hy o ho z hz hzo => key z hzo (h.d y hy o ho z hz hzo)⟩
theorem RInv.take {l : List ObjV} {roots work rest rest' : List Int} {met : Int → Bool} {x : Int} {o : ObjV} (h : RInv l roots met work) (hw : ∀ y, y ∈ work ↔ y = x ∨ y ∈ rest) (hw' : ∀ y, y ∈ rest' ↔ y ∈ rest ∨ y ∈ o.refs) (hx : firstO l x = some o) : RInv l roots (addB met x) rest' := by
  have hxs : (firstO l x).isSome = true := by rw [hx]; rfl
  have hrx : Rch l roots x := h.b x ((hw x).2 (.inl rfl)) hxs
  have key : ∀ y, met y = true ∨ y ∈ work → addB met x y = true ∨ y ∈ rest' := by
    rintro y (h1 | h1)
    · exact .inl (by simp [addB, h1])
    · rcases (hw y).1 h1 with rfl | h1
      · exact .inl (by simp [addB])
      · exact .inr ((hw' y).2 (.inl h1))
  refine ⟨fun y hy => ?_, fun y hy ho => ?_, fun y hy ho => key y (h.c y hy ho), fun y hy o2 ho z hz hzo => ?_⟩
  · simp [addB] at hy
    rcases hy with rfl | hy
    · exact hrx
    · exact h.a y hy
  · rcases (hw' y).1 hy with h1 | h1
    · exact h.b y ((hw y).2 (.inr h1)) ho
    · exact .step hrx hx h1 ho
  · simp [addB] at hy
    by_cases e : y = x
    · subst e
      rw [hx] at ho
      cases ho
      exact .inr ((hw' z).2 (.inr hz))
    · rcases hy with hy | hy
      · exact absurd hy e
      · exact key z (h.d y hy o2 ho z hz hzo)
theorem RInv.done {l : List ObjV} {roots : List Int} {met : Int → Bool} (h : RInv l roots met []) (x : Int) : met x = true ↔ Rch l roots x := by
  refine ⟨h.a x, fun hr => ?_⟩
  induction hr with
  | root h1 h2 => exact (h.c _ h1 h2).resolve_right (by simp)
  | step h1 h2 h3 h4 ih => exact (h.d _ ih _ h2 _ h3 h4).resolve_right (by simp)
/-- the list of all that is reached -/
theorem rch_list (l : List ObjV) (roots : List Int) : ∃ S : List Int, S.Pairwise (· < ·) ∧ ∀ x, x ∈ S ↔ Rch l roots x := by
  obtain ⟨S, h1, h2⟩ := rise_of (l.map (·.h)) (Rch l roots)
  refine ⟨S, h1, fun x => (h2 x).trans ⟨fun h => h.2, fun h => ⟨?_, h⟩⟩⟩
  obtain ⟨o, ho, e⟩ := firstO_isSome.1 h.is
  exact List.mem_map.2 ⟨o, ho, e⟩

/-! ### which are wrong -/
def wrongB (o : ObjV) (n : Nat) (z : Bool) : Bool := if o.s then z else (o.c != (n : Int)) || (z != (o.c == 0))
def wrongP (l : List ObjV) (zeros : List Int) (x : Int) : Bool :=
  match firstO l x with
  | some o => wrongB o (countR l x) (decide (x ∈ zeros))
  | none => decide (x ∈ zeros)
theorem wrong_list (l : List ObjV) (zeros : List Int) : ∃ S : List Int, S.Pairwise (· < ·) ∧ ∀ x, x ∈ S ↔ wrongP l zeros x = true := by
  obtain ⟨S, h1, h2⟩ := rise_of (l.map (·.h) ++ zeros) (fun x => wrongP l zeros x = true)
  refine ⟨S, h1, fun x => (h2 x).trans ⟨fun h => h.2, fun h => ⟨?_, h⟩⟩⟩
  rw [List.mem_append]
  unfold wrongP at h
  cases hf : firstO l x with
  | some o => exact .inl (List.mem_map.2 ⟨o, (firstO_some hf).1, (firstO_some hf).2⟩)
  | none => rw [hf] at h; exact .inr (by simpa using h)
end Go.Proofs.Ytogifanooleppaa
