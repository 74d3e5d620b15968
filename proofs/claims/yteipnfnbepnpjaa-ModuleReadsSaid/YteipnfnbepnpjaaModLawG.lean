/- Plain: how far a module's writing has come, and how long that is. -/
import Derived.Test.YteipnfnbepnpjaaModLawOk
namespace Go.Proofs.Yteipnfnbepnpjaa
open Go.RowKit
set_option linter.unusedVariables false
structure AMle (m : AM) : Prop where
  g : m.G ≤ 255
  n1 : m.cs.length ≤ 200
  n2 : m.fs.length ≤ 100
  n3 : m.ks.length ≤ 100
  c : ∀ c ∈ m.cs, c.2.2.size ≤ 255
  f : ∀ f ∈ m.fs, f.2.2.length ≤ 4000 ∧ f.1 ≤ 20 ∧ f.2.1 ≤ 50
  k : ∀ k ∈ m.ks, k.1 ≤ 255 ∧ k.2 ≤ 99
theorem amle {m : AM} (h : m.rightE = 0) : AMle m := by
  obtain ⟨h1, h2, h3, h4⟩ := right_parts (x := m.x 0 0 0 (fun _ => none) (fun _ => 0)) h
  obtain ⟨g1, g2, g3, g4⟩ := sized_parts h1
  obtain ⟨b1, b2, b3, b4, b5⟩ := base_true g1
  have b3 : (m.cs.length : Int) ≤ 200 := b3
  have b4 : (m.fs.length : Int) ≤ 100 := b4
  have b5 : (m.ks.length : Int) ≤ 100 := b5
  refine ⟨b2, by omega, by omega, by omega, fun c hc => ?_, fun f hf => ?_, fun k hk => ?_⟩
  · obtain ⟨i, hi, e⟩ := mem_at hc
    have := (allN_iff _ _).1 g2 i hi
    simpa [ModX.cOk, AM.x, e] using this
  · obtain ⟨i, hi, e⟩ := mem_at hf
    have := (allN_iff _ _).1 g3 i hi
    simp [ModX.fOk, AM.x, e] at this
    omega
  · obtain ⟨i, hi, e⟩ := mem_at hk
    have ha := (allN_iff _ _).1 g4 i hi
    have hb := (allN_iff _ _).1 h3 i hi
    simp [ModX.kOk, AM.x, e] at ha
    simp [ModX.eOk, ModX.endB, AM.x, e] at hb
    omega
def pre1 (m : AM) (k : Nat) : List Nat := [68, 67, 49, m.G.toNat, m.cs.length] ++ (m.cs.take k).flatMap encC
def pre2 (m : AM) (k : Nat) : List Nat := pre1 m m.cs.length ++ (m.fs.length :: (m.fs.take k).flatMap encF)
def pre3 (m : AM) (k : Nat) : List Nat := pre2 m m.fs.length ++ (m.ks.length :: (m.ks.take k).flatMap encK)
theorem flat_succ {α : Type} (f : α → List Nat) (l : List α) (k : Nat) (x : α) (h : l[k]? = some x) : (l.take (k + 1)).flatMap f = (l.take k).flatMap f ++ f x := by
  rw [List.take_add_one, h, List.flatMap_append]
  simp
theorem pre1_succ {m : AM} {k : Nat} {c : ConT} (h : m.cs[k]? = some c) : pre1 m (k + 1) = pre1 m k ++ encC c := by
  unfold pre1; rw [flat_succ _ _ _ _ h, List.append_assoc]
theorem pre2_succ {m : AM} {k : Nat} {c : FunT} (h : m.fs[k]? = some c) : pre2 m (k + 1) = pre2 m k ++ encF c := by
  unfold pre2; rw [flat_succ _ _ _ _ h, List.append_assoc]; rfl
theorem pre3_succ {m : AM} {k : Nat} {c : ClsT} (h : m.ks[k]? = some c) : pre3 m (k + 1) = pre3 m k ++ encK c := by
  unfold pre3; rw [flat_succ _ _ _ _ h, List.append_assoc]; rfl
theorem pre2_zero (m : AM) : pre2 m 0 = pre1 m m.cs.length ++ [m.fs.length] := by unfold pre2; simp
theorem pre3_zero (m : AM) : pre3 m 0 = pre2 m m.fs.length ++ [m.ks.length] := by unfold pre3; simp
theorem pre3_enc (m : AM) : pre3 m m.ks.length = enc m := by
  unfold pre3 pre2 pre1 enc
  rw [List.take_length, List.take_length, List.take_length]
  simp
theorem flat_len {α : Type} {f : α → List Nat} {B : Nat} : ∀ l : List α, (∀ x ∈ l, (f x).length ≤ B) → (l.flatMap f).length ≤ l.length * B
  | [], _ => by simp
  | x :: l, h => by
    rw [List.flatMap_cons, List.length_append, List.length_cons, Nat.add_mul, Nat.one_mul]
    have := flat_len l fun y hy => h y (List.mem_cons_of_mem _ hy)
    have := h x (List.mem_cons_self ..)
    omega
theorem flat_take_len {α : Type} {f : α → List Nat} {B : Nat} (l : List α) (k : Nat) (h : ∀ x ∈ l, (f x).length ≤ B) : ((l.take k).flatMap f).length ≤ l.length * B :=
  Nat.le_trans (flat_len _ fun x hx => h x (List.mem_of_mem_take hx)) (Nat.mul_le_mul_right _ (List.length_take_le' _ _))
theorem encC_len {c : ConT} (h : c.2.2.size ≤ 255) : (encC c).length ≤ 257 := by
  unfold encC
  split
  · simp only [List.length_append, List.length_cons, List.length_nil, length_bsOf]; omega
  · simp only [List.length_cons, length_leB]; omega
theorem pre1_len {m : AM} (h : AMle m) (k : Nat) : (pre1 m k).length ≤ 51405 := by
  unfold pre1
  have h1 := flat_take_len (f := encC) (B := 257) m.cs k fun x hx => encC_len (h.c x hx)
  have h2 := Nat.mul_le_mul_right 257 h.n1
  rw [List.length_append]
  simp only [List.length_cons, List.length_nil]
  omega
theorem pre2_len {m : AM} (h : AMle m) (k : Nat) : (pre2 m k).length ≤ 451806 := by
  unfold pre2
  have h0 := pre1_len h m.cs.length
  have h1 := flat_take_len (f := encF) (B := 4004) m.fs k fun x hx => by
    have := (h.f x hx).1
    unfold encF
    simp only [List.length_append, List.length_cons, List.length_nil]; omega
  have h2 := Nat.mul_le_mul_right 4004 h.n2
  rw [List.length_append]
  simp only [List.length_cons]
  omega
theorem pre3_len {m : AM} (h : AMle m) (k : Nat) : (pre3 m k).length ≤ 452007 := by
  unfold pre3
  have h0 := pre2_len h m.fs.length
  have h1 := flat_take_len (f := encK) (B := 2) m.ks k fun x hx => by unfold encK; simp
  have h2 := Nat.mul_le_mul_right 2 h.n3
  rw [List.length_append]
  simp only [List.length_cons]
  omega
theorem leB_get : ∀ (n v k : Nat), k < n → (leB n v)[k]? = some (v / 256 ^ k % 256)
  | 0, _, _, h => absurd h (by omega)
  | n + 1, v, 0, _ => by simp [leB]
  | n + 1, v, k + 1, h => by
    show (leB n (v / 256))[k]? = _
    rw [leB_get n (v / 256) k (by omega), Nat.div_div_eq_div_mul, Nat.pow_succ, Nat.mul_comm]
theorem leB_succ (n v k : Nat) (h : k < n) : (leB n v).take (k + 1) = (leB n v).take k ++ [v / 256 ^ k % 256] := by
  rw [List.take_add_one, leB_get n v k h]; rfl
theorem leB_lt : ∀ (n v : Nat), ∀ y ∈ leB n v, y < 256
  | 0, _, y, h => by simp [leB] at h
  | n + 1, v, y, h => by
    rw [leB] at h
    rcases List.mem_cons.1 h with rfl | h
    · omega
    · exact leB_lt n _ y h
theorem encC_lt {c : ConT} (h : c.2.2.size ≤ 255) : ∀ y ∈ encC c, y < 256 := by
  intro y hy
  unfold encC at hy
  split at hy
  · rcases List.mem_append.1 hy with hy | hy
    · simp only [List.mem_cons, List.not_mem_nil, or_false] at hy; omega
    · obtain ⟨b, _, rfl⟩ := List.mem_map.1 hy; exact b.toNat_lt
  · rcases List.mem_cons.1 hy with rfl | hy
    · omega
    · exact leB_lt _ _ _ hy
theorem enc_lt {m : AM} (h : AMle m) (ok : AMok m) (hc : ∀ f ∈ m.fs, ∀ y ∈ f.2.2, y < 256) : ∀ y ∈ enc m, y < 256 := by
  intro y hy
  have h1 := h.g
  have h2 := h.n1
  have h3 := h.n2
  have h4 := h.n3
  unfold enc at hy
  simp only [List.mem_append, List.mem_cons, List.not_mem_nil, or_false, List.mem_flatMap] at hy
  rcases hy with hy | (((hy | hy | ⟨c, hc', hy⟩) | (hy | ⟨f, hf, hy⟩)) | (hy | ⟨k, hk, hy⟩))
  · omega
  · omega
  · omega
  · exact encC_lt (h.c c hc') y hy
  · omega
  · have a := h.f f hf
    have b := ok.f f hf
    unfold encF at hy
    simp only [List.mem_append, List.mem_cons, List.not_mem_nil, or_false] at hy
    rcases hy with hy | hy
    · omega
    · exact hc f hf y hy
  · omega
  · have a := h.k k hk
    have b := ok.k k hk
    unfold encK at hy
    simp only [List.mem_cons, List.not_mem_nil, or_false] at hy
    omega
end Go.Proofs.Yteipnfnbepnpjaa
