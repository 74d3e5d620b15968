/- Plain: how a module is written, and that its parts are read as they were. -/
import Derived.Test.YteipnfnbepnpjaaModLawP
namespace Go.Proofs.Yteipnfnbepnpjaa
open Go.RowKit
set_option linter.unusedVariables false
def encK (k : ClsT) : List Nat := [k.1.toNat, (k.2 + 1).toNat]
def encF (f : FunT) : List Nat := [f.1.toNat, f.2.1.toNat, f.2.2.length % 256, f.2.2.length / 256] ++ f.2.2
def bsOf (s : ByteArray) : List Nat := s.data.toList.map UInt8.toNat
/-- so many bytes of a number, the lowest first -/
def leB : Nat → Nat → List Nat
  | 0, _ => []
  | k + 1, v => v % 256 :: leB k (v / 256)
def u64N (z : Int) : Nat := (z % 18446744073709551616).toNat
def encC (c : ConT) : List Nat := if c.1 = true then [1, c.2.2.size] ++ bsOf c.2.2 else 0 :: leB 8 (u64N c.2.1)
theorem one_cons (y : Nat) (t : List Nat) : oneM (y :: t, 0) = (y, (t, 0)) := by
  unfold oneM; rw [takeM_ok (by simp)]; rfl
theorem take_app (a t : List Nat) (n : Nat) (h : n = a.length) : takeM n (a ++ t, 0) = (a, (t, 0)) := by
  subst h
  rw [takeM_ok (by simp), List.take_left, List.drop_left]
theorem class_enc (k : ClsT) (t : List Nat) (h1 : 0 ≤ k.1) (h2 : -1 ≤ k.2) : classM (encK k ++ t, 0) = (k, (t, 0)) := by
  show classM (k.1.toNat :: (k.2 + 1).toNat :: t, 0) = _
  unfold classM
  simp only [one_cons]
  have e1 : ((k.1.toNat : Nat) : Int) = k.1 := by omega
  have e2 : (((k.2 + 1).toNat : Nat) : Int) - 1 = k.2 := by omega
  rw [e1, e2]
theorem func_enc (f : FunT) (t : List Nat) (h1 : 0 ≤ f.1) (h2 : 0 ≤ f.2.1) : funcM (encF f ++ t, 0) = (f, (t, 0)) := by
  show funcM (f.1.toNat :: f.2.1.toNat :: (f.2.2.length % 256) :: (f.2.2.length / 256) :: (f.2.2 ++ t), 0) = _
  unfold funcM
  simp only [one_cons]
  rw [take_app f.2.2 t _ (by omega)]
  have e1 : ((f.1.toNat : Nat) : Int) = f.1 := by omega
  have e2 : ((f.2.1.toNat : Nat) : Int) = f.2.1 := by omega
  rw [e1, e2]
theorem length_leB : ∀ (k v : Nat), (leB k v).length = k
  | 0, _ => rfl
  | k + 1, v => congrArg Nat.succ (length_leB k _)
theorem leN_leB : ∀ (k v : Nat), v < 256 ^ k → leN (leB k v) = v
  | 0, v, h => by have : v = 0 := by simpa using h
                  subst this; rfl
  | k + 1, v, h => by
    show v % 256 + 256 * leN (leB k (v / 256)) = v
    rw [leN_leB k (v / 256) (by rw [Nat.pow_succ] at h; omega)]
    omega
theorem strOf_bsOf (s : ByteArray) : strOf (bsOf s) = s := by
  apply ByteArray.ext
  apply Array.ext'
  show ((bsOf s).map fun (y : Nat) => (y : Int)).map (fun n => UInt8.ofNat n.toNat) = s.data.toList
  unfold bsOf
  rw [List.map_map, List.map_map]
  conv => rhs; rw [← List.map_id s.data.toList]
  apply List.map_congr_left
  intro x _
  show UInt8.ofNat ((x.toNat : Int)).toNat = x
  rw [Int.toNat_natCast]
  exact UInt8.ofNat_toNat
theorem length_bsOf (s : ByteArray) : (bsOf s).length = s.size := by unfold bsOf; rw [List.length_map, Array.length_toList]; rfl
theorem const_enc (c : ConT) (t : List Nat) (h1 : c.1 = true → c.2.1 = 0) (h2 : c.1 = false → c.2.2.size = 0 ∧ -9223372036854775808 ≤ c.2.1 ∧ c.2.1 < 9223372036854775808) : constM (encC c ++ t, 0) = (c, (t, 0)) := by
  obtain ⟨b, z, s⟩ := c
  have hw : ∀ s : RS, wrongM false s = s := fun s => by unfold wrongM; rw [if_neg (by simp)]
  cases b with
  | true =>
    have hz : z = 0 := h1 rfl
    show constM (1 :: s.size :: (bsOf s ++ t), 0) = _
    unfold constM
    simp only [one_cons, Nat.lt_irrefl, decide_false, hw, if_true]
    rw [take_app (bsOf s) t _ (length_bsOf s).symm, strOf_bsOf, hz]
  | false =>
    obtain ⟨hs, hz1, hz2⟩ := h2 rfl
    have hz1 : -9223372036854775808 ≤ z := hz1
    have hz2 : z < 9223372036854775808 := hz2
    have hse : s = ByteArray.empty := ByteArray.ext (Array.eq_empty_of_size_eq_zero hs)
    show constM (0 :: (leB 8 (u64N z) ++ t), 0) = _
    unfold constM
    simp only [one_cons, show decide ((1 : Nat) < 0) = false from rfl, hw, show ¬ ((0 : Nat) = 1) by decide, if_false]
    rw [take_app (leB 8 (u64N z)) t 8 (length_leB 8 _).symm, leN_leB 8 _ (by unfold u64N; omega), hse]
    have e : wrap64 ((u64N z : Nat) : Int) = z := by unfold wrap64 u64N; omega
    rw [e]
theorem manyA_go' {α : Type} (f : RS → α × RS) (k : Nat) (s : RS) (acc : List α) (h : s.2 = 0) : manyA f (k + 1) s acc = manyA f k (f s).2 (acc ++ [(f s).1]) := if_pos h
theorem many_enc {α : Type} (f : RS → α × RS) (en : α → List Nat) : ∀ (l : List α) (acc : List α) (t : List Nat), (∀ x ∈ l, ∀ t, f (en x ++ t, 0) = (x, (t, 0))) → manyA f l.length (l.flatMap en ++ t, 0) acc = (acc ++ l, (t, 0))
  | [], acc, t, _ => by show (acc, _) = _; simp
  | x :: l, acc, t, h => by
    show manyA f (l.length + 1) _ acc = _
    rw [manyA_go' f l.length _ acc rfl, List.flatMap_cons, List.append_assoc, h x (List.mem_cons_self ..)]
    rw [many_enc f en l (acc ++ [x]) t (fun y hy => h y (List.mem_cons_of_mem _ hy)), List.append_assoc]
    rfl
end Go.Proofs.Yteipnfnbepnpjaa
