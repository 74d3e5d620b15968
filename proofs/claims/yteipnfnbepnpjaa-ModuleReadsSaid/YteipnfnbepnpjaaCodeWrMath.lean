/- plain facts of how instructions are written. -/
import Derived.Test.YteipnfnbepnpjaaCodeMath
namespace Go.Proofs.Yteipnfnbepnpjaa
set_option linter.unusedVariables false

/-- the greatest numbers of an operation -/
def mostA (op : Int) : Nat := if op = 35 then 255 else if widthZ op = 3 then 65535 else if widthZ op = 2 then 255 else 0
def mostB (op : Int) : Nat := if op = 35 then 255 else 0
/-- may an instruction be written? -/
def okIns (x : Int × Int × Int) : Bool := decide (widthZ x.1 ≠ 0 ∧ 0 ≤ x.2.1 ∧ x.2.1 ≤ mostA x.1 ∧ 0 ≤ x.2.2 ∧ x.2.2 ≤ mostB x.1)
/-- its bytes -/
def insBytes (x : Int × Int × Int) : List Nat :=
  if widthZ x.1 = 1 then [x.1.toNat] else if widthZ x.1 = 2 then [x.1.toNat, x.2.1.toNat] else if x.1 = 35 then [35, x.2.1.toNat, x.2.2.toNat] else [x.1.toNat, x.2.1.toNat % 256, x.2.1.toNat / 256]
/-- what is written of a row -/
def wrFrom : List (Int × Int × Int) → List Nat → List Nat × Nat
  | [], acc => (acc, 0)
  | x :: l, acc => if okIns x then wrFrom l (acc ++ insBytes x) else ([], 1)
theorem wrFrom_on {x : Int × Int × Int} {l : List (Int × Int × Int)} {acc : List Nat} (h : okIns x = true) : wrFrom (x :: l) acc = wrFrom l (acc ++ insBytes x) := by
  rw [wrFrom, if_pos h]
theorem wrFrom_bad {x : Int × Int × Int} {l : List (Int × Int × Int)} {acc : List Nat} (h : okIns x = false) : wrFrom (x :: l) acc = ([], 1) := by
  rw [wrFrom, if_neg (by rw [h]; decide)]
theorem widthZ_op {op : Int} (h : widthZ op ≠ 0) : 0 ≤ op ∧ op < 44 := by
  unfold widthZ at h
  split at h
  · refine ⟨by assumption, ?_⟩
    unfold widthN at h
    split at h
    · omega
    · split at h
      · omega
      · split at h
        · omega
        · exact absurd rfl h
  · exact absurd rfl h
theorem widthZ_35 : widthZ 35 = 3 := by decide
theorem okIns_bounds {x : Int × Int × Int} (h : okIns x = true) : widthZ x.1 ≠ 0 ∧ (0 ≤ x.1 ∧ x.1 < 44) ∧ (0 ≤ x.2.1 ∧ x.2.1 ≤ 65535) ∧ (0 ≤ x.2.2 ∧ x.2.2 ≤ 255) ∧ (widthZ x.1 = 1 → x.2.1 = 0 ∧ x.2.2 = 0) ∧ (widthZ x.1 = 2 → x.2.1 ≤ 255 ∧ x.2.2 = 0) ∧ (x.1 = 35 → x.2.1 ≤ 255) ∧ (x.1 ≠ 35 → x.2.2 = 0) := by
  have h := of_decide_eq_true h
  obtain ⟨h0, h1, h2, h3, h4⟩ := h
  have hop := widthZ_op h0
  unfold mostA at h2
  unfold mostB at h4
  refine ⟨h0, hop, ⟨h1, ?_⟩, ⟨h3, ?_⟩, fun h => ?_, fun h => ?_, fun h => ?_, fun h => ?_⟩
  · (repeat' split at h2) <;> omega
  · split at h4 <;> omega
  · have : x.1 ≠ 35 := fun e => by rw [e, widthZ_35] at h; omega
    rw [if_neg this] at h2 h4
    rw [if_neg (by omega), if_neg (by omega)] at h2
    omega
  · have : x.1 ≠ 35 := fun e => by rw [e, widthZ_35] at h; omega
    rw [if_neg this] at h2 h4
    rw [if_neg (by omega), if_pos h] at h2
    omega
  · rw [if_pos h] at h2; omega
  · rw [if_neg h] at h4; omega
theorem insBytes_len {x : Int × Int × Int} (h : okIns x = true) : (insBytes x).length = widthZ x.1 := by
  have h0 := (okIns_bounds h).1
  have hle := widthZ_le x.1
  unfold insBytes
  split
  · next h1 => rw [h1]; rfl
  · split
    · next h2 => rw [h2]; rfl
    · have : widthZ x.1 = 3 := by omega
      rw [this]
      split <;> rfl
theorem insBytes_lt {x : Int × Int × Int} (h : okIns x = true) : ∀ y ∈ insBytes x, y < 256 := by
  obtain ⟨h0, h1, h2, h3, h4, h5, h6, h7⟩ := okIns_bounds h
  intro y hy
  unfold insBytes at hy
  split at hy
  · simp at hy; omega
  · split at hy
    · next hw => have := h5 hw; simp at hy; omega
    · split at hy
      · next he => have := h6 he; simp at hy; omega
      · simp at hy; omega
/-- the instruction that bytes of a written one are -/
theorem dec_enc {x : Int × Int × Int} (h : okIns x = true) (b : Nat → Nat) (p : Nat) (hb : ∀ (j y : Nat), (insBytes x)[j]? = some y → b (p + j) = y) :
    widthN (b p) = widthZ x.1 ∧ insOf b p = (p, x.1.toNat, x.2.1.toNat, x.2.2.toNat) := by
  obtain ⟨h0, h1, h2, h3, h4, h5, h6, h7⟩ := okIns_bounds h
  have hle := widthZ_le x.1
  obtain ⟨op, A, B⟩ := x
  simp only at *
  obtain ⟨o, rfl⟩ : ∃ n : Nat, op = n := ⟨op.toNat, by omega⟩
  obtain ⟨a, rfl⟩ : ∃ n : Nat, A = n := ⟨A.toNat, by omega⟩
  obtain ⟨c, rfl⟩ : ∃ n : Nat, B = n := ⟨B.toNat, by omega⟩
  simp only [Int.toNat_natCast] at *
  rw [widthZ_nat] at *
  have e0 : ∀ l : List Nat, insBytes ((o : Int), (a : Int), (c : Int)) = o :: l → b p = o := fun l hl => by
    have := hb 0 o (by rw [hl]; rfl)
    rwa [Nat.add_zero] at this
  unfold insBytes at hb e0
  simp only [Int.toNat_natCast, widthZ_nat] at hb e0
  by_cases w1 : widthN o = 1
  · rw [if_pos w1] at hb e0
    have q0 := e0 _ rfl
    obtain ⟨z1, z2⟩ := h4 w1
    have za : a = 0 := by omega
    have zc : c = 0 := by omega
    have o35 : o ≠ 35 := fun e => by rw [e] at w1; revert w1; decide
    rw [q0]
    refine ⟨rfl, ?_⟩
    unfold insOf insA insB
    rw [q0, w1, if_pos (by omega), if_neg o35, za, zc]
  · rw [if_neg w1] at hb e0
    by_cases w2 : widthN o = 2
    · rw [if_pos w2] at hb e0
      have q0 := e0 _ rfl
      have q1 := hb 1 a rfl
      obtain ⟨z1, z2⟩ := h5 w2
      have zc : c = 0 := by omega
      have o35 : o ≠ 35 := fun e => by rw [e] at w2; revert w2; decide
      rw [q0]
      refine ⟨rfl, ?_⟩
      unfold insOf insA insB
      rw [q0, w2, if_neg (by omega), if_neg (by omega), if_neg o35, q1, zc]
    · rw [if_neg w2] at hb e0
      have w3 : widthN o = 3 := by omega
      by_cases o35 : o = 35
      · subst o35
        rw [if_pos (show ((35 : Nat) : Int) = 35 from rfl)] at hb e0
        have q0 := e0 _ rfl
        have q1 := hb 1 a rfl
        have q2 := hb 2 c rfl
        rw [q0]
        refine ⟨rfl, ?_⟩
        unfold insOf insA insB
        rw [q0, w3, if_neg (by omega), if_neg (by omega), if_pos rfl, q1, q2]
      · rw [if_neg (by omega)] at hb e0
        have q0 := e0 _ rfl
        have q1 := hb 1 _ rfl
        have q2 := hb 2 _ rfl
        have zc : c = 0 := by have := h7 (by omega); omega
        rw [q0]
        refine ⟨rfl, ?_⟩
        unfold insOf insA insB
        rw [q0, w3, if_neg (by omega), if_pos ⟨rfl, o35⟩, if_neg o35, q1, q2, zc]
        simp
        omega
/-- bytes that are an instruction are how it is written -/
theorem enc_dec (b : Nat → Nat) (p : Nat) (h0 : widthN (b p) ≠ 0) (hb : ∀ i, i < widthN (b p) → b (p + i) < 256) :
    okIns ((b p : Nat), (insA b p : Nat), (insB b p : Nat)) = true ∧ insBytes ((b p : Nat), (insA b p : Nat), (insB b p : Nat)) = (List.range (widthN (b p))).map fun i => b (p + i) := by
  have hle := widthN_le (b p)
  have q0 := hb 0 (by omega)
  rw [Nat.add_zero] at q0
  unfold okIns insBytes mostA mostB insA insB
  simp only [widthZ_nat, Int.toNat_natCast, decide_eq_true_eq]
  rcases (by omega : widthN (b p) = 1 ∨ widthN (b p) = 2 ∨ widthN (b p) = 3) with h1 | h1 | h1
  · have o35 : b p ≠ 35 := fun e => by rw [e] at h1; revert h1; decide
    have o35' : ¬ ((b p : Nat) : Int) = 35 := by omega
    simp [h1, o35, o35']
  · have q1 := hb 1 (by omega)
    have o35 : b p ≠ 35 := fun e => by rw [e] at h1; revert h1; decide
    have o35' : ¬ ((b p : Nat) : Int) = 35 := by omega
    simp [h1, o35, o35', List.range_succ]
    omega
  · have q1 := hb 1 (by omega)
    have q2 := hb 2 (by omega)
    by_cases o35 : b p = 35
    · have h35 : widthN 35 = 3 := by decide
      simp [o35, h35, List.range_succ]
      omega
    · have o35' : ¬ ((b p : Nat) : Int) = 35 := by omega
      simp [h1, o35, o35', List.range_succ]
      omega
end Go.Proofs.Yteipnfnbepnpjaa
