/- runs of straight code: for VerifyDeep and VerifyLoops. -/
import Derived.Test.YteipnfnbepnpjaaVer9
namespace Go.Proofs.Yteipnfnbepnpjaa
open Go.RowKit Go.Maps
set_option linter.unusedVariables false

/-- heights up to k are known, the others not -/
def hUp (H : Nat → Int) (n k : Nat) : List Int := (List.range n).map fun j => if j ≤ k then H j else -1
theorem hUp_len (H : Nat → Int) (n k : Nat) : (hUp H n k).length = n := by simp [hUp]
theorem hUp_at {H : Nat → Int} {n k j : Nat} (hj : j < n) : hN (hUp H n k) j = if j ≤ k then H j else -1 := by
  unfold hN hUp; rw [List.getElem?_map, List.getElem?_range hj]; rfl
theorem hUp_set {H : Nat → Int} {n k : Nat} (hk : k + 1 < n) : (hUp H n k).set (k + 1) (H (k + 1)) = hUp H n (k + 1) := by
  refine List.ext_getElem? fun j => ?_
  by_cases hj : j < n
  · rw [List.getElem?_set]
    unfold hUp
    rw [List.getElem?_map, List.getElem?_map, List.getElem?_range hj, List.length_map, List.length_range]
    by_cases h : k + 1 = j
    · subst h; rw [if_pos rfl, if_pos hj]; simp
    · rw [if_neg h]
      simp only [Option.map_some]
      by_cases h2 : j ≤ k
      · rw [if_pos h2, if_pos (by omega)]
      · rw [if_neg h2, if_neg (by omega)]
  · rw [List.getElem?_eq_none (by rw [List.length_set, hUp_len]; omega), List.getElem?_eq_none (by rw [hUp_len]; omega)]
theorem hUp_zero {H : Nat → Int} {n : Nat} (hn : 0 < n) (h0 : H 0 = 0) : (List.replicate n (-1 : Int)).set 0 0 = hUp H n 0 := by
  refine List.ext_getElem? fun j => ?_
  by_cases hj : j < n
  · rw [List.getElem?_set]
    unfold hUp
    rw [List.getElem?_map, List.getElem?_range hj, List.length_replicate, List.getElem?_replicate, if_pos hj]
    by_cases h : 0 = j
    · subst h; rw [if_pos rfl, if_pos hj]; simp [h0]
    · rw [if_neg h]
      simp only [Option.map_some]
      rw [if_neg (by omega)]
  · rw [List.getElem?_eq_none (by rw [List.length_set, List.length_replicate]; omega), List.getElem?_eq_none (by rw [hUp_len]; omega)]
/-- an instruction that goes on behind itself alone -/
structure Plain (l : List InsT) (H : Nat → Int) (k : Nat) : Prop where
  falls : fallsN (iN l k).2.1 = true
  jumps : jumpsN (iN l k).2.1 = false
  take : ((effN 0 (iN l k).2.1 (iN l k).2.2.1 (iN l k).2.2.2).1 : Int) ≤ H k
  next : H (k + 1) = H k - ((effN 0 (iN l k).2.1 (iN l k).2.2.1 (iN l k).2.2.2).1 : Nat) + ((effN 0 (iN l k).2.1 (iN l k).2.2.1 (iN l k).2.2.2).2 : Nat)
  top : H (k + 1) ≤ 100
theorem run_plain {l : List InsT} {H : Nat → Int} {k f : Nat} (hk : k + 1 < l.length) (hp : Plain l H k) : runV l (f + 1) (hUp H l.length k) [k] = runV l f (hUp H l.length (k + 1)) [k + 1] := by
  have hh : hN (hUp H l.length k) k = H k := by rw [hUp_at (by omega), if_pos (Nat.le_refl _)]
  have hh1 : hN (hUp H l.length k) (k + 1) = -1 := by rw [hUp_at hk, if_neg (by omega)]
  have hb : behindN l (hUp H l.length k) k = H (k + 1) := by unfold behindN; rw [hh, hp.next]
  have hno : ¬ (hN (hUp H l.length k) k < ((effN 0 (iN l k).2.1 (iN l k).2.2.1 (iN l k).2.2.2).1 : Nat) ∨ 100 < behindN l (hUp H l.length k) k) := by
    rw [hh, hb]
    have := hp.take
    have := hp.top
    omega
  have hc : comeN (hUp H l.length k) [] (k + 1) (behindN l (hUp H l.length k) k) = (true, hUp H l.length (k + 1), [k + 1]) := by
    unfold comeN
    rw [hh1, if_pos (by omega), hb, hUp_set hk]
    rfl
  have hn : nextN l (hUp H l.length k) [] k = ((0, 0), hUp H l.length (k + 1), [k + 1]) := by
    rw [next_c4 hno hp.falls (by omega) (by rw [hc]), hc]
    exact else_1 hp.jumps
  show (if (nextN l (hUp H l.length k) [] k).1.2 = 0 then _ else _) = _
  rw [hn]
  rfl
theorem run_plains {l : List InsT} {H : Nat → Int} {f : Nat} : ∀ (d k : Nat), k + d < l.length → (∀ j, k ≤ j → j < k + d → Plain l H j) → runV l (f + d) (hUp H l.length k) [k] = runV l f (hUp H l.length (k + d)) [k + d]
  | 0, k, _, _ => rfl
  | d + 1, k, h1, h2 => by
    rw [show f + (d + 1) = (f + d) + 1 by omega, run_plain (by omega) (h2 k (Nat.le_refl _) (by omega)), run_plains d (k + 1) (by omega) (fun j hj hj2 => h2 j (by omega) (by omega)), show k + 1 + d = k + (d + 1) by omega]
theorem iN_some {l : List InsT} {k : Nat} {x : InsT} (h : l[k]? = some x) : iN l k = x := by unfold iN; rw [h]; rfl
theorem nums_none {loc : Nat} {l : List InsT} : ∀ r : List InsT, (∀ x ∈ r, numbersN loc l x = 0) → numsN loc l r = none
  | [], _ => rfl
  | i :: r, h => by
    have h0 := h i (by simp)
    show (if numbersN loc l i = 0 then numsN loc l r else _) = none
    rw [if_pos h0]
    exact nums_none r fun x hx => h x (by simp [hx])
theorem fun_check {F loc len : Nat} {b : Nat → Nat} {l : List InsT} {R : Nat × Nat} (hr : rdAll b len = (l, 0)) (hl : 0 < l.length) (hn : ∀ x ∈ l, numbersN loc l x = 0) (hrun : runV l F ((List.replicate l.length (-1)).set 0 0) [0] = some R) : funcN F loc b len = some R := by
  unfold funcN
  rw [hr]
  rw [if_pos rfl, if_neg (show ¬ l.length = 0 by omega)]
  unfold checkN
  rw [nums_none l hn]
  exact hrun
/-- rows of operations of one byte each: Nil, Pop -/
structure OneB (o : Nat → Nat) : Prop where
  op : ∀ k, o k = 2 ∨ o k = 5
def opsL (o : Nat → Nat) (p n : Nat) : List (Int × Int × Int) := (List.range' p n).map fun k => ((o k : Int), 0, 0)
theorem one_ok {o : Nat → Nat} (h : OneB o) (k : Nat) : okIns ((o k : Int), 0, 0) = true ∧ insBytes ((o k : Int), 0, 0) = [o k] ∧ widthZ (o k : Int) = 1 := by
  rcases h.op k with e | e <;> rw [e] <;> decide
theorem opsL_wr {o : Nat → Nat} (h : OneB o) : ∀ (n p : Nat) (t : List (Int × Int × Int)) (acc : List Nat), wrFrom (opsL o p n ++ t) acc = wrFrom t (acc ++ (List.range' p n).map o)
  | 0, p, t, acc => by simp [opsL]
  | n + 1, p, t, acc => by
    obtain ⟨h1, h2, _⟩ := one_ok h p
    have e : opsL o p (n + 1) ++ t = ((o p : Int), 0, 0) :: (opsL o (p + 1) n ++ t) := by simp [opsL, List.range'_succ]
    rw [e, wrFrom_on h1, h2, opsL_wr h n (p + 1) t]
    simp [List.range'_succ]
theorem opsL_placed {o : Nat → Nat} (h : OneB o) : ∀ (n p q : Nat) (t : List (Int × Int × Int)), placed q (opsL o p n ++ t) = (List.range' p n).map (fun k => ((q - p) + k, o k, 0, 0)) ++ placed (q + n) t ∨ q < p
  | 0, p, q, t => by left; simp [opsL]
  | n + 1, p, q, t => by
    by_cases hq : q < p
    · exact .inr hq
    left
    obtain ⟨_, _, h3⟩ := one_ok h p
    have e : opsL o p (n + 1) ++ t = ((o p : Int), 0, 0) :: (opsL o (p + 1) n ++ t) := by simp [opsL, List.range'_succ]
    rw [e]
    show (q, ((o p : Int)).toNat, 0, 0) :: placed (q + widthZ (o p : Int)) (opsL o (p + 1) n ++ t) = _
    rw [h3]
    rcases opsL_placed h n (p + 1) (q + 1) t with ih | ih
    · rw [ih, List.range'_succ, Int.toNat_natCast]
      simp only [List.map_cons, List.cons_append]
      rw [show q - p + p = q by omega, show q + 1 - (p + 1) = q - p by omega, show q + 1 + n = q + (n + 1) by omega]
    · omega
/-- straight code, and an end -/
theorem straight {o : Nat → Nat} (h : OneB o) (n : Nat) (x : Int × Int × Int) (hx : okIns x = true) :
    rdAll (byL ((List.range n).map o ++ insBytes x)) ((List.range n).map o ++ insBytes x).length = ((List.range n).map (fun k => (k, o k, 0, 0)) ++ [(n, x.1.toNat, x.2.1.toNat, x.2.2.toNat)], 0) := by
  have hw : wrFrom (opsL o 0 n ++ [x]) [] = ((List.range n).map o ++ insBytes x, 0) := by
    rw [opsL_wr h n 0 [x] [], wrFrom_on hx, List.nil_append, ← List.range_eq_range']
    rfl
  have := rd_wr hw
  rw [show byL ((List.range n).map o ++ insBytes x) = fun i => ((List.range n).map o ++ insBytes x)[i]?.getD 0 from rfl, this]
  rcases opsL_placed h n 0 0 [x] with e | e
  · rw [e, ← List.range_eq_range']
    simp [placed]
  · omega
/-- the instructions of straight code -/
def strL (o : Nat → Nat) (n : Nat) (x : Nat × Nat × Nat) : List InsT := (List.range n).map (fun k => (k, o k, 0, 0)) ++ [(n, x)]
theorem strL_len (o : Nat → Nat) (n : Nat) (x : Nat × Nat × Nat) : (strL o n x).length = n + 1 := by simp [strL]
theorem strL_lt {o : Nat → Nat} {n : Nat} {x : Nat × Nat × Nat} {k : Nat} (hk : k < n) : (strL o n x)[k]? = some (k, o k, 0, 0) := by
  unfold strL
  rw [List.getElem?_append_left (by simpa using hk), List.getElem?_map, List.getElem?_range hk]
  rfl
theorem strL_end {o : Nat → Nat} {n : Nat} {x : Nat × Nat × Nat} : (strL o n x)[n]? = some (n, x) := by
  unfold strL
  rw [List.getElem?_append_right (by simp)]
  simp
theorem strL_at {o : Nat → Nat} {n : Nat} {x : Nat × Nat × Nat} {k : Nat} (hk : k ≤ n) : (strL o n x)[k]?.map Prod.fst = some k := by
  rcases Nat.lt_or_eq_of_le hk with h | rfl
  · rw [strL_lt h]; rfl
  · rw [strL_end]; rfl
theorem strL_place {o : Nat → Nat} {n : Nat} {x : Nat × Nat × Nat} : ∀ m, m ≤ n → placeN (strL o n x) (m + 1) 0 = some 0
  | 0, hm => by
    show (if (strL o n x)[0]?.map Prod.fst = some 0 then some 0 else _) = some 0
    rw [strL_at hm, if_pos rfl]
  | m + 1, hm => by
    show (if (strL o n x)[m + 1]?.map Prod.fst = some 0 then some (m + 1) else placeN (strL o n x) (m + 1) 0) = some 0
    rw [strL_at hm, if_neg (by simp), strL_place m (by omega)]
theorem strL_nums {o : Nat → Nat} (h : OneB o) {n loc : Nat} {x : Nat × Nat × Nat} (hx : numbersN loc (strL o n x) (n, x) = 0) : ∀ y ∈ strL o n x, numbersN loc (strL o n x) y = 0 := by
  intro y hy
  obtain ⟨k, hk, e⟩ := List.getElem_of_mem hy
  rw [strL_len] at hk
  have e2 := List.getElem?_eq_getElem (l := strL o n x) (i := k) (by rw [strL_len]; exact hk)
  rw [e] at e2
  rcases Nat.lt_or_eq_of_le (Nat.lt_succ_iff.1 hk) with h1 | rfl
  · rw [strL_lt h1] at e2
    cases e2
    unfold numbersN
    rcases h.op k with e | e <;> (dsimp only; rw [e]; rfl)
  · rw [strL_end] at e2
    cases e2
    exact hx
theorem strL_plain {o : Nat → Nat} {H : Nat → Int} {n : Nat} {x : Nat × Nat × Nat} {k : Nat} (hk : k < n) (h : (o k = 2 ∧ 0 ≤ H k ∧ H (k + 1) = H k + 1) ∨ (o k = 5 ∧ 1 ≤ H k ∧ H (k + 1) = H k - 1)) (ht : H (k + 1) ≤ 100) : Plain (strL o n x) H k := by
  have e : iN (strL o n x) k = (k, o k, 0, 0) := iN_some (strL_lt hk)
  rcases h with ⟨h1, h2, h3⟩ | ⟨h1, h2, h3⟩
  · refine ⟨?_, ?_, ?_, ?_, ht⟩ <;> rw [e] <;> dsimp only <;> rw [h1]
    · rfl
    · rfl
    · exact h2
    · rw [h3]; show _ = H k - ((0 : Nat) : Int) + ((1 : Nat) : Int); omega
  · refine ⟨?_, ?_, ?_, ?_, ht⟩ <;> rw [e] <;> dsimp only <;> rw [h1]
    · rfl
    · rfl
    · exact h2
    · rw [h3]; show _ = H k - ((1 : Nat) : Int) + ((0 : Nat) : Int); omega
/-- VerifyDeep's code -/
theorem deep_ok (n loc : Nat) (hn : 1 ≤ n) : ∃ F, F ≤ 1000 + n ∧ funcN F loc (byL (List.replicate n 2 ++ [22])) (n + 1) = some (if 100 < n then (100, 10) else (0, 0)) := by
  have ho : OneB (fun _ => 2) := ⟨fun _ => .inl rfl⟩
  have hr := straight ho n (22, 0, 0) (by decide)
  have hb : (List.range n).map (fun _ => 2) ++ insBytes (22, 0, 0) = List.replicate n 2 ++ [22] := by
    rw [show insBytes (22, 0, 0) = [22] by decide, List.map_const', List.length_range]
  rw [hb, show (List.replicate n 2 ++ [22] : List Nat).length = n + 1 by simp] at hr
  have hl : (List.range n).map (fun k => (k, (fun _ => 2) k, 0, 0)) ++ [(n, ((22 : Int), (0 : Int), (0 : Int)).1.toNat, ((22 : Int), (0 : Int), (0 : Int)).2.1.toNat, ((22 : Int), (0 : Int), (0 : Int)).2.2.toNat)] = strL (fun _ => 2) n (22, 0, 0) := rfl
  rw [hl] at hr
  have hlen := strL_len (fun _ => 2) n (22, 0, 0)
  have hz : (List.replicate (strL (fun _ => 2) n (22, 0, 0)).length (-1 : Int)).set 0 0 = hUp (fun j => (j : Int)) (strL (fun _ => 2) n (22, 0, 0)).length 0 := hUp_zero (by omega) rfl
  have hnum : ∀ y ∈ strL (fun _ => 2) n (22, 0, 0), numbersN loc (strL (fun _ => 2) n (22, 0, 0)) y = 0 := strL_nums ho (by unfold numbersN; rfl)
  by_cases h : 100 < n
  · rw [if_pos h]
    refine ⟨1 + 100, by omega, fun_check hr (by omega) hnum ?_⟩
    rw [hz, run_plains 100 0 (by omega) (fun j _ hj => strL_plain (by omega) (.inl ⟨rfl, by omega, by omega⟩) (by omega))]
    have e : iN (strL (fun _ => 2) n (22, 0, 0)) (0 + 100) = (100, 2, 0, 0) := iN_some (strL_lt (by omega))
    have hh : hN (hUp (fun j => (j : Int)) (strL (fun _ => 2) n (22, 0, 0)).length (0 + 100)) (0 + 100) = 100 := by rw [hUp_at (by omega), if_pos (Nat.le_refl _)]; rfl
    have hn1 : nextN (strL (fun _ => 2) n (22, 0, 0)) (hUp (fun j => (j : Int)) (strL (fun _ => 2) n (22, 0, 0)).length (0 + 100)) [] (0 + 100) = ((100, 10), hUp (fun j => (j : Int)) (strL (fun _ => 2) n (22, 0, 0)).length (0 + 100), []) := by
      rw [next_c1 (.inr (by unfold behindN; rw [hh, e]; decide)), e]
    show (if (nextN _ _ [] _).1.2 = 0 then _ else some (nextN _ _ [] _).1) = _
    rw [hn1]
    rfl
  · rw [if_neg h]
    refine ⟨2 + n, by omega, fun_check hr (by omega) hnum ?_⟩
    rw [hz, run_plains n 0 (by omega) (fun j _ hj => strL_plain (by omega) (.inl ⟨rfl, by omega, by omega⟩) (by omega)), Nat.zero_add]
    have e : iN (strL (fun _ => 2) n (22, 0, 0)) n = (n, 22, 0, 0) := iN_some strL_end
    have hh : hN (hUp (fun j => (j : Int)) (strL (fun _ => 2) n (22, 0, 0)).length n) n = n := by rw [hUp_at (by omega), if_pos (Nat.le_refl _)]
    have hn1 : nextN (strL (fun _ => 2) n (22, 0, 0)) (hUp (fun j => (j : Int)) (strL (fun _ => 2) n (22, 0, 0)).length n) [] n = ((0, 0), hUp (fun j => (j : Int)) (strL (fun _ => 2) n (22, 0, 0)).length n, []) := by
      rw [next_c5 ?_ (by rw [e]; rfl), else_1 (by rw [e]; rfl)]
      unfold behindN
      rw [hh, e]
      rintro (q | q)
      · have : ((effN 0 22 0 0).1 : Int) = 1 := rfl
        dsimp only at q
        omega
      · have e1 : ((effN 0 22 0 0).1 : Int) = 1 := rfl
        have e2 : ((effN 0 22 0 0).2 : Int) = 0 := rfl
        dsimp only at q
        omega
    show (if (nextN _ _ [] _).1.2 = 0 then runV _ 1 (nextN _ _ [] _).2.1 (nextN _ _ [] _).2.2 else _) = _
    rw [hn1]
    rfl
/-- VerifyLoops' code -/
def loopO (body : Nat) (k : Nat) : Nat := if k < 2 * body ∧ k % 2 = 1 then 5 else 2
def loopH (body : Nat) (j : Nat) : Int := if j ≤ 2 * body then ((j % 2 : Nat) : Int) else ((j - 2 * body : Nat) : Int)
theorem loops_ok (body more : Nat) (hm : more ≤ 3) : ∃ F, F ≤ 1000 + 2 * body + more ∧ funcN F 0 (byL ((List.range (2 * body + more)).map (loopO body) ++ [19, 0, 0])) (2 * body + more + 3) = some (0, if 0 < more then 10 else 0) := by
  obtain ⟨n, hn⟩ : ∃ n, n = 2 * body + more := ⟨_, rfl⟩
  rw [← hn]
  have ho : OneB (loopO body) := ⟨fun k => by unfold loopO; split <;> simp⟩
  have hr := straight ho n (19, 0, 0) (by decide)
  have hb : insBytes (19, 0, 0) = [19, 0, 0] := by decide
  rw [hb, show ((List.range n).map (loopO body) ++ [19, 0, 0] : List Nat).length = n + 3 by simp] at hr
  have hl : (List.range n).map (fun k => (k, loopO body k, 0, 0)) ++ [(n, ((19 : Int), (0 : Int), (0 : Int)).1.toNat, ((19 : Int), (0 : Int), (0 : Int)).2.1.toNat, ((19 : Int), (0 : Int), (0 : Int)).2.2.toNat)] = strL (loopO body) n (19, 0, 0) := rfl
  rw [hl] at hr
  have hlen := strL_len (loopO body) n (19, 0, 0)
  have hz : (List.replicate (strL (loopO body) n (19, 0, 0)).length (-1 : Int)).set 0 0 = hUp (loopH body) (strL (loopO body) n (19, 0, 0)).length 0 := hUp_zero (by omega) (by unfold loopH; simp)
  have hpl : placeN (strL (loopO body) n (19, 0, 0)) (strL (loopO body) n (19, 0, 0)).length 0 = some 0 := by rw [hlen]; exact strL_place n (Nat.le_refl _)
  have hnum : ∀ y ∈ strL (loopO body) n (19, 0, 0), numbersN 0 (strL (loopO body) n (19, 0, 0)) y = 0 := strL_nums ho (by
    unfold numbersN
    dsimp only
    rw [hpl]
    rfl)
  have hplain : ∀ j, j < n → Plain (strL (loopO body) n (19, 0, 0)) (loopH body) j := fun j hj => by
    refine strL_plain hj ?_ (by unfold loopH; split <;> omega)
    by_cases h1 : j < 2 * body ∧ j % 2 = 1
    · have hO : loopO body j = 5 := by unfold loopO; rw [if_pos h1]
      exact .inr ⟨hO, by unfold loopH; split <;> omega, by unfold loopH; split <;> split <;> omega⟩
    · have hO : loopO body j = 2 := by unfold loopO; rw [if_neg h1]
      exact .inl ⟨hO, by unfold loopH; split <;> omega, by unfold loopH; split <;> split <;> omega⟩
  refine ⟨2 + n, by omega, fun_check hr (by omega) hnum ?_⟩
  rw [hz, run_plains n 0 (by omega) (fun j _ hj => hplain j (by omega)), Nat.zero_add]
  have e : iN (strL (loopO body) n (19, 0, 0)) n = (n, 19, 0, 0) := iN_some strL_end
  have hh : hN (hUp (loopH body) (strL (loopO body) n (19, 0, 0)).length n) n = more := by
    rw [hUp_at (by omega), if_pos (Nat.le_refl _)]
    unfold loopH
    split <;> omega
  have h0 : hN (hUp (loopH body) (strL (loopO body) n (19, 0, 0)).length n) 0 = 0 := by
    rw [hUp_at (by omega), if_pos (Nat.zero_le _)]; unfold loopH; simp
  have hbh : behindN (strL (loopO body) n (19, 0, 0)) (hUp (loopH body) (strL (loopO body) n (19, 0, 0)).length n) n = more := by
    unfold behindN; rw [hh, e]; show (more : Int) - ((0 : Nat) : Int) + ((0 : Nat) : Int) = more; omega
  have hno : ¬ (hN (hUp (loopH body) (strL (loopO body) n (19, 0, 0)).length n) n < ((effN 0 (iN (strL (loopO body) n (19, 0, 0)) n).2.1 (iN (strL (loopO body) n (19, 0, 0)) n).2.2.1 (iN (strL (loopO body) n (19, 0, 0)) n).2.2.2).1 : Nat) ∨ 100 < behindN (strL (loopO body) n (19, 0, 0)) (hUp (loopH body) (strL (loopO body) n (19, 0, 0)).length n) n) := by
    rw [hbh, hh, e]
    show ¬ ((more : Int) < ((0 : Nat) : Int) ∨ (100 : Int) < (more : Int))
    omega
  have hc : comeN (hUp (loopH body) (strL (loopO body) n (19, 0, 0)).length n) [] 0 (more : Nat) = (decide ((0 : Int) = (more : Nat)), hUp (loopH body) (strL (loopO body) n (19, 0, 0)).length n, []) := by
    unfold comeN; rw [h0, if_neg (by omega)]
  have e0 : (iN (strL (loopO body) n (19, 0, 0)) 0).1 = 0 := by
    have := strL_at (o := loopO body) (n := n) (x := (19, 0, 0)) (k := 0) (Nat.zero_le _)
    unfold iN
    cases hx : (strL (loopO body) n (19, 0, 0))[0]? with
    | none => rfl
    | some y => rw [hx] at this; simpa using this
  have hn1 : nextN (strL (loopO body) n (19, 0, 0)) (hUp (loopH body) (strL (loopO body) n (19, 0, 0)).length n) [] n = ((0, if 0 < more then 10 else 0), hUp (loopH body) (strL (loopO body) n (19, 0, 0)).length n, []) := by
    rw [next_c5 hno (by rw [e]; rfl), hbh, else_2 (by rw [e]; rfl), if_neg (by rw [e]; show ¬ (19 = 40); decide)]
    have hp : placeN (strL (loopO body) n (19, 0, 0)) (strL (loopO body) n (19, 0, 0)).length (iN (strL (loopO body) n (19, 0, 0)) n).2.2.1 = some 0 := by rw [e]; exact hpl
    by_cases hm0 : 0 < more
    · rw [jump_2 (by omega) hp (by rw [hc]; simp; omega), hc, e0, if_pos hm0]
    · obtain rfl : more = 0 := by omega
      rw [jump_3 (by omega) hp (by rw [hc]; rfl), hc, if_neg hm0]
  show (if (nextN _ _ [] _).1.2 = 0 then runV _ 1 (nextN _ _ [] _).2.1 (nextN _ _ [] _).2.2 else some (nextN _ _ [] _).1) = _
  rw [hn1]
  by_cases hm0 : 0 < more
  · rw [if_pos hm0]; rfl
  · rw [if_neg hm0]; rfl
end Go.Proofs.Yteipnfnbepnpjaa
