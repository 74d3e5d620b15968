/- plain facts: what is read is written as it was, and the other way round. -/
import Derived.Test.YteipnfnbepnpjaaCodeWrMath
namespace Go.Proofs.Yteipnfnbepnpjaa
set_option linter.unusedVariables false

/-- a row of instructions as what is to be written -/
def toQ (l : List InsT) : List (Int × Int × Int) := l.map fun x => ((x.2.1 : Nat), (x.2.2.1 : Nat), (x.2.2.2 : Nat))
theorem toQ_snoc (l : List InsT) (x : InsT) : toQ (l ++ [x]) = toQ l ++ [(((x.2.1 : Nat) : Int), ((x.2.2.1 : Nat) : Int), ((x.2.2.2 : Nat) : Int))] := by simp [toQ]
theorem wrFrom_append {l m : List (Int × Int × Int)} {acc bs : List Nat} (h : wrFrom l acc = (bs, 0)) : wrFrom (l ++ m) acc = wrFrom m bs := by
  induction l generalizing acc with
  | nil => simp only [wrFrom, Prod.mk.injEq] at h; rw [List.nil_append, h.1]
  | cons x l ih =>
    rw [List.cons_append]
    cases hx : okIns x
    · rw [wrFrom_bad hx] at h; cases h
    · rw [wrFrom_on hx] at h ⊢
      exact ih h
theorem range_add (b : Nat → Nat) (p n : Nat) : (List.range (p + n)).map b = (List.range p).map b ++ (List.range n).map (fun i => b (p + i)) := by
  rw [List.range_add, List.map_append, List.map_map]
  rfl
/-- what is read of bytes is written as they are -/
theorem wr_rdFrom {b : Nat → Nat} {len : Nat} (hb : ∀ i, i < len → b i < 256) : ∀ (f p : Nat) (acc l : List InsT), len ≤ p + f → rdFrom b len f p acc = (l, 0) → p ≤ len → wrFrom (toQ acc) [] = ((List.range p).map b, 0) → wrFrom (toQ l) [] = ((List.range len).map b, 0)
  | 0, p, acc, l, hf, h, hp, hw => by
    have : p = len := by omega
    subst this
    simp only [rdFrom, Prod.mk.injEq] at h
    rw [← h.1]; exact hw
  | f + 1, p, acc, l, hf, h, hp, hw => by
    by_cases hlt : p < len
    · by_cases h0 : widthN (b p) = 0
      · rw [rdFrom_none hlt h0] at h; cases h
      · by_cases h1 : len < p + widthN (b p)
        · rw [rdFrom_short hlt h0 h1] at h; cases h
        · rw [rdFrom_on hlt h0 h1] at h
          obtain ⟨e1, e2⟩ := enc_dec b p h0 (fun i hi => hb _ (by omega))
          refine wr_rdFrom hb f _ _ l (by omega) h (by omega) ?_
          rw [toQ_snoc, wrFrom_append hw]
          show wrFrom ((((b p : Nat) : Int), ((insA b p : Nat) : Int), ((insB b p : Nat) : Int)) :: []) _ = _
          rw [wrFrom_on e1, e2, range_add]
          rfl
    · rw [rdFrom_end hlt] at h
      have : p = len := by omega
      subst this
      simp only [Prod.mk.injEq] at h
      rw [← h.1]; exact hw
theorem wr_rd {b : Nat → Nat} {len : Nat} {l : List InsT} (hb : ∀ i, i < len → b i < 256) (h : rdAll b len = (l, 0)) : wrFrom (toQ l) [] = ((List.range len).map b, 0) :=
  wr_rdFrom hb _ 0 [] l (by omega) h (Nat.zero_le _) rfl
/-- an error is one of these -/
theorem rdFrom_err {b : Nat → Nat} {len : Nat} : ∀ (f p : Nat) (acc : List InsT), (rdFrom b len f p acc).2 ≠ 0 → (rdFrom b len f p acc).1 = [] 
  | 0, p, acc, h => absurd rfl h
  | f + 1, p, acc, h => by
    by_cases hlt : p < len
    · by_cases h0 : widthN (b p) = 0
      · rw [rdFrom_none hlt h0]
      · by_cases h1 : len < p + widthN (b p)
        · rw [rdFrom_short hlt h0 h1]
        · rw [rdFrom_on hlt h0 h1] at h ⊢
          exact rdFrom_err f _ _ h
    · rw [rdFrom_end hlt] at h; exact absurd rfl h
/-- where the instructions stand -/
def placed : Nat → List (Int × Int × Int) → List InsT
  | _, [] => []
  | p, x :: l => (p, x.1.toNat, x.2.1.toNat, x.2.2.toNat) :: placed (p + widthZ x.1) l
def total : List (Int × Int × Int) → Nat
  | [] => 0
  | x :: l => widthZ x.1 + total l
theorem placed_len : ∀ (p : Nat) (l : List (Int × Int × Int)), (placed p l).length = l.length
  | _, [] => rfl
  | p, x :: l => by simp [placed, placed_len]
theorem wrFrom_len : ∀ (l : List (Int × Int × Int)) (acc bs : List Nat), wrFrom l acc = (bs, 0) → bs.length = acc.length + total l ∧ ∃ c, bs = acc ++ c
  | [], acc, bs, h => by simp only [wrFrom, Prod.mk.injEq] at h; rw [← h.1]; exact ⟨rfl, [], by simp⟩
  | x :: l, acc, bs, h => by
    cases hx : okIns x
    · rw [wrFrom_bad hx] at h; cases h
    · rw [wrFrom_on hx] at h
      obtain ⟨h1, c, h2⟩ := wrFrom_len l _ bs h
      rw [List.length_append, insBytes_len hx] at h1
      exact ⟨by rw [h1]; simp only [total]; omega, insBytes x ++ c, by rw [h2]; simp⟩
theorem wrFrom_lt : ∀ (l : List (Int × Int × Int)) (acc bs : List Nat) (e : Nat), wrFrom l acc = (bs, e) → (∀ y ∈ acc, y < 256) → ∀ y ∈ bs, y < 256
  | [], acc, bs, e, h, ha => by simp only [wrFrom, Prod.mk.injEq] at h; rw [← h.1]; exact ha
  | x :: l, acc, bs, e, h, ha => by
    cases hx : okIns x
    · rw [wrFrom_bad hx] at h; simp only [Prod.mk.injEq] at h; rw [← h.1]; intro y hy; cases hy
    · rw [wrFrom_on hx] at h
      refine wrFrom_lt l _ bs e h fun y hy => ?_
      rcases List.mem_append.1 hy with hy | hy
      · exact ha y hy
      · exact insBytes_lt hx y hy
/-- a beginning of what is written, read -/
theorem rd_wrFrom {n : Nat} {b : Nat → Nat} : ∀ (l : List (Int × Int × Int)) (acc bs : List Nat) (f : Nat) (out : List InsT), wrFrom l acc = (bs, 0) → (∀ i y, bs[i]? = some y → i < n → b i = y) → n ≤ bs.length → acc.length ≤ n → n ≤ acc.length + f →
    (∃ k, k ≤ l.length ∧ acc.length + total (l.take k) = n ∧ rdFrom b n f acc.length out = (out ++ placed acc.length (l.take k), 0)) ∨ (∃ k, k < l.length ∧ acc.length + total (l.take k) < n ∧ n < acc.length + total (l.take (k + 1)) ∧ rdFrom b n f acc.length out = ([], 7))
  | [], acc, bs, f, out, h, hb, hn, ha, hf => by
    simp only [wrFrom, Prod.mk.injEq] at h
    rw [← h.1] at hn
    have : acc.length = n := by omega
    exact .inl ⟨0, Nat.le_refl _, by simp [total, this], by rw [rdFrom_end (by omega)]; simp [placed]⟩
  | x :: l, acc, bs, f, out, h, hb, hn, ha, hf => by
    by_cases hlt : acc.length < n
    · cases hx : okIns x
      · rw [wrFrom_bad hx] at h; cases h
      · rw [wrFrom_on hx] at h
        obtain ⟨h1, c, h2⟩ := wrFrom_len l _ bs h
        have hlen := insBytes_len hx
        have h0 := (okIns_bounds hx).1
        obtain ⟨f, rfl⟩ : ∃ g, f = g + 1 := ⟨f - 1, by omega⟩
        have hat : ∀ (j y : Nat), (insBytes x)[j]? = some y → bs[acc.length + j]? = some y := fun j y hy => by
          have hj := (List.getElem?_eq_some_iff.1 hy).1
          rw [h2, List.append_assoc, List.getElem?_append_right (by omega), List.getElem?_append_left (by omega)]
          rw [← hy]; congr 1; omega
        have hop : b acc.length = x.1.toNat := by
          have hb0 : 0 < (insBytes x).length := by omega
          have e0 : (insBytes x)[0]? = some x.1.toNat := by
            unfold insBytes
            split
            · rfl
            · split
              · rfl
              · split
                · next he => rw [he]; rfl
                · rfl
          have := hat 0 _ e0
          rw [Nat.add_zero] at this
          exact hb _ _ this hlt
        have hw : widthN (b acc.length) = widthZ x.1 := by
          rw [hop]
          have := (okIns_bounds hx).2.1.1
          unfold widthZ
          rw [if_pos this]
        by_cases hs : n < acc.length + widthZ x.1
        · refine .inr ⟨0, by simp, by simp [total]; omega, by simp [total]; omega, ?_⟩
          exact rdFrom_short hlt (by rw [hw]; exact h0) (by rw [hw]; exact hs)
        · have hd := dec_enc hx b acc.length (fun j y hy => hb _ _ (hat j y hy) (by have := (List.getElem?_eq_some_iff.1 hy).1; omega))
          rw [rdFrom_on hlt (by rw [hw]; exact h0) (by rw [hw]; omega), hd.2, hd.1]
          have hal : acc.length + widthZ x.1 = (acc ++ insBytes x).length := by rw [List.length_append, hlen]
          rw [hal]
          have ih := rd_wrFrom (n := n) (b := b) l (acc ++ insBytes x) bs f (out ++ [(acc.length, x.1.toNat, x.2.1.toNat, x.2.2.toNat)]) h hb hn (by omega) (by omega)
          rw [← hal] at ih ⊢
          rcases ih with ⟨k, k1, k2, k3⟩ | ⟨k, k1, k2, k3, k4⟩
          · exact .inl ⟨k + 1, by simp; omega, by simp only [List.take_succ_cons, total]; omega, by rw [k3]; simp [placed]⟩
          · exact .inr ⟨k + 1, by simp; omega, by simp only [List.take_succ_cons, total]; omega, by rw [List.take_succ_cons]; simp only [total]; omega, k4⟩
    · have : acc.length = n := by omega
      exact .inl ⟨0, Nat.zero_le _, by simp [total, this], by rw [rdFrom_end hlt]; simp [placed]⟩
theorem wrFrom_ok : ∀ (l : List (Int × Int × Int)) (acc bs : List Nat), wrFrom l acc = (bs, 0) → ∀ x ∈ l, okIns x = true
  | [], acc, bs, h, x, hx => by cases hx
  | y :: l, acc, bs, h, x, hx => by
    cases hy : okIns y
    · rw [wrFrom_bad hy] at h; cases h
    · rw [wrFrom_on hy] at h
      rcases List.mem_cons.1 hx with rfl | hx
      · exact hy
      · exact wrFrom_ok l _ bs h x hx
theorem placed_at : ∀ (l : List (Int × Int × Int)) (p k : Nat) (x : Int × Int × Int), l[k]? = some x → (placed p l)[k]? = some (p + total (l.take k), x.1.toNat, x.2.1.toNat, x.2.2.toNat)
  | [], p, k, x, h => by simp at h
  | y :: l, p, 0, x, h => by simp at h; subst h; simp [placed, total]
  | y :: l, p, k + 1, x, h => by
    rw [List.getElem?_cons_succ] at h
    rw [placed, List.getElem?_cons_succ, placed_at l _ k x h, List.take_succ_cons, total, Nat.add_assoc]
theorem total_succ : ∀ (l : List (Int × Int × Int)) (k : Nat) (x : Int × Int × Int), l[k]? = some x → total (l.take (k + 1)) = total (l.take k) + widthZ x.1
  | [], k, x, h => by simp at h
  | y :: l, 0, x, h => by simp at h; subst h; simp [total]
  | y :: l, k + 1, x, h => by
    rw [List.getElem?_cons_succ] at h
    rw [List.take_succ_cons, List.take_succ_cons, total, total, total_succ l k x h, Nat.add_assoc]
theorem total_le (l : List (Int × Int × Int)) : total l ≤ 3 * l.length := by
  induction l with
  | nil => simp [total]
  | cons x l ih => have := widthZ_le x.1; simp only [total, List.length_cons]; omega
/-- all that is written, read -/
theorem rd_whole {b : Nat → Nat} : ∀ (l : List (Int × Int × Int)) (acc bs : List Nat) (f : Nat) (out : List InsT), wrFrom l acc = (bs, 0) → (∀ i y, bs[i]? = some y → b i = y) → bs.length ≤ acc.length + f →
    rdFrom b bs.length f acc.length out = (out ++ placed acc.length l, 0)
  | [], acc, bs, f, out, h, hb, hf => by
    simp only [wrFrom, Prod.mk.injEq] at h
    rw [← h.1, rdFrom_end (by omega)]
    simp [placed]
  | x :: l, acc, bs, f, out, h, hb, hf => by
    cases hx : okIns x
    · rw [wrFrom_bad hx] at h; cases h
    · rw [wrFrom_on hx] at h
      obtain ⟨h1, c, h2⟩ := wrFrom_len l _ bs h
      have hlen := insBytes_len hx
      have h0 := (okIns_bounds hx).1
      rw [List.length_append, hlen] at h1
      obtain ⟨f, rfl⟩ : ∃ g, f = g + 1 := ⟨f - 1, by omega⟩
      have hat : ∀ (j y : Nat), (insBytes x)[j]? = some y → bs[acc.length + j]? = some y := fun j y hy => by
        have hj := (List.getElem?_eq_some_iff.1 hy).1
        rw [h2, List.append_assoc, List.getElem?_append_right (by omega), List.getElem?_append_left (by omega)]
        rw [← hy]; congr 1; omega
      have hd := dec_enc hx b acc.length (fun j y hy => hb _ _ (hat j y hy))
      rw [rdFrom_on (by omega) (by rw [hd.1]; exact h0) (by rw [hd.1]; omega), hd.2, hd.1]
      have hal : acc.length + widthZ x.1 = (acc ++ insBytes x).length := by rw [List.length_append, hlen]
      have ih := rd_whole (b := b) l (acc ++ insBytes x) bs f (out ++ [(acc.length, x.1.toNat, x.2.1.toNat, x.2.2.toNat)]) h hb (by omega)
      rw [hal, ih, ← hal]
      simp [placed]
theorem rd_wr {l : List (Int × Int × Int)} {bs : List Nat} (h : wrFrom l [] = (bs, 0)) : rdAll (fun i => bs[i]?.getD 0) bs.length = (placed 0 l, 0) := by
  have := rd_whole (b := fun i => bs[i]?.getD 0) l [] bs (bs.length + 1) [] h (fun i y hy => by simp [hy]) (by simp)
  rw [List.nil_append] at this
  exact this
end Go.Proofs.Yteipnfnbepnpjaa
