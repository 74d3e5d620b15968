/- The walk of the law ModuleReads: it answers true for every input. -/
import Derived.Test.YteipnfnbepnpjaaModQR2
import Derived.Test.YteipnfnbepnpjaaModBytes
import Derived.Test.YteipnfnbepnpjaaModSame
import Derived.Test.YteipnfnbepnpjaaModAlive
namespace Go.Proofs.Yteipnfnbepnpjaa
open Go.RowKit Go.Maps
set_option linter.unusedVariables false
def Byt (l : List Nat) : Prop := ∀ y ∈ l, y < 256
theorem Byt.app {a b : List Nat} (h : Byt (a ++ b)) : Byt a ∧ Byt b := ⟨fun y hy => h y (List.mem_append_left _ hy), fun y hy => h y (List.mem_append_right _ hy)⟩
theorem takeM_inv {n : Nat} {s : RS} (h : (takeM n s).2.2 = 0) : s.2 = 0 ∧ s.1 = (takeM n s).1 ++ (takeM n s).2.1 := by
  obtain ⟨l, e⟩ := s
  by_cases he : e = 0
  · subst he
    by_cases hl : l.length < n
    · rw [takeM_short hl] at h; exact absurd (show (7 : Nat) = 0 from h) (by decide)
    · rw [takeM_ok (by omega)]; exact ⟨rfl, (List.take_append_drop n l).symm⟩
  · rw [takeM_fail he] at h; exact absurd h he
theorem oneM_inv {s : RS} (h : (oneM s).2.2 = 0) : s.2 = 0 ∧ s.1 = (oneM s).1 :: (oneM s).2.1 := by
  obtain ⟨h1, h2⟩ := takeM_inv (n := 1) (s := s) h
  refine ⟨h1, ?_⟩
  obtain ⟨y, hy⟩ := len1 (takeM_length 1 s)
  have e1 : (oneM s).1 = y := by unfold oneM; rw [hy]; rfl
  have e2 : (oneM s).2 = (takeM 1 s).2 := rfl
  rw [e1, e2, h2, hy]
  simp
theorem leB_leN : ∀ (t : List Nat), Byt t → leB t.length (leN t) = t
  | [], _ => rfl
  | x :: t, h => by
    have hx := h x (List.mem_cons_self ..)
    show ((x + 256 * leN t) % 256) :: leB t.length ((x + 256 * leN t) / 256) = x :: t
    rw [show (x + 256 * leN t) % 256 = x by omega, show (x + 256 * leN t) / 256 = leN t by omega, leB_leN t fun y hy => h y (List.mem_cons_of_mem _ hy)]
theorem bsOf_strOf (t : List Nat) (h : Byt t) : bsOf (strOf t) = t := by
  unfold bsOf
  show (((t.map fun (y : Nat) => (y : Int)).map (fun n => UInt8.ofNat n.toNat)).toArray.toList).map UInt8.toNat = t
  rw [List.toList_toArray, List.map_map, List.map_map]
  conv => rhs; rw [← List.map_id t]
  apply List.map_congr_left
  intro y hy
  show (UInt8.ofNat ((y : Int)).toNat).toNat = y
  have := h y hy
  rw [Int.toNat_natCast, UInt8.toNat_ofNat']
  omega
theorem strOf_size (t : List Nat) (h : Byt t) : (strOf t).size = t.length := by
  rw [← length_bsOf, bsOf_strOf t h]
/-- reading inverts writing -/
def IV {α : Type} (f : RS → α × RS) (en : α → List Nat) : Prop := ∀ s, (f s).2.2 = 0 → Byt s.1 → s.2 = 0 ∧ s.1 = en (f s).1 ++ (f s).2.1
theorem IV.const : IV constM encC := by
  intro s h hb
  by_cases h0 : (oneM s).2.2 = 0
  · obtain ⟨a1, a2⟩ := oneM_inv h0
    have hb1 : Byt (oneM s).2.1 := fun y hy => hb y (by rw [a2]; exact List.mem_cons_of_mem _ hy)
    rcases (by omega : (oneM s).1 = 0 ∨ (oneM s).1 = 1 ∨ 1 < (oneM s).1) with hk | hk | hk
    · rw [constM_b hk] at h ⊢
      obtain ⟨b1, b2⟩ := takeM_inv h
      refine ⟨a1, ?_⟩
      have hl := takeM_length 8 (oneM s).2
      have hby : Byt (takeM 8 (oneM s).2).1 := by rw [b2] at hb1; exact hb1.app.1
      have hlt := leN_lt _ hby
      rw [hl] at hlt
      have e : u64N (wrap64 (leN (takeM 8 (oneM s).2).1 : Nat)) = leN (takeM 8 (oneM s).2).1 := by
        unfold u64N wrap64; omega
      show s.1 = (0 :: leB 8 (u64N (wrap64 (leN (takeM 8 (oneM s).2).1 : Nat)))) ++ (takeM 8 (oneM s).2).2.1
      rw [e, show leB 8 (leN (takeM 8 (oneM s).2).1) = (takeM 8 (oneM s).2).1 by
        have := leB_leN _ hby
        rwa [hl] at this]
      rw [a2, hk, List.cons_append, ← b2]
    · rw [constM_c hk] at h ⊢
      obtain ⟨c1, c2⟩ := takeM_inv h
      obtain ⟨b1, b2⟩ := oneM_inv c1
      refine ⟨a1, ?_⟩
      have hl := takeM_length (oneM (oneM s).2).1 (oneM (oneM s).2).2
      have hby : Byt (takeM (oneM (oneM s).2).1 (oneM (oneM s).2).2).1 := by
        have : Byt (oneM (oneM s).2).2.1 := fun y hy => hb1 y (by rw [b2]; exact List.mem_cons_of_mem _ hy)
        rw [c2] at this; exact this.app.1
      show s.1 = ([1, (strOf _).size] ++ bsOf (strOf _)) ++ _
      rw [bsOf_strOf _ hby, strOf_size _ hby, hl, a2, hk, List.append_assoc, ← c2, b2]
      rfl
    · rw [constM_d h0 hk] at h; exact absurd (show (8 : Nat) = 0 from h) (by decide)
  · rw [constM_a h0] at h; exact absurd h h0
theorem constM_range (s : RS) : -9223372036854775808 ≤ (constM s).1.2.1 ∧ (constM s).1.2.1 < 9223372036854775808 := by
  by_cases h0 : (oneM s).2.2 = 0
  · rcases (by omega : (oneM s).1 = 0 ∨ (oneM s).1 = 1 ∨ 1 < (oneM s).1) with hk | hk | hk
    · rw [constM_b hk]; show _ ≤ wrap64 _ ∧ wrap64 _ < _; unfold wrap64; omega
    · rw [constM_c hk]; exact (by decide : (-9223372036854775808 : Int) ≤ 0 ∧ (0 : Int) < 9223372036854775808)
    · rw [constM_d h0 hk]; exact (by decide : (-9223372036854775808 : Int) ≤ 0 ∧ (0 : Int) < 9223372036854775808)
  · rw [constM_a h0]; exact (by decide : (-9223372036854775808 : Int) ≤ 0 ∧ (0 : Int) < 9223372036854775808)
theorem IV.func : IV funcM encF := by
  intro s h hb
  have h : (takeM ((oneM (oneM (oneM s).2).2).1 + 256 * (oneM (oneM (oneM (oneM s).2).2).2).1) (oneM (oneM (oneM (oneM s).2).2).2).2).2.2 = 0 := h
  obtain ⟨e1, e2⟩ := takeM_inv h
  obtain ⟨d1, d2⟩ := oneM_inv e1
  obtain ⟨c1, c2⟩ := oneM_inv d1
  obtain ⟨b1, b2⟩ := oneM_inv c1
  obtain ⟨a1, a2⟩ := oneM_inv b1
  refine ⟨a1, ?_⟩
  have hl := takeM_length ((oneM (oneM (oneM s).2).2).1 + 256 * (oneM (oneM (oneM (oneM s).2).2).2).1) (oneM (oneM (oneM (oneM s).2).2).2).2
  have hx : (oneM (oneM (oneM s).2).2).1 < 256 := hb _ (by rw [a2, b2, c2]; simp)
  obtain ⟨t, ht⟩ : ∃ t, t = takeM ((oneM (oneM (oneM s).2).2).1 + 256 * (oneM (oneM (oneM (oneM s).2).2).2).1) (oneM (oneM (oneM (oneM s).2).2).2).2 := ⟨_, rfl⟩
  have hfe : funcM s = (((((oneM s).1 : Nat) : Int), (((oneM (oneM s).2).1 : Nat) : Int), t.1), t.2) := by rw [ht]; rfl
  rw [hfe]
  rw [← ht] at e2 hl
  show s.1 = ([((((oneM s).1 : Nat) : Int)).toNat, ((((oneM (oneM s).2).1 : Nat) : Int)).toNat, t.1.length % 256, t.1.length / 256] ++ t.1) ++ t.2.1
  rw [hl, Int.toNat_natCast, Int.toNat_natCast, List.append_assoc, ← e2]
  rw [show ((oneM (oneM (oneM s).2).2).1 + 256 * (oneM (oneM (oneM (oneM s).2).2).2).1) % 256 = (oneM (oneM (oneM s).2).2).1 by omega, show ((oneM (oneM (oneM s).2).2).1 + 256 * (oneM (oneM (oneM (oneM s).2).2).2).1) / 256 = (oneM (oneM (oneM (oneM s).2).2).2).1 by omega]
  rw [a2, b2, c2, d2]
  rfl
theorem IV.class : IV classM encK := by
  intro s h hb
  have h : (oneM (oneM s).2).2.2 = 0 := h
  obtain ⟨b1, b2⟩ := oneM_inv h
  obtain ⟨a1, a2⟩ := oneM_inv b1
  refine ⟨a1, ?_⟩
  show s.1 = [((((oneM s).1 : Nat) : Int)).toNat, ((((oneM (oneM s).2).1 : Nat) : Int) - 1 + 1).toNat] ++ (oneM (oneM s).2).2.1
  rw [Int.toNat_natCast, show ((((oneM (oneM s).2).1 : Nat) : Int) - 1 + 1).toNat = (oneM (oneM s).2).1 by omega]
  rw [a2, b2]
  rfl
theorem manyA_inv {α : Type} {f : RS → α × RS} {en : α → List Nat} (hf : IV f en) : ∀ (n : Nat) (s : RS) (acc : List α), (manyA f n s acc).2.2 = 0 → Byt s.1 → ∃ l2, (manyA f n s acc).1 = acc ++ l2 ∧ l2.length = n ∧ s.2 = 0 ∧ s.1 = l2.flatMap en ++ (manyA f n s acc).2.1
  | 0, s, acc, h, _ => ⟨[], by simp [manyA], rfl, h, by simp [manyA]⟩
  | n + 1, s, acc, h, hb => by
    by_cases h0 : s.2 = 0
    · rw [manyA_go' f n s acc h0] at h ⊢
      have hbf : ∀ (h1 : (f s).2.2 = 0), Byt (f s).2.1 := fun h1 => by
        have := (hf s h1 hb).2
        rw [this] at hb
        exact hb.app.2
      have h1 : (f s).2.2 = 0 := by
        by_cases h1 : (f s).2.2 = 0
        · exact h1
        · rw [manyA_stop' f n _ _ h1] at h; exact absurd h h1
      obtain ⟨l2, e1, e2, e3, e4⟩ := manyA_inv hf n (f s).2 (acc ++ [(f s).1]) h (hbf h1)
      refine ⟨(f s).1 :: l2, by rw [e1]; simp, by simp [e2], h0, ?_⟩
      rw [(hf s h1 hb).2, e4]
      simp
    · rw [manyA_stop' f (n + 1) s acc h0] at h; exact absurd h h0
theorem manyM_inv {α : Type} {f : RS → α × RS} {en : α → List Nat} (hf : IV f en) (s : RS) (h : (manyM f s).2.2 = 0) (hb : Byt s.1) : s.2 = 0 ∧ s.1 = ((manyM f s).1.length :: (manyM f s).1.flatMap en) ++ (manyM f s).2.1 := by
  have hstop : (oneM s).2.2 = 0 := by
    by_cases h1 : (oneM s).2.2 = 0
    · exact h1
    · unfold manyM at h; rw [manyA_stop' f _ _ _ h1] at h; exact absurd h h1
  obtain ⟨a1, a2⟩ := oneM_inv hstop
  obtain ⟨l2, e1, e2, e3, e4⟩ := manyA_inv hf (oneM s).1 (oneM s).2 [] h (fun y hy => hb y (by rw [a2]; exact List.mem_cons_of_mem _ hy))
  refine ⟨a1, ?_⟩
  have e : (manyM f s).1 = l2 := by unfold manyM; rw [e1]; rfl
  rw [e, e2, a2, List.cons_append]
  exact congrArg _ e4
theorem mem_manyA {α : Type} {f : RS → α × RS} {P : α → Prop} (hf : ∀ s, P (f s).1) : ∀ (n : Nat) (s : RS) (acc : List α), (∀ x ∈ acc, P x) → ∀ x ∈ (manyA f n s acc).1, P x
  | 0, s, acc, h => h
  | n + 1, s, acc, h => by
    by_cases h0 : s.2 = 0
    · rw [manyA_go' f n s acc h0]
      exact mem_manyA hf n _ _ fun x hx => by
        rcases List.mem_append.1 hx with hx | hx
        · exact h x hx
        · cases List.mem_singleton.1 hx; exact hf s
    · rw [manyA_stop' f (n + 1) s acc h0]; exact h
theorem enc_read {bs : List Nat} {m : AM} (h : readM bs = (m, 0)) (hb : Byt bs) : m.rightE = 0 ∧ AMok m ∧ enc m = bs := by
  unfold readM at h
  obtain ⟨m', hm'⟩ : ∃ m', m' = (bodyM (headS bs)).1 := ⟨_, rfl⟩
  obtain ⟨sE, hsE⟩ : ∃ sE, sE = (bodyM (headS bs)).2 := ⟨_, rfl⟩
  have e0 : bodyM (headS bs) = (m', sE) := by rw [hm', hsE]
  rw [e0] at h
  dsimp only at h
  have hE : sE.2 = 0 ∧ m'.rightE = 0 ∧ m = m' := by
    by_cases h1 : sE.2 = 0
    · simp only [h1, if_true] at h
      by_cases h2 : m'.rightE = 0
      · simp only [h2, if_true] at h
        exact ⟨h1, h2, (by simpa using h.symm)⟩
      · simp only [h2, if_false] at h
        have := congrArg Prod.snd h
        exact absurd this h2
    · simp only [h1, if_false] at h
      have := congrArg Prod.snd h
      exact absurd this h1
  obtain ⟨h1, h2, rfl⟩ := hE
  have hz : ∀ c ∈ m.cs, -9223372036854775808 ≤ c.2.1 ∧ c.2.1 < 9223372036854775808 := by
    rw [hm']
    exact mem_manyA (f := constM) (P := fun c => -9223372036854775808 ≤ c.2.1 ∧ c.2.1 < 9223372036854775808) constM_range _ _ [] (fun x hx => absurd hx List.not_mem_nil)
  refine ⟨h2, amok h2 hz, ?_⟩
  -- the end
  obtain ⟨s0, hs0⟩ : ∃ s0, s0 = headS bs := ⟨_, rfl⟩
  obtain ⟨g, hg⟩ : ∃ g, g = oneM s0 := ⟨_, rfl⟩
  obtain ⟨c, hc⟩ : ∃ c, c = manyM constM g.2 := ⟨_, rfl⟩
  obtain ⟨f, hf⟩ : ∃ f, f = manyM funcM c.2 := ⟨_, rfl⟩
  obtain ⟨k, hk⟩ : ∃ k, k = manyM classM f.2 := ⟨_, rfl⟩
  have eb : bodyM (headS bs) = (⟨(g.1 : Nat), c.1, f.1, k.1⟩, wrongM (decide (0 < k.2.1.length)) k.2) := by rw [hk, hf, hc, hg, hs0]; rfl
  rw [eb] at hm' hsE
  have hk0 : k.2.2 = 0 ∧ k.2.1 = [] := by
    rw [hsE] at h1
    unfold wrongM at h1
    dsimp only at h1
    split at h1
    · exact absurd (show (8 : Nat) = 0 from h1) (by decide)
    · next hno =>
      refine ⟨h1, ?_⟩
      cases hl : k.2.1 with
      | nil => rfl
      | cons y l => exact absurd ⟨h1, by rw [hl]; simp⟩ hno
  -- the head
  have hf0 : f.2.2 = 0 := by
    by_cases h0 : f.2.2 = 0
    · exact h0
    · have h1 : (oneM f.2).2.2 ≠ 0 := fun e => h0 (oneM_inv e).1
      rw [hk] at hk0; unfold manyM at hk0; rw [manyA_stop' classM _ _ _ h1] at hk0; exact absurd hk0.1 h1
  have hc0 : c.2.2 = 0 := by
    by_cases h0 : c.2.2 = 0
    · exact h0
    · have h1 : (oneM c.2).2.2 ≠ 0 := fun e => h0 (oneM_inv e).1
      rw [hf] at hf0; unfold manyM at hf0; rw [manyA_stop' funcM _ _ _ h1] at hf0; exact absurd hf0 h1
  have hg0 : g.2.2 = 0 := by
    by_cases h0 : g.2.2 = 0
    · exact h0
    · have h1 : (oneM g.2).2.2 ≠ 0 := fun e => h0 (oneM_inv e).1
      rw [hc] at hc0; unfold manyM at hc0; rw [manyA_stop' constM _ _ _ h1] at hc0; exact absurd hc0 h1
  rw [hg] at hg0
  obtain ⟨g1, g2⟩ := oneM_inv hg0
  rw [← hg] at g2
  have hh : bs = [68, 67, 49] ++ s0.1 := by
    have hs : headS bs = wrongM (!(decide ((takeM 3 (bs, 0)).1 = [68, 67, 49]))) (takeM 3 (bs, 0)).2 := rfl
    rw [← hs0] at hs
    rw [hs] at g1
    unfold wrongM at g1 hs
    split at g1
    · exact absurd (show (8 : Nat) = 0 from g1) (by decide)
    · next hno =>
      rw [if_neg hno] at hs
      obtain ⟨_, t2⟩ := takeM_inv g1
      have hd : (takeM 3 (bs, 0)).1 = [68, 67, 49] := by
        by_cases hd : (takeM 3 (bs, 0)).1 = [68, 67, 49]
        · exact hd
        · exact absurd ⟨g1, by rw [decide_eq_false hd]; rfl⟩ hno
      rw [hs, ← hd]
      exact t2
  have hb0 : Byt s0.1 := by rw [hh] at hb; exact hb.app.2
  have hbg : Byt g.2.1 := fun y hy => hb0 y (by rw [g2]; exact List.mem_cons_of_mem _ hy)
  rw [hc] at hc0
  obtain ⟨_, c2⟩ := manyM_inv IV.const g.2 hc0 hbg
  rw [← hc] at c2
  have hbc : Byt c.2.1 := by rw [c2] at hbg; exact hbg.app.2
  rw [hf] at hf0
  obtain ⟨_, f2⟩ := manyM_inv IV.func c.2 hf0 hbc
  rw [← hf] at f2
  have hbf : Byt f.2.1 := by rw [f2] at hbc; exact hbc.app.2
  have hk1 := hk0.1
  rw [hk] at hk1
  obtain ⟨_, k2⟩ := manyM_inv IV.class f.2 hk1 hbf
  rw [← hk, hk0.2, List.append_nil] at k2
  have hm : m = (⟨(g.1 : Nat), c.1, f.1, k.1⟩ : AM) := hm'
  rw [hm]
  unfold enc
  dsimp only
  rw [Int.toNat_natCast, hh, g2, c2, f2, k2]
  simp
theorem ints_holds {w : World} {a : Option Addr} {len cap : Nat} {z : Nat → Int} (h : Ints .u8 w a len cap z) : ∃ l : List Nat, HoldsB w a len cap l := by
  have hr : ∀ i, i < len → 0 ≤ z i ∧ z i < 256 := fun i hi => by
    have := h.wf i hi
    simp [Lit.wf, IntKind.min, IntKind.max, IntKind.signed, IntKind.bits] at this
    omega
  refine ⟨(List.range len).map fun i => (z i).toNat, by simp, h.le, h.max, fun e => (h.nil e).2, fun i y hy => ?_, fun y hy => ?_⟩
  · have hi : i < len := by have := (List.getElem?_eq_some_iff.1 hy).1; simpa using this
    obtain ⟨b, off, e1, e2, e3⟩ := h.cell i hi
    rw [List.getElem?_map, List.getElem?_range hi] at hy
    cases hy
    exact ⟨b, off, e1, e2, by rw [e3, Int.toNat_of_nonneg (hr i hi).1]⟩
  · obtain ⟨i, hi, rfl⟩ := List.mem_map.1 hy
    have := hr i (List.mem_range.1 hi)
    show (z i).toNat < 256
    omega
theorem rowLt {w : World} {v : Value} {a : Option Addr} {n cap : Nat} {xs : List Value} (h : RowS w 1 v n xs) (e : v = .slice a n cap) : ∀ g off, a = some ⟨g, off, none⟩ → g < w.heap.size := fun g off ha => h.lt g (by rw [e, ha]; rfl)
set_option maxRecDepth 100000 in
set_option maxHeartbeats 4000000 in
theorem moduleReads.long (a : Option Addr) (len cap : Nat) (w : World) (hl : 3000 < len) :
    Calls Try.prog 8 #[.slice a len cap] w fun e w' => e = .returned (.bool true) ∧ Below w.heap.size w w' := by
  have HA := Lib.hid (fun W => alive20 W)
  have d0 : (3000 : Int) < (len : Int) := by omega
  go_enter Try.func8, Try.ntmps8
  go_wp2_with fail
  refine (HA.out _).mono ?_
  rintro e wa ⟨rfl, hba⟩
  have HB := Lib.hid hba
  clear hba
  go_wp2
  go_ret
  exact ⟨rfl, HB.out⟩
set_option maxRecDepth 100000 in
set_option maxHeartbeats 4000000 in
theorem moduleReads.short (a : Option Addr) (len cap : Nat) (bs : List Nat) (w : World) (h : HoldsB w a len cap bs) (hl : len ≤ 3000) :
    Calls Try.prog 8 #[.slice a len cap] w fun e w' => e = .returned (.bool true) ∧ Below w.heap.size w w' := by
  have HA := Lib.hid (fun W => alive20 W)
  have HN := Lib.hid (fun e w => num20_any e w)
  have HH := Lib.hid h
  have HEQ := Lib.hid h.eq
  have hlc := h.le
  have hmx := h.max
  have d0 : ¬ (3000 : Int) < (len : Int) := by omega
  obtain ⟨m, hm⟩ : ∃ m, m = (readM bs).1 := ⟨_, rfl⟩
  obtain ⟨E, hE⟩ : ∃ E, E = (readM bs).2 := ⟨_, rfl⟩
  have HRM : Hid (readM bs = (m, E)) := (show readM bs = (m, E) from by rw [hm, hE])
  have HSM := Lib.hid (fun W v v' (h : AMS W m v) (h' : AMS W m v') => sameMod_any m v v' W h h')
  obtain ⟨i0, hi, hz0, hz1, hz2⟩ := info_parts byteInfo
  have HI := Lib.hid hi
  have HZ0 := Lib.hid hz0
  have HZ1 := Lib.hid hz1
  have HZ2 := Lib.hid hz2
  have HO1 := Lib.hid (show 0 + len ≤ maxLen from by unfold maxLen; omega)
  have HO2 := Lib.hid (show (0 + len) * 1 ≤ 140737488355328 from by omega)
  have HLEN := Lib.hid hl
  clear h hm hE hi hz0 hz1 hz2 hl
  go_enter Try.func8, Try.ntmps8
  go_wp2_with fail
  refine (HA.out _).mono ?_
  rintro e wa ⟨rfl, hba⟩
  have HB := Lib.hid hba
  have HHa := Lib.hid (HH.out.below hba)
  clear hba
  go_wp2_with (at_builtin; refine wpList_row (by rfl) (.const (.slice none 0 0)) (.tmp 20) 26 rfl 5 i0 (.int .u8 0) 1 1 Try.underlying26 HI.out HZ0.out HZ1.out HZ2.out rfl (by decide) (.slice none 0 0) 0 [] rfl (RowS.nil _ _) (.slice a len cap) len (byteCells bs) rfl HHa.out.src (byteCells_one _) HO1.out HO2.out ?_)
  intro v5 w5 hr5 hg5 hv5
  have hA5 := (AccB.start wa).push0 (bs := bs) (acc2 := bs) HEQ.out rfl (by first | exact hr5 | (rw [List.length_nil, Nat.zero_add]; exact hr5)) hg5 hv5
  have HB5 : Hid (Below w.heap.size w w5) := (show Below w.heap.size w w5 from HB.out.trans (hA5.bel.mono HB.out.size))
  have HHb := Lib.hid (HHa.out.below hA5.bel)
  obtain ⟨a5, cap5, rfl, hh5⟩ := hA5.row.holdsB HH.out.lt
  have HR1 : Hid (Calls Try.prog 31 #[.slice a5 bs.length cap5] w5 (RdDone w5 (m, E))) := (show Calls _ _ _ _ _ from by
    have := read_any a5 bs.length cap5 bs w5 hh5 (by have := HEQ.out; have := HLEN.out; omega) (rowLt hA5.row rfl)
    rwa [HRM.out] at this)
  rw [← HEQ.out] at HR1 ⊢
  clear hr5 hg5 hv5 hA5 hh5
  go_wp2_with fail
  refine HR1.out.mono ?_
  rintro en w6 ⟨v6, rfl, hm6, hb6⟩
  have HB6 := Lib.hid (HB5.out.trans (hb6.mono HB5.out.size))
  have HHc := Lib.hid (HHb.out.below hb6)
  have HM6 := Lib.hid hm6
  obtain ⟨r1, k1, r2, k2, r3, k3, ra, rc, he6, _, _⟩ := hm6.at_
  unfold modXV AM.x at he6
  dsimp only at he6
  subst he6
  clear hm6 hb6 HR1
  obtain ⟨W7, hW7⟩ : ∃ W, W = w6.alloc (.cells #[.int .i64 m.G, .slice r1 m.cs.length k1, .slice r2 m.fs.length k2, .slice r3 m.ks.length k3] 47) := ⟨_, rfl⟩
  have hb7 : Below w6.heap.size w6 W7 := by rw [hW7]; exact (Below.refl _ _).alloc (Nat.le_refl _) _
  have hblk7 := heap_alloc_at w6 (.cells #[.int .i64 m.G, .slice r1 m.cs.length k1, .slice r2 m.fs.length k2, .slice r3 m.ks.length k3] 47)
  rw [← hW7] at hblk7
  have HBK7 := Lib.hid hblk7
  have HB7 := Lib.hid (HB6.out.trans (hb7.mono HB6.out.size))
  have HM7 := Lib.hid (HM6.out.below hb7)
  have HHd := Lib.hid (HHc.out.below hb7)
  have HW7 := Lib.hid hW7
  have HR2 : Hid (Calls Try.prog 33 #[.slice a len cap] W7 (RdDone W7 (m, E))) := (show Calls _ _ _ _ _ from by
    have := readq_any a len cap bs W7 HHd.out (by have := HEQ.out; have := HLEN.out; omega)
    rwa [HRM.out] at this)
  clear hb7 hblk7 hW7
  go_wp2_with fail
  rw [← HW7.out]
  refine HR2.out.mono ?_
  rintro en w8 ⟨v8, rfl, hm8, hb8⟩
  obtain ⟨q1, j1, q2, j2, q3, j3, qa, qc, he8, _, _⟩ := hm8.at_
  unfold modXV AM.x at he8
  dsimp only at he8
  subst he8
  have hblk8 := (hb8.block _ (Array.getElem?_eq_some_iff.1 HBK7.out).1).trans HBK7.out
  have hgl8 := (Array.getElem?_eq_some_iff.1 hblk8).1
  obtain ⟨W9, hW9⟩ : ∃ W, W = w8.alloc (.cells #[.int .i64 m.G, .slice q1 m.cs.length j1, .slice q2 m.fs.length j2, .slice q3 m.ks.length j3] 47) := ⟨_, rfl⟩
  have hb9 : Below w8.heap.size w8 W9 := by rw [hW9]; exact (Below.refl _ _).alloc (Nat.le_refl _) _
  have HM9 := Lib.hid ((HM7.out.below hb8).below hb9)
  have HM9' := Lib.hid (hm8.below hb9)
  have HH9 := Lib.hid ((HHd.out.below hb8).below hb9)
  have HB8 := Lib.hid (HB7.out.trans (hb8.mono HB7.out.size))
  have HB9 := Lib.hid (HB8.out.trans (hb9.mono HB8.out.size))
  have HBK9 := Lib.hid ((hb9.block _ hgl8).trans hblk8)
  have x0 : w8.cell? ⟨w6.heap.size, 0, none⟩ = some (.int .i64 m.G) := cell_of_block hblk8
  have x1 : w8.cell? ⟨w6.heap.size, 1, none⟩ = some (.slice r1 m.cs.length k1) := cell_of_block hblk8
  have x2 : w8.cell? ⟨w6.heap.size, 2, none⟩ = some (.slice r2 m.fs.length k2) := cell_of_block hblk8
  have x3 : w8.cell? ⟨w6.heap.size, 3, none⟩ = some (.slice r3 m.ks.length k3) := cell_of_block hblk8
  have HW9 := Lib.hid hW9
  have HS9 := Lib.hid (HSM.out W9 _ _ HM9.out HM9'.out)
  clear hm8 hb8 hb9 hblk8 hW9 HR2
  go_wp2_with fail
  rw [← HW9.out]
  refine HS9.out.mono ?_
  rintro en w10 ⟨rfl, hb10⟩
  have HB10 := Lib.hid (HB9.out.trans (hb10.mono HB9.out.size))
  have HM10 := Lib.hid (HM9.out.below hb10)
  have HH10 := Lib.hid (HH9.out.below hb10)
  have hblk10 := (hb10.block _ (Array.getElem?_eq_some_iff.1 HBK9.out).1).trans HBK9.out
  clear x0 x1 x2 x3 hgl8
  have x0 : w10.cell? ⟨w6.heap.size, 0, none⟩ = some (.int .i64 m.G) := cell_of_block hblk10
  have x1 : w10.cell? ⟨w6.heap.size, 1, none⟩ = some (.slice r1 m.cs.length k1) := cell_of_block hblk10
  have x2 : w10.cell? ⟨w6.heap.size, 2, none⟩ = some (.slice r2 m.fs.length k2) := cell_of_block hblk10
  have x3 : w10.cell? ⟨w6.heap.size, 3, none⟩ = some (.slice r3 m.ks.length k3) := cell_of_block hblk10
  clear hb10 hblk10
  go_wp2_with fail
  refine (HN.out _ _).mono ?_
  rintro e w11 ⟨rfl, rfl⟩
  by_cases he : E = 0
  · subst he
    obtain ⟨hr, ok, hen⟩ := enc_read HRM.out HH.out.lt
    have HBY : Hid (Calls Try.prog 27 #[.agg #[.int .i64 m.G, .slice r1 m.cs.length k1, .slice r2 m.fs.length k2, .slice r3 m.ks.length k3]] w10 (RmDone w10 bs)) := (show Calls _ _ _ _ _ from by
      obtain ⟨b1, d1, b2, d2, b3, d3, da, dc, e, hs, hc⟩ := HM10.out.at_
      rw [e, ← hen]
      exact mb_any w10 hs hc hr ok)
    clear hr ok hen
    go_wp2_with fail
    refine HBY.out.mono ?_
    rintro en w12 ⟨v12, rfl, ha12⟩
    have HB12 := Lib.hid (HB10.out.trans (ha12.bel.mono HB10.out.size))
    obtain ⟨a12, c12, rfl, hh12⟩ := ha12.row.holdsB HH.out.lt
    have t1 := hh12.conv
    have t2 := (HH10.out.below ha12.bel).conv
    rw [← HEQ.out] at t1 ⊢
    generalize strOf bs = S at t1 t2
    clear ha12 hh12 x0 x1 x2 x3
    go_wp2_with fail
    refine (HN.out _ _).mono ?_
    rintro e w13 ⟨rfl, rfl⟩
    go_wp2
    go_ret
    exact ⟨rfl, HB12.out⟩
  · have hb : ((E : Int) != 0) = true := by rw [bne_iff_ne]; omega
    clear he
    go_wp2
    go_ret
    exact ⟨rfl, HB10.out⟩
theorem moduleReads.walk (a0 : Option Addr) (len0 cap0 : Nat) (z0 : Nat → Int) (w : World) (w0 : Ints .u8 w a0 len0 cap0 z0) :
    Calls Try.prog 8 #[.slice a0 len0 cap0] w fun e w' => e = .returned (.bool true) ∧ Below w.heap.size w w' := by
  obtain ⟨bs, hbs⟩ := ints_holds w0
  by_cases h : len0 ≤ 3000
  · exact moduleReads.short a0 len0 cap0 bs w hbs h
  · exact moduleReads.long a0 len0 cap0 w (by omega)
end Go.Proofs.Yteipnfnbepnpjaa
