/- module's reader: many, with each of the three closures. -/
import Derived.Test.YteipnfnbepnpjaaModClo
namespace Go.Proofs.Yteipnfnbepnpjaa
open Go.RowKit Go.Maps
set_option linter.unusedVariables false
theorem manyA_stop {α : Type} (f : RS → α × RS) (k : Nat) (s : RS) (acc : List α) (h : s.2 ≠ 0) : manyA f k s acc = (acc, s) := by
  cases k with
  | zero => rfl
  | succ k => exact if_neg h
theorem manyA_go {α : Type} (f : RS → α × RS) (k : Nat) (s : RS) (acc : List α) (h : s.2 = 0) : manyA f (k + 1) s acc = manyA f k (f s).2 (acc ++ [(f s).1]) := if_pos h
section
variable {B pr gm gp : Nat} {G : Int} {v1 v2 v3 : Value} {s : RS} {W W' : World}
/-- between two rounds of many -/
structure Mny (B pr gm gp : Nat) (G : Int) (f : Value → Value × Value × Value) (sz : Nat) (W : World) (T : Type) (cv : T → List Value) (fm : RS → T × RS) (t : List T × RS) (k : Nat) (wr : World) : Prop where
  at_ : ∃ (sc : RS) (acc : List T) (v : Value), RF B pr gm gp G (f v).1 (f v).2.1 (f v).2.2 sc wr ∧ RowR B pr gm gp sz wr v acc.length (acc.flatMap cv) ∧ manyA fm k sc acc = t ∧ (∀ g, v.ownBlock = some g → W.heap.size ≤ g) ∧ acc.length + k ≤ 255
  kp : Keeps [pr, gm] W wr
def ManyP (B pr gm gp : Nat) (G : Int) (f : Value → Value × Value × Value) (sz : Nat) (W : World) (T : Type) (cv : T → List Value) (t : List T × RS) (en : Ending) (W' : World) : Prop :=
  ∃ v, en = .returned (.tuple #[]) ∧ RF B pr gm gp G (f v).1 (f v).2.1 (f v).2.2 t.2 W' ∧ RowR B pr gm gp sz W' v t.1.length (t.1.flatMap cv) ∧ (∀ g, v.ownBlock = some g → W.heap.size ≤ g) ∧ Keeps [pr, gm] W W'
set_option maxRecDepth 100000 in
set_option maxHeartbeats 4000000 in
theorem many1 (h : RF B pr gm gp G (.slice none 0 0) v2 v3 s W) :
    Calls Try.prog 49 #[.pointer (some ⟨pr, 0, none⟩), .func (.func 50) #[] #[.pointer (some ⟨gm, 0, none⟩), .pointer (some ⟨gp, 0, none⟩)]] W (ManyP B pr gm gp G (fun v => (v, v2, v3)) 3 W ConT conV (manyM constM s)) := by
  have HO := Lib.hid (one_p s W h.r)
  have HT : Hid (manyM constM s = manyA constM (oneM s).1 (oneM s).2 []) := rfl
  obtain ⟨t, ht⟩ : ∃ t, t = manyM constM s := ⟨_, rfl⟩
  rw [← ht] at HT ⊢
  have HST : Hid (∀ w1, (oneM s).1 < 256 → RdS B w1 pr (oneM s).2 → Keeps [pr] W w1 → Mny B pr gm gp G (fun v => (v, v2, v3)) 3 W ConT conV constM t (oneM s).1 w1) := (show ∀ w1, _ → _ → _ → _ from fun w1 hl hr hk => ⟨⟨(oneM s).2, [], .slice none 0 0, h.read hk hr, RowR.nil _, HT.out.symm, (fun g e => by cases e), by simp; omega⟩, hk.mono (by simp)⟩)
  have HCL : Hid (∀ (k : Nat) (wr : World) (sc : RS) (acc : List ConT) (v : Value), Keeps [pr, gm] W wr → RF B pr gm gp G v v2 v3 sc wr → RowR B pr gm gp 3 wr v acc.length (acc.flatMap conV) → manyA constM (k + 1) sc acc = t → (∀ g, v.ownBlock = some g → W.heap.size ≤ g) → acc.length + (k + 1) ≤ 255 → sc.2 = 0 →
      Calls Try.prog 50 #[.pointer (some ⟨gm, 0, none⟩), .pointer (some ⟨gp, 0, none⟩)] wr fun en w' => en = .returned (.tuple #[]) ∧ Mny B pr gm gp G (fun v => (v, v2, v3)) 3 W ConT conV constM t k w') := (show ∀ _ _ _ _ _, _ from fun k wr sc acc v hk hf hr hm ho hl he => (clo1 acc.length (acc.flatMap conV) hf hr (by omega)).mono (by
        rintro en w' ⟨v', e, f', r', o', k'⟩
        refine ⟨e, ⟨⟨(constM sc).2, acc ++ [(constM sc).1], v', f', ?_, ?_, ?_, ?_⟩, hk.then k' ?_⟩⟩
        · rw [List.length_append, List.flatMap_append]
          simpa using r'
        · rw [← manyA_go constM k sc acc he]; exact hm
        · intro g hg
          rcases o' with o' | ⟨g', o', hge⟩
          · exact ho g (by rw [← o']; exact hg)
          · rw [o'] at hg; cases hg; have := hk.size; omega
        · simp; omega
        · intro x hx
          simp at hx
          rcases hx with rfl | rfl | hx
          · exact .inl (by simp)
          · exact .inl (by simp)
          · exact .inr (ho x hx)))
  clear h ht
  go_enter Try.func49, Try.ntmps49
  go_wp2_with fail
  refine HO.out.mono ?_
  rintro en w1 ⟨rfl, hl1, hr1, hk1⟩
  have HS1 := Lib.hid (HST.out w1 hl1 hr1 hk1)
  clear hl1 hr1 hk1
  go_wp2_with fail
  go_loopw [4] (fun nv wr => ∃ k : Nat, nv = .int .i64 (k : Nat) ∧ Hid (Mny B pr gm gp G (fun v => (v, v2, v3)) 3 W ConT conV constM t k wr)) (fun nv _ => (intOf nv).toNat)
  case atStart => exact ⟨_, rfl, HS1.out⟩
  case round =>
    obtain ⟨k, rfl, hs⟩ := hrel
    obtain ⟨wo, rfl⟩ : ∃ wo : World, wo = wr := ⟨_, rfl⟩
    obtain ⟨⟨sc, acc, v, hf, hr, hm, ho, hl⟩, hk⟩ := hs.out
    obtain ⟨⟨a, len, cap, h1, _⟩, _⟩ := hf.r
    have c1 : wo.cell? ⟨pr, 1, none⟩ = some (.int .i64 (sc.2 : Nat)) := cell_of_block h1
    clear h1
    cases k with
    | zero =>
      have HD : Hid (ManyP B pr gm gp G (fun v => (v, v2, v3)) 3 W ConT conV t (.returned (.tuple #[])) wo) := (show ManyP _ _ _ _ _ _ _ _ _ _ _ _ _ from by
        have e : (acc, sc) = t := hm
        rw [← e]
        exact ⟨v, rfl, hf, hr, ho, hk⟩)
      clear hs hf hr hm ho hk hl c1
      go_wp2
      go_end0
      exact HD.out
    | succ k =>
      have hk0 : (0 : Int) < ((k : Nat) : Int) + 1 := by omega
      have hkb : (k : Int) ≤ 255 := by omega
      by_cases he : sc.2 = 0
      · have HC := Lib.hid (HCL.out k wo sc acc v hk hf hr hm ho hl he)
        rw [he] at c1
        replace c1 : wo.cell? ⟨pr, 1, none⟩ = some (.int .i64 0) := c1
        clear hs hf hr hm ho hk hl he
        go_wp2_with (go_at_call 50; refine HC.out.mono ?_; rintro en w6 ⟨rfl, h6⟩; have H6 := Lib.hid h6; clear h6)
        go_roundw
        case rel => first | exact ⟨k, by go_num, H6⟩ | ((repeat apply Exists.intro); exact ⟨⟨k, by go_num, H6⟩, rfl⟩)
        case measure => first | (simp [intOf]; done) | (simp [intOf]; omega)
      · have b1 : ((sc.2 : Int) == 0) = false := by rw [beq_eq_false_iff_ne]; omega
        have HD : Hid (ManyP B pr gm gp G (fun v => (v, v2, v3)) 3 W ConT conV t (.returned (.tuple #[])) wo) := (show ManyP _ _ _ _ _ _ _ _ _ _ _ _ _ from by
          rw [manyA_stop constM (k + 1) sc acc he] at hm
          rw [← hm]
          exact ⟨v, rfl, hf, hr, ho, hk⟩)
        clear hs hf hr hm ho hk hl he
        go_wp2
        go_end0
        exact HD.out
set_option maxRecDepth 100000 in
set_option maxHeartbeats 4000000 in
theorem many3 (h : RF B pr gm gp G v1 v2 (.slice none 0 0) s W) :
    Calls Try.prog 49 #[.pointer (some ⟨pr, 0, none⟩), .func (.func 54) #[] #[.pointer (some ⟨gm, 0, none⟩), .pointer (some ⟨gp, 0, none⟩)]] W (ManyP B pr gm gp G (fun v => (v1, v2, v)) 2 W ClsT clsV (manyM classM s)) := by
  have HO := Lib.hid (one_p s W h.r)
  have HT : Hid (manyM classM s = manyA classM (oneM s).1 (oneM s).2 []) := rfl
  obtain ⟨t, ht⟩ : ∃ t, t = manyM classM s := ⟨_, rfl⟩
  rw [← ht] at HT ⊢
  have HST : Hid (∀ w1, (oneM s).1 < 256 → RdS B w1 pr (oneM s).2 → Keeps [pr] W w1 → Mny B pr gm gp G (fun v => (v1, v2, v)) 2 W ClsT clsV classM t (oneM s).1 w1) := (show ∀ w1, _ → _ → _ → _ from fun w1 hl hr hk => ⟨⟨(oneM s).2, [], .slice none 0 0, h.read hk hr, RowR.nil _, HT.out.symm, (fun g e => by cases e), by simp; omega⟩, hk.mono (by simp)⟩)
  have HCL : Hid (∀ (k : Nat) (wr : World) (sc : RS) (acc : List ClsT) (v : Value), Keeps [pr, gm] W wr → RF B pr gm gp G v1 v2 v sc wr → RowR B pr gm gp 2 wr v acc.length (acc.flatMap clsV) → manyA classM (k + 1) sc acc = t → (∀ g, v.ownBlock = some g → W.heap.size ≤ g) → acc.length + (k + 1) ≤ 255 → sc.2 = 0 →
      Calls Try.prog 54 #[.pointer (some ⟨gm, 0, none⟩), .pointer (some ⟨gp, 0, none⟩)] wr fun en w' => en = .returned (.tuple #[]) ∧ Mny B pr gm gp G (fun v => (v1, v2, v)) 2 W ClsT clsV classM t k w') := (show ∀ _ _ _ _ _, _ from fun k wr sc acc v hk hf hr hm ho hl he => (clo3 acc.length (acc.flatMap clsV) hf hr (by omega)).mono (by
        rintro en w' ⟨v', e, f', r', o', k'⟩
        refine ⟨e, ⟨⟨(classM sc).2, acc ++ [(classM sc).1], v', f', ?_, ?_, ?_, ?_⟩, hk.then k' ?_⟩⟩
        · rw [List.length_append, List.flatMap_append]
          simpa using r'
        · rw [← manyA_go classM k sc acc he]; exact hm
        · intro g hg
          rcases o' with o' | ⟨g', o', hge⟩
          · exact ho g (by rw [← o']; exact hg)
          · rw [o'] at hg; cases hg; have := hk.size; omega
        · simp; omega
        · intro x hx
          simp at hx
          rcases hx with rfl | rfl | hx
          · exact .inl (by simp)
          · exact .inl (by simp)
          · exact .inr (ho x hx)))
  clear h ht
  go_enter Try.func49, Try.ntmps49
  go_wp2_with fail
  refine HO.out.mono ?_
  rintro en w1 ⟨rfl, hl1, hr1, hk1⟩
  have HS1 := Lib.hid (HST.out w1 hl1 hr1 hk1)
  clear hl1 hr1 hk1
  go_wp2_with fail
  go_loopw [4] (fun nv wr => ∃ k : Nat, nv = .int .i64 (k : Nat) ∧ Hid (Mny B pr gm gp G (fun v => (v1, v2, v)) 2 W ClsT clsV classM t k wr)) (fun nv _ => (intOf nv).toNat)
  case atStart => exact ⟨_, rfl, HS1.out⟩
  case round =>
    obtain ⟨k, rfl, hs⟩ := hrel
    obtain ⟨wo, rfl⟩ : ∃ wo : World, wo = wr := ⟨_, rfl⟩
    obtain ⟨⟨sc, acc, v, hf, hr, hm, ho, hl⟩, hk⟩ := hs.out
    obtain ⟨⟨a, len, cap, h1, _⟩, _⟩ := hf.r
    have c1 : wo.cell? ⟨pr, 1, none⟩ = some (.int .i64 (sc.2 : Nat)) := cell_of_block h1
    clear h1
    cases k with
    | zero =>
      have HD : Hid (ManyP B pr gm gp G (fun v => (v1, v2, v)) 2 W ClsT clsV t (.returned (.tuple #[])) wo) := (show ManyP _ _ _ _ _ _ _ _ _ _ _ _ _ from by
        have e : (acc, sc) = t := hm
        rw [← e]
        exact ⟨v, rfl, hf, hr, ho, hk⟩)
      clear hs hf hr hm ho hk hl c1
      go_wp2
      go_end0
      exact HD.out
    | succ k =>
      have hk0 : (0 : Int) < ((k : Nat) : Int) + 1 := by omega
      have hkb : (k : Int) ≤ 255 := by omega
      by_cases he : sc.2 = 0
      · have HC := Lib.hid (HCL.out k wo sc acc v hk hf hr hm ho hl he)
        rw [he] at c1
        replace c1 : wo.cell? ⟨pr, 1, none⟩ = some (.int .i64 0) := c1
        clear hs hf hr hm ho hk hl he
        go_wp2_with (go_at_call 54; refine HC.out.mono ?_; rintro en w6 ⟨rfl, h6⟩; have H6 := Lib.hid h6; clear h6)
        go_roundw
        case rel => first | exact ⟨k, by go_num, H6⟩ | ((repeat apply Exists.intro); exact ⟨⟨k, by go_num, H6⟩, rfl⟩)
        case measure => first | (simp [intOf]; done) | (simp [intOf]; omega)
      · have b1 : ((sc.2 : Int) == 0) = false := by rw [beq_eq_false_iff_ne]; omega
        have HD : Hid (ManyP B pr gm gp G (fun v => (v1, v2, v)) 2 W ClsT clsV t (.returned (.tuple #[])) wo) := (show ManyP _ _ _ _ _ _ _ _ _ _ _ _ _ from by
          rw [manyA_stop classM (k + 1) sc acc he] at hm
          rw [← hm]
          exact ⟨v, rfl, hf, hr, ho, hk⟩)
        clear hs hf hr hm ho hk hl he
        go_wp2
        go_end0
        exact HD.out
/-- between two rounds of many, with the second closure -/
structure Mny2 (B pr gm gp : Nat) (G : Int) (v1 v3 : Value) (W : World) (t : List FunT × RS) (k : Nat) (wr : World) : Prop where
  at_ : ∃ (sc : RS) (acc : List (FunT × Nat)) (v : Value), RF B pr gm gp G v1 v v3 sc wr ∧ RowR B pr gm gp 3 wr v acc.length (acc.flatMap funV) ∧ manyA funcM k sc (acc.map (·.1)) = t ∧ (∀ g, v.ownBlock = some g → W.heap.size ≤ g) ∧ acc.length + k ≤ 255 ∧ ∀ f ∈ acc, MadeB wr f.2 f.1.2.2.length f.1.2.2 ∧ f.1.2.2.length ≤ 65535 ∧ W.heap.size ≤ f.2 ∧ v.ownBlock ≠ some f.2
  kp : Keeps [pr, gm] W wr
def ManyP2 (B pr gm gp : Nat) (G : Int) (v1 v3 : Value) (W : World) (t : List FunT × RS) (en : Ending) (W' : World) : Prop :=
  ∃ (v : Value) (acc : List (FunT × Nat)), en = .returned (.tuple #[]) ∧ RF B pr gm gp G v1 v v3 t.2 W' ∧ RowR B pr gm gp 3 W' v acc.length (acc.flatMap funV) ∧ acc.map (·.1) = t.1 ∧ (∀ g, v.ownBlock = some g → W.heap.size ≤ g) ∧ (∀ f ∈ acc, MadeB W' f.2 f.1.2.2.length f.1.2.2 ∧ f.1.2.2.length ≤ 65535 ∧ W.heap.size ≤ f.2) ∧ Keeps [pr, gm] W W'
set_option maxRecDepth 100000 in
set_option maxHeartbeats 4000000 in
theorem many2 (h : RF B pr gm gp G v1 (.slice none 0 0) v3 s W) :
    Calls Try.prog 49 #[.pointer (some ⟨pr, 0, none⟩), .func (.func 52) #[] #[.pointer (some ⟨gm, 0, none⟩), .pointer (some ⟨gp, 0, none⟩)]] W (ManyP2 B pr gm gp G v1 v3 W (manyM funcM s)) := by
  have HO := Lib.hid (one_p s W h.r)
  have HLT := Lib.hid h.lt
  have HT : Hid (manyM funcM s = manyA funcM (oneM s).1 (oneM s).2 []) := rfl
  obtain ⟨t, ht⟩ : ∃ t, t = manyM funcM s := ⟨_, rfl⟩
  rw [← ht] at HT ⊢
  have HST : Hid (∀ w1, (oneM s).1 < 256 → RdS B w1 pr (oneM s).2 → Keeps [pr] W w1 → Mny2 B pr gm gp G v1 v3 W t (oneM s).1 w1) := (show ∀ w1, _ → _ → _ → _ from fun w1 hl hr hk => ⟨⟨(oneM s).2, [], .slice none 0 0, h.read hk hr, RowR.nil _, HT.out.symm, (fun g e => by cases e), by simp; omega, (fun f hf => by simp at hf)⟩, hk.mono (by simp)⟩)
  have HCL : Hid (∀ (k : Nat) (wr : World) (sc : RS) (acc : List (FunT × Nat)) (v : Value), Keeps [pr, gm] W wr → RF B pr gm gp G v1 v v3 sc wr → RowR B pr gm gp 3 wr v acc.length (acc.flatMap funV) → manyA funcM (k + 1) sc (acc.map (·.1)) = t → (∀ g, v.ownBlock = some g → W.heap.size ≤ g) → acc.length + (k + 1) ≤ 255 → (∀ f ∈ acc, MadeB wr f.2 f.1.2.2.length f.1.2.2 ∧ f.1.2.2.length ≤ 65535 ∧ W.heap.size ≤ f.2 ∧ v.ownBlock ≠ some f.2) → sc.2 = 0 →
      Calls Try.prog 52 #[.pointer (some ⟨gm, 0, none⟩), .pointer (some ⟨gp, 0, none⟩)] wr fun en w' => en = .returned (.tuple #[]) ∧ Mny2 B pr gm gp G v1 v3 W t k w') := (show ∀ _ _ _ _ _, _ from fun k wr sc acc v hk hf hr hm ho hl ha he => (clo2 acc.length (acc.flatMap funV) hf hr (by omega)).mono (by
        rintro en w' ⟨v', g', e, f', r', o', n', g0, m', l', k'⟩
        refine ⟨e, ⟨⟨(funcM sc).2, acc ++ [((funcM sc).1, g')], v', f', ?_, ?_, ?_, ?_, ?_⟩, hk.then k' ?_⟩⟩
        · rw [List.length_append, List.flatMap_append]
          simpa using r'
        · rw [manyA_go funcM k sc (acc.map (·.1)) he] at hm; rw [List.map_append]; exact hm
        · intro g hg
          rcases o' with o' | ⟨g', o', hge⟩
          · exact ho g (by rw [← o']; exact hg)
          · rw [o'] at hg; cases hg; have := hk.size; omega
        · simp; omega
        · intro f hff
          rcases List.mem_append.1 hff with hff | hff
          · obtain ⟨a1, a2, a3, a4⟩ := ha f hff
            have hfl := (Array.getElem?_eq_some_iff.1 a1.2.2).1
            have hlt := HLT.out
            refine ⟨a1.keeps k' ?_, a2, a3, ?_⟩
            · intro hx
              simp at hx
              rcases hx with hx | hx | hx
              · omega
              · omega
              · exact a4 hx
            · rcases o' with o' | ⟨g2, o', hge⟩
              · rw [o']; exact a4
              · rw [o']; intro e2; cases e2; omega
          · cases List.mem_singleton.1 hff
            exact ⟨m', l', by have := hk.size; omega, n'⟩
        · intro x hx
          simp at hx
          rcases hx with rfl | rfl | hx
          · exact .inl (by simp)
          · exact .inl (by simp)
          · exact .inr (ho x hx)))
  clear h ht
  go_enter Try.func49, Try.ntmps49
  go_wp2_with fail
  refine HO.out.mono ?_
  rintro en w1 ⟨rfl, hl1, hr1, hk1⟩
  have HS1 := Lib.hid (HST.out w1 hl1 hr1 hk1)
  clear hl1 hr1 hk1
  go_wp2_with fail
  go_loopw [4] (fun nv wr => ∃ k : Nat, nv = .int .i64 (k : Nat) ∧ Hid (Mny2 B pr gm gp G v1 v3 W t k wr)) (fun nv _ => (intOf nv).toNat)
  case atStart => exact ⟨_, rfl, HS1.out⟩
  case round =>
    obtain ⟨k, rfl, hs⟩ := hrel
    obtain ⟨wo, rfl⟩ : ∃ wo : World, wo = wr := ⟨_, rfl⟩
    obtain ⟨⟨sc, acc, v, hf, hr, hm, ho, hl, ha⟩, hk⟩ := hs.out
    obtain ⟨⟨a, len, cap, h1, _⟩, _⟩ := hf.r
    have c1 : wo.cell? ⟨pr, 1, none⟩ = some (.int .i64 (sc.2 : Nat)) := cell_of_block h1
    clear h1
    cases k with
    | zero =>
      have HD : Hid (ManyP2 B pr gm gp G v1 v3 W t (.returned (.tuple #[])) wo) := (show ManyP2 _ _ _ _ _ _ _ _ _ _ _ from by
        have e : (acc.map (·.1), sc) = t := hm
        rw [← e]
        exact ⟨v, acc, rfl, hf, hr, rfl, ho, (fun f hff => ⟨(ha f hff).1, (ha f hff).2.1, (ha f hff).2.2.1⟩), hk⟩)
      clear hs hf hr hm ho hk hl ha c1
      go_wp2
      go_end0
      exact HD.out
    | succ k =>
      have hk0 : (0 : Int) < ((k : Nat) : Int) + 1 := by omega
      have hkb : (k : Int) ≤ 255 := by omega
      by_cases he : sc.2 = 0
      · have HC := Lib.hid (HCL.out k wo sc acc v hk hf hr hm ho hl ha he)
        rw [he] at c1
        replace c1 : wo.cell? ⟨pr, 1, none⟩ = some (.int .i64 0) := c1
        clear hs hf hr hm ho hk hl ha he
        go_wp2_with (go_at_call 52; refine HC.out.mono ?_; rintro en w6 ⟨rfl, h6⟩; have H6 := Lib.hid h6; clear h6)
        go_roundw
        case rel => first | exact ⟨k, by go_num, H6⟩ | ((repeat apply Exists.intro); exact ⟨⟨k, by go_num, H6⟩, rfl⟩)
        case measure => first | (simp [intOf]; done) | (simp [intOf]; omega)
      · have b1 : ((sc.2 : Int) == 0) = false := by rw [beq_eq_false_iff_ne]; omega
        have HD : Hid (ManyP2 B pr gm gp G v1 v3 W t (.returned (.tuple #[])) wo) := (show ManyP2 _ _ _ _ _ _ _ _ _ _ _ from by
          rw [manyA_stop funcM (k + 1) sc (acc.map (·.1)) he] at hm
          rw [← hm]
          exact ⟨v, acc, rfl, hf, hr, rfl, ho, (fun f hff => ⟨(ha f hff).1, (ha f hff).2.1, (ha f hff).2.2.1⟩), hk⟩)
        clear hs hf hr hm ho hk hl ha he
        go_wp2
        go_end0
        exact HD.out
end
end Go.Proofs.Yteipnfnbepnpjaa
