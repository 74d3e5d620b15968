/- container/heap's up and Push over a row of numbers compute what they say. -/
import Derived.Test.YtfiddodlpppdhaaArRow
namespace Go.Proofs.Ytfiddodlpppdhaa
open Go.RowKit Go.Maps
set_option linter.unusedVariables false

theorem load_row (b o : Nat) (v : Value) (w : World) (h : w.cell? ⟨b, o, none⟩ = some v) : (loadVar 54 ⟨b, o, none⟩).run Try.prog w = .ok v w := by
  simp [go_sem, loadVar, h]
theorem m_get {P : Program} {t e : TypeId} {name : String} {f : FuncId} {i : TypeInfo} (hI : P.info? t = some i) (hu : P.underlying t = some (.pointer e))
    (hm : (i.methods.find? (·.name == name)).map (fun m => (m.path.toList, m.path.isEmpty, m.func)) = some ([], true, some (f, false))) (b o : Nat) (v : Value) (w : World) (hl : (loadVar e ⟨b, o, none⟩).run P w = .ok v w) :
    (method 241 t (.pointer (some ⟨b, o, none⟩)) name).run P w = .ok (f, v) w := by
  obtain ⟨m, h1, h2⟩ := Option.map_eq_some_iff.1 hm
  simp only [Prod.mk.injEq] at h2
  obtain ⟨h2, h3, h4⟩ := h2
  unfold method
  have e1 : (typeInfo t).run P w = .ok i w := by simp [typeInfo, hI]
  have e2 : (underlying t).run P w = .ok (.pointer e) w := run_underlying hu w
  rw [Sem.run_bind, e1]
  simp only [Result.andThen_ok, h1, h2, follow, h3, h4, receiverAt, Sem.run_bind, Sem.run_pure, e2, if_true]
  have e3 : ∀ x y, (Builtin.ssaWrapNilChk_ #[t] t #[.pointer (some ⟨b, o, none⟩), strVal x, strVal y]).run P w = .ok (.pointer (some ⟨b, o, none⟩)) w := fun _ _ => rfl
  have e4 : (asAddr (.pointer (some ⟨b, o, none⟩))).run P w = .ok ⟨b, o, none⟩ w := rfl
  simp only [Place.get, Sem.run_pure, Result.andThen_ok, e3, e4, hl]
theorem m_len (b o : Nat) (v : Value) (w : World) (h : w.cell? ⟨b, o, none⟩ = some v) : (method 241 92 (.pointer (some ⟨b, o, none⟩)) "Len").run Try.prog w = .ok (55, v) w :=
  m_get (i := Try.t92) (by kernel_rfl) Try.underlying92 (by kernel_rfl) b o v w (load_row b o v w h)
theorem m_less (b o : Nat) (v : Value) (w : World) (h : w.cell? ⟨b, o, none⟩ = some v) : (method 241 92 (.pointer (some ⟨b, o, none⟩)) "Less").run Try.prog w = .ok (108, v) w :=
  m_get (i := Try.t92) (by kernel_rfl) Try.underlying92 (by kernel_rfl) b o v w (load_row b o v w h)
theorem m_swap (b o : Nat) (v : Value) (w : World) (h : w.cell? ⟨b, o, none⟩ = some v) : (method 241 92 (.pointer (some ⟨b, o, none⟩)) "Swap").run Try.prog w = .ok (109, v) w :=
  m_get (i := Try.t92) (by kernel_rfl) Try.underlying92 (by kernel_rfl) b o v w (load_row b o v w h)
theorem m_push (b o : Nat) (w : World) : (method 241 92 (.pointer (some ⟨b, o, none⟩)) "Push").run Try.prog w = .ok (112, .pointer (some ⟨b, o, none⟩)) w := by kernel_rfl
theorem m_pop (b o : Nat) (w : World) : (method 241 92 (.pointer (some ⟨b, o, none⟩)) "Pop").run Try.prog w = .ok (111, .pointer (some ⟨b, o, none⟩)) w := by kernel_rfl
section
variable {p o : Nat} {ty : TypeId} {cs : Array Value} {q : Option Nat} {l l' : List Int} {w w' : World}
theorem RowAt.look (h : RowAt w p o ty cs q l) {a : Option Addr} {n cap : Nat} (hc : cs[o]? = some (.slice a n cap)) : w.cell? ⟨p, o, none⟩ = some (.slice a n cap) ∧ RowS w 1 (.slice a n cap) l.length (intC l) ∧ n = l.length ∧ (Value.slice a n cap).ownBlock = q := by
  obtain ⟨h1, ⟨v, h2, h3, h4⟩, _⟩ := h
  rw [hc] at h2
  cases h2
  obtain ⟨a', cap', e, _⟩ := h4.read
  cases e
  exact ⟨by rw [cell_of_block h1]; exact hc, h4, rfl, h3⟩
theorem RowAt.swapped (h : RowAt w p o ty cs q l) {a : Option Addr} {n cap : Nat} (hc : cs[o]? = some (.slice a n cap)) (hr : RowS w' 1 (.slice a n cap) n (intC l')) (hl : l'.length = l.length) (hk : Keeps q.toList w w') : RowAt w' p o ty cs q l' := by
  obtain ⟨_, _, hn, hq⟩ := h.look hc
  have hpq : p ∉ q.toList := by
    have := h.ne
    cases q with
    | none => simp
    | some g => simp; intro e; exact this (by rw [e])
  exact ⟨hk.at h.at_ hpq, ⟨_, hc, hq, by rw [hl, ← hn]; exact hr⟩, h.ne⟩
theorem rowLess_n {a : Option Addr} {n cap : Nat} (i j : Nat) (w : World) (h : RowS w 1 (.slice a n cap) l.length (intC l)) (hn : n = l.length) (hi : i < l.length) (hj : j < l.length) (hl : l.length ≤ 1048576) :
    Calls Try.prog 108 #[.slice a n cap, .int .i64 (i : Nat), .int .i64 (j : Nat)] w fun e w' => e = .returned (.bool (decide (hg l i < hg l j))) ∧ ∃ k, w' = w.drewN k := by
  subst hn
  exact rowLess_any i j _ _ w h (hg_some hi) (hg_some hj) hl
theorem rowSwap_n {a : Option Addr} {n cap : Nat} (i j : Nat) (w : World) (h : RowS w 1 (.slice a n cap) l.length (intC l)) (hn : n = l.length) (hi : i < l.length) (hj : j < l.length) (hl : l.length ≤ 1048576) :
    Calls Try.prog 109 #[.slice a n cap, .int .i64 (i : Nat), .int .i64 (j : Nat)] w fun e w' => e = .returned (.tuple #[]) ∧ RowS w' 1 (.slice a n cap) n (intC (swapL l i j)) ∧ Keeps (Value.slice a n cap).ownBlock.toList w w' := by
  subst hn
  exact rowSwap_any i j w h hi hj hl
/-- where up stands -/
structure UpAt (w : World) (p o : Nat) (ty : TypeId) (cs : Array Value) (q : Option Nat) (l : List Int) (j : Nat) (l' : List Int) (wr : World) : Prop where
  row : RowAt wr p o ty cs q l'
  perm : l'.Perm l
  inv : UpInv l' j
  keep : Keeps q.toList w wr
/-- what up does -/
def UpDone (w : World) (p o : Nat) (ty : TypeId) (cs : Array Value) (q : Option Nat) (l : List Int) (w' : World) : Prop :=
  ∃ l', RowAt w' p o ty cs q l' ∧ l'.Perm l ∧ HeapN l' l'.length ∧ Keeps q.toList w w'
set_option maxRecDepth 100000 in
set_option maxHeartbeats 1000000 in
theorem heapUp_any (j : Nat) (w : World) (h : RowAt w p o ty cs q l) (hj : UpInv l j) (hl : l.length ≤ 1048576) :
    Calls Try.prog 67 #[.iface 92 (.pointer (some ⟨p, o, none⟩)), .int .i64 (j : Nat)] w fun e w' => e = .returned (.tuple #[]) ∧ UpDone w p o ty cs q l w' := by
  obtain ⟨a, cap, _, hcs, _, _, _, _, _, _⟩ := h.read
  have HCS := Lib.hid hcs
  have hlL := hl
  have H0 : Hid (UpAt w p o ty cs q l j l w) := (show UpAt w p o ty cs q l j l w from ⟨h, List.Perm.refl _, hj, Keeps.refl _ _⟩)
  generalize l.length = n at hcs HCS hl
  have hm1 := m_less p o (.slice a n cap)
  have hm2 := m_swap p o (.slice a n cap)
  clear h hj hcs
  go_enter Try.func67, Try.ntmps67
  go_wp2_with fail
  go_loopw [1] (fun jv wr => ∃ (j : Nat) (l' : List Int), jv = .int .i64 (j : Nat) ∧ Hid (UpAt w p o ty cs q l j l' wr)) (fun jv _ => (intOf jv).toNat)
  case atStart => exact ⟨j, l, rfl, H0⟩
  case round =>
    obtain ⟨j, l', rfl, hu⟩ := hrel
    obtain ⟨wo, rfl⟩ : ∃ wo : World, wo = wr := ⟨_, rfl⟩
    obtain ⟨c0, hrow, hlen, hown⟩ := hu.out.row.look HCS.out
    have hjl := hu.out.inv.1
    rw [← hlen] at hjl
    have hl2 : l'.length ≤ 1048576 := by omega
    have HLE := Lib.hid hlen
    have HROW := Lib.hid hrow
    have HOWN := Lib.hid hown
    clear hrow hown hlen
    by_cases h0 : j = 0
    · subst h0
      have HD : Hid (UpDone w p o ty cs q l wo) := (show UpDone w p o ty cs q l wo from ⟨l', hu.out.row, hu.out.perm, hu.out.inv.stop0, hu.out.keep⟩)
      clear hu
      go_wp2
      go_end0
      exact ⟨rfl, HD.out⟩
    · obtain ⟨i, hi⟩ : ∃ i, i = (j - 1) / 2 := ⟨_, rfl⟩
      have hdiv : (((j : Int) - 1) / 2) = (i : Int) := by omega
      have hij : i < j := by omega
      have hb : ((i : Int) == (j : Int)) = false := by rw [beq_eq_false_iff_ne]; omega
      have HJ : Hid (j < l'.length) := (show j < l'.length by rw [← HLE.out]; exact hjl)
      have HIL : Hid (i < l'.length) := (show i < l'.length by rw [← HLE.out]; omega)
      have HLS := Lib.hid (rowLess_n j i wo HROW.out HLE.out HJ.out HIL.out hl2)
      have HIE := Lib.hid hi
      by_cases hs : hg l' j < hg l' i
      · have hd : decide (hg l' j < hg l' i) = true := decide_eq_true hs
        have HSS := Lib.hid hs
        rw [hd] at HLS
        clear hs hd hi hl2
        go_wp2_with fail
        refine HLS.out.mono ?_
        rintro e w1 ⟨rfl, k1, rfl⟩
        have c1 : (wo.drewN k1).cell? ⟨p, o, none⟩ = some (.slice a n cap) := c0
        have HSW := Lib.hid (rowSwap_n i j (wo.drewN k1) (HROW.out.keeps ((Keeps.refl [] wo).drewN k1) fun _ _ => List.not_mem_nil) HLE.out HIL.out HJ.out (by have := HLE.out; omega))
        go_wp2_with fail
        refine HSW.out.mono ?_
        rintro e w2 ⟨rfl, hr2, hk2⟩
        have HU2 : Hid (UpAt w p o ty cs q l i (swapL l' i j) w2) := (show UpAt w p o ty cs q l i (swapL l' i j) w2 by
          rw [HOWN.out] at hk2
          refine ⟨hu.out.row.swapped HCS.out hr2 (swapL_len _ _ _) (((Keeps.refl _ wo).drewN k1).trans hk2), (swapL_perm HIL.out HJ.out).trans hu.out.perm, ?_, hu.out.keep.trans (((Keeps.refl _ wo).drewN k1).trans hk2)⟩
          have e := HIE.out
          have := hu.out.inv.step (by omega) (by rw [← e]; exact HSS.out)
          rw [← e] at this
          exact this)
        clear hr2 hk2
        go_wp2
        go_roundw
        case rel => first | exact ⟨i, _, rfl, HU2⟩ | ((repeat apply Exists.intro); exact ⟨⟨i, _, rfl, HU2⟩, rfl⟩)
        case measure => simp [intOf]; omega
      · have hd : decide (hg l' j < hg l' i) = false := decide_eq_false hs
        have HD : Hid (∀ k, UpDone w p o ty cs q l (wo.drewN k)) := (show ∀ k, UpDone w p o ty cs q l (wo.drewN k) from fun k => ⟨l', hu.out.row.drewN k, hu.out.perm, hu.out.inv.stop (by rw [← hi]; exact hs), hu.out.keep.drewN k⟩)
        rw [hd] at HLS
        clear hs hd hi hl2
        go_wp2_with fail
        refine HLS.out.mono ?_
        rintro e w1 ⟨rfl, k1, rfl⟩
        go_wp2
        go_end0
        exact ⟨rfl, HD.out _⟩
/-- what Push does -/
def PushDone (w : World) (p o : Nat) (ty : TypeId) (cs : Array Value) (q : Option Nat) (l : List Int) (w' : World) : Prop :=
  ∃ l' v q', RowAt w' p o ty (cs.setIfInBounds o v) q' l' ∧ l'.Perm l ∧ HeapN l' l'.length ∧ (∀ g, q' = some g → q = some g ∨ w.heap.size ≤ g) ∧ Keeps (p :: q.toList) w w'
set_option maxRecDepth 100000 in
set_option maxHeartbeats 1000000 in
theorem heapPush_any (x : Int) (w : World) (h : RowAt w p o ty cs q l) (hp : HeapN l l.length) (hl : l.length < 1048576) :
    Calls Try.prog 58 #[.iface 92 (.pointer (some ⟨p, o, none⟩)), .iface 3 (.int .i64 x)] w fun e w' => e = .returned (.tuple #[]) ∧ PushDone w p o ty cs q (l ++ [x]) w' := by
  have HP := Lib.hid (rowPush_any x w h hl)
  have HS := Lib.hid (hp.snoc x)
  have HLT := Lib.hid h.lt
  have hm0 := m_push p o
  have hm1 := m_len p o
  clear h hp
  go_enter Try.func58, Try.ntmps58
  go_wp2_with fail
  refine HP.out.mono ?_
  rintro e w1 ⟨rfl, v, q', hr, hq, hk⟩
  obtain ⟨a, cap, c0, hcs, _⟩ := hr.read
  have hm2 := hm1 _ w1 c0
  have e1 : (l ++ [x]).length = l.length + 1 := by simp
  have HU := Lib.hid (heapUp_any l.length w1 hr HS.out (by simp; omega))
  have HE : Hid (∀ w', UpDone w1 p o ty (cs.setIfInBounds o v) q' (l ++ [x]) w' → PushDone w p o ty cs q (l ++ [x]) w') := (show ∀ w', UpDone w1 p o ty (cs.setIfInBounds o v) q' (l ++ [x]) w' → PushDone w p o ty cs q (l ++ [x]) w' by
    rintro w' ⟨l', h1, h2, h3, h4⟩
    refine ⟨l', v, q', h1, h2, h3, hq, hk.then h4 fun y hy => ?_⟩
    cases hq' : q' with
    | none => rw [hq'] at hy; simp at hy
    | some g =>
      rw [hq'] at hy
      simp at hy
      subst hy
      rcases hq y hq' with h | h
      · exact .inl (by rw [h]; simp)
      · exact .inr h)
  rw [e1] at hm2
  clear hr hq hk hcs c0 hm1 e1
  generalize l.length = n at *
  go_wp2_with fail
  refine (rowLen_any _ _ _ _).mono ?_
  rintro e w2 ⟨rfl, rfl⟩
  go_wp2_with fail
  refine HU.out.mono ?_
  rintro e w3 ⟨rfl, hd⟩
  have HD := Lib.hid (HE.out _ hd)
  clear hd
  go_wp2
  go_end0
  exact ⟨rfl, HD.out⟩
end
end Go.Proofs.Ytfiddodlpppdhaa
