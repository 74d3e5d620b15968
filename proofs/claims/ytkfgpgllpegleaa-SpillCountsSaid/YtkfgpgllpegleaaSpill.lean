/- The methods of package spill compute what they say: contracts over the seat's program. -/
import Derived.Test.YtkfgpgllpegleaaChecked
import Derived.WalkLawsBesides
import Derived.Test.YtkfgpgllpegleaaMaps
import Derived.Test.YtkfgpgllpegleaaBits
namespace Go.Proofs.Ytkfgpgllpegleaa
open Go.RowKit Go.Maps
set_option linter.unusedVariables false

theorem sp_key : Keyed Try.prog 3 := int_keyed Try.underlying3
theorem sp_zi (w : World) : (zeroValue 3).run Try.prog w = .ok (.int .i64 0) w := by kernel_rfl
theorem sp_zb (w : World) : (zeroValue 4).run Try.prog w = .ok (.bool false) w := by kernel_rfl

/-- a header's count, cut -/
def cutC (c : Int) : Nat := (max 0 (min c 255)).toNat
theorem cutC_le (c : Int) : cutC c ≤ 255 := by unfold cutC; omega
theorem cutC_in {c : Nat} (h : c ≤ 255) : cutC (c : Int) = c := by unfold cutC; omega

/-- block p is a Table, its maps are blocks e and s: X says the extras, T what is sticky -/
structure SpillAt (w : World) (p e s n : Nat) (lim : Int) (X : Int → Nat) (T : Int → Bool) : Prop where
  ne : p ≠ e ∧ p ≠ s ∧ e ≠ s
  head : ∃ ty, w.heap[p]? = some (.cells #[.int .i64 lim, .map (some e), .map (some s)] ty (0, 0))
  lim : 1 ≤ lim ∧ lim ≤ 1073741824
  extra : ∃ f, MapAt Try.prog w 3 e n f ∧ ∀ x, (Lit.int .i64 x).wf = true → (f x).getD (.int .i64 0) = .int .i64 (X x : Nat)
  sticky : ∃ f, MapAt Try.prog w 3 s n f ∧ ∀ x, (Lit.int .i64 x).wf = true → (f x).getD (.bool false) = .bool (T x)

section
variable {w w' : World} {p e s n : Nat} {lim : Int} {X : Int → Nat} {T : Int → Bool}
theorem SpillAt.keeps {l : List Nat} (h : SpillAt w p e s n lim X T) (k : Keeps l w w') (hp : p ∉ l) (he : e ∉ l) (hs : s ∉ l) : SpillAt w' p e s n lim X T := by
  obtain ⟨h1, ⟨ty, h2⟩, h3, ⟨f, h4, h5⟩, ⟨g, h6, h7⟩⟩ := h
  exact ⟨h1, ⟨ty, k.at h2 hp⟩, h3, ⟨f, h4.keeps k he, h5⟩, ⟨g, h6.keeps k hs, h7⟩⟩
theorem SpillAt.drewN (h : SpillAt w p e s n lim X T) (m : Nat) : SpillAt (w.drewN m) p e s n lim X T := by
  obtain ⟨h1, h2, h3, ⟨f, h4, h5⟩, ⟨g, h6, h7⟩⟩ := h
  exact ⟨h1, h2, h3, ⟨f, h4.drewN m, h5⟩, ⟨g, h6.drewN m, h7⟩⟩
theorem SpillAt.mono (h : SpillAt w p e s n lim X T) {m : Nat} (hm : n ≤ m) : SpillAt w p e s m lim X T := by
  obtain ⟨h1, h2, h3, ⟨f, h4, h5⟩, ⟨g, h6, h7⟩⟩ := h
  exact ⟨h1, h2, h3, ⟨f, h4.mono hm, h5⟩, ⟨g, h6.mono hm, h7⟩⟩
theorem SpillAt.cells (h : SpillAt w p e s n lim X T) : w.cell? ⟨p, 0, none⟩ = some (.int .i64 lim) ∧ w.cell? ⟨p, 1, none⟩ = some (.map (some e)) ∧ w.cell? ⟨p, 2, none⟩ = some (.map (some s)) := by
  obtain ⟨ty, hp⟩ := h.head
  rw [cell_of_block hp, cell_of_block hp, cell_of_block hp]
  exact ⟨rfl, rfl, rfl⟩
theorem SpillAt.lookX (h : SpillAt w p e s n lim X T) {x : Int} (hx : (Lit.int .i64 x).wf = true) :
    (Instr.lookup 52 (.map (some e)) (.int .i64 x) false).run Try.prog w = .ok (.int .i64 (X x : Nat)) w := by
  obtain ⟨f, h4, h5⟩ := h.extra
  rw [h4.look sp_key Try.underlying3 Try.underlying52 (sp_zi w) hx, h5 x hx]
theorem SpillAt.lookT (h : SpillAt w p e s n lim X T) {x : Int} (hx : (Lit.int .i64 x).wf = true) :
    (Instr.lookup 53 (.map (some s)) (.int .i64 x) false).run Try.prog w = .ok (.bool (T x)) w := by
  obtain ⟨f, h4, h5⟩ := h.sticky
  rw [h4.look sp_key Try.underlying3 Try.underlying53 (sp_zb w) hx, h5 x hx]
end

theorem spillCut_any (c : Int) (w : World) : Calls Try.prog 42 #[.int .i64 c] w fun e w' => e = .returned (.int .i64 (cutC c : Nat)) ∧ w = w' := by
  go_enter Try.func42, Try.ntmps42
  go_wp2
  all_goals
    go_ret
    refine ⟨ret_int ?_, rfl⟩
    unfold cutC
    omega
theorem sticky_any {p e s n : Nat} {lim : Int} {X : Int → Nat} {T : Int → Bool} (h : Int) (w : World) (hs : SpillAt w p e s n lim X T) (hh : (Lit.int .i64 h).wf = true) :
    Calls Try.prog 17 #[.pointer (some ⟨p, 0, none⟩), .int .i64 h] w fun e w' => e = .returned (.bool (T h)) ∧ w = w' := by
  obtain ⟨_, _, c2⟩ := hs.cells
  have hr := hs.lookT hh
  clear hs
  go_enter Try.func17, Try.ntmps17
  go_wp2
  go_ret
  exact ⟨rfl, rfl⟩
theorem total_any {p e s n : Nat} {lim : Int} {X : Int → Nat} {T : Int → Bool} (h c : Int) (w : World) (hs : SpillAt w p e s n lim X T) (hh : (Lit.int .i64 h).wf = true) (hX : X h ≤ 1099511627776) :
    Calls Try.prog 16 #[.pointer (some ⟨p, 0, none⟩), .int .i64 h, .int .i64 c] w fun e w' => e = .returned (.int .i64 (cutC c + X h : Nat)) ∧ ∃ k, w' = w.drewN k := by
  obtain ⟨_, c1, _⟩ := hs.cells
  have hr : ∀ m, (Instr.lookup 52 (.map (some e)) (.int .i64 h) false).run Try.prog (w.drewN m) = .ok (.int .i64 (X h : Nat)) (w.drewN m) := fun m => (hs.drewN m).lookX hh
  have hc := cutC_le c
  clear hs
  go_enter Try.func16, Try.ntmps16
  go_wp2_with fail
  go_quiet ((go_at_call 42; exact quiet_left (spillCut_any _ _)))
  go_wp2
  go_ret
  exact ⟨ret_int (by omega), _, rfl⟩

/-- one handle more is sticky -/
def stickT (T : Int → Bool) (h : Int) : Int → Bool := fun y => if y = h then true else T y
/-- the extra of one handle is another -/
def growX (X : Int → Nat) (h : Int) (v : Nat) : Int → Nat := fun y => if y = h then v else X y

theorem SpillAt.stick {w : World} {p e s n : Nat} {lim : Int} {X : Int → Nat} {T : Int → Bool} (hs : SpillAt w p e s n lim X T) {h : Int} {w' : World}
    (hm : MapAt Try.prog w' 3 s (n + 1) (fun y => if y = h then some (.bool true) else (hs.sticky.choose y))) (hg : w.grownBy w' (some s)) : SpillAt w' p e s (n + 1) lim X (stickT T h) := by
  have hc := hs.sticky.choose_spec
  have hne := hs.ne
  obtain ⟨ty, h2⟩ := hs.head
  obtain ⟨f, h4, h5⟩ := hs.extra
  have k : Keeps [s] w w' := Keeps.of_grown hg (List.mem_singleton_self s)
  refine ⟨hs.ne, ⟨ty, k.at h2 (by simp; exact hne.2.1)⟩, hs.lim, ⟨f, (h4.keeps k (by simp; exact hne.2.2)).mono (by omega), h5⟩, ⟨_, hm, fun x hx => ?_⟩⟩
  by_cases hxh : x = h
  · simp [hxh, stickT]
  · simp only [stickT, if_neg hxh]; exact hc.2 x hx
theorem SpillAt.grow {w : World} {p e s n : Nat} {lim : Int} {X : Int → Nat} {T : Int → Bool} (hs : SpillAt w p e s n lim X T) {h : Int} {v : Nat} {w' : World}
    (hm : MapAt Try.prog w' 3 e (n + 1) (fun y => if y = h then some (.int .i64 (v : Nat)) else (hs.extra.choose y))) (hg : w.grownBy w' (some e)) : SpillAt w' p e s (n + 1) lim (growX X h v) T := by
  have hc := hs.extra.choose_spec
  have hne := hs.ne
  obtain ⟨ty, h2⟩ := hs.head
  obtain ⟨f, h4, h5⟩ := hs.sticky
  have k : Keeps [e] w w' := Keeps.of_grown hg (List.mem_singleton_self e)
  refine ⟨hs.ne, ⟨ty, k.at h2 (by simp; exact hne.1)⟩, hs.lim, ⟨_, hm, fun x hx => ?_⟩, ⟨f, (h4.keeps k (by simp; exact fun q => hne.2.2 q.symm)).mono (by omega), h5⟩⟩
  by_cases hxh : x = h
  · simp [hxh, growX]
  · simp only [growX, if_neg hxh]; exact hc.2 x hx

theorem up_stuck {p e s n : Nat} {lim : Int} {X : Int → Nat} {T : Int → Bool} (h c : Int) (w : World) (hs : SpillAt w p e s n lim X T) (hh : (Lit.int .i64 h).wf = true) (hT : T h = true) :
    Calls Try.prog 15 #[.pointer (some ⟨p, 0, none⟩), .int .i64 h, .int .i64 c] w fun e w' => e = .returned (.int .i64 (cutC c : Nat)) ∧ w = w' := by
  obtain ⟨_, _, c2⟩ := hs.cells
  have hr := hs.lookT hh
  rw [hT] at hr
  clear hs hT
  go_enter Try.func15, Try.ntmps15
  go_wp2_with (go_at_call 42; refine (spillCut_any _ _).mono ?_; rintro e w' ⟨rfl, rfl⟩)
  go_ret
  exact ⟨rfl, rfl⟩
/-- what an Up that is not stuck does -/
def UpDone (p e s n : Nat) (lim : Int) (X : Int → Nat) (T : Int → Bool) (r : Nat) (w : World) (en : Ending) (w' : World) : Prop :=
  en = .returned (.int .i64 (r : Nat)) ∧ SpillAt w' p e s (n + 2) lim X T ∧ Keeps [e, s] w w'
set_option maxRecDepth 100000 in
set_option maxHeartbeats 1000000 in
theorem up_free_low {p e s n : Nat} {lim : Int} {X : Int → Nat} {T : Int → Bool} (h c : Int) (w : World) (cc xx : Nat) (hs : SpillAt w p e s n lim X T) (hh : (Lit.int .i64 h).wf = true) (hT : T h = false) (hxx : X h = xx) (hcc : cutC c = cc) (hX : xx ≤ 1099511627776) (hn : n + 2 ≤ 1099511627776)
    (hr : (cc : Int) + (xx : Int) + 1 < lim) (hc : (cc : Int) < 255) :
    Calls Try.prog 15 #[.pointer (some ⟨p, 0, none⟩), .int .i64 h, .int .i64 c] w (UpDone p e s n lim X T (cc + 1) w) := by
  obtain ⟨c0, c1, c2⟩ := hs.cells
  have hl := hs.lookT hh
  rw [hT] at hl
  have hle := cutC_le c
  rw [hcc] at hle
  have HS := Lib.hid hs
  have HCC : Hid (∀ w : World, Calls Try.prog 42 #[.int .i64 c] w fun e w' => e = .returned (.int .i64 (cc : Nat)) ∧ w = w') := (show _ from fun w => by have := spillCut_any c w; rw [hcc] at this; exact this)
  have HT : Hid (∀ w, SpillAt w p e s n lim X T → Calls Try.prog 16 #[.pointer (some ⟨p, 0, none⟩), .int .i64 h, .int .i64 (cc : Nat)] w fun e w' => e = .returned (.int .i64 ((cc : Int) + (xx : Int))) ∧ ∃ k, w' = w.drewN k) := (show _ from fun w hs => by
    have := total_any h (cc : Int) w hs hh (by rw [hxx]; exact hX)
    rw [cutC_in hle, hxx] at this
    exact this.mono fun _ _ q => ⟨q.1.trans (ret_int (by omega)), q.2⟩)
  have hlim := hs.lim
  have HN := Lib.hid hn
  have HHH := Lib.hid hh
  have HTT := Lib.hid hT
  have HXX := Lib.hid hxx
  have hX2 : (xx : Int) ≤ 1099511627776 := by omega
  clear hs hT hn hX hcc hxx hh
  go_enter Try.func15, Try.ntmps15
  go_wp2_with (go_at_call 42; refine (HCC.out _).mono ?_; rintro e w' ⟨rfl, rfl⟩)
  go_quiet ((go_at_call 16; exact Calls.quiet_of (HT.out _ (HS.out.drewN _))))
  go_wp2
  go_ret
  exact ⟨rfl, (HS.out.drewN _).mono (by omega), (Keeps.refl _ _).drewN _⟩
set_option maxRecDepth 100000 in
set_option maxHeartbeats 1000000 in
theorem up_reach_low {p e s n : Nat} {lim : Int} {X : Int → Nat} {T : Int → Bool} (h c : Int) (w : World) (cc xx : Nat) (hs : SpillAt w p e s n lim X T) (hh : (Lit.int .i64 h).wf = true) (hT : T h = false) (hxx : X h = xx) (hcc : cutC c = cc) (hX : xx ≤ 1099511627776) (hn : n + 2 ≤ 1099511627776)
    (hr : lim ≤ (cc : Int) + (xx : Int) + 1) (hc : (cc : Int) < 255) :
    Calls Try.prog 15 #[.pointer (some ⟨p, 0, none⟩), .int .i64 h, .int .i64 c] w (UpDone p e s n lim X (stickT T h) (cc + 1) w) := by
  obtain ⟨c0, c1, c2⟩ := hs.cells
  have hl := hs.lookT hh
  rw [hT] at hl
  have hle := cutC_le c
  rw [hcc] at hle
  have HS := Lib.hid hs
  have HCC : Hid (∀ w : World, Calls Try.prog 42 #[.int .i64 c] w fun e w' => e = .returned (.int .i64 (cc : Nat)) ∧ w = w') := (show _ from fun w => by have := spillCut_any c w; rw [hcc] at this; exact this)
  have HT : Hid (∀ w, SpillAt w p e s n lim X T → Calls Try.prog 16 #[.pointer (some ⟨p, 0, none⟩), .int .i64 h, .int .i64 (cc : Nat)] w fun e w' => e = .returned (.int .i64 ((cc : Int) + (xx : Int))) ∧ ∃ k, w' = w.drewN k) := (show _ from fun w hs => by
    have := total_any h (cc : Int) w hs hh (by rw [hxx]; exact hX)
    rw [cutC_in hle, hxx] at this
    exact this.mono fun _ _ q => ⟨q.1.trans (ret_int (by omega)), q.2⟩)
  have hlim := hs.lim
  have HN := Lib.hid hn
  have HHH := Lib.hid hh
  have HTT := Lib.hid hT
  have HXX := Lib.hid hxx
  have hX2 : (xx : Int) ≤ 1099511627776 := by omega
  clear hs hT hn hX hcc hxx hh
  go_enter Try.func15, Try.ntmps15
  go_wp2_with (go_at_call 42; refine (HCC.out _).mono ?_; rintro e w' ⟨rfl, rfl⟩)
  go_quiet ((go_at_call 16; exact Calls.quiet_of (HT.out _ (HS.out.drewN _))))
  have HML : Hid (n < maxLen) := (show n < maxLen by have := HN.out; unfold maxLen; omega)
  have HML2 : Hid (n + 1 < maxLen) := (show n + 1 < maxLen by have := HN.out; unfold maxLen; omega)
  go_wp2_with (at_mapUpdate; refine wpList_store (by rfl) (.tmp 29) (.tmp 30) (.const (.bool true)) 53 rfl 3 4 sp_key Try.underlying3 Try.underlying53 s n _ rfl (HS.out.drewN _).sticky.choose_spec.1 HML.out h (.bool true) rfl rfl HHH.out ?_)
  intro w1 hm hg
  have HS2 := Lib.hid (SpillAt.stick (HS.out.drewN _) hm hg)
  have HK2 : Hid (Keeps [e, s] w w1) := (show Keeps [e, s] w w1 from ((Keeps.refl _ _).drewN _).trans (Keeps.of_grown hg (by simp)))
  clear hm hg
  go_wp2
  go_ret
  exact ⟨rfl, HS2.out.mono (by omega), HK2.out⟩
set_option maxRecDepth 100000 in
set_option maxHeartbeats 1000000 in
theorem up_free_high {p e s n : Nat} {lim : Int} {X : Int → Nat} {T : Int → Bool} (h c : Int) (w : World) (cc xx : Nat) (hs : SpillAt w p e s n lim X T) (hh : (Lit.int .i64 h).wf = true) (hT : T h = false) (hxx : X h = xx) (hcc : cutC c = cc) (hX : xx ≤ 1099511627776) (hn : n + 2 ≤ 1099511627776)
    (hr : (cc : Int) + (xx : Int) + 1 < lim) (hc : (cc : Int) = 255) :
    Calls Try.prog 15 #[.pointer (some ⟨p, 0, none⟩), .int .i64 h, .int .i64 c] w (UpDone p e s n lim (growX X h (xx + 1)) T cc w) := by
  obtain ⟨c0, c1, c2⟩ := hs.cells
  have hl := hs.lookT hh
  rw [hT] at hl
  have hle := cutC_le c
  rw [hcc] at hle
  have HS := Lib.hid hs
  have HCC : Hid (∀ w : World, Calls Try.prog 42 #[.int .i64 c] w fun e w' => e = .returned (.int .i64 (cc : Nat)) ∧ w = w') := (show _ from fun w => by have := spillCut_any c w; rw [hcc] at this; exact this)
  have HT : Hid (∀ w, SpillAt w p e s n lim X T → Calls Try.prog 16 #[.pointer (some ⟨p, 0, none⟩), .int .i64 h, .int .i64 (cc : Nat)] w fun e w' => e = .returned (.int .i64 ((cc : Int) + (xx : Int))) ∧ ∃ k, w' = w.drewN k) := (show _ from fun w hs => by
    have := total_any h (cc : Int) w hs hh (by rw [hxx]; exact hX)
    rw [cutC_in hle, hxx] at this
    exact this.mono fun _ _ q => ⟨q.1.trans (ret_int (by omega)), q.2⟩)
  have hlim := hs.lim
  have HN := Lib.hid hn
  have HHH := Lib.hid hh
  have HTT := Lib.hid hT
  have HXX := Lib.hid hxx
  have hX2 : (xx : Int) ≤ 1099511627776 := by omega
  clear hs hT hn hX hcc hxx hh
  have hl2 : ∀ m, (Instr.lookup 52 (.map (some e)) (.int .i64 h) false).run Try.prog (w.drewN m) = .ok (.int .i64 (xx : Nat)) (w.drewN m) := fun m => by
    have := (HS.out.drewN m).lookX HHH.out
    rw [HXX.out] at this
    exact this
  have hd : decide ((cc : Int) < 255) = false := by rw [decide_eq_false_iff_not]; omega
  have HC := Lib.hid hc
  clear hc
  go_enter Try.func15, Try.ntmps15
  go_wp2_with (go_at_call 42; refine (HCC.out _).mono ?_; rintro e w' ⟨rfl, rfl⟩)
  go_quiet ((go_at_call 16; exact Calls.quiet_of (HT.out _ (HS.out.drewN _))))
  have HML : Hid (n < maxLen) := (show n < maxLen by have := HN.out; unfold maxLen; omega)
  have HML2 : Hid (n + 1 < maxLen) := (show n + 1 < maxLen by have := HN.out; unfold maxLen; omega)
  go_wp2_with (at_mapUpdate; refine wpList_store (by rfl) (.tmp 38) (.tmp 39) (.tmp 41) 52 rfl 3 3 sp_key Try.underlying3 Try.underlying52 e n _ rfl (HS.out.drewN _).extra.choose_spec.1 HML.out h (.int .i64 ((xx + 1 : Nat) : Int)) rfl (by go_num) HHH.out ?_)
  intro w1 hm hg
  have HS2 := Lib.hid (SpillAt.grow (HS.out.drewN _) hm hg)
  have HK2 : Hid (Keeps [e, s] w w1) := (show Keeps [e, s] w w1 from ((Keeps.refl _ _).drewN _).trans (Keeps.of_grown hg (by simp)))
  clear hm hg
  go_wp2
  go_ret
  exact ⟨rfl, HS2.out.mono (by omega), HK2.out⟩
set_option maxRecDepth 100000 in
set_option maxHeartbeats 1000000 in
theorem up_reach_high {p e s n : Nat} {lim : Int} {X : Int → Nat} {T : Int → Bool} (h c : Int) (w : World) (cc xx : Nat) (hs : SpillAt w p e s n lim X T) (hh : (Lit.int .i64 h).wf = true) (hT : T h = false) (hxx : X h = xx) (hcc : cutC c = cc) (hX : xx ≤ 1099511627776) (hn : n + 2 ≤ 1099511627776)
    (hr : lim ≤ (cc : Int) + (xx : Int) + 1) (hc : (cc : Int) = 255) :
    Calls Try.prog 15 #[.pointer (some ⟨p, 0, none⟩), .int .i64 h, .int .i64 c] w (UpDone p e s n lim (growX X h (xx + 1)) (stickT T h) cc w) := by
  obtain ⟨c0, c1, c2⟩ := hs.cells
  have hl := hs.lookT hh
  rw [hT] at hl
  have hle := cutC_le c
  rw [hcc] at hle
  have HS := Lib.hid hs
  have HCC : Hid (∀ w : World, Calls Try.prog 42 #[.int .i64 c] w fun e w' => e = .returned (.int .i64 (cc : Nat)) ∧ w = w') := (show _ from fun w => by have := spillCut_any c w; rw [hcc] at this; exact this)
  have HT : Hid (∀ w, SpillAt w p e s n lim X T → Calls Try.prog 16 #[.pointer (some ⟨p, 0, none⟩), .int .i64 h, .int .i64 (cc : Nat)] w fun e w' => e = .returned (.int .i64 ((cc : Int) + (xx : Int))) ∧ ∃ k, w' = w.drewN k) := (show _ from fun w hs => by
    have := total_any h (cc : Int) w hs hh (by rw [hxx]; exact hX)
    rw [cutC_in hle, hxx] at this
    exact this.mono fun _ _ q => ⟨q.1.trans (ret_int (by omega)), q.2⟩)
  have hlim := hs.lim
  have HN := Lib.hid hn
  have HHH := Lib.hid hh
  have HTT := Lib.hid hT
  have HXX := Lib.hid hxx
  have hX2 : (xx : Int) ≤ 1099511627776 := by omega
  clear hs hT hn hX hcc hxx hh
  have hl2 : ∀ m, (Instr.lookup 52 (.map (some e)) (.int .i64 h) false).run Try.prog (w.drewN m) = .ok (.int .i64 (xx : Nat)) (w.drewN m) := fun m => by
    have := (HS.out.drewN m).lookX HHH.out
    rw [HXX.out] at this
    exact this
  have hd : decide ((cc : Int) < 255) = false := by rw [decide_eq_false_iff_not]; omega
  have HC := Lib.hid hc
  clear hc
  go_enter Try.func15, Try.ntmps15
  go_wp2_with (go_at_call 42; refine (HCC.out _).mono ?_; rintro e w' ⟨rfl, rfl⟩)
  go_quiet ((go_at_call 16; exact Calls.quiet_of (HT.out _ (HS.out.drewN _))))
  have HML : Hid (n < maxLen) := (show n < maxLen by have := HN.out; unfold maxLen; omega)
  have HML2 : Hid (n + 1 < maxLen) := (show n + 1 < maxLen by have := HN.out; unfold maxLen; omega)
  go_wp2_with (at_mapUpdate; refine wpList_store (by rfl) (.tmp 29) (.tmp 30) (.const (.bool true)) 53 rfl 3 4 sp_key Try.underlying3 Try.underlying53 s n _ rfl (HS.out.drewN _).sticky.choose_spec.1 HML.out h (.bool true) rfl rfl HHH.out ?_)
  intro w1 hm hg
  have HS2 := Lib.hid (SpillAt.stick (HS.out.drewN _) hm hg)
  have HK2 : Hid (Keeps [e, s] w w1) := (show Keeps [e, s] w w1 from ((Keeps.refl _ _).drewN _).trans (Keeps.of_grown hg (by simp)))
  clear hm hg
  obtain ⟨_, d1, _⟩ := HS2.out.cells
  have hl3 := HS2.out.lookX HHH.out
  rw [HXX.out] at hl3
  go_wp2_with (at_mapUpdate; refine wpList_store (by rfl) (.tmp 38) (.tmp 39) (.tmp 41) 52 rfl 3 3 sp_key Try.underlying3 Try.underlying52 e (n + 1) _ rfl (HS2.out).extra.choose_spec.1 HML2.out h (.int .i64 ((xx + 1 : Nat) : Int)) rfl (by go_num) HHH.out ?_)
  intro w2 hm hg
  have HS3 := Lib.hid (SpillAt.grow HS2.out hm hg)
  have HK3 : Hid (Keeps [e, s] w w2) := (show Keeps [e, s] w w2 from HK2.out.trans (Keeps.of_grown hg (by simp)))
  clear hm hg
  go_wp2
  go_ret
  exact ⟨rfl, HS3.out, HK3.out⟩
end Go.Proofs.Ytkfgpgllpegleaa
