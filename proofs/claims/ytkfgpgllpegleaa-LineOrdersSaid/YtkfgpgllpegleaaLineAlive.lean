/- The example of chapter 6 holds; a line that is new in a world. -/
import Derived.Test.YtkfgpgllpegleaaLineFlush
import Derived.Test.YtkfgpgllpegleaaLineHas
import Derived.Test.YtkfgpgllpegleaaLineWords
namespace Go.Proofs.Ytkfgpgllpegleaa
open Go.RowKit
set_option linter.unusedVariables false

/-- a line that was made behind world w0 -/
structure LN (B : Nat) (w0 : World) (p bud : Nat) (l : List (Int × Nat)) (w : World) : Prop where
  ex : ∃ q, LineAt w p q bud l ∧ ∀ g, q = some g → B ≤ g
  lo : B ≤ p
  bel : Below B w0 w
  size : B ≤ w.heap.size
theorem LN.drewN {B : Nat} {w0 w : World} {p bud : Nat} {l : List (Int × Nat)} (h : LN B w0 p bud l w) (m : Nat) : LN B w0 p bud l (w.drewN m) := by
  obtain ⟨⟨q, h1, h2⟩, h3, h4, h5⟩ := h
  exact ⟨⟨q, h1.drewN m, h2⟩, h3, below_drewN h4 m, h5⟩
theorem LN.below {B : Nat} {w0 w w' : World} {p bud : Nat} {l : List (Int × Nat)} (h : LN B w0 p bud l w) (hb : Below w.heap.size w w') : LN B w0 p bud l w' := by
  obtain ⟨⟨q, h1, h2⟩, h3, h4, h5⟩ := h
  exact ⟨⟨q, h1.keeps (Keeps.of_below hb (Nat.le_refl _) []) List.not_mem_nil (fun _ _ => List.not_mem_nil), h2⟩, h3, h4.trans (hb.mono h5), Nat.le_trans h5 hb.size⟩

set_option maxRecDepth 100000 in
set_option maxHeartbeats 1000000 in
theorem alive6 (w : World) : Calls Try.prog 23 #[] w fun e w' => e = .returned (.bool true) ∧ Below w.heap.size w w' := by
  go_enter Try.func23, Try.ntmps23
  go_wp2_with fail
  refine (lineNew_in 1 _ (by decide)).mono ?_
  rintro en w1 ⟨p, rfl, hs, hp, hb⟩
  have HS := Lib.hid hs
  have HB := Lib.hid hb
  have HP := Lib.hid hp
  clear hs hb hp
  have g1 : goes 1 ([] ++ [((3 : Int), 2)]) = [3] := by decide
  have s1 : stays 1 ([] ++ [((3 : Int), 2)]) = [] := by decide
  have g2 : goes 1 ([] ++ [((4 : Int), 1)]) = [] := by decide
  have s2 : stays 1 ([] ++ [((4 : Int), 1)]) = [(4, 1)] := by decide
  go_wp2_with fail
  refine (add_line 3 2 _ HS.out (by decide) (by decide)).mono ?_
  rintro en w2 ⟨v, q', rfl, hv, hg, hl, hq, hk⟩
  rw [g1] at hv
  rw [s1] at hl
  obtain ⟨a1, k1, rfl, _⟩ := hv.read
  have HV := Lib.hid hv
  have HG := Lib.hid hg
  have HL := Lib.hid hl
  have HK := Lib.hid hk
  have HQ := Lib.hid hq
  clear hv hg hl hk hq g1 s1
  go_wp2_with fail
  refine (add_line 4 1 _ HL.out (by decide) (by decide)).mono ?_
  rintro en w3 ⟨v2, q2, rfl, hv, hg, hl, hq, hk⟩
  rw [g2] at hv
  rw [s2] at hl
  obtain ⟨a2, k2, rfl, _⟩ := hv.read
  have HL2 := Lib.hid hl
  have hv3 := HV.out.keeps hk (fun g hgg hm => by
    obtain ⟨h1, h2⟩ := HG.out g hgg
    rcases List.mem_cons.1 hm with rfl | hm
    · have := HL.out.lt.1
      have h3 := (HS.out.lt).1
      omega
    · exact h2 (by simpa using hm))
  obtain ⟨a, c, e, -, -, -, hrd⟩ := hv3.read
  cases e
  obtain ⟨b, off, rfl, hbl, hcell⟩ := hrd 0 (.int .i64 3) rfl
  rw [Nat.add_zero] at hcell
  have hB2 := Lib.hid (below_keeps (HB.out) HK.out HB.out.size (by simpa using HP.out))
  have hB3 := Lib.hid (below_keeps hB2.out hk hB2.out.size (fun g hm => by
    rcases List.mem_cons.1 hm with rfl | hm
    · exact HP.out
    · rcases HQ.out with h | ⟨g', h, hge⟩
      · rw [h] at hm; simp at hm
      · rw [h] at hm
        simp at hm
        subst hm
        exact Nat.le_trans HB.out.size hge))
  clear hv3 hrd hv hg hl hk hq g2 s2
  go_wp2_with fail
  refine (hasLine_any 4 _ HL2.out).mono ?_
  rintro en w4 ⟨rfl, hb4⟩
  have r1 : hasL [((4 : Int), 1)] 4 = true := by decide
  rw [r1]
  have hk4 : Keeps [] w3 w4 := Keeps.of_below hb4 (Nat.le_refl _) []
  have HL4 := Lib.hid (HL2.out.keeps hk4 List.not_mem_nil fun _ _ => List.not_mem_nil)
  have HB4 := Lib.hid (hB3.out.trans (hb4.mono hB3.out.size))
  clear hk4 hb4 r1
  go_wp2_with fail
  refine (words_any _ HL4.out).mono ?_
  rintro en w5 ⟨rfl, rfl⟩
  have r2 : ((sumL [((4 : Int), 1)] : Nat) : Int) = 1 := by decide
  rw [r2]
  clear r2
  go_wp2
  go_ret
  exact ⟨rfl, HB4.out⟩
end Go.Proofs.Ytkfgpgllpegleaa
