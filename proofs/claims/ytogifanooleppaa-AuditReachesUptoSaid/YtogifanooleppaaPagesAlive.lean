/- The example of chapter 4 holds; takes of which the answer is known. -/
import Derived.Test.YtogifanooleppaaPagesGive
namespace Go.Proofs.Ytogifanooleppaa
open Go.RowKit Go.Maps
set_option linter.unusedVariables false

section
variable {p s g m n c : Nat} {T : Nat → Option RunT}
/-- a Take that finds a run -/
def TookDone (p s g m n c : Nat) (T : Nat → Option RunT) (r K : Nat) (mk : Int) (w : World) (en : Ending) (w' : World) : Prop :=
  en = .returned (.int .i64 (r : Nat)) ∧ PagesAt w' p s g m n (c + K) (putT T r K mk K) ∧ Keeps [g, m] w w'
theorem ptake_yes (r K : Nat) (mk : Int) (w : World) (h : PagesAt w p s g m n c T) (hK1 : 1 ≤ K) (hK : K ≤ 9223372036854775807) (hc : c ≤ 1099511627776) (hmk : (Lit.int .i64 mk).wf = true) (hr : RunIs n (usedB T) K (r : Int)) :
    Calls Try.prog 27 #[.pointer (some ⟨p, 0, none⟩), .int .i64 (K : Nat), .int .i64 mk] w (TookDone p s g m n c T r K mk w) := by
  have e : atLeast1 (K : Int) = K := by unfold atLeast1; omega
  have h1 := ptake_any (K : Int) mk w h (by omega) hc hmk
  rw [e] at h1
  refine h1.mono fun en w' q => ?_
  rcases q with ⟨rfl, q2, rfl⟩ | ⟨r', rfl, q2, q3, q4⟩
  · have := RunIs.unique hr q2; omega
  · obtain rfl : r = r' := by have := RunIs.unique hr q2; omega
    exact ⟨rfl, q3, q4⟩
theorem ptake_no (K : Nat) (mk : Int) (w : World) (h : PagesAt w p s g m n c T) (hK1 : 1 ≤ K) (hK : K ≤ 9223372036854775807) (hc : c ≤ 1099511627776) (hmk : (Lit.int .i64 mk).wf = true) (hr : RunIs n (usedB T) K (-1)) :
    Calls Try.prog 27 #[.pointer (some ⟨p, 0, none⟩), .int .i64 (K : Nat), .int .i64 mk] w fun en w' => en = .returned (.int .i64 (-1)) ∧ w = w' := by
  have e : atLeast1 (K : Int) = K := by unfold atLeast1; omega
  have h1 := ptake_any (K : Int) mk w h (by omega) hc hmk
  rw [e] at h1
  refine h1.mono fun en w' q => ?_
  rcases q with ⟨rfl, q2, rfl⟩ | ⟨r', rfl, q2, q3, q4⟩
  · exact ⟨rfl, rfl⟩
  · have := RunIs.unique hr q2; omega
/-- the least page that is free -/
theorem runIs_one {n i : Nat} {S : Nat → Bool} (hi : i < n) (hS : S i = false) (hlt : ∀ j, j < i → S j = true) : RunIs n S 1 (i : Int) :=
  .inr ⟨i, rfl, ⟨by omega, fun j h1 h2 => by rw [show j = i by omega]; exact hS⟩, fun j hj q => by have := q.2 j (Nat.le_refl _) (by omega); rw [hlt j hj] at this; cases this⟩
theorem runIs_none {n : Nat} {S : Nat → Bool} (K : Nat) (hK : 1 ≤ K) (h : ∀ j, j < n → S j = true) : RunIs n S K (-1) :=
  .inl ⟨rfl, fun i q => by have := q.1; have h2 := q.2 i (Nat.le_refl _) (by omega); rw [h i (by omega)] at h2; cases h2⟩
end
theorem below_keeps2 {B : Nat} {w w1 w2 : World} {g m : Nat} (hb : Below B w w1) (k : Keeps [g, m] w1 w2) (h1 : B ≤ w1.heap.size) (hg : B ≤ g) (hm : B ≤ m) : Below B w w2 :=
  below_keeps hb k h1 (by intro x hx; simp at hx; rcases hx with rfl | rfl <;> assumption)
set_option maxRecDepth 100000 in
theorem alive4 (w : World) : Calls Try.prog 24 #[] w fun e w' => e = .returned (.bool true) ∧ Below w.heap.size w w' := by
  have HN := Lib.hid (fun w => pnew_mid 4 w (by omega) (by omega))
  go_enter Try.func24, Try.ntmps24
  go_wp2_with fail
  refine (HN.out _).mono ?_
  rintro en w1 ⟨p, s, g, m, rfl, hp, hsz, hb⟩
  have HB := Lib.hid hb
  have HP := Lib.hid hp
  have HSZ := Lib.hid hsz
  have HT := Lib.hid (ptake_yes 1 1 5 _ hp (by omega) (by omega) (by omega) (by decide) (runIs_one (by omega) (by decide) (fun j hj => by rw [show j = 0 by omega]; rfl)))
  clear hb hp hsz
  go_wp2_with fail
  refine HT.out.mono ?_
  rintro en w2 ⟨rfl, hp2, hk2⟩
  have HB2 := Lib.hid (below_keeps2 HB.out hk2 HB.out.size HSZ.out.2.2.1 HSZ.out.2.2.2)
  have HO := Lib.hid (pof_any 1 _ hp2 (by decide))
  rw [show ofT (putT (fun _ => none) 1 1 5 1) 1 = (1, 1, 5) by decide] at HO
  clear hp2 hk2
  go_wp2_with fail
  refine HO.out.mono ?_
  rintro en w3 ⟨rfl, hb3⟩
  have HB3 := Lib.hid (HB2.out.trans (hb3.mono HB2.out.size))
  clear hb3
  go_wp2
  go_ret
  exact ⟨rfl, HB3.out⟩
end Go.Proofs.Ytogifanooleppaa
