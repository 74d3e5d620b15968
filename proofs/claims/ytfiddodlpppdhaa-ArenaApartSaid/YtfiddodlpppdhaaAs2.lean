/- arena's first computes what it says. -/
import Derived.Test.YtfiddodlpppdhaaAr1
import Derived.Deep.LoopGhost
import Derived.Deep.DeepCutAuto
namespace Go.Proofs.Ytfiddodlpppdhaa
open Go.RowKit Go.Maps
set_option linter.unusedVariables false
/-- all blocks of the set B stand -/
structure Bel (B : Nat → Prop) (w w' : World) : Prop where
  os : w'.os = w.os
  tape : w'.tape = w.tape
  output : w'.output = w.output
  size : w.heap.size ≤ w'.heap.size
  block : ∀ k, B k → w'.heap[k]? = w.heap[k]?
def Fits (B : Nat → Prop) (w : World) : Prop := ∀ g, B g → g < w.heap.size
def low (n : Nat) : Nat → Prop := fun g => g < n
section
variable {B B' : Nat → Prop} {a b c w w' : World} {L : List Nat}
theorem Fits.le (h : Fits B w) (k : w.heap.size ≤ w'.heap.size) : Fits B w' := fun g hg => Nat.lt_of_lt_of_le (h g hg) k
theorem Bel.refl (B : Nat → Prop) (w : World) : Bel B w w := ⟨rfl, rfl, rfl, Nat.le_refl _, fun _ _ => rfl⟩
theorem Bel.trans (h : Bel B a b) (k : Bel B b c) : Bel B a c := ⟨k.os.trans h.os, k.tape.trans h.tape, k.output.trans h.output, Nat.le_trans h.size k.size, fun i hi => (k.block i hi).trans (h.block i hi)⟩
theorem Bel.mono (h : Bel B w w') (hB : ∀ g, B' g → B g) : Bel B' w w' := ⟨h.os, h.tape, h.output, h.size, fun k hk => h.block k (hB k hk)⟩
theorem Bel.cell (h : Bel B w w') {p : Addr} (hp : B p.block) : w'.cell? p = w.cell? p := World.cell?_of_block (w := w) (h.block p.block hp)
theorem Bel.frozen (h : Bel B w w') {p : Addr} (hp : B p.block) : w'.frozen? p = w.frozen? p := World.frozen?_of_block (w := w) (h.block p.block hp)
theorem Bel.below {n : Nat} (h : Bel B w w') (hB : ∀ g, g < n → B g) : Below n w w' := ⟨h.os, h.tape, h.output, h.size, fun k hk => h.block k (hB k hk)⟩
theorem Below.bel {n : Nat} (h : Below n w w') (hB : ∀ g, B g → g < n) : Bel B w w' := ⟨h.os, h.tape, h.output, h.size, fun k hk => h.block k (hB k hk)⟩
theorem Keeps.bel (h : Keeps L w w') (hB : Fits B w) (hl : ∀ k ∈ L, ¬ B k) : Bel B w w' := ⟨h.os, h.tape, h.output, h.size, fun k hk => h.block k (hB k hk) fun hm => hl k hm hk⟩
end
/-- an arena whose blocks all lie out of B -/
def ArS (B : Nat → Prop) (w : World) (pa K : Nat) (A : Ar) : Prop := ∃ I own, ArAt w pa I own K A ∧ (∀ g, own g ≠ 0 → ¬ B g) ∧ Fits B w
theorem newOwn_base {own : Nat → Nat} {w : World} {t : Nat} {B : Nat → Prop} (h : ∀ g, own g ≠ 0 → ¬ B g) (hB : Fits B w) : ∀ g, newOwn own w t g ≠ 0 → ¬ B g := fun g hg => by
  unfold newOwn at hg
  split at hg
  · exact h g hg
  · intro hb; have := hB g hb; omega
theorem keeps_below {B : Nat → Prop} {w w' : World} {L : List Nat} {own : Nat → Nat} (k : Keeps L w w') (h : ∀ g, own g ≠ 0 → ¬ B g) (hB : Fits B w) (hL : ∀ x ∈ L, own x ≠ 0) : Bel B w w' := k.bel hB fun x hx => h x (hL x hx)
theorem length_le_of_nodup : ∀ (M : Nat) {l : List Int}, l.Nodup → (∀ x ∈ l, 0 ≤ x ∧ x < (M : Int)) → l.length ≤ M
  | 0, l, hn, h => by
    cases l with
    | nil => simp
    | cons x l => have := h x (by simp); omega
  | M + 1, l, hn, h => by
    by_cases hm : ((M : Int)) ∈ l
    · have h1 := length_le_of_nodup M (l := l.erase (M : Int)) (hn.erase _) fun x hx => by
        have hne := (hn.mem_erase_iff.1 hx)
        have := h x hne.2
        have := hne.1
        omega
      rw [List.length_erase_of_mem hm] at h1
      omega
    · have := length_le_of_nodup M hn fun x hx => by
        have h1 := h x hx
        have : x ≠ (M : Int) := fun e => hm (e ▸ hx)
        omega
      omega
theorem updO_eq {α : Type} (f : Nat → Option α) (x : Nat) (v : Option α) : updO f x v x = v := if_pos rfl
theorem updO_ne {α : Type} (f : Nat → Option α) {x y : Nat} (v : Option α) (h : y ≠ x) : updO f x v y = f y := if_neg h
section
variable {w w' : World} {B : Nat → Prop} {pa K : Nat} {I : ArIds} {own : Nat → Nat} {A : Ar}
theorem ArOk.size_pos (ok : ArOk A) {x : Nat} {b : BlkT} (hb : A.B x = some b) : 0 < b.size ∧ x + b.size ≤ 64 * A.N ∧ 64 ≤ x ∧ b.asked ≤ b.size := by
  obtain ⟨h1, h2, h3, h4, _⟩ := ok.blk x b hb
  refine ⟨?_, h2, h1, h3⟩
  rcases h4 with ⟨h, _⟩ | h
  · unfold small5 at h; omega
  · omega
theorem ArOk.bad_lt (ok : ArOk A) : A.bad ≤ 262144 := by
  obtain ⟨l, h1, h2, h3⟩ := ok.badn
  rw [← h2]
  refine length_le_of_nodup 262144 h1 fun x hx => ?_
  obtain ⟨k, b, rfl, hb, _⟩ := h3 x hx
  have := ok.size_pos hb
  have := ok.n.2
  omega
/-- first's popping -/
theorem ArOk.popF (ok : ArOk A) (c x : Nat) : ArOk { A with F := updF A.F c x false } := by
  refine ⟨ok.n, ok.blk, fun d y hy => ok.free d y ?_, ok.line, ok.nodup, ok.tab, ok.badn, ok.runs⟩
  unfold updF at hy
  dsimp only at hy
  split at hy
  · cases hy
  · exact hy
theorem ArOk.badB (ok : ArOk A) {c x : Nat} {b : BlkT} (hb : A.B x = some b) (hf : A.F c x = true) : ArOk { A with F := updF A.F c x false, B := updO A.B x (some { b with st := 4 }), bad := A.bad + 1 } := by
  obtain ⟨b0, e0, e1, e2, e3⟩ := ok.free c x hf
  rw [hb] at e0
  cases e0
  refine ⟨ok.n, fun y d hd => ?_, fun d y hy => ?_, fun y n hy => ?_, ok.nodup, fun y d hd => ?_, ?_, ok.runs⟩
  · unfold updO at hd
    dsimp only at hd
    split at hd
    · next e => subst e; cases hd; obtain ⟨h1, h2, h3, h4, h5⟩ := ok.blk y b hb; exact ⟨h1, h2, h3, h4, (by decide : (4 : Nat) ≤ 4)⟩
    · exact ok.blk y d hd
  · unfold updF at hy
    dsimp only at hy
    split at hy
    · cases hy
    · next hne =>
      obtain ⟨b1, f0, f1, f2, f3⟩ := ok.free d y hy
      by_cases hyx : y = x
      · subst hyx
        rw [hb] at f0
        cases f0
        exact absurd ⟨by rw [← f2, e2], rfl⟩ hne
      · exact ⟨b1, (updO_ne _ _ hyx).trans f0, f1, f2, f3⟩
  · obtain ⟨k, b1, f0, f1, f2, f3⟩ := ok.line y n hy
    have hkx : k ≠ x := by
      rintro rfl
      rw [hb] at f1
      cases f1
      omega
    exact ⟨k, b1, f0, (updO_ne _ _ hkx).trans f1, f2, f3⟩
  · unfold updO at hd
    dsimp only at hd
    split at hd
    · next e => subst e; cases hd; exact ok.tab y b hb
    · exact ok.tab y d hd
  · obtain ⟨l, h1, h2, h3⟩ := ok.badn
    refine ⟨(x : Int) :: l, List.nodup_cons.2 ⟨fun hm => ?_, h1⟩, by simp [h2], fun y hy => ?_⟩
    · obtain ⟨k, b1, f0, f1, f2⟩ := h3 _ hm
      obtain rfl : x = k := by omega
      rw [hb] at f1
      cases f1
      omega
    · rcases List.mem_cons.1 hy with rfl | hy
      · exact ⟨x, _, rfl, updO_eq _ _ _, rfl⟩
      · obtain ⟨k, b1, f0, f1, f2⟩ := h3 _ hy
        have hkx : k ≠ x := by
          rintro rfl
          rw [hb] at f1
          cases f1
          omega
        exact ⟨k, b1, f0, (updO_ne _ _ hkx).trans f1, f2⟩
/-- how many are free of a place -/
def CntF (F : Nat → Bool) (k : Nat) : Prop := ∀ l : List Int, l.Nodup → (∀ x : Int, x ∈ l ↔ ∃ n : Nat, x = (n : Int) ∧ F n = true) → l.length ≤ k
theorem ArOk.cnt (ok : ArOk A) (c : Nat) : CntF (A.F c) 262144 := fun l hn hm => length_le_of_nodup 262144 hn fun x hx => by
  obtain ⟨n, rfl, hf⟩ := (hm x).1 hx
  obtain ⟨b, hb, _⟩ := ok.free c n hf
  have := ok.size_pos hb
  have := ok.n.2
  omega
theorem CntF.pop {F : Nat → Nat → Bool} {c x k : Nat} (h : CntF (F c) (k + 1)) (hx : F c x = true) : CntF (updF F c x false c) k := fun l hn hm => by
  have hni : (x : Int) ∉ l := fun he => by
    obtain ⟨n, e, hf⟩ := (hm _).1 he
    obtain rfl : x = n := by omega
    unfold updF at hf
    rw [if_pos ⟨rfl, rfl⟩] at hf
    cases hf
  have := h ((x : Int) :: l) (List.nodup_cons.2 ⟨hni, hn⟩) fun y => by
    rw [List.mem_cons, hm y]
    unfold updF
    constructor
    · rintro (rfl | ⟨n, rfl, hf⟩)
      · exact ⟨x, rfl, hx⟩
      · split at hf
        · cases hf
        · exact ⟨n, rfl, hf⟩
    · rintro ⟨n, rfl, hf⟩
      by_cases e : n = x
      · subst e; exact .inl rfl
      · exact .inr ⟨n, rfl, by rw [if_neg (fun h => e h.2)]; exact hf⟩
  simpa using this
/-- a row popped -/
theorem ArAt.popped (h : ArAt w pa I own K A) {c : Nat} (hc : c < 5) {l : List Int} {x : Nat} (hx : hg l 0 = (x : Int)) (hn : l.Nodup) (hm : ∀ y : Int, y ∈ l ↔ ∃ k : Nat, y = (k : Int) ∧ A.F c k = true)
    (hp : PopDone w pa (4 + c) 57 (arCells I A) (I.rv c).ownBlock l w') : ∃ v, ArAt w' pa { I with rv := fun d => if d = c then v else I.rv d } (newOwn own w (6 + c)) K { A with F := updF A.F c x false } ∧ Keeps (pa :: (I.rv c).ownBlock.toList) w w' := by
  obtain ⟨l', v, q', h1, h2, h3, h4, h5⟩ := hp
  have hn2 : (hg l 0 :: l').Nodup := h2.nodup_iff.2 hn
  have hn3 := List.nodup_cons.1 hn2
  have key := h.turnRow hc h1 h4 h5 h3 hn3.2 (fun y => updF A.F c x false c y) fun y => by
    have e : y ∈ hg l 0 :: l' ↔ y ∈ l := h2.mem_iff
    rw [List.mem_cons, hm y, hx] at e
    rw [hx] at hn3
    constructor
    · intro hy
      obtain ⟨k, rfl, hf⟩ := e.1 (.inr hy)
      refine ⟨k, rfl, ?_⟩
      unfold updF
      rw [if_neg (fun hh => hn3.1 (by rw [← hh.2]; exact hy))]
      exact hf
    · rintro ⟨k, rfl, hf⟩
      unfold updF at hf
      split at hf
      · cases hf
      · next hne =>
        rcases e.2 ⟨k, rfl, hf⟩ with hh | hh
        · exact absurd ⟨rfl, by omega⟩ hne
        · exact hh
  refine ⟨v, ?_, h5⟩
  have e : (fun d y => if d = c then updF A.F c x false c y else A.F d y) = updF A.F c x false := by
    funext d y
    by_cases hd : d = c
    · subst hd; rw [if_pos rfl]
    · rw [if_neg hd]; unfold updF; rw [if_neg (fun hh => hd hh.1)]
  rw [e] at key
  exact key
end
end Go.Proofs.Ytfiddodlpppdhaa
