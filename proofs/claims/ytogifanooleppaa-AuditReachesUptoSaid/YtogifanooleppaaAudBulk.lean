/- what the bound of the second form gives: how many references objects hold that came in. -/
import Derived.Test.YtogifanooleppaaRows
import Derived.Test.YtogifanooleppaaAuditReachesWalk
namespace Go.Proofs.Ytogifanooleppaa
open Go.RowKit Go.Maps Go.ChangeShapes Go.WideShapes Go.Deep
set_option linter.unusedVariables false

theorem bulk_one {H : Type} (d : DataW H) : 1 ≤ Rows.uptoBulk d := by
  cases d with
  | lit l => cases l <;> simp [Rows.uptoBulk]
  | nil => simp [Rows.uptoBulk]
  | ptr d => simp [Rows.uptoBulk]
  | slice elems spare => simp [Rows.uptoBulk]
  | agg parts => simp [Rows.uptoBulk]
  | iface t d => simp [Rows.uptoBulk]
  | map entries => simp [Rows.uptoBulk]
  | held h => simp [Rows.uptoBulk]
theorem bulk_len {H : Type} (l : List (DataW H)) : l.length ≤ Rows.uptoBulkAll l := by
  induction l with
  | nil => simp [Rows.uptoBulkAll]
  | cons x r ih => have := bulk_one x; simp only [Rows.uptoBulkAll, List.length_cons]; omega
/-- a slice is no shorter than its bulk says -/
theorem slice_bulk {H : Type} {enc : TypeId × Value → H} {P : Program} {w : World} {base : Nat} {spare : Nat → Bool} {held : Bool} {t e : TypeId} {fuel : Nat} {a : Option Addr} {len cap : Nat} {z : DataW H × List MemPlace} (ht : P.underlying t = some (.slice e)) (h : DataW.trod enc P w base spare held fuel t [.slice a len cap] = some z) :
    len + 1 ≤ Rows.uptoBulk z.1 := by
  rcases open_slice ht h with ⟨h0, hx⟩ | ⟨a', len', cap', m, n, D, Pl, hcs, hb, hl, hm, hmm, hx, hi⟩
  · cases h0
    rw [hx]
    exact bulk_one _
  · cases hcs
    rw [hx]
    have := bulk_len ((List.range len).map D)
    rw [List.length_map, List.length_range] at this
    simp only [Rows.uptoBulk]
    omega
section
variable {H : Type} {enc : TypeId × Value → H} {w : World} {base : Nat} {spare : Nat → Bool} {held : Bool}
theorem elem_bulk {n : Nat} {F : Nat → Value} {y : DataW H × List MemPlace} (h : DataW.trod enc Try.prog w base spare held n 47 ((List.range (Try.prog.cellsOf 47)).map F) = some y) {ra : Option Addr} {rl rc : Nat} (hF : F 4 = .slice ra rl rc) : rl + 6 ≤ Rows.uptoBulk y.1 := by
  obtain ⟨xs, m, _, hx, _, hlen, hf⟩ := DataW.trod_struct Try.underlying47 h
  have c5 : Try.prog.cellsOf 47 = 5 := by kernel_rfl
  have c1 : Try.prog.cellsOf 23 = 1 := by kernel_rfl
  have h4 := hf 4 _ rfl
  rw [c5] at h4
  match xs, hlen with
  | [x0, x1, x2, x3, x4], _ =>
    rw [hx]
    have h5 : DataW.trod enc Try.prog w base spare held m 23 [.slice ra rl rc] = some x4 := by
      rw [← hF]
      have e : ((List.map F (List.range 5)).drop 4).take (Try.prog.cellsOf 23) = [F 4] := by rw [c1]; rfl
      exact (congrArg _ e).symm.trans h4
    have b4 := slice_bulk Try.underlying23 h5
    have b0 := bulk_one x0.1
    have b1 := bulk_one x1.1
    have b2 := bulk_one x2.1
    have b3 := bulk_one x3.1
    simp only [List.map_cons, List.map_nil, Rows.uptoBulk, Rows.uptoBulkAll]
    omega
/-- objects, their cells named -/
theorem objs_ofF {a : Option Addr} {len cap : Nat} {F : Nat → Nat → Value} (hR : Rows w a len cap 5 F) (hF : ∀ i, i < len → ((∃ n : Int, (F i) 0 = .int .i64 n ∧ (Lit.int .i64 n).wf = true) ∧ (∃ n : Int, (F i) 1 = .int .i64 n ∧ (Lit.int .i64 n).wf = true) ∧ (∃ n : Int, (F i) 2 = .int .i64 n ∧ (Lit.int .i64 n).wf = true) ∧ (∃ b : Bool, (F i) 3 = .bool b) ∧ (∃ (a : Option Addr) (len cap : Nat) (F0 : Nat → Nat → Value), (F i) 4 = .slice a len cap ∧ Rows w a len cap 1 F0 ∧ ∀ i, i < len → (∃ n : Int, (F0 i) 0 = .int .i64 n ∧ (Lit.int .i64 n).wf = true)))) :
    ∃ l, ObjsAt w a len cap l ∧ ∀ i o, l[i]? = some o → F i 4 = .slice o.ra o.rl o.rc := by
  obtain ⟨l, hl⟩ := objs_of ⟨F, hR, hF⟩
  refine ⟨l, hl, fun i o ho => ?_⟩
  have hi : i < len := by have := (List.getElem?_eq_some_iff.1 ho).1; have := hl.size; omega
  obtain ⟨b, off, e, _, _, _, _, _, c4⟩ := hl.cell i o ho
  obtain ⟨b', off', e', _, c⟩ := hR.cell i 4 hi (by omega)
  rw [e] at e'
  cases e'
  have : some (Value.slice o.ra o.rl o.rc) = some (F i 4) := c4.symm.trans c
  exact (Option.some.inj this).symm
theorem refs_bulk : ∀ (l : List ObjV) (D : Nat → DataW H), (∀ i o, l[i]? = some o → o.refs.length + 6 ≤ Rows.uptoBulk (D i)) → refsN l + 6 * l.length ≤ Rows.uptoBulkAll ((List.range l.length).map D) := by
  intro l
  induction l with
  | nil => intro D _; simp [refsN]
  | cons o l ih =>
    intro D h
    have h0 := h 0 o rfl
    have h1 := ih (fun i => D (i + 1)) fun i p hp => h (i + 1) p hp
    rw [List.length_cons, List.range_succ_eq_map, List.map_cons, List.map_map]
    simp only [refsN, Rows.uptoBulkAll]
    have e : (List.range l.length).map (D ∘ Nat.succ) = (List.range l.length).map fun i => D (i + 1) := rfl
    rw [e]
    omega
/-- a slice that came in, its elements and their readings -/
theorem open_rowsD {P : Program} {t e : TypeId} {fuel : Nat} {cs : List Value} {x : DataW H × List MemPlace} (ht : P.underlying t = some (.slice e)) (h : DataW.trod enc P w base spare held fuel t cs = some x) :
    ∃ (a : Option Addr) (len cap : Nat) (F : Nat → Nat → Value) (D : Nat → DataW H), cs = [.slice a len cap] ∧ Rows w a len cap (P.cellsOf e) F ∧ Rows.uptoBulkAll ((List.range len).map D) ≤ Rows.uptoBulk x.1 ∧
      ∀ i, i < len → ∃ (n : Nat) (p : List MemPlace), DataW.trod enc P w base spare held n e ((List.range (P.cellsOf e)).map (F i)) = some (D i, p) := by
  rcases open_slice ht h with ⟨h0, hx⟩ | ⟨a, len, cap, m, n, D, Pl, hcs, hb, hl, hm, hmm, hx, hi⟩
  · exact ⟨none, 0, 0, fun _ _ => undef, fun _ => .nil, h0, ⟨Nat.le_refl _, by decide, fun _ => ⟨rfl, rfl⟩, fun i j h => absurd h (by omega)⟩, by simp [Rows.uptoBulkAll], fun i h => absurd h (by omega)⟩
  · have hlm : len ≤ m := by rw [hmm]; split <;> omega
    have hE : ∀ i, ∃ E : List Value, i < m → w.cells? base (a.add (i * P.cellsOf e)) (P.cellsOf e) = some E ∧ DataW.trod enc P w base spare held n e E = some (D i, Pl i) := fun i => by
      by_cases him : i < m
      · obtain ⟨E, h1, h2⟩ := hi i him
        exact ⟨E, fun _ => ⟨h1, h2⟩⟩
      · exact ⟨[], fun h => absurd h him⟩
    obtain ⟨E, hE⟩ := Classical.axiomOfChoice hE
    refine ⟨some a, len, cap, fun i j => (E i)[j]?.getD undef, D, hcs, ⟨hl, by simpa [maxLen] using hm, fun e => (by cases e), fun i j hil hj => ?_⟩, by rw [hx]; simp only [Rows.uptoBulk]; omega, fun i hil => ?_⟩
    · obtain ⟨h1, h2⟩ := hE i (by omega)
      obtain ⟨_, hcl, hat⟩ := World.cells?_some h1
      have hc := hat j hj
      rw [List.getElem?_eq_getElem (by omega)] at hc
      have hsp : a.spot = none := by
        obtain ⟨g1, _⟩ := hE 0 (by omega)
        obtain ⟨_, gcl, gat⟩ := World.cells?_some g1
        have gc := gat 0 (by omega)
        rw [List.getElem?_eq_getElem (by omega)] at gc
        have := World.cell?_spot gc
        simpa [Addr.add] using this
      obtain ⟨b, off, spot⟩ := a
      simp only at hsp
      subst hsp
      have hc2 : w.cell? ⟨b, off + (i * P.cellsOf e + j), none⟩ = some ((E i)[j]'(by omega)) := by
        rw [← hc, Go.Deep.add_add]
        unfold Addr.add
        by_cases h0 : i * P.cellsOf e + j = 0
        · rw [if_pos h0, h0]; rfl
        · rw [if_neg h0]
      refine ⟨b, off, rfl, World.block_lt_of_cell? w _ hc2, ?_⟩
      rw [hc2, List.getElem?_eq_getElem (by omega)]
      rfl
    · obtain ⟨h1, h2⟩ := hE i (by omega)
      obtain ⟨_, hcl, _⟩ := World.cells?_some h1
      refine ⟨n, Pl i, ?_⟩
      have : (List.range (P.cellsOf e)).map (fun j => (E i)[j]?.getD undef) = E i := by
        apply List.ext_getElem?
        intro j
        by_cases hj : j < P.cellsOf e
        · simp [hj]
          rw [List.getElem?_eq_getElem (by omega)]
          rfl
        · simp [hj]
          omega
      rw [this]
      exact h2
/-- objects that came in, and the bulk of their reading -/
theorem objs_bulk {fuel : Nat} {a : Option Addr} {len cap : Nat} {z : DataW H × List MemPlace} (h : DataW.trod enc Try.prog w base spare held fuel 45 [.slice a len cap] = some z) : ∃ l, ObjsAt w a len cap l ∧ refsN l + 6 * len ≤ Rows.uptoBulk z.1 := by
  obtain ⟨a', len', cap', F, D, he, hR, hB, hE⟩ := open_rowsD Try.underlying45 h
  cases he
  rw [show Try.prog.cellsOf 47 = 5 by kernel_rfl] at hR
  have hF : ∀ i, i < len → ((∃ n : Int, (F i) 0 = .int .i64 n ∧ (Lit.int .i64 n).wf = true) ∧ (∃ n : Int, (F i) 1 = .int .i64 n ∧ (Lit.int .i64 n).wf = true) ∧ (∃ n : Int, (F i) 2 = .int .i64 n ∧ (Lit.int .i64 n).wf = true) ∧ (∃ b : Bool, (F i) 3 = .bool b) ∧ (∃ (a : Option Addr) (len cap : Nat) (F0 : Nat → Nat → Value), (F i) 4 = .slice a len cap ∧ Rows w a len cap 1 F0 ∧ ∀ i, i < len → (∃ n : Int, (F0 i) 0 = .int .i64 n ∧ (Lit.int .i64 n).wf = true))) := fun i hi => by
    obtain ⟨n, p, h⟩ := hE i hi
    exact ⟨rd_field (∃ n : Int, (F i) 0 = .int .i64 n ∧ (Lit.int .i64 n).wf = true) Try.underlying47 (by kernel_rfl) (by kernel_rfl) h 0 _ rfl (fun m0 z0 g0 => (rd_int Try.underlying3 g0)), rd_field (∃ n : Int, (F i) 1 = .int .i64 n ∧ (Lit.int .i64 n).wf = true) Try.underlying47 (by kernel_rfl) (by kernel_rfl) h 1 _ rfl (fun m0 z0 g0 => (rd_int Try.underlying3 g0)), rd_field (∃ n : Int, (F i) 2 = .int .i64 n ∧ (Lit.int .i64 n).wf = true) Try.underlying47 (by kernel_rfl) (by kernel_rfl) h 2 _ rfl (fun m0 z0 g0 => (rd_int Try.underlying3 g0)), rd_field (∃ b : Bool, (F i) 3 = .bool b) Try.underlying47 (by kernel_rfl) (by kernel_rfl) h 3 _ rfl (fun m0 z0 g0 => (rd_bool Try.underlying4 g0)), rd_field (∃ (a : Option Addr) (len cap : Nat) (F0 : Nat → Nat → Value), (F i) 4 = .slice a len cap ∧ Rows w a len cap 1 F0 ∧ ∀ i, i < len → (∃ n : Int, (F0 i) 0 = .int .i64 n ∧ (Lit.int .i64 n).wf = true)) Try.underlying47 (by kernel_rfl) (by kernel_rfl) h 4 _ rfl (fun m0 z0 g0 => (rd_slice 1 (fun G0 => (∃ n : Int, G0 0 = .int .i64 n ∧ (Lit.int .i64 n).wf = true)) Try.underlying23 (by kernel_rfl) g0 (fun G0 n0 y0 h0 => rd_one (∃ n : Int, G0 0 = .int .i64 n ∧ (Lit.int .i64 n).wf = true) (by kernel_rfl) h0 (fun g1 => (rd_int Try.underlying3 g1)))))⟩
  obtain ⟨l, hl, hc⟩ := objs_ofF hR hF
  refine ⟨l, hl, ?_⟩
  have hb := refs_bulk l D fun i o ho => by
    have hi : i < len := by have := (List.getElem?_eq_some_iff.1 ho).1; have := hl.size; omega
    obtain ⟨n, p, h⟩ := hE i hi
    have h1 : o.rl + 6 ≤ Rows.uptoBulk (D i) := elem_bulk h (hc i o ho)
    have h2 := (hl.refs o (List.mem_of_getElem? ho)).size
    omega
  rw [hl.size] at hb
  omega
end
end Go.Proofs.Ytogifanooleppaa
