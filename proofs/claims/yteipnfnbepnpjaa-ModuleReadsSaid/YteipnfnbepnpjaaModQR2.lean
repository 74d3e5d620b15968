/- the reference's ReadModule answers what the model does. -/
import Derived.Test.YteipnfnbepnpjaaModQ
import Derived.Deep.DeepCutAuto
namespace Go.Proofs.Yteipnfnbepnpjaa
open Go.RowKit Go.Maps
set_option linter.unusedVariables false
/-- where the first loop stands -/
def Q1 (w0 : World) (pr gm : Nat) (a : Option Addr) (len cap : Nat) (bs : List Nat) (G : Int) (T : List ConT × RS) (n : Nat) (s : RS) (acc : List ConT) (v1 : Value) (W : World) : Prop :=
  acc.length + n ≤ 255 ∧ manyA constM n s acc = T ∧ QS w0 pr gm a len cap bs G v1 (.slice none 0 0) (.slice none 0 0) s W ∧ RowQ gm 3 W v1 acc.length (acc.flatMap conV)
/-- where the second loop stands; Wa: the world where it began -/
def Q2 (Wa w0 : World) (pr gm : Nat) (a : Option Addr) (len cap : Nat) (bs : List Nat) (G : Int) (v1 : Value) (T : List FunT × RS) (n : Nat) (s : RS) (acc : List FunQ) (v2 : Value) (W : World) : Prop :=
  acc.length + n ≤ 255 ∧ manyA funcM n s (acc.map (·.1)) = T ∧ QS w0 pr gm a len cap bs G v1 v2 (.slice none 0 0) s W ∧ RowQ gm 3 W v2 acc.length (acc.flatMap funQ) ∧ (∀ g, v2.ownBlock = some g → Wa.heap.size ≤ g) ∧ CodesQ gm v2 acc W ∧ Keeps [pr, gm] Wa W
/-- where the third loop stands -/
def Q3 (Wb w0 : World) (pr gm : Nat) (a : Option Addr) (len cap : Nat) (bs : List Nat) (G : Int) (v1 v2 : Value) (T : List ClsT × RS) (n : Nat) (s : RS) (acc : List ClsT) (v3 : Value) (W : World) : Prop :=
  acc.length + n ≤ 255 ∧ manyA classM n s acc = T ∧ QS w0 pr gm a len cap bs G v1 v2 v3 s W ∧ RowQ gm 2 W v3 acc.length (acc.flatMap clsV) ∧ (∀ g, v3.ownBlock = some g → Wb.heap.size ≤ g) ∧ Keeps [pr, gm] Wb W
section
variable {w0 W W' : World} {pr gm : Nat} {a : Option Addr} {len cap : Nat} {bs : List Nat} {G : Int} {v1 v2 v3 : Value} {s s' : RS}
theorem QS.take (h : QS w0 pr gm a len cap bs G v1 v2 v3 s W) (n : Nat) (hn : n ≤ 1000000) : Calls Try.prog 56 #[.pointer (some ⟨pr, 0, none⟩), .int .i64 (n : Nat)] W fun en W' => ∃ v, en = .returned v ∧ MadeV W W' v (takeM n s).1 ∧ QS w0 pr gm a len cap bs G v1 v2 v3 (takeM n s).2 W' ∧ Keeps [pr] W W' := by
  refine (take_q n s W h.q0.r hn).mono ?_
  rintro en W' ⟨v, e, hm, hr, k⟩
  exact ⟨v, e, hm, h.read k hr, k⟩
theorem QS.setNew (h : QS w0 pr gm a len cap bs G v1 v2 v3 s W) {g i : Nat} (hg : gm < g) (v : Value) : QS w0 pr gm a len cap bs G v1 v2 v3 s (W.setCell ⟨g, i, none⟩ v) :=
  h.keeps (L := [g]) ((Keeps.refl [g] W).setCell (.inl (by simp)) v) (by simp; exact hg)
theorem QS.allocN (h : QS w0 pr gm a len cap bs G v1 v2 v3 s W) (o : Obj) : QS w0 pr gm a len cap bs G v1 v2 v3 s (W.alloc o) :=
  h.keeps ((Keeps.refl [] W).alloc o) (fun x hx => absurd hx List.not_mem_nil)
/-- a function read and appended -/
theorem Q2.step {Wa wc wD wE w6 : World} {T : List FunT × RS} {n' gf : Nat} {accf : List FunQ} {x : FunT} {A : Option Addr} {C : Nat} {v6 : Value} {ob : Obj}
    (q4 : RowQ gm 3 wc v2 accf.length (accf.flatMap funQ)) (q5 : ∀ g, v2.ownBlock = some g → Wa.heap.size ≤ g) (q6 : CodesQ gm v2 accf wc) (q7 : Keeps [pr, gm] Wa wc) (hl : accf.length + n' + 1 ≤ 255)
    (hT : manyA funcM n' s' (accf.map (·.1) ++ [x]) = T) (hsz : wc.heap.size ≤ gf) (hgf : gm < gf) (hgD : gf < wD.heap.size) (kE : Keeps [pr] wc wE) (hqE : QS w0 pr gm a len cap bs G v1 v2 (.slice none 0 0) s' wE)
    (hm : MadeV wD wE (.slice A x.2.2.length C) x.2.2) (kDE : wD.heap.size ≤ wE.heap.size)
    (hr6 : RowS w6 3 v6 (accf.length + 1) (accf.flatMap funQ ++ funQ (x, A, C))) (hg6 : ((wE.setCell ⟨gf, 2, none⟩ (.slice A x.2.2.length C)).alloc ob).grownBy w6 v2.ownBlock) (hv6 : v6.ownBlock = v2.ownBlock ∨ ∃ g, v6.ownBlock = some g ∧ wE.heap.size + 1 ≤ g) :
    w6.cell? ⟨gm, 2, none⟩ = some v2 ∧ w6.frozen? ⟨gm, 2, none⟩ = false ∧ Q2 Wa w0 pr gm a len cap bs G v1 T n' s' (accf ++ [(x, A, C)]) v6 (w6.setCell ⟨gm, 2, none⟩ v6) := by
  obtain ⟨m1, m2, m3⟩ := hm
  have hgt := hqE.gt
  have hsE : (wE.setCell ⟨gf, 2, none⟩ (.slice A x.2.2.length C)).heap.size = wE.heap.size := by simp [World.setCell]
  have kEG : Keeps [gf] wE (wE.setCell ⟨gf, 2, none⟩ (.slice A x.2.2.length C)) := (Keeps.refl _ wE).setCell (.inl (by simp)) _
  have kG : Keeps [pr, gf] wc (wE.setCell ⟨gf, 2, none⟩ (.slice A x.2.2.length C)) := (kE.mono (by simp)).trans (kEG.mono (by simp))
  have hlt2 : ∀ g, v2.ownBlock = some g → g < wc.heap.size := q4.row.lt
  have rG : RowQ gm 3 (wE.setCell ⟨gf, 2, none⟩ (.slice A x.2.2.length C)) v2 accf.length (accf.flatMap funQ) := ⟨q4.row.keeps kG (fun g hg hm => by have := hlt2 g hg; have := q4.own g hg; simp at hm; omega), q4.own⟩
  have hqG := hqE.setNew (i := 2) hgf (.slice A x.2.2.length C)
  obtain ⟨r6, k6, f6⟩ := RowQ.grown hqG rG ((Keeps.refl [] _).alloc ob) hr6 hg6 (by rw [size_alloc, hsE]; exact hv6)
  have kS : Keeps [gm] w6 (w6.setCell ⟨gm, 2, none⟩ v6) := (Keeps.refl _ w6).setCell (.inl (by simp)) _
  have hnew : ∀ g off, A = some ⟨g, off, none⟩ → wD.heap.size ≤ g ∧ g < wE.heap.size := fun g off e => ⟨m2 g (by rw [e]; rfl), m1.lt g (by rw [e]; rfl)⟩
  obtain ⟨A', C', he, hhold⟩ := m1.holdsB m3
  cases he
  have hs6 := k6.size
  have hs1 := kE.size
  have hs7 := q7.size
  have hown6 : ∀ g, v6.ownBlock = some g → v2.ownBlock = some g ∨ wE.heap.size + 1 ≤ g := fun g hg => by
    rcases hv6 with hv6 | ⟨g', hv6, hge⟩
    · exact .inl (by rw [← hv6]; exact hg)
    · rw [hv6] at hg; cases hg; exact .inr hge
  refine ⟨cell_of_block f6.m, free_of_block f6.m, by rw [List.length_append]; simp; omega, by rw [List.map_append]; exact hT, f6.set 2 v6 _ _ _ rfl, ?_, fun g hg => ?_, ?_, ?_⟩
  · have r7 := r6.keeps kS (by simp)
    rw [List.length_append, List.flatMap_append]
    simpa using r7
  · rcases hown6 g hg with h | h
    · exact q5 g h
    · omega
  · intro f hf
    rcases List.mem_append.1 hf with hf | hf
    · have c1 := (q6.keeps kG (fun y hy => by simp at hy; rcases hy with rfl | rfl <;> omega)).keeps k6 (fun y hy => .inr (.inl (by simpa using hy)))
      have c2 := c1.keeps kS (fun y hy => by simp at hy; omega)
      refine ⟨(c2 f hf).1, fun g off e => ?_⟩
      obtain ⟨h1, h2, h3⟩ := (q6 f hf).2 g off e
      refine ⟨h1, fun h6 => ?_, ((c2 f hf).2 g off e).2.2⟩
      rcases hown6 g h6 with h | h
      · exact h2 h
      · omega
    · obtain rfl := List.mem_singleton.1 hf
      have d1 := hhold.keeps kEG (fun g off e hm => by have := hnew g off e; simp at hm; omega)
      have d2 := d1.keeps k6 (fun g off e hm => by have := hnew g off e; have := hlt2 g (by simpa using hm); omega)
      have d3 := d2.keeps kS (fun g off e hm => by have := hnew g off e; simp at hm; omega)
      refine ⟨d3, fun g off e => ?_⟩
      obtain ⟨h1, h2⟩ := hnew g off e
      have hS := kS.size
      refine ⟨by omega, fun h6 => ?_, by omega⟩
      rcases hown6 g h6 with h | h
      · have := hlt2 g h; omega
      · omega
  · have k1 : Keeps [pr, gm] Wa (wE.setCell ⟨gf, 2, none⟩ (.slice A x.2.2.length C)) := q7.then kG (fun y hy => by simp at hy; rcases hy with rfl | rfl; exact .inl (by simp); exact .inr (by omega))
    have k2 : Keeps [pr, gm] Wa w6 := k1.then k6 (fun y hy => .inr (q5 y (by simpa using hy)))
    exact k2.trans (kS.mono (by simp))
/-- a class read and appended -/
theorem Q3.step {Wb wc w4 Wd w6 : World} {T : List ClsT × RS} {n' : Nat} {acck : List ClsT} {x : ClsT} {v6 : Value}
    (q4 : RowQ gm 2 wc v3 acck.length (acck.flatMap clsV)) (q5 : ∀ g, v3.ownBlock = some g → Wb.heap.size ≤ g) (q7 : Keeps [pr, gm] Wb wc) (hl : acck.length + n' + 1 ≤ 255) (hT : manyA classM n' s' (acck ++ [x]) = T)
    (h4 : QS w0 pr gm a len cap bs G v1 v2 v3 s' w4 ∧ Keeps [pr] wc w4) (kd : Keeps [] w4 Wd)
    (hr6 : RowS w6 2 v6 (acck.length + 1) (acck.flatMap clsV ++ clsV x)) (hg6 : Wd.grownBy w6 v3.ownBlock) (hv6 : v6.ownBlock = v3.ownBlock ∨ ∃ g, v6.ownBlock = some g ∧ Wd.heap.size ≤ g) :
    w6.cell? ⟨gm, 3, none⟩ = some v3 ∧ w6.frozen? ⟨gm, 3, none⟩ = false ∧ Q3 Wb w0 pr gm a len cap bs G v1 v2 T n' s' (acck ++ [x]) v6 (w6.setCell ⟨gm, 3, none⟩ v6) := by
  have r4 := q4.keeps h4.2 (by have := h4.1.gt; simp; omega)
  obtain ⟨r6, k6, f6⟩ := RowQ.grown h4.1 r4 kd hr6 hg6 hv6
  have kS : Keeps [gm] w6 (w6.setCell ⟨gm, 3, none⟩ v6) := (Keeps.refl _ w6).setCell (.inl (by simp)) _
  have hs7 := q7.size
  have hs4 := h4.2.size
  have hsd := kd.size
  refine ⟨cell_of_block f6.m, free_of_block f6.m, by rw [List.length_append]; simp; omega, hT, f6.set 3 v6 _ _ _ rfl, ?_, fun g hg => ?_, ?_⟩
  · have r7 := r6.keeps kS (by simp)
    rw [List.length_append, List.flatMap_append]
    simpa using r7
  · rcases hv6 with hv6 | ⟨g', hv6, hge⟩
    · exact q5 g (by rw [← hv6]; exact hg)
    · rw [hv6] at hg; cases hg; omega
  · have k1 : Keeps [pr, gm] Wb w4 := q7.trans (h4.2.mono (by simp))
    have k2 : Keeps [pr, gm] Wb w6 := k1.then k6 (fun y hy => .inr (q5 y (by simpa using hy)))
    exact k2.trans (kS.mono (by simp))
/-- ReadModule's memory with all that it holds -/
structure E3 (w0 : World) (pr gm : Nat) (a : Option Addr) (len cap : Nat) (bs : List Nat) (m : AM) (v1 v2 v3 : Value) (s : RS) (W : World) : Prop where
  qs : QS w0 pr gm a len cap bs m.G v1 v2 v3 s W
  ams : ∀ (L : List Nat) (W' : World), Keeps L W W' → (∀ x ∈ L, x ≤ gm) → AMS W' m (.agg #[.int .i64 m.G, v1, v2, v3])
theorem E3.read {m : AM} (h : E3 w0 pr gm a len cap bs m v1 v2 v3 s W) (k : Keeps [pr] W W') (hr : RqS w0.heap.size pr a len cap bs s' W') : E3 w0 pr gm a len cap bs m v1 v2 v3 s' W' :=
  ⟨h.qs.read k hr, fun L W2 k2 hL => h.ams (pr :: L) W2 ((k.mono (by simp)).trans (k2.mono (fun x hx => List.mem_cons_of_mem _ hx))) (fun x hx => by
    have := h.qs.gt
    rcases List.mem_cons.1 hx with rfl | hx
    · omega
    · exact hL x hx)⟩
theorem E3.same {m : AM} (h : E3 w0 pr gm a len cap bs m v1 v2 v3 s W) (k : Keeps [] W W') : E3 w0 pr gm a len cap bs m v1 v2 v3 s W' :=
  ⟨h.qs.keeps k (fun x hx => absurd hx List.not_mem_nil), fun L W2 k2 hL => h.ams L W2 ((k.mono (fun x hx => absurd hx List.not_mem_nil)).trans k2) hL⟩
theorem E3.mk' {Wa Wb wc : World} {cs : List ConT} {accf : List FunQ} {acck : List ClsT} (r1 : RowQ gm 3 Wa v1 cs.length (cs.flatMap conV)) (k1 : Keeps [pr, gm] Wa Wb) (r2 : RowQ gm 3 Wb v2 accf.length (accf.flatMap funQ)) (hc : CodesQ gm v2 accf Wb) (k2 : Keeps [pr, gm] Wb wc)
    (r3 : RowQ gm 2 wc v3 acck.length (acck.flatMap clsV)) (hq : QS w0 pr gm a len cap bs G v1 v2 v3 s wc) : E3 w0 pr gm a len cap bs ⟨G, cs, accf.map (·.1), acck⟩ v1 v2 v3 s wc := by
  have hgt := hq.gt
  have hL2 : ∀ x ∈ [pr, gm], x ≤ gm := by simp; omega
  refine ⟨hq, fun L W' k hL => ?_⟩
  exact ams_madeQ G cs accf acck (((r1.keeps k1 hL2).keeps k2 hL2).keeps k hL).row ((r2.keeps k2 hL2).keeps k hL).row (r3.keeps k hL).row (fun f hf => ((hc.keeps k2 (fun x hx => .inl (hL2 x hx))).keeps k (fun x hx => .inl (hL x hx)) f hf).1)
theorem E3.slices {m : AM} (h : E3 w0 pr gm a len cap bs m v1 v2 v3 s W) : ∃ z1 z2 z3 z4 z5 z6 z7 z8 z9, v1 = .slice z1 z2 z3 ∧ v2 = .slice z4 z5 z6 ∧ v3 = .slice z7 z8 z9 := by
  obtain ⟨a1, c1, a2, c2, a3, c3, ca, cc, e, _⟩ := (h.ams [] W (Keeps.refl _ _) (fun x hx => absurd hx List.not_mem_nil)).at_
  unfold modXV at e
  simp at e
  exact ⟨_, _, _, _, _, _, _, _, _, e.2.1, e.2.2.1, e.2.2.2⟩
theorem E3.done {m : AM} (h : E3 w0 pr gm a len cap bs m v1 v2 v3 s W) (k : Keeps [w0.heap.size, pr] W W') : AMS W' m (.agg #[.int .i64 m.G, v1, v2, v3]) ∧ Below w0.heap.size w0 W' := by
  have e := h.qs.q0.e
  have g := h.qs.gt
  exact ⟨h.ams _ W' k (by simp; omega), h.qs.q0.bel.trans (k.below h.qs.q0.bel.size (by simp; omega))⟩
theorem E3.zs {m : AM} (h : E3 w0 pr gm a len cap bs m v1 v2 v3 s W) : (W.cell? ⟨w0.heap.size, 0, none⟩ = some (.int .i64 0) ∧ W.cell? ⟨w0.heap.size, 1, none⟩ = some (.slice none 0 0) ∧ W.cell? ⟨w0.heap.size, 2, none⟩ = some (.slice none 0 0) ∧ W.cell? ⟨w0.heap.size, 3, none⟩ = some (.slice none 0 0)) ∧ (W.frozen? ⟨w0.heap.size, 0, none⟩ = false ∧ W.frozen? ⟨w0.heap.size, 1, none⟩ = false ∧ W.frozen? ⟨w0.heap.size, 2, none⟩ = false ∧ W.frozen? ⟨w0.heap.size, 3, none⟩ = false) ∧ (W.cell? ⟨w0.heap.size + 1, 0, none⟩ = some (.int .i64 0) ∧ W.cell? ⟨w0.heap.size + 1, 1, none⟩ = some (.slice none 0 0) ∧ W.cell? ⟨w0.heap.size + 1, 2, none⟩ = some (.slice none 0 0) ∧ W.cell? ⟨w0.heap.size + 1, 3, none⟩ = some (.slice none 0 0)) :=
  ⟨⟨cell_of_block h.qs.q0.z, cell_of_block h.qs.q0.z, cell_of_block h.qs.q0.z, cell_of_block h.qs.q0.z⟩, ⟨free_of_block h.qs.q0.z, free_of_block h.qs.q0.z, free_of_block h.qs.q0.z, free_of_block h.qs.q0.z⟩, ⟨cell_of_block h.qs.q0.z1, cell_of_block h.qs.q0.z1, cell_of_block h.qs.q0.z1, cell_of_block h.qs.q0.z1⟩⟩
theorem QS.const (h : QS w0 pr gm a len cap bs G v1 v2 v3 s W) (W0 : World) (k0 : Keeps [] W W0) : Calls Try.prog 58 #[.pointer (some ⟨pr, 0, none⟩)] W0 fun en W' => en = .returned (.agg #[.bool (constM s).1.1, .int .i64 (constM s).1.2.1, .string (constM s).1.2.2]) ∧ QS w0 pr gm a len cap bs G v1 v2 v3 (constM s).2 W' ∧ Keeps [pr] W W' := by
  have h0 := h.keeps k0 (fun x hx => absurd hx List.not_mem_nil)
  refine (const_q s W0 h0.q0.r).mono ?_
  rintro en W' ⟨e, hr, k⟩
  exact ⟨e, h0.read k hr, (k0.mono (fun x hx => absurd hx List.not_mem_nil)).trans k⟩
theorem QS.one0 (h : QS w0 pr gm a len cap bs G v1 v2 v3 s W) (W0 : World) (k0 : Keeps [] W W0) : Calls Try.prog 57 #[.pointer (some ⟨pr, 0, none⟩)] W0 fun en W' => en = .returned (.int .i64 ((oneM s).1 : Nat)) ∧ (oneM s).1 < 256 ∧ QS w0 pr gm a len cap bs G v1 v2 v3 (oneM s).2 W' ∧ Keeps [pr] W W' := by
  have h0 := h.keeps k0 (fun x hx => absurd hx List.not_mem_nil)
  refine h0.one.mono ?_
  rintro en W' ⟨e, e2, hr, k⟩
  exact ⟨e, e2, hr, (k0.mono (fun x hx => absurd hx List.not_mem_nil)).trans k⟩
end
theorem str_test (x y z : Nat) (hx : x < 256) (hy : y < 256) (hz : z < 256) : ((strOf [x, y, z]).toList == [68, 67, 49]) = decide ([x, y, z] = [68, 67, 49]) := by
  have e : (strOf [x, y, z]).toList = [UInt8.ofNat x, UInt8.ofNat y, UInt8.ofNat z] := by
    rw [ByteArray.toList_eq]
    rfl
  rw [e, Bool.eq_iff_iff, beq_iff_eq, decide_eq_true_iff]
  have h1 : ∀ (a b : Nat), a < 256 → b < 256 → (UInt8.ofNat a = UInt8.ofNat b ↔ a = b) := fun a b ha hb => by
    constructor
    · intro h
      have := congrArg UInt8.toNat h
      rw [UInt8.toNat_ofNat', UInt8.toNat_ofNat'] at this
      omega
    · rintro rfl; rfl
  have hx' := h1 x 68 hx (by omega)
  have hy' := h1 y 67 hy (by omega)
  have hz' := h1 z 49 hz (by omega)
  simp only [List.cons.injEq, and_true]
  exact and_congr hx' (and_congr hy' hz')
set_option maxRecDepth 100000 in
set_option maxHeartbeats 16000000 in
theorem readq_any (a : Option Addr) (len cap : Nat) (bs : List Nat) (w : World) (h : HoldsB w a len cap bs) (hn : bs.length ≤ 1000000) :
    Calls Try.prog 33 #[.slice a len cap] w (RdDone w (readM bs)) := by
  obtain ⟨pr, hpr⟩ : ∃ pr, pr = w.heap.size + 1 + 1 := ⟨_, rfl⟩
  have ha : ∀ g off, a = some ⟨g, off, none⟩ → bs ≠ [] → g < w.heap.size := fun g off e hne => by
    obtain ⟨y, l, rfl⟩ := List.exists_cons_of_ne_nil hne
    obtain ⟨g', off', e', hlt, _⟩ := h.cell 0 y rfl
    rw [e] at e'; cases e'; exact hlt
  obtain ⟨w1, hw1⟩ : ∃ w1, w1 = ((w.alloc (.cells #[.int .i64 0, .slice none 0 0, .slice none 0 0, .slice none 0 0] 47)).alloc (.cells #[.int .i64 0, .slice none 0 0, .slice none 0 0, .slice none 0 0] 47)).alloc (.cells #[.slice a len cap, .int .i64 0, .int .i64 0] 93) := ⟨_, rfl⟩
  have b3 : Below w.heap.size w w1 := by rw [hw1]; exact (two_alloc _ _ _).alloc (by simp only [size_alloc]; omega) _
  have h0 : Q0 w pr a len cap bs (bs, 0) w1 := by
    refine ⟨?_, ?_, ⟨⟨0, Nat.zero_le _, rfl, ?_⟩, h.below b3, ha, by omega, hn, (by decide : (0 : Nat) < 100)⟩, hpr, b3⟩
    · rw [hw1, heap_alloc_lt _ _ (by simp only [size_alloc]; omega), heap_alloc_lt _ _ (by simp only [size_alloc]; omega)]
      exact heap_alloc_at _ _
    · rw [hw1, heap_alloc_lt _ _ (by simp only [size_alloc]; omega), ← size_alloc w]
      exact heap_alloc_at _ _
    · rw [hw1, hpr]
      have := heap_alloc_at ((w.alloc (.cells #[.int .i64 0, .slice none 0 0, .slice none 0 0, .slice none 0 0] 47)).alloc (.cells #[.int .i64 0, .slice none 0 0, .slice none 0 0, .slice none 0 0] 47)) (.cells #[.slice a len cap, .int .i64 0, .int .i64 0] 93)
      simp only [size_alloc] at this
      exact this
  obtain ⟨x, y, z, hxyz⟩ : ∃ x y z, (takeM 3 (bs, 0)).1 = [x, y, z] := len3 _ (takeM_length 3 (bs, 0))
  have HT : Hid (Calls Try.prog 56 #[.pointer (some ⟨pr, 0, none⟩), .int .i64 3] w1 (TqP w.heap.size pr a len cap bs 3 (bs, 0) w1)) := (show Calls _ _ _ _ _ from take_q 3 (bs, 0) w1 h0.r (by omega))
  have H0 := Lib.hid h0
  have HX := Lib.hid hxyz
  obtain ⟨s1, hs1⟩ : ∃ s1, s1 = (takeM 3 (bs, 0)).2 := ⟨_, rfl⟩
  have HS1 := Lib.hid hs1
  have HH : Hid (headS bs = wrongM (!(decide ([x, y, z] = [68, 67, 49]))) s1) := (show headS bs = _ by rw [hs1, ← hxyz]; rfl)
  have HPR := Lib.hid hpr
  have HW1 := Lib.hid hw1
  have HLN := Lib.hid h.eq
  have hlc := h.le
  have hmx := h.max
  obtain ⟨rm, hrm⟩ : ∃ rm, rm = readM bs := ⟨_, rfl⟩
  have HRE := Lib.hid hrm
  rw [← hrm]
  clear h h0 b3 hxyz hs1 hpr hw1 hrm ha hn
  go_enter Try.func33, Try.ntmps33
  go_wp2_with fail
  rw [← HW1.out, ← HPR.out]
  refine HT.out.mono ?_
  rintro en w2 ⟨v, rfl, ⟨m1, m2, m3⟩, hr2, hk2⟩
  rw [HX.out] at m1 m3
  rw [← HS1.out] at hr2
  have HQ2 := Lib.hid (H0.out.read hk2 hr2)
  obtain ⟨b, c, rfl, hh⟩ := m1.holdsB m3
  have hcv := hh.conv
  have hx : x < 256 := m3 x (by simp)
  have hy : y < 256 := m3 y (by simp)
  have hz : z < 256 := m3 z (by simp)
  replace hcv : (convert 26 9 (.slice b 3 c)).run Try.prog w2 = .ok (.string (strOf [x, y, z])) w2 := hcv
  obtain ⟨S, hS⟩ : ∃ S, S = strOf [x, y, z] := ⟨_, rfl⟩
  obtain ⟨pb, hpb⟩ : ∃ pb, pb = decide ([x, y, z] = [68, 67, 49]) := ⟨_, rfl⟩
  have ht := str_test x y z hx hy hz
  rw [← hS, ← hpb] at ht
  have HTE := Lib.hid ht
  obtain ⟨s2, hs2⟩ : ∃ s2, s2 = wrongM (!pb) s1 := ⟨_, rfl⟩
  have HH2 : Hid (headS bs = s2) := (show headS bs = s2 by rw [HH.out, hs2, hpb])
  have HS2 := Lib.hid hs2
  rw [← hS] at hcv
  obtain ⟨c2, f2⟩ := hr2.why
  clear hh m1 m2 m3 hr2 hk2 hS hpb ht hs2 hx hy hz HH
  obtain ⟨bb, hbb⟩ : ∃ bb, bb = (decide (s1.2 = 0) && !pb) := ⟨_, rfl⟩
  have HBB := Lib.hid hbb
  clear hbb
  go_upto_region 4 with (fail)
  go_cut [28] (fun c wx => c = .bool bb ∧ wx = w2)
  case first =>
    by_cases h1 : s1.2 = 0
    · have HV : Hid (bb = !pb) := (show bb = !pb from by rw [HBB.out, decide_eq_true h1, Bool.true_and])
      rw [h1] at c2
      replace c2 : w2.cell? ⟨pr, 2, none⟩ = some (.int .i64 0) := c2
      clear h1
      have ht := HTE.out
      cases pb
      all_goals
        go_wp2_with fail
        go_meet
        exact ⟨by rw [HV.out]; rfl, rfl⟩
    · have hb : ((s1.2 : Int) == 0) = false := by rw [beq_eq_false_iff_ne]; omega
      have HV : Hid (bb = false) := (show bb = false from by rw [HBB.out, decide_eq_false h1, Bool.false_and])
      clear h1
      go_wp2_with fail
      go_meet
      exact ⟨by rw [HV.out], rfl⟩
  case rest =>
    obtain ⟨rfl, rfl⟩ := hcut
    go_upto_if 28 with (fail)
    go_cut [] (fun wx => Hid (Q0 w pr a len cap bs s2 wx))
    case first =>
      cases bb
      · have HF : Hid (Q0 w pr a len cap bs s2 wc) := (show Q0 w pr a len cap bs s2 wc from by
          have e : s2 = s1 := by
            rw [HS2.out]; unfold wrongM
            rw [if_neg (by rintro ⟨h1, h2⟩; have := HBB.out; rw [h2, decide_eq_true h1] at this; cases this)]
          rw [e]
          exact HQ2.out)
        go_wp2_with fail
        go_meet
        exact HF
      · have HF : Hid (Q0 w pr a len cap bs s2 (wc.setCell ⟨pr, 2, none⟩ (.int .i64 8))) := (show Q0 w pr a len cap bs s2 _ from by
          have hb := HBB.out
          have e : s2 = (s1.1, 8) := by
            rw [HS2.out]; unfold wrongM
            rw [if_pos (by have := hb.symm; rw [Bool.and_eq_true, decide_eq_true_eq] at this; exact this)]
          rw [e]
          exact HQ2.out.read ((Keeps.refl [pr] wc).setCell (.inl (by simp)) _) HQ2.out.r.fail8)
        go_wp2_with fail
        go_meet
        exact HF
    case rest =>
      have HON := Lib.hid (one_q s2 wc hcut.out.r)
      unfold OqP at HON
      obtain ⟨g1, hg1⟩ : ∃ g1, g1 = (oneM s2).1 := ⟨_, rfl⟩
      obtain ⟨s3, hs3⟩ : ∃ s3, s3 = (oneM s2).2 := ⟨_, rfl⟩
      rw [← hg1, ← hs3] at HON
      have HG1 := Lib.hid hg1
      have HS3 := Lib.hid hs3
      have HQC := Lib.hid hcut.out
      clear hcut hg1 hs3 hcv c2 f2
      go_wp2_with fail
      refine HON.out.mono ?_
      rintro en w5 ⟨rfl, hg256, hr5, hk5⟩
      have hq5 := HQC.out.read hk5 hr5
      have hq6 := QS.made hq5 (g1 : Nat)
      obtain ⟨gm, hgm⟩ : ∃ gm, gm = w5.heap.size := ⟨_, rfl⟩
      obtain ⟨w6, hw6⟩ : ∃ w6, w6 = w5.alloc (.cells #[.int .i64 (g1 : Nat), .slice none 0 0, .slice none 0 0, .slice none 0 0] 47) := ⟨_, rfl⟩
      rw [← hgm, ← hw6] at hq6
      have HQ6 := Lib.hid hq6
      have HGM := Lib.hid hgm
      have HW6 := Lib.hid hw6
      have HO6 := Lib.hid hq6.one
      obtain ⟨n0, hn0⟩ : ∃ n, n = (oneM s3).1 := ⟨_, rfl⟩
      obtain ⟨s4, hs4⟩ : ∃ s, s = (oneM s3).2 := ⟨_, rfl⟩
      obtain ⟨T1, hT1⟩ : ∃ T, T = manyM constM s3 := ⟨_, rfl⟩
      have HT1 := Lib.hid hT1
      have HM1 : Hid (manyA constM n0 s4 [] = T1) := (show manyA constM n0 s4 [] = T1 from by rw [hT1, hn0, hs4]; rfl)
      rw [← hn0, ← hs4] at HO6
      clear hr5 hk5 hq5 hq6 hgm hw6 hn0 hs4 hT1
      go_wp2_with fail
      rw [← HW6.out, ← HGM.out]
      refine HO6.out.mono ?_
      rintro en w7 ⟨rfl, hn256, hq7, hk7⟩
      have HQ7 := Lib.hid hq7
      clear hq7 hk7
      go_wp2_with fail
      go_loopw [8] (fun i wr => ∃ (n : Nat) (s : RS) (acc : List ConT) (v1 : Value), i = .int .i64 (n : Nat) ∧ n ≤ 255 ∧ Hid (Q1 w pr gm a len cap bs (g1 : Nat) T1 n s acc v1 wr)) (fun i _ => (intOf i).toNat)
      case atStart => exact ⟨n0, s4, [], _, rfl, by omega, ⟨by simp; omega, HM1.out, HQ7.out, RowQ.nil _⟩⟩
      case round =>
        obtain ⟨n, s, acc, v1, rfl, hn255, hs⟩ := hrel
        obtain ⟨wo, rfl⟩ : ∃ wo : World, wo = wr := ⟨_, rfl⟩
        obtain ⟨c2, f2⟩ := hs.out.2.2.1.q0.r.why
        obtain ⟨bb, hbb⟩ : ∃ bb, bb = (decide (0 < n) && decide (s.2 = 0)) := ⟨_, rfl⟩
        have HBB := Lib.hid hbb
        go_upto_region 8 with (fail)
        go_cut [45] (fun c wx => c = .bool bb ∧ wx = wo)
        case first =>
          by_cases h0 : 0 < n
          · have hb1 : decide ((0 : Int) < (n : Int)) = true := decide_eq_true (by omega)
            have HV : Hid (bb = decide (s.2 = 0)) := (show bb = _ from by rw [HBB.out, decide_eq_true h0, Bool.true_and])
            by_cases h1 : s.2 = 0
            · rw [h1] at c2
              replace c2 : wo.cell? ⟨pr, 2, none⟩ = some (.int .i64 0) := c2
              rw [decide_eq_true h1] at HV
              clear h1 hbb
              go_wp2_with fail
              go_meet
              exact ⟨by rw [HV.out], rfl⟩
            · have hb : ((s.2 : Int) == 0) = false := by rw [beq_eq_false_iff_ne]; omega
              rw [decide_eq_false h1] at HV
              clear h1 hbb
              go_wp2_with fail
              go_meet
              exact ⟨by rw [HV.out], rfl⟩
          · obtain rfl : n = 0 := by omega
            have HV : Hid (bb = false) := (show bb = _ from by rw [HBB.out]; rfl)
            clear h0 hbb
            go_wp2_with fail
            go_meet
            exact ⟨by rw [HV.out], rfl⟩
        case rest =>
          obtain ⟨rfl, rfl⟩ := hcut
          clear hbb c2 f2
          cases bb
          · have HT : Hid ((acc, s) = T1) := (show (acc, s) = T1 from by
              have hb := HBB.out
              rcases Nat.eq_zero_or_pos n with h0 | h0
              · subst h0; exact hs.out.2.1
              · rw [decide_eq_true h0, Bool.true_and] at hb
                have := hs.out.2.1
                rwa [manyA_stop _ _ _ _ (of_decide_eq_false hb.symm)] at this)
            have HQA := Lib.hid hs.out.2.2
            clear hs
            have HO7 := Lib.hid HQA.out.1.one
            obtain ⟨n5, hn5⟩ : ∃ n, n = (oneM s).1 := ⟨_, rfl⟩
            obtain ⟨s6, hs6⟩ : ∃ s', s' = (oneM s).2 := ⟨_, rfl⟩
            obtain ⟨T2, hT2⟩ : ∃ T, T = manyM funcM s := ⟨_, rfl⟩
            have HT2 := Lib.hid (show T2 = manyM funcM T1.2 from by rw [hT2, ← HT.out])
            have HAC1 := Lib.hid (show acc = T1.1 from by rw [← HT.out])
            have HM2 : Hid (manyA funcM n5 s6 [] = T2) := (show manyA funcM n5 s6 [] = T2 from by rw [hT2, hn5, hs6]; rfl)
            rw [← hn5, ← hs6] at HO7
            clear hn5 hs6 hT2
            go_wp2_with fail
            refine HO7.out.mono ?_
            rintro en wa ⟨rfl, hn5b, hqa, hka⟩
            have HQa := Lib.hid hqa
            have HRa := Lib.hid (HQA.out.2.keeps hka (by have := hqa.gt; simp; omega))
            clear hqa hka
            go_wp2_with fail
            go_loopw [9] (fun i wr => ∃ (n : Nat) (s : RS) (acc : List FunQ) (v2 : Value), i = .int .i64 (n : Nat) ∧ n ≤ 255 ∧ Hid (Q2 wa w pr gm a len cap bs (g1 : Nat) v1 T2 n s acc v2 wr)) (fun i _ => (intOf i).toNat)
            case atStart => exact ⟨n5, s6, [], _, rfl, by omega, ⟨by simp; omega, HM2.out, HQa.out, RowQ.nil _, (fun g h => by cases h), (fun f h => absurd h List.not_mem_nil), Keeps.refl _ _⟩⟩
            case round =>
              obtain ⟨n, s, accf, v2, rfl, hn255, hs⟩ := hrel
              obtain ⟨wo, rfl⟩ : ∃ wo : World, wo = wr := ⟨_, rfl⟩
              obtain ⟨c2, f2⟩ := hs.out.2.2.1.q0.r.why
              obtain ⟨bb, hbb⟩ : ∃ bb, bb = (decide (0 < n) && decide (s.2 = 0)) := ⟨_, rfl⟩
              clear HBB
              have HBB := Lib.hid hbb
              go_upto_region 12 with (fail)
              go_cut [65] (fun c wx => c = .bool bb ∧ wx = wo)
              case first =>
                by_cases h0 : 0 < n
                · have hb1 : decide ((0 : Int) < (n : Int)) = true := decide_eq_true (by omega)
                  have HV : Hid (bb = decide (s.2 = 0)) := (show bb = _ from by rw [HBB.out, decide_eq_true h0, Bool.true_and])
                  by_cases h1 : s.2 = 0
                  · rw [h1] at c2
                    replace c2 : wo.cell? ⟨pr, 2, none⟩ = some (.int .i64 0) := c2
                    rw [decide_eq_true h1] at HV
                    clear h1 hbb
                    go_wp2_with fail
                    go_meet
                    exact ⟨by rw [HV.out], rfl⟩
                  · have hb : ((s.2 : Int) == 0) = false := by rw [beq_eq_false_iff_ne]; omega
                    rw [decide_eq_false h1] at HV
                    clear h1 hbb
                    go_wp2_with fail
                    go_meet
                    exact ⟨by rw [HV.out], rfl⟩
                · obtain rfl : n = 0 := by omega
                  have HV : Hid (bb = false) := (show bb = _ from by rw [HBB.out]; rfl)
                  clear h0 hbb
                  go_wp2_with fail
                  go_meet
                  exact ⟨by rw [HV.out], rfl⟩
              case rest =>
                obtain ⟨rfl, rfl⟩ := hcut
                clear hbb c2 f2
                cases bb
                · have HT' : Hid ((accf.map (·.1), s) = T2) := (show (accf.map (·.1), s) = T2 from by
                    have hb := HBB.out
                    rcases Nat.eq_zero_or_pos n with h0 | h0
                    · subst h0; exact hs.out.2.1
                    · rw [decide_eq_true h0, Bool.true_and] at hb
                      have := hs.out.2.1
                      rwa [manyA_stop _ _ _ _ (of_decide_eq_false hb.symm)] at this)
                  have HQB := Lib.hid hs.out.2.2
                  clear hs
                  have HO8 := Lib.hid HQB.out.1.one
                  obtain ⟨n7, hn7⟩ : ∃ n, n = (oneM s).1 := ⟨_, rfl⟩
                  obtain ⟨s8, hs8⟩ : ∃ s', s' = (oneM s).2 := ⟨_, rfl⟩
                  obtain ⟨T3, hT3⟩ : ∃ T, T = manyM classM s := ⟨_, rfl⟩
                  have HT3 := Lib.hid (show T3 = manyM classM T2.2 from by rw [hT3, ← HT'.out])
                  have HAC2 := Lib.hid (show accf.map (·.1) = T2.1 from by rw [← HT'.out])
                  have HM3 : Hid (manyA classM n7 s8 [] = T3) := (show manyA classM n7 s8 [] = T3 from by rw [hT3, hn7, hs8]; rfl)
                  rw [← hn7, ← hs8] at HO8
                  clear hn7 hs8 hT3
                  go_wp2_with fail
                  refine HO8.out.mono ?_
                  rintro en wb ⟨rfl, hn7b, hqb, hkb⟩
                  have HQb := Lib.hid hqb
                  have HKab : Hid (Keeps [pr, gm] wa wb) := (show Keeps [pr, gm] wa wb from HQB.out.2.2.2.2.trans (hkb.mono (by simp)))
                  have HRb := Lib.hid (HQB.out.2.1.keeps hkb (by have := hqb.gt; simp; omega))
                  have HCb := Lib.hid (HQB.out.2.2.2.1.keeps hkb (fun x hx => by have := hqb.gt; simp at hx; omega))
                  clear hqb hkb
                  go_wp2_with fail
                  go_loopw [12] (fun i wr => ∃ (n : Nat) (s : RS) (acc : List ClsT) (v3 : Value), i = .int .i64 (n : Nat) ∧ n ≤ 255 ∧ Hid (Q3 wb w pr gm a len cap bs (g1 : Nat) v1 v2 T3 n s acc v3 wr)) (fun i _ => (intOf i).toNat)
                  case atStart => exact ⟨n7, s8, [], _, rfl, by omega, ⟨by simp; omega, HM3.out, HQb.out, RowQ.nil _, (fun g h => by cases h), Keeps.refl _ _⟩⟩
                  case round =>
                    obtain ⟨n, s, acck, v3, rfl, hn255, hs⟩ := hrel
                    obtain ⟨wo, rfl⟩ : ∃ wo : World, wo = wr := ⟨_, rfl⟩
                    obtain ⟨c2, f2⟩ := hs.out.2.2.1.q0.r.why
                    obtain ⟨bb, hbb⟩ : ∃ bb, bb = (decide (0 < n) && decide (s.2 = 0)) := ⟨_, rfl⟩
                    clear HBB
                    have HBB := Lib.hid hbb
                    go_upto_region 19 with (fail)
                    go_cut [99] (fun c wx => c = .bool bb ∧ wx = wo)
                    case first =>
                      by_cases h0 : 0 < n
                      · have hb1 : decide ((0 : Int) < (n : Int)) = true := decide_eq_true (by omega)
                        have HV : Hid (bb = decide (s.2 = 0)) := (show bb = _ from by rw [HBB.out, decide_eq_true h0, Bool.true_and])
                        by_cases h1 : s.2 = 0
                        · rw [h1] at c2
                          replace c2 : wo.cell? ⟨pr, 2, none⟩ = some (.int .i64 0) := c2
                          rw [decide_eq_true h1] at HV
                          clear h1 hbb
                          go_wp2_with fail
                          go_meet
                          exact ⟨by rw [HV.out], rfl⟩
                        · have hb : ((s.2 : Int) == 0) = false := by rw [beq_eq_false_iff_ne]; omega
                          rw [decide_eq_false h1] at HV
                          clear h1 hbb
                          go_wp2_with fail
                          go_meet
                          exact ⟨by rw [HV.out], rfl⟩
                      · obtain rfl : n = 0 := by omega
                        have HV : Hid (bb = false) := (show bb = _ from by rw [HBB.out]; rfl)
                        clear h0 hbb
                        go_wp2_with fail
                        go_meet
                        exact ⟨by rw [HV.out], rfl⟩
                    case rest =>
                      obtain ⟨rfl, rfl⟩ := hcut
                      clear hbb c2 f2
                      cases bb
                      · have HT'' : Hid ((acck, s) = T3) := (show (acck, s) = T3 from by
                          have hb := HBB.out
                          rcases Nat.eq_zero_or_pos n with h0 | h0
                          · subst h0; exact hs.out.2.1
                          · rw [decide_eq_true h0, Bool.true_and] at hb
                            have := hs.out.2.1
                            rwa [manyA_stop _ _ _ _ (of_decide_eq_false hb.symm)] at this)
                        obtain ⟨_, _, z3, z4, _, z6⟩ := hs.out
                        have HE := Lib.hid (E3.mk' HRa.out HKab.out HRb.out HCb.out z6 z4 z3)
                        clear hs z3 z4 z6
                        obtain ⟨m, hm⟩ : ∃ m, m = (⟨(g1 : Nat), acc, accf.map (·.1), acck⟩ : AM) := ⟨_, rfl⟩
                        obtain ⟨s7, hs7⟩ : ∃ s7, s7 = wrongM (decide (0 < s.1.length)) s := ⟨_, rfl⟩
                        have HBD : Hid (bodyM (headS bs) = (m, s7)) := (show bodyM (headS bs) = (m, s7) from by
                          rw [HH2.out]
                          have e : bodyM s2 = (⟨((oneM s2).1 : Nat), (manyM constM (oneM s2).2).1, (manyM funcM (manyM constM (oneM s2).2).2).1, (manyM classM (manyM funcM (manyM constM (oneM s2).2).2).2).1⟩, wrongM (decide (0 < (manyM classM (manyM funcM (manyM constM (oneM s2).2).2).2).2.1.length)) (manyM classM (manyM funcM (manyM constM (oneM s2).2).2).2).2) := rfl
                          rw [e, ← HG1.out, ← HS3.out, ← HT1.out, ← HT2.out, ← HT3.out, ← HT''.out, hs7, hm, HAC1.out, HAC2.out])
                        have HRM : Hid (readM bs = if (if s7.2 = 0 then m.rightE else s7.2) = 0 then (m, 0) else (AM.none, if s7.2 = 0 then m.rightE else s7.2)) := (show readM bs = _ by
                          unfold readM
                          rw [HBD.out])
                        have hmG : (g1 : Int) = m.G := by rw [hm]
                        rw [← hm] at HE
                        have HS7 := Lib.hid hs7
                        have HMG := Lib.hid hmG
                        rw [← HRE.out] at HRM
                        obtain ⟨p, hp1, hp2, hp3⟩ := HE.out.qs.q0.r.at_
                        have c1 : wc.cell? ⟨pr, 1, none⟩ = some (.int .i64 (p : Nat)) := cell_of_block hp3
                        have c2 : wc.cell? ⟨pr, 2, none⟩ = some (.int .i64 (s.2 : Nat)) := cell_of_block hp3
                        have f2 : wc.frozen? ⟨pr, 2, none⟩ = false := free_of_block hp3
                        have HPL : Hid (decide (0 < s.1.length) = !decide (p = len)) := (show _ = _ from by
                          rw [hp2, List.length_drop]
                          have := HLN.out
                          by_cases h : p = len
                          · rw [decide_eq_true h, decide_eq_false (by omega)]; rfl
                          · rw [decide_eq_false h, decide_eq_true (by omega)]; rfl)
                        obtain ⟨bc, hbc⟩ : ∃ bc, bc = (decide (s.2 = 0) && decide (0 < s.1.length)) := ⟨_, rfl⟩
                        have HBC := Lib.hid hbc
                        clear hm hs7 hmG hp1 hp2 hp3 hbc
                        go_upto_region 23 with (fail)
                        go_cut [127] (fun c wx => c = .bool bc ∧ wx = wc)
                        case first =>
                          by_cases h1 : s.2 = 0
                          · rw [h1] at c2
                            replace c2 : wc.cell? ⟨pr, 2, none⟩ = some (.int .i64 0) := c2
                            have HV : Hid (bc = !decide (p = len)) := (show bc = _ from by rw [HBC.out, decide_eq_true h1, Bool.true_and, HPL.out])
                            clear h1
                            by_cases h2 : p = len
                            · rw [decide_eq_true h2] at HV
                              have hb : ((p : Int) != (len : Int)) = false := by simp [h2]
                              go_wp2_with fail
                              go_meet
                              exact ⟨by rw [HV.out]; rfl, rfl⟩
                            · rw [decide_eq_false h2] at HV
                              have hb : ((p : Int) != (len : Int)) = true := by rw [bne_iff_ne]; omega
                              go_wp2_with fail
                              go_meet
                              exact ⟨by rw [HV.out]; rfl, rfl⟩
                          · have hb : ((s.2 : Int) == 0) = false := by rw [beq_eq_false_iff_ne]; omega
                            have HV : Hid (bc = false) := (show bc = false from by rw [HBC.out, decide_eq_false h1, Bool.false_and])
                            clear h1
                            go_wp2_with fail
                            go_meet
                            exact ⟨by rw [HV.out], rfl⟩
                        case rest =>
                          obtain ⟨rfl, rfl⟩ := hcut
                          go_upto_if 127 with (fail)
                          go_cut [] (fun wx => Hid (E3 w pr gm a len cap bs m v1 v2 v3 s7 wx))
                          case first =>
                            cases bc
                            · have HF : Hid (E3 w pr gm a len cap bs m v1 v2 v3 s7 wc) := (show E3 w pr gm a len cap bs m v1 v2 v3 s7 wc from by
                                have e : s7 = s := by
                                  rw [HS7.out]; unfold wrongM
                                  rw [if_neg (by rintro ⟨h1, h2⟩; have := HBC.out; rw [h2, decide_eq_true h1] at this; cases this)]
                                rw [e]
                                exact HE.out)
                              clear c1 c2 f2
                              go_wp2_with fail
                              go_meet
                              exact HF
                            · have HF : Hid (E3 w pr gm a len cap bs m v1 v2 v3 s7 (wc.setCell ⟨pr, 2, none⟩ (.int .i64 8))) := (show E3 w pr gm a len cap bs m v1 v2 v3 s7 _ from by
                                have hb := HBC.out
                                have e : s7 = (s.1, 8) := by
                                  rw [HS7.out]; unfold wrongM
                                  rw [if_pos (by have := hb.symm; rw [Bool.and_eq_true, decide_eq_true_eq] at this; exact this)]
                                rw [e]
                                exact HE.out.read ((Keeps.refl [pr] wc).setCell (.inl (by simp)) _) HE.out.qs.q0.r.fail8)
                              go_wp2_with fail
                              go_meet
                              exact HF
                          case rest =>
                            clear c1 c2 f2 HE
                            obtain ⟨z1, z2, z3, z4, z5, z6, z7, z8, z9, rfl, rfl, rfl⟩ := hcut.out.slices
                            have HE := Lib.hid hcut.out
                            clear hcut
                            obtain ⟨c2, f2⟩ := HE.out.qs.q0.r.why
                            obtain ⟨⟨d0, d1, d2, d3⟩, ⟨fz0, fz1, fz2, fz3⟩, ⟨b0, b1, b2, b3⟩⟩ := HE.out.zs
                            obtain ⟨m0, m1, m2, m3, _⟩ := HE.out.qs.cells
                            have hgt := HE.out.qs.gt
                            have hpe := HE.out.qs.q0.e
                            obtain ⟨lpr, lgm⟩ := HE.out.qs.lt
                            have hn1 : ¬ (w.heap.size = pr) := by omega
                            have hn2 : ¬ (pr = w.heap.size) := by omega
                            have hn3 : ¬ (gm = pr) := by omega
                            have hn4 : ¬ (pr = gm) := by omega
                            have hn5 : ¬ (w.heap.size = gm) := by omega
                            have hn6 : ¬ (gm = w.heap.size) := by omega
                            have hn7 : ¬ (w.heap.size + 1 = pr) := by omega
                            have hn8 : ¬ (pr = w.heap.size + 1) := by omega
                            have hn9 : ¬ (w.heap.size + 1 = w.heap.size) := by omega
                            have hlw : w.heap.size < wc.heap.size := by omega
                            have hlw1 : w.heap.size + 1 < wc.heap.size := by omega
                            clear hgt hpe
                            by_cases h7 : s7.2 = 0
                            · have H7 := Lib.hid h7
                              rw [h7] at c2
                              replace c2 : wc.cell? ⟨pr, 2, none⟩ = some (.int .i64 0) := c2
                              have HRT : Hid (Calls Try.prog 26 #[.agg #[.int .i64 m.G, .slice z1 z2 z3, .slice z4 z5 z6, .slice z7 z8 z9]] wc fun en w' => en = .returned (.int .i64 (m.rightE : Nat)) ∧ E3 w pr gm a len cap bs m (.slice z1 z2 z3) (.slice z4 z5 z6) (.slice z7 z8 z9) s7 w') := (show Calls _ _ _ _ _ from by
                                obtain ⟨a1, c1, a2, c2, a3, c3, ca, cc, e, h1, _⟩ := (HE.out.ams [] wc (Keeps.refl _ _) (fun x hx => absurd hx List.not_mem_nil)).at_
                                rw [e]
                                refine (refRight_any wc h1).mono ?_
                                rintro en w' ⟨rfl, hb⟩
                                exact ⟨rfl, HE.out.same (Keeps.of_below hb (Nat.le_refl _) [])⟩)
                              clear h7
                              go_wp2_with fail
                              refine HRT.out.mono ?_
                              rintro en wd ⟨rfl, he⟩
                              clear c2 f2 d0 d1 d2 d3 fz0 fz1 fz2 fz3 b0 b1 b2 b3 m0 m1 m2 m3 lpr lgm hlw hlw1
                              have HE2 := Lib.hid he
                              clear he
                              obtain ⟨c2, f2⟩ := HE2.out.qs.q0.r.why
                              obtain ⟨⟨d0, d1, d2, d3⟩, ⟨fz0, fz1, fz2, fz3⟩, ⟨b0, b1, b2, b3⟩⟩ := HE2.out.zs
                              obtain ⟨m0, m1, m2, m3, _⟩ := HE2.out.qs.cells
                              obtain ⟨lpr, lgm⟩ := HE2.out.qs.lt
                              have hpe := HE2.out.qs.q0.e
                              have hlw : w.heap.size < wd.heap.size := by omega
                              have hlw1 : w.heap.size + 1 < wd.heap.size := by omega
                              clear hpe
                              by_cases hr : m.rightE = 0
                              · have HV : Hid (rm = (m, 0)) := (show rm = (m, 0) by rw [HRM.out, if_pos H7.out, if_pos hr])
                                rw [hr]
                                clear hr
                                go_wp2
                                rw [HV.out]
                                refine bodyPost_ret (v := .tuple #[.agg #[.int .i64 m.G, .slice z1 z2 z3, .slice z4 z5 z6, .slice z7 z8 z9], .int .i64 0]) ?_ rfl ⟨_, rfl, ?_⟩
                                · have hres : Try.f33.results = #[.cell 2 47, .tmp 3] := by kernel_rfl
                                  simp only [results, hres]
                                  go_simp
                                · exact HE2.out.done (by repeat (first | exact Keeps.refl _ _ | refine Keeps.drew ?_ | refine Keeps.setCell ?_ (.inl (by simp)) _))
                              · have HV : Hid (rm = (AM.none, m.rightE)) := (show rm = (AM.none, m.rightE) by rw [HRM.out, if_pos H7.out, if_neg hr])
                                have hb2 : ((m.rightE : Int) != 0) = true := by rw [bne_iff_ne]; omega
                                clear hr
                                go_wp2_with fail
                                go_region
                                go_wp2
                                rw [HV.out]
                                refine bodyPost_ret (v := .tuple #[.agg #[.int .i64 0, .slice none 0 0, .slice none 0 0, .slice none 0 0], .int .i64 (m.rightE : Nat)]) ?_ rfl ⟨_, rfl, ams_none _, ?_⟩
                                · have hres : Try.f33.results = #[.cell 2 47, .tmp 3] := by kernel_rfl
                                  simp only [results, hres]
                                  go_simp
                                · exact (HE2.out.done (by repeat (first | exact Keeps.refl _ _ | refine Keeps.drew ?_ | refine Keeps.setCell ?_ (.inl (by simp)) _))).2
                            · have hb1 : ((s7.2 : Int) == 0) = false := by rw [beq_eq_false_iff_ne]; omega
                              have hb2 : ((s7.2 : Int) != 0) = true := by rw [bne_iff_ne]; omega
                              have HV : Hid (rm = (AM.none, s7.2)) := (show rm = (AM.none, s7.2) by rw [HRM.out, if_neg h7, if_neg h7])
                              clear h7
                              go_wp2_with fail
                              go_region
                              go_wp2
                              rw [HV.out]
                              refine bodyPost_ret (v := .tuple #[.agg #[.int .i64 0, .slice none 0 0, .slice none 0 0, .slice none 0 0], .int .i64 (s7.2 : Nat)]) ?_ rfl ⟨_, rfl, ams_none _, ?_⟩
                              · have hres : Try.f33.results = #[.cell 2 47, .tmp 3] := by kernel_rfl
                                simp only [results, hres]
                                go_simp
                              · exact (HE.out.done (by repeat (first | exact Keeps.refl _ _ | refine Keeps.drew ?_ | refine Keeps.setCell ?_ (.inl (by simp)) _))).2
                      · have hb := HBB.out.symm
                        rw [Bool.and_eq_true, decide_eq_true_eq, decide_eq_true_eq] at hb
                        obtain ⟨n', rfl⟩ : ∃ n', n = n' + 1 := ⟨n - 1, by omega⟩
                        obtain ⟨q1, q2, q3, q4, q5, q7⟩ := hs.out
                        rw [manyA_go _ _ _ _ hb.2] at q2
                        obtain ⟨c, hc⟩ : ∃ c, c = classM s := ⟨_, rfl⟩
                        obtain ⟨pA, hpA⟩ : ∃ p, p = oneM s := ⟨_, rfl⟩
                        obtain ⟨pB, hpB⟩ : ∃ p, p = oneM pA.2 := ⟨_, rfl⟩
                        have hce : c = ((((pA.1 : Nat) : Int), ((pB.1 : Nat) : Int) - 1), pB.2) := by rw [hc, hpB, hpA]; rfl
                        have HQ2 : Hid (manyA classM n' pB.2 (acck ++ [(((pA.1 : Nat) : Int), ((pB.1 : Nat) : Int) - 1)]) = T3) := (show manyA classM n' pB.2 _ = T3 from by rw [← hc, hce] at q2; exact q2)
                        have HOA : Hid (Calls Try.prog 57 #[.pointer (some ⟨pr, 0, none⟩)] wc fun en W' => en = .returned (.int .i64 (pA.1 : Nat)) ∧ pA.1 < 256 ∧ QS w pr gm a len cap bs (g1 : Nat) v1 v2 v3 pA.2 W' ∧ Keeps [pr] wc W') := (show Calls _ _ _ _ _ from by rw [hpA]; exact q3.one)
                        have HOB : Hid (∀ W, QS w pr gm a len cap bs (g1 : Nat) v1 v2 v3 pA.2 W → Keeps [pr] wc W → ∀ W0, Keeps [] W W0 → Calls Try.prog 57 #[.pointer (some ⟨pr, 0, none⟩)] W0 fun en W' => en = .returned (.int .i64 (pB.1 : Nat)) ∧ pB.1 < 256 ∧ QS w pr gm a len cap bs (g1 : Nat) v1 v2 v3 pB.2 W' ∧ Keeps [pr] wc W') := (show ∀ W, _ → _ → ∀ W0, _ → _ from fun W hh kk W0 k0 => by rw [hpB]; exact (hh.one0 W0 k0).mono (by rintro en W' ⟨x1, x2, x3, x4⟩; exact ⟨x1, x2, x3, kk.trans x4⟩))
                        have HRW := Lib.hid q4
                        have HST : Hid (∀ (w4 Wd w6 : World) (v6 : Value), (QS w pr gm a len cap bs (g1 : Nat) v1 v2 v3 pB.2 w4 ∧ Keeps [pr] wc w4) → Keeps [] w4 Wd → RowS w6 2 v6 (acck.length + 1) (acck.flatMap clsV ++ clsV (((pA.1 : Nat) : Int), ((pB.1 : Nat) : Int) - 1)) → Wd.grownBy w6 v3.ownBlock → (v6.ownBlock = v3.ownBlock ∨ ∃ g, v6.ownBlock = some g ∧ Wd.heap.size ≤ g) →
                            w6.cell? ⟨gm, 3, none⟩ = some v3 ∧ w6.frozen? ⟨gm, 3, none⟩ = false ∧ Q3 wb w pr gm a len cap bs (g1 : Nat) v1 v2 T3 n' pB.2 (acck ++ [(((pA.1 : Nat) : Int), ((pB.1 : Nat) : Int) - 1)]) v6 (w6.setCell ⟨gm, 3, none⟩ v6)) := (show ∀ _ _ _ _, _ from fun w4 Wd w6 v6 h4 kd hr hg hv => Q3.step q4 q5 q7 (by omega) HQ2.out h4 kd hr hg hv)
                        obtain ⟨i2, hi, hz0, hz1, hz2⟩ := info_parts clsInfo
                        have HI := Lib.hid hi
                        have HZ0 := Lib.hid hz0
                        have HZ1 := Lib.hid hz1
                        have HZ2 := Lib.hid hz2
                        have HO1 := Lib.hid (show acck.length + 1 ≤ maxLen from by unfold maxLen; omega)
                        have HO2 := Lib.hid (show (acck.length + 1) * 16 ≤ 140737488355328 from by omega)
                        have HVC : Hid (clsV (((pA.1 : Nat) : Int), ((pB.1 : Nat) : Int) - 1) = [.int .i64 (pA.1 : Nat), .int .i64 (((pB.1 : Nat) : Int) - 1)]) := rfl
                        clear hs q1 q2 q3 q4 q5 q7 hc hb hi hz0 hz1 hz2 hpA hpB hce
                        go_wp2_with fail
                        refine HOA.out.mono ?_
                        rintro en wA ⟨rfl, hA256, hqA, hkA⟩
                        have HOB' := Lib.hid (HOB.out _ hqA hkA)
                        have hgl := hqA.lt.2
                        have d3 := hqA.cells.2.2.2.1
                        clear hqA hkA
                        go_wp2_with fail
                        go_region_law
                          (first
                            | (go_simp; go_at_call 57
                               refine (HOB'.out _ (by repeat (first | exact Keeps.refl _ _ | refine Keeps.drew ?_))).mono ?_
                               rintro en w4 ⟨rfl, hB256, h4⟩
                               have q4 := h4.1.cells.2.2.2.1
                               have l4 := h4.1.lt.2
                               have hwq : IntKind.i64.wrap (((pB.1 : Nat) : Int) - 1) = ((pB.1 : Nat) : Int) - 1 := IntWalk.i64_in _ (by omega))
                            | (refine step_row (by rfl) (.tmp 105) (.tmp 111) 45 (by rfl) 76 i2 (.agg #[.int .i64 0, .int .i64 0]) 2 16 Try.underlying45 HI.out HZ0.out HZ1.out HZ2.out rfl (by decide) v3 acck.length (acck.flatMap clsV) (by rfl) ((HRW.out.keeps h4.2 (by have := h4.1.gt; simp; omega)).row.keeps0 (by repeat (first | exact Keeps.refl _ _ | refine Keeps.drew ?_ | refine Keeps.alloc ?_ _))) _ 1 (clsV (((pA.1 : Nat) : Int), ((pB.1 : Nat) : Int) - 1)) (by rfl) (by repeat (first | exact new_cells_src _ (clsV (((pA.1 : Nat) : Int), ((pB.1 : Nat) : Int) - 1)) _ 1 2 rfl | refine src_dr ?_)) (by rw [HVC.out]; intro u hu; simp at hu; rcases hu with rfl | rfl <;> rfl) HO1.out HO2.out ?_
                               intro v6 w6 hr6 hg6 hv6
                               obtain ⟨a6, c6, rfl, _⟩ := hr6.read
                               obtain ⟨q6, q7, hfin⟩ := HST.out w4 _ w6 _ h4 (by repeat (first | exact Keeps.refl _ _ | refine Keeps.drew ?_ | refine Keeps.alloc ?_ _)) hr6 hg6 hv6)
                            | fail)
                        all_goals
                          have HF := Lib.hid hfin
                          clear hfin hr6 hg6 hv6 h4 q4 l4 hwq
                          go_wp2
                          go_roundw
                          case rel => first | exact ⟨n', pB.2, _, _, by go_num, by omega, HF⟩ | ((repeat apply Exists.intro); exact ⟨⟨n', pB.2, _, _, by go_num, by omega, HF⟩, rfl⟩)
                          case measure => simp [intOf]
                · have hb := HBB.out.symm
                  rw [Bool.and_eq_true, decide_eq_true_eq, decide_eq_true_eq] at hb
                  obtain ⟨n', rfl⟩ : ∃ n', n = n' + 1 := ⟨n - 1, by omega⟩
                  obtain ⟨q1, q2, q3, q4, q5, q6, q7⟩ := hs.out
                  rw [manyA_go _ _ _ _ hb.2] at q2
                  obtain ⟨c, hc⟩ : ∃ c, c = funcM s := ⟨_, rfl⟩
                  obtain ⟨pA, hpA⟩ : ∃ p, p = oneM s := ⟨_, rfl⟩
                  obtain ⟨pB, hpB⟩ : ∃ p, p = oneM pA.2 := ⟨_, rfl⟩
                  obtain ⟨pC, hpC⟩ : ∃ p, p = oneM pB.2 := ⟨_, rfl⟩
                  obtain ⟨pD, hpD⟩ : ∃ p, p = oneM pC.2 := ⟨_, rfl⟩
                  obtain ⟨t, ht⟩ : ∃ t, t = takeM (pC.1 + 256 * pD.1) pD.2 := ⟨_, rfl⟩
                  have hce : c = ((((pA.1 : Nat) : Int), ((pB.1 : Nat) : Int), t.1), t.2) := by rw [hc, ht, hpD, hpC, hpB, hpA]; rfl
                  have HQ2 : Hid (manyA funcM n' t.2 (accf.map (·.1) ++ [(((pA.1 : Nat) : Int), ((pB.1 : Nat) : Int), t.1)]) = T2) := (show manyA funcM n' t.2 _ = T2 from by rw [← hc, hce] at q2; exact q2)
                  have HOA : Hid (Calls Try.prog 57 #[.pointer (some ⟨pr, 0, none⟩)] wc fun en W' => en = .returned (.int .i64 (pA.1 : Nat)) ∧ pA.1 < 256 ∧ QS w pr gm a len cap bs (g1 : Nat) v1 v2 (.slice none 0 0) pA.2 W' ∧ Keeps [pr] wc W') := (show Calls _ _ _ _ _ from by rw [hpA]; exact q3.one)
                  have HOB : Hid (∀ W, QS w pr gm a len cap bs (g1 : Nat) v1 v2 (.slice none 0 0) pA.2 W → Calls Try.prog 57 #[.pointer (some ⟨pr, 0, none⟩)] W fun en W' => en = .returned (.int .i64 (pB.1 : Nat)) ∧ pB.1 < 256 ∧ QS w pr gm a len cap bs (g1 : Nat) v1 v2 (.slice none 0 0) pB.2 W' ∧ Keeps [pr] W W') := (show ∀ W, _ → _ from fun W hh => by rw [hpB]; exact hh.one)
                  have HOC : Hid (∀ W, QS w pr gm a len cap bs (g1 : Nat) v1 v2 (.slice none 0 0) pB.2 W → Calls Try.prog 57 #[.pointer (some ⟨pr, 0, none⟩)] W fun en W' => en = .returned (.int .i64 (pC.1 : Nat)) ∧ pC.1 < 256 ∧ QS w pr gm a len cap bs (g1 : Nat) v1 v2 (.slice none 0 0) pC.2 W' ∧ Keeps [pr] W W') := (show ∀ W, _ → _ from fun W hh => by rw [hpC]; exact hh.one)
                  have HOD : Hid (∀ W, QS w pr gm a len cap bs (g1 : Nat) v1 v2 (.slice none 0 0) pC.2 W → Calls Try.prog 57 #[.pointer (some ⟨pr, 0, none⟩)] W fun en W' => en = .returned (.int .i64 (pD.1 : Nat)) ∧ pD.1 < 256 ∧ QS w pr gm a len cap bs (g1 : Nat) v1 v2 (.slice none 0 0) pD.2 W' ∧ Keeps [pr] W W') := (show ∀ W, _ → _ from fun W hh => by rw [hpD]; exact hh.one)
                  have HTK : Hid (∀ W (m : Nat), m = pC.1 + 256 * pD.1 → m ≤ 1000000 → QS w pr gm a len cap bs (g1 : Nat) v1 v2 (.slice none 0 0) pD.2 W → Calls Try.prog 56 #[.pointer (some ⟨pr, 0, none⟩), .int .i64 (m : Nat)] W fun en W' => ∃ v, en = .returned v ∧ MadeV W W' v t.1 ∧ QS w pr gm a len cap bs (g1 : Nat) v1 v2 (.slice none 0 0) t.2 W' ∧ Keeps [pr] W W') := (show ∀ W m, _ → _ → _ → _ from fun W m hm hb hh => by subst hm; rw [ht]; exact hh.take _ hb)
                  have HRW := Lib.hid q4
                  have HOWN := Lib.hid q5
                  have HCD := Lib.hid q6
                  have HKP := Lib.hid q7
                  have HLN1 := Lib.hid q1
                  obtain ⟨i2, hi, hz0, hz1, hz2⟩ := info_parts funInfo
                  have HI := Lib.hid hi
                  have HZ0 := Lib.hid hz0
                  have HZ1 := Lib.hid hz1
                  have HZ2 := Lib.hid hz2
                  have HO1 := Lib.hid (show accf.length + 1 ≤ maxLen from by unfold maxLen; omega)
                  have HO2 := Lib.hid (show (accf.length + 1) * 40 ≤ 140737488355328 from by omega)
                  clear hs q1 q2 q3 q4 q5 q6 q7 hc hb hi hz0 hz1 hz2 hpA hpB hpC hpD ht hce
                  go_wp2_with fail
                  refine HOA.out.mono ?_
                  rintro en wA ⟨rfl, hA256, hqA, hkA⟩
                  have HOB' := Lib.hid (HOB.out _ hqA)
                  have HKA := Lib.hid hkA
                  clear hqA hkA
                  go_wp2_with fail
                  refine HOB'.out.mono ?_
                  rintro en wB ⟨rfl, hB256, hqB, hkB⟩
                  obtain ⟨gf, hgf⟩ : ∃ g, g = wB.heap.size := ⟨_, rfl⟩
                  obtain ⟨wF, hwF⟩ : ∃ W, W = wB.alloc (.cells #[.int .i64 (pA.1 : Nat), .int .i64 (pB.1 : Nat), .slice none 0 0] 61) := ⟨_, rfl⟩
                  have hqF := hqB.allocN (.cells #[.int .i64 (pA.1 : Nat), .int .i64 (pB.1 : Nat), .slice none 0 0] 61)
                  have hfF := heap_alloc_at wB (.cells #[.int .i64 (pA.1 : Nat), .int .i64 (pB.1 : Nat), .slice none 0 0] 61)
                  rw [← hwF] at hqF hfF
                  rw [← hgf] at hfF
                  have HFF := Lib.hid hfF
                  have HGF : Hid (gm < gf) := (show gm < gf from by have := hqB.lt.2; omega)
                  have HKF : Hid (Keeps [pr] wc wF) := (show Keeps [pr] wc wF from by rw [hwF]; exact (HKA.out.trans hkB).alloc _)
                  have HSF : Hid (wc.heap.size ≤ gf) := (show wc.heap.size ≤ gf from by have := (HKA.out.trans hkB).size; omega)
                  have HOC' := Lib.hid (HOC.out _ hqF)
                  have HWF := Lib.hid hwF
                  have HGFE := Lib.hid hgf
                  have HPG : Hid (pr < gm) := (show pr < gm from hqF.gt)
                  clear hqB hkB hqF hfF hwF hgf
                  go_wp2_with fail
                  rw [← HWF.out, ← HGFE.out]
                  refine HOC'.out.mono ?_
                  rintro en wC ⟨rfl, hC256, hqC, hkC⟩
                  have HFC := Lib.hid (hkC.at HFF.out (by have := HGF.out; have := HPG.out; simp; omega))
                  have HKC := Lib.hid (HKF.out.trans hkC)
                  have HOD' := Lib.hid (HOD.out _ hqC)
                  clear hqC hkC
                  go_wp2_with fail
                  refine HOD'.out.mono ?_
                  rintro en wD ⟨rfl, hD256, hqD, hkD⟩
                  have HFD := Lib.hid (hkD.at HFC.out (by have := HGF.out; have := HPG.out; simp; omega))
                  have HKD := Lib.hid (HKC.out.trans hkD)
                  obtain ⟨m, hm⟩ : ∃ m, m = pC.1 + 256 * pD.1 := ⟨_, rfl⟩
                  have HTK' := Lib.hid (HTK.out wD m hm (by omega) hqD)
                  have hmi : (pC.1 : Int) + 256 * (pD.1 : Int) = (m : Int) := by omega
                  have hmb : (m : Int) ≤ 100000 := by omega
                  clear hqD hkD hm
                  go_wp2_with fail
                  refine HTK'.out.mono ?_
                  rintro en wE ⟨v5, rfl, hmE, hqE, hkE⟩
                  obtain ⟨A, C, rfl, hh⟩ := hmE.1.holdsB hmE.2.2
                  have hfE := hkE.at HFD.out (by have := HGF.out; have := HPG.out; simp; omega)
                  have e0 : wE.cell? ⟨gf, 0, none⟩ = some (.int .i64 (pA.1 : Nat)) := cell_of_block hfE
                  have e1 : wE.cell? ⟨gf, 1, none⟩ = some (.int .i64 (pB.1 : Nat)) := cell_of_block hfE
                  have e2 : wE.cell? ⟨gf, 2, none⟩ = some (.slice none 0 0) := cell_of_block hfE
                  have f2 : wE.frozen? ⟨gf, 2, none⟩ = false := free_of_block hfE
                  obtain ⟨_, _, d2, _, _⟩ := hqE.cells
                  have hne1 : ¬ (gm = gf) := by have := HGF.out; omega
                  have hne2 : ¬ (gf = gm) := by have := HGF.out; omega
                  have hgl := hqE.lt.2
                  have HKE := Lib.hid (HKD.out.trans hkE)
                  obtain ⟨L, hL⟩ : ∃ L, L = t.1.length := ⟨_, rfl⟩
                  have HLE := Lib.hid hL
                  have HME : Hid (MadeV wD wE (.slice A L C) t.1) := (show MadeV wD wE (.slice A L C) t.1 from by rw [hL]; exact hmE)
                  have HST : Hid (∀ (w6 : World) (v6 : Value) (ob : Obj), RowS w6 3 v6 (accf.length + 1) (accf.flatMap funQ ++ funQ ((((pA.1 : Nat) : Int), ((pB.1 : Nat) : Int), t.1), A, C)) → ((wE.setCell ⟨gf, 2, none⟩ (.slice A L C)).alloc ob).grownBy w6 v2.ownBlock → (v6.ownBlock = v2.ownBlock ∨ ∃ g, v6.ownBlock = some g ∧ wE.heap.size + 1 ≤ g) →
                      w6.cell? ⟨gm, 2, none⟩ = some v2 ∧ w6.frozen? ⟨gm, 2, none⟩ = false ∧ Q2 wa w pr gm a len cap bs (g1 : Nat) v1 T2 n' t.2 (accf ++ [((((pA.1 : Nat) : Int), ((pB.1 : Nat) : Int), t.1), A, C)]) v6 (w6.setCell ⟨gm, 2, none⟩ v6)) :=
                    (show ∀ _ _ _, _ from fun w6 v6 ob hr hg hv => by
                      rw [hL] at hg
                      have hFl := (Array.getElem?_eq_some_iff.1 HFD.out).1
                      exact Q2.step HRW.out HOWN.out HCD.out HKP.out (by have := HLN1.out; omega) HQ2.out HSF.out HGF.out hFl HKE.out hqE hmE hkE.size hr hg hv)
                  have HVC : Hid (funQ ((((pA.1 : Nat) : Int), ((pB.1 : Nat) : Int), t.1), A, C) = [.int .i64 (pA.1 : Nat), .int .i64 (pB.1 : Nat), .slice A L C]) := (show _ = _ from by rw [hL]; rfl)
                  have HR2 : Hid (RowS ((wE.setCell ⟨gf, 2, none⟩ (.slice A L C)).alloc (.cells #[.int .i64 (pA.1 : Nat), .int .i64 (pB.1 : Nat), .slice A L C] 61)) 3 v2 accf.length (accf.flatMap funQ)) := (show RowS _ _ _ _ _ from by
                    have kG : Keeps [pr, gf] wc ((wE.setCell ⟨gf, 2, none⟩ (.slice A L C)).alloc (.cells #[.int .i64 (pA.1 : Nat), .int .i64 (pB.1 : Nat), .slice A L C] 61)) := ((HKE.out.mono (by simp)).trans ((Keeps.refl [pr, gf] wE).setCell (.inl (by simp)) _)).alloc _
                    exact HRW.out.row.keeps kG (fun g hg hm => by have := HRW.out.row.lt g hg; have := HRW.out.own g hg; have := HSF.out; have := HPG.out; simp at hm; omega))
                  have HSR := Lib.hid (new_cells_src (wE.setCell ⟨gf, 2, none⟩ (.slice A L C)) [.int .i64 (pA.1 : Nat), .int .i64 (pB.1 : Nat), .slice A L C] 61 1 3 rfl)
                  have HSS : Hid ((wE.setCell ⟨gf, 2, none⟩ (.slice A L C)).heap.size = wE.heap.size) := (show _ = _ from by simp [World.setCell])
                  rw [HSS.out] at HSR
                  rw [← hL]
                  clear hh hmE hqE hkE hfE hL hmi hmb
                  go_wp2_with (at_builtin; refine wpList_row (by rfl) (.tmp 84) (.tmp 86) 44 rfl 61 i2 (.agg #[.int .i64 0, .int .i64 0, .slice none 0 0]) 3 40 Try.underlying44 HI.out HZ0.out HZ1.out HZ2.out rfl (by decide) v2 accf.length (accf.flatMap funQ) rfl HR2.out (.slice (some ⟨wE.heap.size, 0, none⟩) 1 1) 1 [.int .i64 (pA.1 : Nat), .int .i64 (pB.1 : Nat), .slice A L C] rfl HSR.out (by intro u hu; simp at hu; rcases hu with rfl | rfl | rfl <;> rfl) HO1.out HO2.out ?_)
                  intro v6 w6 hr6 hg6 hv6
                  obtain ⟨q6, q7, hfin⟩ := HST.out w6 v6 _ (by rw [HVC.out]; exact hr6) hg6 hv6
                  obtain ⟨a6, c6, rfl, _⟩ := hr6.read
                  have HF := Lib.hid hfin
                  clear hfin hr6 hg6 hv6
                  go_wp2
                  go_roundw
                  case rel => first | exact ⟨n', t.2, _, _, by go_num, by omega, HF⟩ | ((repeat apply Exists.intro); exact ⟨⟨n', t.2, _, _, by go_num, by omega, HF⟩, rfl⟩)
                  case measure => simp [intOf]
          · have hb := HBB.out.symm
            rw [Bool.and_eq_true, decide_eq_true_eq, decide_eq_true_eq] at hb
            obtain ⟨n', rfl⟩ : ∃ n', n = n' + 1 := ⟨n - 1, by omega⟩
            obtain ⟨q1, q2, q3, q4⟩ := hs.out
            rw [manyA_go _ _ _ _ hb.2] at q2
            obtain ⟨c, hc⟩ : ∃ c, c = constM s := ⟨_, rfl⟩
            have HCN : Hid (∀ W0, Keeps [] wc W0 → Calls Try.prog 58 #[.pointer (some ⟨pr, 0, none⟩)] W0 fun en W' => en = .returned (.agg #[.bool c.1.1, .int .i64 c.1.2.1, .string c.1.2.2]) ∧ QS w pr gm a len cap bs (g1 : Nat) v1 (.slice none 0 0) (.slice none 0 0) c.2 W' ∧ Keeps [pr] wc W') := (show ∀ W0, _ → _ from by rw [hc]; exact q3.const)
            have HC := Lib.hid (show acc ++ [c.1] = acc ++ [(constM s).1] from by rw [hc])
            have HQ2 : Hid (manyA constM n' c.2 (acc ++ [c.1]) = T1) := (show manyA constM n' c.2 (acc ++ [c.1]) = T1 from by rw [hc]; exact q2)
            have HRW := Lib.hid q4
            have HLN1 := Lib.hid q1
            obtain ⟨d0, d1, d2, d3, _⟩ := q3.cells
            have hgl := q3.lt.2
            obtain ⟨i2, hi, hz0, hz1, hz2⟩ := info_parts conInfo
            have HI := Lib.hid hi
            have HZ0 := Lib.hid hz0
            have HZ1 := Lib.hid hz1
            have HZ2 := Lib.hid hz2
            have HO1 := Lib.hid (show acc.length + 1 ≤ maxLen from by unfold maxLen; omega)
            have HO2 := Lib.hid (show (acc.length + 1) * 32 ≤ 140737488355328 from by omega)
            have HVC : Hid (conV c.1 = [.bool c.1.1, .int .i64 c.1.2.1, .string c.1.2.2]) := rfl
            have HST : Hid (∀ (w4 Wd w6 : World) (v6 : Value), (QS w pr gm a len cap bs (g1 : Nat) v1 (.slice none 0 0) (.slice none 0 0) c.2 w4 ∧ Keeps [pr] wc w4) → Keeps [] w4 Wd → RowS w6 3 v6 (acc.length + 1) (acc.flatMap conV ++ conV c.1) → Wd.grownBy w6 v1.ownBlock → (v6.ownBlock = v1.ownBlock ∨ ∃ g, v6.ownBlock = some g ∧ Wd.heap.size ≤ g) →
                w6.cell? ⟨gm, 1, none⟩ = some v1 ∧ w6.frozen? ⟨gm, 1, none⟩ = false ∧ Q1 w pr gm a len cap bs (g1 : Nat) T1 n' c.2 (acc ++ [c.1]) v6 (w6.setCell ⟨gm, 1, none⟩ v6)) := (show ∀ _ _ _ _, _ from fun w4 Wd w6 v6 h4 kd hr6 hg6 hv6 => by
              have r4 := HRW.out.keeps h4.2 (by have := h4.1.gt; simp; omega)
              obtain ⟨r6, k6, f6⟩ := RowQ.grown h4.1 r4 kd hr6 hg6 hv6
              refine ⟨cell_of_block f6.m, free_of_block f6.m, by rw [List.length_append]; simp; have := HLN1.out; omega, HQ2.out, f6.set 1 v6 _ _ _ rfl, ?_⟩
              have k : Keeps [gm] w6 (w6.setCell ⟨gm, 1, none⟩ v6) := (Keeps.refl _ w6).setCell (.inl (by simp)) _
              have r7 := r6.keeps k (by simp)
              rw [List.length_append, List.flatMap_append]
              simpa using r7)
            clear hs q1 q2 q3 q4 hc hb hi hz0 hz1 hz2
            go_wp2_with fail
            go_region_law
              (first
                | (go_simp; go_at_call 58
                   refine (HCN.out _ (by repeat (first | exact Keeps.refl _ _ | refine Keeps.drew ?_))).mono ?_
                   rintro en w4 ⟨rfl, h4⟩
                   have q4 := h4.1.cells.2.1
                   have l4 := h4.1.lt.2)
                | (refine step_row (by rfl) (.tmp 49) (.tmp 52) 43 (by rfl) 63 i2 (.agg #[.bool false, .int .i64 0, .string ByteArray.empty]) 3 32 Try.underlying43 HI.out HZ0.out HZ1.out HZ2.out rfl (by decide) v1 acc.length (acc.flatMap conV) (by rfl) ((HRW.out.keeps h4.2 (by have := h4.1.gt; simp; omega)).row.keeps0 (by repeat (first | exact Keeps.refl _ _ | refine Keeps.drew ?_ | refine Keeps.alloc ?_ _))) _ 1 (conV c.1) (by rfl) (by repeat (first | exact new_cells_src _ (conV c.1) _ 1 3 rfl | refine src_dr ?_)) (by rw [HVC.out]; intro u hu; simp at hu; rcases hu with rfl | rfl | rfl <;> rfl) HO1.out HO2.out ?_
                   intro v6 w6 hr6 hg6 hv6
                   obtain ⟨a6, c6, rfl, _⟩ := hr6.read
                   obtain ⟨q6, q7, hfin⟩ := HST.out w4 _ w6 _ h4 (by repeat (first | exact Keeps.refl _ _ | refine Keeps.drew ?_ | refine Keeps.alloc ?_ _)) hr6 hg6 hv6)
                | fail)
            all_goals
              have HF := Lib.hid hfin
              clear hfin hr6 hg6 hv6 h4 q4 l4
              go_wp2
              go_roundw
              case rel => first | exact ⟨n', c.2, acc ++ [c.1], _, by go_num, by omega, HF⟩ | ((repeat apply Exists.intro); exact ⟨⟨n', c.2, acc ++ [c.1], _, by go_num, by omega, HF⟩, rfl⟩)
              case measure => simp [intOf]
end Go.Proofs.Yteipnfnbepnpjaa
