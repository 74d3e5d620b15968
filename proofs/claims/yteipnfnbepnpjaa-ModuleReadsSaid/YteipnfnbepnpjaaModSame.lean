/- the reference's SameModule says that two modules that are one are so. -/
import Derived.Test.YteipnfnbepnpjaaModModel
import Derived.Test.YteipnfnbepnpjaaOpen
namespace Go.Proofs.Yteipnfnbepnpjaa
open Go.RowKit Go.Maps
set_option linter.unusedVariables false
theorem belowN (w : World) (n : Nat) : Below w.heap.size w (w.drewN n) := ⟨rfl, rfl, rfl, Nat.le_refl _, fun _ _ => rfl⟩
/-- a module in a box -/
structure Bx (w0 : World) (gm : Nat) (m : AM) (a1 : Option Addr) (c1 : Nat) (a2 : Option Addr) (c2 : Nat) (a3 : Option Addr) (c3 : Nat) (ca : Nat → Option Addr) (cc : Nat → Nat) (w : World) : Prop where
  mx : MxAt w0 gm (m.x c1 c2 c3 ca cc) a1 a2 a3 w
  cd : ∀ i f, m.fs[i]? = some f → HoldsB w (ca i) f.2.2.length (cc i) f.2.2
section
variable {w0 w w' : World} {gm : Nat} {m : AM} {a1 : Option Addr} {c1 : Nat} {a2 : Option Addr} {c2 : Nat} {a3 : Option Addr} {c3 : Nat} {ca : Nat → Option Addr} {cc : Nat → Nat} {k : Nat}
theorem Bx.below (h : Bx w0 gm m a1 c1 a2 c2 a3 c3 ca cc w) (hb : Below w.heap.size w w') : Bx w0 gm m a1 c1 a2 c2 a3 c3 ca cc w' :=
  ⟨h.mx.below hb, fun i f hf => (h.cd i f hf).below hb⟩
theorem Bx.con (h : Bx w0 gm m a1 c1 a2 c2 a3 c3 ca cc w) {c : ConT} (hc : m.cs[k]? = some c) : ∃ g off, a1 = some ⟨g, off, none⟩ ∧ g < w.heap.size ∧ w.cell? ⟨g, off + k * 3, none⟩ = some (.bool c.1) ∧ w.cell? ⟨g, off + k * 3 + 1, none⟩ = some (.int .i64 c.2.1) ∧ w.cell? ⟨g, off + k * 3 + 2, none⟩ = some (.string c.2.2) := by
  obtain ⟨g, off, e, hl, e0, e1, e2⟩ := rows3 h.mx.f.c (i := k) (List.getElem?_eq_some_iff.1 hc).1
  refine ⟨g, off, e, hl, ?_, ?_, ?_⟩
  · rw [e0]; simp [ModX.cF, AM.x, hc]
  · rw [e1]; simp [ModX.cF, AM.x, hc]
  · rw [e2]; simp [ModX.cF, AM.x, hc]
theorem Bx.fun_ (h : Bx w0 gm m a1 c1 a2 c2 a3 c3 ca cc w) {c : FunT} (hc : m.fs[k]? = some c) : ∃ g off, a2 = some ⟨g, off, none⟩ ∧ g < w.heap.size ∧ w.cell? ⟨g, off + k * 3, none⟩ = some (.int .i64 c.1) ∧ w.cell? ⟨g, off + k * 3 + 1, none⟩ = some (.int .i64 c.2.1) ∧ w.cell? ⟨g, off + k * 3 + 2, none⟩ = some (.slice (ca k) c.2.2.length (cc k)) := by
  obtain ⟨g, off, e, hl, e0, e1, e2⟩ := rows3 h.mx.f.f (i := k) (List.getElem?_eq_some_iff.1 hc).1
  refine ⟨g, off, e, hl, ?_, ?_, ?_⟩
  · rw [e0]; simp [ModX.fF, AM.x, hc]
  · rw [e1]; simp [ModX.fF, AM.x, hc]
  · rw [e2]; simp [ModX.fF, AM.x, hc]
theorem Bx.cls (h : Bx w0 gm m a1 c1 a2 c2 a3 c3 ca cc w) {c : ClsT} (hc : m.ks[k]? = some c) : ∃ g off, a3 = some ⟨g, off, none⟩ ∧ g < w.heap.size ∧ w.cell? ⟨g, off + k * 2, none⟩ = some (.int .i64 c.1) ∧ w.cell? ⟨g, off + k * 2 + 1, none⟩ = some (.int .i64 c.2) := by
  obtain ⟨g, off, e, hl, e0, e1⟩ := rows2 h.mx.f.k (i := k) (List.getElem?_eq_some_iff.1 hc).1
  refine ⟨g, off, e, hl, ?_, ?_⟩
  · rw [e0]; simp [ModX.kF, AM.x, hc]
  · rw [e1]; simp [ModX.kF, AM.x, hc]
end
section
variable {m : AM} {a1 : Option Addr} {c1 : Nat} {a2 : Option Addr} {c2 : Nat} {a3 : Option Addr} {c3 : Nat} {ca : Nat → Option Addr} {cc : Nat → Nat} {b1 : Option Addr} {d1 : Nat} {b2 : Option Addr} {d2 : Nat} {b3 : Option Addr} {d3 : Nat} {da : Nat → Option Addr} {dc : Nat → Nat}
set_option maxRecDepth 100000 in
set_option maxHeartbeats 8000000 in
theorem sameMod_two (w : World) (f : ModS w (m.x c1 c2 c3 ca cc) a1 a2 a3) (hcd : ∀ i f, m.fs[i]? = some f → HoldsB w (ca i) f.2.2.length (cc i) f.2.2) (f' : ModS w (m.x d1 d2 d3 da dc) b1 b2 b3) (hcd' : ∀ i f, m.fs[i]? = some f → HoldsB w (da i) f.2.2.length (dc i) f.2.2) :
    Calls Try.prog 32 #[.agg #[.int .i64 m.G, .slice a1 m.cs.length c1, .slice a2 m.fs.length c2, .slice a3 m.ks.length c3], .agg #[.int .i64 m.G, .slice b1 m.cs.length d1, .slice b2 m.fs.length d2, .slice b3 m.ks.length d3]] w fun e w' => e = .returned (.bool true) ∧ Below w.heap.size w w' := by
  have hB : Bx w w.heap.size m a1 c1 a2 c2 a3 c3 ca cc (w.alloc (.cells #[.int .i64 m.G, .slice a1 m.cs.length c1, .slice a2 m.fs.length c2, .slice a3 m.ks.length c3] 47)) :=
    ⟨MxAt.made f _, fun i g hg => (hcd i g hg).below ((Below.refl _ _).alloc (Nat.le_refl _) _)⟩
  have hB1 : Below w.heap.size w (w.alloc (.cells #[.int .i64 m.G, .slice a1 m.cs.length c1, .slice a2 m.fs.length c2, .slice a3 m.ks.length c3] 47)) := (Below.refl _ _).alloc (Nat.le_refl _) _
  have hD : Bx (w.alloc (.cells #[.int .i64 m.G, .slice a1 m.cs.length c1, .slice a2 m.fs.length c2, .slice a3 m.ks.length c3] 47)) (w.heap.size + 1) m b1 d1 b2 d2 b3 d3 da dc ((w.alloc (.cells #[.int .i64 m.G, .slice a1 m.cs.length c1, .slice a2 m.fs.length c2, .slice a3 m.ks.length c3] 47)).alloc (.cells #[.int .i64 m.G, .slice b1 m.cs.length d1, .slice b2 m.fs.length d2, .slice b3 m.ks.length d3] 47)) :=
    ⟨by have := MxAt.made (f'.below hB1) 47; rw [size_alloc] at this; exact this, fun i g hg => ((hcd' i g hg).below hB1).below ((Below.refl _ _).alloc (Nat.le_refl _) _)⟩
  have hB2 := hB.below ((Below.refl _ _).alloc (Nat.le_refl _) (.cells #[.int .i64 m.G, .slice b1 m.cs.length d1, .slice b2 m.fs.length d2, .slice b3 m.ks.length d3] 47))
  obtain ⟨wA, hwA⟩ : ∃ wA, wA = w.alloc (.cells #[.int .i64 m.G, .slice a1 m.cs.length c1, .slice a2 m.fs.length c2, .slice a3 m.ks.length c3] 47) := ⟨_, rfl⟩
  rw [← hwA] at hD hB2
  obtain ⟨w2, hw2⟩ : ∃ w2, w2 = wA.alloc (.cells #[.int .i64 m.G, .slice b1 m.cs.length d1, .slice b2 m.fs.length d2, .slice b3 m.ks.length d3] 47) := ⟨_, rfl⟩
  rw [← hw2] at hD hB2
  have HW2 : Hid (w2 = (w.alloc (.cells #[.int .i64 m.G, .slice a1 m.cs.length c1, .slice a2 m.fs.length c2, .slice a3 m.ks.length c3] 47)).alloc (.cells #[.int .i64 m.G, .slice b1 m.cs.length d1, .slice b2 m.fs.length d2, .slice b3 m.ks.length d3] 47)) := (show w2 = _ by rw [hw2, hwA])
  obtain ⟨gm, hgm⟩ : ∃ gm, gm = w.heap.size := ⟨_, rfl⟩
  have HGM := Lib.hid hgm
  obtain ⟨gn, hgn⟩ : ∃ gn, gn = w.heap.size + 1 := ⟨_, rfl⟩
  have HGN := Lib.hid hgn
  rw [← hgm] at hB2
  rw [← hgn] at hD
  have HB := Lib.hid hB2
  have HD := Lib.hid hD
  have hx1 := f.c.max
  have hx2 := f.f.max
  have hx3 := f.k.max
  have hl1 := f.c.le
  have hl2 := f.f.le
  have hl3 := f.k.le
  have hy1 := f'.c.max
  have hy2 := f'.f.max
  have hy3 := f'.k.max
  have ht1 := f'.c.le
  have ht2 := f'.f.le
  have ht3 := f'.k.le
  dsimp only [AM.x] at hx1 hx2 hx3 hl1 hl2 hl3 hy1 hy2 hy3 ht1 ht2 ht3
  obtain ⟨G, hG⟩ : ∃ G, G = m.G := ⟨_, rfl⟩
  obtain ⟨n1, hn1⟩ : ∃ n, n = m.cs.length := ⟨_, rfl⟩
  obtain ⟨n2, hn2⟩ : ∃ n, n = m.fs.length := ⟨_, rfl⟩
  obtain ⟨n3, hn3⟩ : ∃ n, n = m.ks.length := ⟨_, rfl⟩
  have HM : Hid (∀ W, Bx w gm m a1 c1 a2 c2 a3 c3 ca cc W → W.cell? ⟨gm, 0, none⟩ = some (.int .i64 G) ∧ W.cell? ⟨gm, 1, none⟩ = some (.slice a1 n1 c1) ∧ W.cell? ⟨gm, 2, none⟩ = some (.slice a2 n2 c2) ∧ W.cell? ⟨gm, 3, none⟩ = some (.slice a3 n3 c3) ∧ gm < W.heap.size) :=
    (show ∀ W, _ from fun W h => by rw [hG, hn1, hn2, hn3]; exact ⟨h.mx.m0, h.mx.m1, h.mx.m2, h.mx.m3, World.block_lt_of_cell? W _ h.mx.m0⟩)
  have HN : Hid (∀ W, Bx wA gn m b1 d1 b2 d2 b3 d3 da dc W → W.cell? ⟨gn, 0, none⟩ = some (.int .i64 G) ∧ W.cell? ⟨gn, 1, none⟩ = some (.slice b1 n1 d1) ∧ W.cell? ⟨gn, 2, none⟩ = some (.slice b2 n2 d2) ∧ W.cell? ⟨gn, 3, none⟩ = some (.slice b3 n3 d3) ∧ gn < W.heap.size) :=
    (show ∀ W, _ from fun W h => by rw [hG, hn1, hn2, hn3]; exact ⟨h.mx.m0, h.mx.m1, h.mx.m2, h.mx.m3, World.block_lt_of_cell? W _ h.mx.m0⟩)
  have HN1 := Lib.hid hn1
  have HN2 := Lib.hid hn2
  have HN3 := Lib.hid hn3
  rw [← hn1] at hl1 ht1
  rw [← hn2] at hl2 ht2
  rw [← hn3] at hl3 ht3
  rw [← hG, ← hn1, ← hn2, ← hn3]
  rw [← hG, ← hn1, ← hn2, ← hn3] at HW2
  clear hB hD hB1 hB2 hwA hw2 hgm hgn f f' hcd hcd' hG hn1 hn2 hn3
  obtain ⟨m0, m1, m2, m3, hgl⟩ := HM.out _ HB.out
  obtain ⟨p0, p1, p2, p3, hhl⟩ := HN.out _ HD.out
  go_enter Try.func32, Try.ntmps32
  go_wp2_with fail
  rw [← HW2.out, ← HGN.out, ← HGM.out]
  go_loopw [5] (fun i wr => ∃ k : Nat, i = .int .i64 (k : Nat) ∧ k ≤ n1 ∧ Hid (Bx w gm m a1 c1 a2 c2 a3 c3 ca cc wr ∧ Bx wA gn m b1 d1 b2 d2 b3 d3 da dc wr)) (fun i _ => n1 - (intOf i).toNat)
  case atStart => exact ⟨0, rfl, Nat.zero_le _, HB.out, HD.out⟩
  case round =>
    obtain ⟨k, rfl, hk, hs⟩ := hrel
    obtain ⟨wo, rfl⟩ : ∃ wo : World, wo = wr := ⟨_, rfl⟩
    clear m0 m1 m2 m3 p0 p1 p2 p3 hgl hhl
    obtain ⟨m0, m1, m2, m3, hgl⟩ := HM.out _ hs.out.1
    obtain ⟨p0, p1, p2, p3, hhl⟩ := HN.out _ hs.out.2
    by_cases hlt : k < n1
    · obtain ⟨c, hc⟩ : ∃ c, m.cs[k]? = some c := ⟨_, List.getElem?_eq_getElem (by rw [← HN1.out]; exact hlt)⟩
      obtain ⟨g, off, rfl, hgl2, e0, e1, e2⟩ := hs.out.1.con hc
      obtain ⟨g', off', rfl, hgl3, q0, q1, q2⟩ := hs.out.2.con hc
      have hi0 : (0 : Int) ≤ (k : Int) := by omega
      have hi1 : (k : Int) < (n1 : Int) := by omega
      have HS := Lib.hid (fun n => And.intro (hs.out.1.below (belowN wo n)) (hs.out.2.below (belowN wo n)))
      clear hc m0 m2 m3 p0 p2 p3
      go_wp2_with fail
      go_quiet (fail)
      go_wp2
      go_roundw
      case rel => first | exact ⟨k + 1, by go_num, by omega, HS.out _⟩ | ((repeat apply Exists.intro); exact ⟨⟨k + 1, by go_num, by omega, HS.out _⟩, rfl⟩)
      case measure => simp [intOf]; omega
    · obtain rfl : k = n1 := by omega
      go_wp2_with fail
      go_loopw [6] (fun i wr => ∃ k : Nat, i = .int .i64 (k : Nat) ∧ k ≤ n2 ∧ Hid (Bx w gm m a1 c1 a2 c2 a3 c3 ca cc wr ∧ Bx wA gn m b1 d1 b2 d2 b3 d3 da dc wr)) (fun i _ => n2 - (intOf i).toNat)
      case atStart => exact ⟨0, rfl, Nat.zero_le _, hs⟩
      case round =>
        clear m0 m1 m2 m3 p0 p1 p2 p3 hgl hhl hs hlt
        obtain ⟨k, rfl, hk2, hs⟩ := hrel
        obtain ⟨wo, rfl⟩ : ∃ wo : World, wo = wr := ⟨_, rfl⟩
        obtain ⟨m0, m1, m2, m3, hgl⟩ := HM.out _ hs.out.1
        obtain ⟨p0, p1, p2, p3, hhl⟩ := HN.out _ hs.out.2
        by_cases hlt : k < n2
        · obtain ⟨c, hc⟩ : ∃ c, m.fs[k]? = some c := ⟨_, List.getElem?_eq_getElem (by rw [← HN2.out]; exact hlt)⟩
          obtain ⟨g, off, rfl, hgl2, e0, e1, e2⟩ := hs.out.1.fun_ hc
          obtain ⟨g', off', rfl, hgl3, q0, q1, q2⟩ := hs.out.2.fun_ hc
          have hh := hs.out.1.cd k c hc
          have hh' := hs.out.2.cd k c hc
          obtain ⟨p, lo, l⟩ := c
          dsimp only at e0 e1 e2 q0 q1 q2 hh hh'
          generalize ca k = A at *
          generalize cc k = C at *
          generalize da k = A' at *
          generalize dc k = C' at *
          have hi0 : (0 : Int) ≤ (k : Int) := by omega
          have hi1 : (k : Int) < (n2 : Int) := by omega
          have hb : Below wo.heap.size wo ((wo.alloc (.cells #[.int .i64 p, .int .i64 lo, .slice A l.length C] 61)).alloc (.cells #[.int .i64 p, .int .i64 lo, .slice A' l.length C'] 61)) := ((Below.refl _ _).alloc (Nat.le_refl _) _).alloc (by simp only [size_alloc]; omega) _
          have v1 := (hh.below hb).conv
          have v2 := (hh'.below hb).conv
          have HS := Lib.hid (And.intro (hs.out.1.below hb) (hs.out.2.below hb))
          generalize l.length = L at *
          clear hc m0 m1 m3 p0 p1 p3 hh hh' hb
          go_wp2
          go_roundw
          case rel => first | exact ⟨k + 1, by go_num, by omega, HS⟩ | ((repeat apply Exists.intro); exact ⟨⟨k + 1, by go_num, by omega, HS⟩, rfl⟩)
          case measure => simp [intOf]; omega
        · obtain rfl : k = n2 := by omega
          go_wp2_with fail
          go_loopw [9] (fun i wr => ∃ k : Nat, i = .int .i64 (k : Nat) ∧ k ≤ n3 ∧ Hid (Bx w gm m a1 c1 a2 c2 a3 c3 ca cc wr ∧ Bx wA gn m b1 d1 b2 d2 b3 d3 da dc wr)) (fun i _ => n3 - (intOf i).toNat)
          case atStart => exact ⟨0, rfl, Nat.zero_le _, hs⟩
          case round =>
            clear m0 m1 m2 m3 p0 p1 p2 p3 hgl hhl hs hlt
            obtain ⟨k, rfl, hk3, hs⟩ := hrel
            obtain ⟨wo, rfl⟩ : ∃ wo : World, wo = wr := ⟨_, rfl⟩
            obtain ⟨m0, m1, m2, m3, hgl⟩ := HM.out _ hs.out.1
            obtain ⟨p0, p1, p2, p3, hhl⟩ := HN.out _ hs.out.2
            by_cases hlt : k < n3
            · obtain ⟨c, hc⟩ : ∃ c, m.ks[k]? = some c := ⟨_, List.getElem?_eq_getElem (by rw [← HN3.out]; exact hlt)⟩
              obtain ⟨g, off, rfl, hgl2, e0, e1⟩ := hs.out.1.cls hc
              obtain ⟨g', off', rfl, hgl3, q0, q1⟩ := hs.out.2.cls hc
              have hi0 : (0 : Int) ≤ (k : Int) := by omega
              have hi1 : (k : Int) < (n3 : Int) := by omega
              have HS := Lib.hid (fun n => And.intro (hs.out.1.below (belowN wo n)) (hs.out.2.below (belowN wo n)))
              clear hc m0 m1 m2 p0 p1 p2
              go_wp2_with fail
              go_quiet (fail)
              go_wp2
              go_roundw
              case rel => first | exact ⟨k + 1, by go_num, by omega, HS.out _⟩ | ((repeat apply Exists.intro); exact ⟨⟨k + 1, by go_num, by omega, HS.out _⟩, rfl⟩)
              case measure => simp [intOf]; omega
            · obtain rfl : k = n3 := by omega
              have HF := Lib.hid hs.out.1.mx.bel
              clear hs hlt
              go_wp2
              go_ret
              exact ⟨rfl, HF.out⟩
end
theorem sameMod_any (m : AM) (v v' : Value) (w : World) (h : AMS w m v) (h' : AMS w m v') :
    Calls Try.prog 32 #[v, v'] w fun e w' => e = .returned (.bool true) ∧ Below w.heap.size w w' := by
  obtain ⟨a1, c1, a2, c2, a3, c3, ca, cc, rfl, h1, h2⟩ := h.at_
  obtain ⟨b1, d1, b2, d2, b3, d3, da, dc, rfl, g1, g2⟩ := h'.at_
  exact sameMod_two w h1 h2 g1 g2
end Go.Proofs.Yteipnfnbepnpjaa
