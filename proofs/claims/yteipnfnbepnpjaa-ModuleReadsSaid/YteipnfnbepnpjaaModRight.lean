/- module's sized, ended, Right, of any module. -/
import Derived.Test.YteipnfnbepnpjaaVer7
import Derived.Test.YteipnfnbepnpjaaOpen
namespace Go.Proofs.Yteipnfnbepnpjaa
open Go.RowKit Go.Maps
set_option linter.unusedVariables false

/-- a module, as what lies in memory says it -/
structure ModX where
  G : Int
  n1 : Nat
  c1 : Nat
  n2 : Nat
  c2 : Nat
  n3 : Nat
  c3 : Nat
  b : Nat → Bool
  z : Nat → Int
  s : Nat → ByteArray
  p : Nat → Int
  lo : Nat → Int
  ca : Nat → Option Addr
  cl : Nat → Nat
  cc : Nat → Nat
  fi : Nat → Int
  en : Nat → Int
def modXV (m : ModX) (a1 a2 a3 : Option Addr) : Value := .agg #[.int .i64 m.G, .slice a1 m.n1 m.c1, .slice a2 m.n2 m.c2, .slice a3 m.n3 m.c3]
def ModX.cF (m : ModX) : Nat → Nat → Value := fun i j => if j = 0 then .bool (m.b i) else if j = 1 then .int .i64 (m.z i) else .string (m.s i)
def ModX.fF (m : ModX) : Nat → Nat → Value := fun i j => if j = 0 then .int .i64 (m.p i) else if j = 1 then .int .i64 (m.lo i) else .slice (m.ca i) (m.cl i) (m.cc i)
def ModX.kF (m : ModX) : Nat → Nat → Value := fun i j => if j = 0 then .int .i64 (m.fi i) else .int .i64 (m.en i)
structure ModS (w : World) (m : ModX) (a1 a2 a3 : Option Addr) : Prop where
  c : Rows w a1 m.n1 m.c1 3 m.cF
  f : Rows w a2 m.n2 m.c2 3 m.fF
  k : Rows w a3 m.n3 m.c3 2 m.kF
theorem ModS.below {w w' : World} {m : ModX} {a1 a2 a3 : Option Addr} (h : ModS w m a1 a2 a3) (hb : Below w.heap.size w w') : ModS w' m a1 a2 a3 := ⟨h.c.below hb, h.f.below hb, h.k.below hb⟩
theorem rows3 {w : World} {a : Option Addr} {n cap : Nat} {F : Nat → Nat → Value} (h : Rows w a n cap 3 F) {i : Nat} (hi : i < n) : ∃ g off, a = some ⟨g, off, none⟩ ∧ g < w.heap.size ∧ w.cell? ⟨g, off + i * 3, none⟩ = some (F i 0) ∧ w.cell? ⟨g, off + i * 3 + 1, none⟩ = some (F i 1) ∧ w.cell? ⟨g, off + i * 3 + 2, none⟩ = some (F i 2) := by
  obtain ⟨g, off, rfl, hg, e0⟩ := h.cell i 0 hi (by omega)
  obtain ⟨_, _, e, _, e1⟩ := h.cell i 1 hi (by omega)
  cases e
  obtain ⟨_, _, e, _, e2⟩ := h.cell i 2 hi (by omega)
  cases e
  exact ⟨g, off, rfl, hg, e0, by rw [Nat.add_assoc]; exact e1, by rw [Nat.add_assoc]; exact e2⟩
theorem rows2 {w : World} {a : Option Addr} {n cap : Nat} {F : Nat → Nat → Value} (h : Rows w a n cap 2 F) {i : Nat} (hi : i < n) : ∃ g off, a = some ⟨g, off, none⟩ ∧ g < w.heap.size ∧ w.cell? ⟨g, off + i * 2, none⟩ = some (F i 0) ∧ w.cell? ⟨g, off + i * 2 + 1, none⟩ = some (F i 1) := by
  obtain ⟨g, off, rfl, hg, e0⟩ := h.cell i 0 hi (by omega)
  obtain ⟨_, _, e, _, e1⟩ := h.cell i 1 hi (by omega)
  cases e
  exact ⟨g, off, rfl, hg, e0, by rw [Nat.add_assoc]; exact e1⟩
def ModX.cOk (m : ModX) (i : Nat) : Bool := decide ((m.s i).size ≤ 255)
def ModX.fOk (m : ModX) (i : Nat) : Bool := decide (m.cl i ≤ 4000) && (decide (0 ≤ m.p i) && decide (m.p i ≤ 20)) && (decide (m.p i ≤ m.lo i) && decide (m.lo i ≤ 50))
def ModX.kOk (m : ModX) (i : Nat) : Bool := decide (0 ≤ m.fi i) && decide (m.fi i ≤ 255)
def ModX.base (m : ModX) : Bool := (decide (0 ≤ m.G) && decide (m.G ≤ 255)) && decide ((m.n1 : Int) ≤ 200) && decide ((m.n2 : Int) ≤ 100) && decide ((m.n3 : Int) ≤ 100)
theorem base_true {m : ModX} (h : m.base = true) : 0 ≤ m.G ∧ m.G ≤ 255 ∧ (m.n1 : Int) ≤ 200 ∧ (m.n2 : Int) ≤ 100 ∧ (m.n3 : Int) ≤ 100 := by
  unfold ModX.base at h
  simp only [Bool.and_eq_true, decide_eq_true_eq] at h
  exact ⟨h.1.1.1.1, h.1.1.1.2, h.1.1.2, h.1.2, h.2⟩
/-- are the first k so? -/
def allN (f : Nat → Bool) : Nat → Bool
  | 0 => true
  | k + 1 => allN f k && f k
def ModX.sizedB (m : ModX) : Bool := m.base && allN m.cOk m.n1 && allN m.fOk m.n2 && allN m.kOk m.n3
theorem allN_iff (f : Nat → Bool) : ∀ k, allN f k = true ↔ ∀ i, i < k → f i = true
  | 0 => ⟨fun _ i hi => absurd hi (by omega), fun _ => rfl⟩
  | k + 1 => by
    show (allN f k && f k) = true ↔ _
    rw [Bool.and_eq_true, allN_iff f k]
    constructor
    · rintro ⟨h1, h2⟩ i hi
      rcases Nat.lt_or_eq_of_le (Nat.lt_succ_iff.1 hi) with h | rfl
      · exact h1 i h
      · exact h2
    · exact fun h => ⟨fun i hi => h i (by omega), h k (by omega)⟩
/-- the boxed module -/
structure MxAt (w0 : World) (gm : Nat) (m : ModX) (a1 a2 a3 : Option Addr) (w : World) : Prop where
  f : ModS w m a1 a2 a3
  m0 : w.cell? ⟨gm, 0, none⟩ = some (.int .i64 m.G)
  m1 : w.cell? ⟨gm, 1, none⟩ = some (.slice a1 m.n1 m.c1)
  m2 : w.cell? ⟨gm, 2, none⟩ = some (.slice a2 m.n2 m.c2)
  m3 : w.cell? ⟨gm, 3, none⟩ = some (.slice a3 m.n3 m.c3)
  bel : Below w0.heap.size w0 w
section
variable {w w' : World} {m : ModX} {a1 a2 a3 : Option Addr}
theorem MxAt.below {w0 : World} {gm : Nat} (x : MxAt w0 gm m a1 a2 a3 w) (hb : Below w.heap.size w w') : MxAt w0 gm m a1 a2 a3 w' := by
  have hl := World.block_lt_of_cell? w _ x.m0
  exact ⟨x.f.below hb, (hb.cell (p := ⟨gm, 0, none⟩) hl).trans x.m0, (hb.cell (p := ⟨gm, 1, none⟩) hl).trans x.m1, (hb.cell (p := ⟨gm, 2, none⟩) hl).trans x.m2, (hb.cell (p := ⟨gm, 3, none⟩) hl).trans x.m3, x.bel.trans (hb.mono x.bel.size)⟩
theorem MxAt.made (f : ModS w m a1 a2 a3) (t : TypeId) : MxAt w w.heap.size m a1 a2 a3 (w.alloc (.cells #[.int .i64 m.G, .slice a1 m.n1 m.c1, .slice a2 m.n2 m.c2, .slice a3 m.n3 m.c3] t)) := by
  have hb : Below w.heap.size w (w.alloc (.cells #[.int .i64 m.G, .slice a1 m.n1 m.c1, .slice a2 m.n2 m.c2, .slice a3 m.n3 m.c3] t)) := (Below.refl _ _).alloc (Nat.le_refl _) _
  exact ⟨f.below hb, cell_of_block (heap_alloc_at _ _), cell_of_block (heap_alloc_at _ _), cell_of_block (heap_alloc_at _ _), cell_of_block (heap_alloc_at _ _), hb⟩
set_option maxRecDepth 100000 in
set_option maxHeartbeats 8000000 in
theorem sized_any (w : World) (f : ModS w m a1 a2 a3) :
    Calls Try.prog 43 #[modXV m a1 a2 a3] w fun e w' => e = .returned (.bool m.sizedB) ∧ Below w.heap.size w w' := by
  have HM := Lib.hid (MxAt.made f 47)
  have HW := Lib.hid (fun n lo hi w => within_any n lo hi w)
  obtain ⟨gm, hgm⟩ : ∃ gm, gm = w.heap.size := ⟨_, rfl⟩
  obtain ⟨w1, hw1⟩ : ∃ w1, w1 = w.alloc (.cells #[.int .i64 m.G, .slice a1 m.n1 m.c1, .slice a2 m.n2 m.c2, .slice a3 m.n3 m.c3] 47) := ⟨_, rfl⟩
  have HW1 := Lib.hid hw1
  have HGM := Lib.hid hgm
  rw [← hgm, ← hw1] at HM
  have HSB : Hid (m.sizedB = (m.base && allN m.cOk m.n1 && allN m.fOk m.n2 && allN m.kOk m.n3)) := rfl
  have hx1 := f.c.max
  have hx2 := f.f.max
  have hx3 := f.k.max
  have hl1 := f.c.le
  have hl2 := f.f.le
  have hl3 := f.k.le
  generalize hsz : m.sizedB = SB at HSB
  clear f hgm hw1 hsz
  unfold modXV
  go_enter Try.func43, Try.ntmps43
  go_wp2_with fail
  rw [← HW1.out, ← HGM.out]
  refine (HW.out _ _ _ _).mono ?_
  rintro en w2 ⟨rfl, rfl⟩
  obtain ⟨ff, m0, m1, m2, m3, _⟩ := HM.out
  go_wp2_with fail

  -- LOOPS
  all_goals
    go_loopw [3, 34] (fun o i wr => ∃ (k : Nat) (ob : Bool), i = .int .i64 (k : Nat) ∧ k ≤ m.n1 ∧ .bool ob = o ∧ Hid (ob = (m.base && allN m.cOk k) ∧ MxAt w gm m a1 a2 a3 wr)) (fun _ i _ => m.n1 - (intOf i).toNat)
    case atStart => exact ⟨0, _, rfl, Nat.zero_le _, rfl, by
        cases hb : m.base with
        | true =>
          obtain ⟨b1, b2, b3, b4, b5⟩ := base_true hb
          simp only [allN, Bool.and_true]
          first
            | (rw [decide_eq_true_iff]; exact b5)
            | (exfalso; omega)
            | (exfalso; simp_all)
        | false =>
          unfold ModX.base at hb
          first
            | rfl
            | (simp_all [allN]; done)
            | (simp_all [allN]; omega), HM.out⟩
    case round =>
      obtain ⟨k, ob, rfl, hk, rfl, hs⟩ := hrel
      obtain ⟨wo, rfl⟩ : ∃ wo : World, wo = wr := ⟨_, rfl⟩
      obtain ⟨fs, q0, q1, q2, q3, _⟩ := hs.out.2
      by_cases hlt : k < m.n1
      · obtain ⟨g, off, rfl, hgl, e0, e1, e2⟩ := rows3 fs.c hlt
        have hi0 : (0 : Int) ≤ (k : Int) := by omega
        have hi1 : (k : Int) < (m.n1 : Int) := by omega
        have hgm : gm < wo.heap.size := World.block_lt_of_cell? wo _ q0
        have HX := Lib.hid (fun (ob2 : Obj) => hs.out.2.below ((Below.refl _ _).alloc (Nat.le_refl _) ob2))
        have HO : Hid (ob = (m.base && allN m.cOk k)) := hs.out.1
        have HCK : Hid (m.cOk k = decide ((m.s k).size ≤ 255)) := rfl
        replace e0 : wo.cell? ⟨g, off + k * 3, none⟩ = some (.bool (m.b k)) := e0
        replace e1 : wo.cell? ⟨g, off + k * 3 + 1, none⟩ = some (.int .i64 (m.z k)) := e1
        replace e2 : wo.cell? ⟨g, off + k * 3 + 2, none⟩ = some (.string (m.s k)) := e2
        cases ob with
        | false =>
          have HS : Hid (false = (m.base && allN m.cOk (k + 1))) := (show false = (m.base && (allN m.cOk k && m.cOk k)) by rw [← Bool.and_assoc, ← HO.out, Bool.false_and])
          clear hs
          go_wp2
          go_roundw
          case rel => first | exact ⟨k + 1, false, by go_num, by omega, rfl, HS.out, HX.out _⟩ | ((repeat apply Exists.intro); exact ⟨⟨k + 1, false, by go_num, by omega, rfl, HS.out, HX.out _⟩, rfl⟩)
          case measure => simp [intOf]; omega
        | true =>
          by_cases hc : (m.s k).size ≤ 255
          · have hc2 : (((m.s k).size : Nat) : Int) ≤ 255 := by omega
            have HS : Hid (true = (m.base && allN m.cOk (k + 1))) := (show true = (m.base && (allN m.cOk k && m.cOk k)) by rw [← Bool.and_assoc, ← HO.out, HCK.out, decide_eq_true hc, Bool.true_and])
            clear hs hc
            go_wp2
            go_roundw
            case rel => first | exact ⟨k + 1, true, by go_num, by omega, rfl, HS.out, HX.out _⟩ | ((repeat apply Exists.intro); exact ⟨⟨k + 1, true, by go_num, by omega, rfl, HS.out, HX.out _⟩, rfl⟩)
            case measure => simp [intOf]; omega
          · have hc2 : ¬ (((m.s k).size : Nat) : Int) ≤ 255 := by omega
            have HS : Hid (false = (m.base && allN m.cOk (k + 1))) := (show false = (m.base && (allN m.cOk k && m.cOk k)) by rw [← Bool.and_assoc, ← HO.out, HCK.out, decide_eq_false hc, Bool.true_and])
            clear hs hc
            go_wp2
            go_roundw
            case rel => first | exact ⟨k + 1, false, by go_num, by omega, rfl, HS.out, HX.out _⟩ | ((repeat apply Exists.intro); exact ⟨⟨k + 1, false, by go_num, by omega, rfl, HS.out, HX.out _⟩, rfl⟩)
            case measure => simp [intOf]; omega
      · obtain rfl : k = m.n1 := by omega
        have HO1 : Hid (ob = (m.base && allN m.cOk m.n1)) := hs.out.1
        have HM2 := Lib.hid hs.out.2
        clear hlt hs
        go_wp2_with fail
        go_loopw [3, 49] (fun o i wr => ∃ (k : Nat) (ob2 : Bool), i = .int .i64 (k : Nat) ∧ k ≤ m.n2 ∧ .bool ob2 = o ∧ Hid (ob2 = (ob && allN m.fOk k) ∧ MxAt w gm m a1 a2 a3 wr)) (fun _ i _ => m.n2 - (intOf i).toNat)
        case atStart => exact ⟨0, ob, rfl, Nat.zero_le _, rfl, by unfold allN; simp, HM2.out⟩
        case round =>
          obtain ⟨k, ob2, rfl, hk2, rfl, hs⟩ := hrel
          obtain ⟨wp, rfl⟩ : ∃ wp : World, wp = wr := ⟨_, rfl⟩
          obtain ⟨fs2, r0, r1, r2, r3, _⟩ := hs.out.2
          by_cases hlt : k < m.n2
          · obtain ⟨g, off, rfl, hgl, e0, e1, e2⟩ := rows3 fs2.f hlt
            have hi0 : (0 : Int) ≤ (k : Int) := by omega
            have hi1 : (k : Int) < (m.n2 : Int) := by omega
            have hgm : gm < wp.heap.size := World.block_lt_of_cell? wp _ r0
            have HX := Lib.hid (fun (ob2 : Obj) => hs.out.2.below ((Below.refl _ _).alloc (Nat.le_refl _) ob2))
            have HO : Hid (ob2 = (ob && allN m.fOk k)) := hs.out.1
            have HCK : Hid (m.fOk k = (decide (m.cl k ≤ 4000) && (decide (0 ≤ m.p k) && decide (m.p k ≤ 20)) && (decide (m.p k ≤ m.lo k) && decide (m.lo k ≤ 50)))) := rfl
            replace e0 : wp.cell? ⟨g, off + k * 3, none⟩ = some (.int .i64 (m.p k)) := e0
            replace e1 : wp.cell? ⟨g, off + k * 3 + 1, none⟩ = some (.int .i64 (m.lo k)) := e1
            replace e2 : wp.cell? ⟨g, off + k * 3 + 2, none⟩ = some (.slice (m.ca k) (m.cl k) (m.cc k)) := e2
            cases ob2 with
            | false =>
              have HS : Hid (false = (ob && allN m.fOk (k + 1))) := (show false = (ob && (allN m.fOk k && m.fOk k)) by rw [← Bool.and_assoc, ← HO.out, Bool.false_and])
              clear hs
              go_wp2
              go_roundw
              case rel => first | exact ⟨k + 1, false, by go_num, by omega, rfl, HS.out, HX.out _⟩ | ((repeat apply Exists.intro); exact ⟨⟨k + 1, false, by go_num, by omega, rfl, HS.out, HX.out _⟩, rfl⟩)
              case measure => simp [intOf]; omega
            | true =>
              by_cases hc : m.cl k ≤ 4000
              · have hc2 : ((m.cl k : Nat) : Int) ≤ 4000 := by omega
                generalize hP : (decide (0 ≤ m.p k) && decide (m.p k ≤ 20)) = P at HCK
                generalize hL : (decide (m.p k ≤ m.lo k) && decide (m.lo k ≤ 50)) = Q at HCK
                have HP := Lib.hid (HW.out (m.p k) 0 20)
                have HL := Lib.hid (HW.out (m.lo k) (m.p k) 50)
                rw [hP] at HP
                rw [hL] at HL
                rw [decide_eq_true hc, Bool.true_and] at HCK
                clear hs hc hP hL
                cases P with
                | true =>
                  have HS : Hid (Q = (ob && allN m.fOk (k + 1))) := (show Q = (ob && (allN m.fOk k && m.fOk k)) by rw [← Bool.and_assoc, ← HO.out, HCK.out, Bool.true_and, Bool.true_and])
                  go_wp2_with fail
                  refine (HP.out _).mono ?_
                  rintro en w5 ⟨rfl, rfl⟩
                  go_wp2_with fail
                  refine (HL.out _).mono ?_
                  rintro en w6 ⟨rfl, rfl⟩
                  go_wp2
                  go_roundw
                  case rel => first | exact ⟨k + 1, Q, by go_num, by omega, rfl, HS.out, HX.out _⟩ | ((repeat apply Exists.intro); exact ⟨⟨k + 1, Q, by go_num, by omega, rfl, HS.out, HX.out _⟩, rfl⟩)
                  case measure => simp [intOf]; omega
                | false =>
                  have HS : Hid (false = (ob && allN m.fOk (k + 1))) := (show false = (ob && (allN m.fOk k && m.fOk k)) by rw [← Bool.and_assoc, ← HO.out, HCK.out, Bool.true_and, Bool.false_and])
                  go_wp2_with fail
                  refine (HP.out _).mono ?_
                  rintro en w5 ⟨rfl, rfl⟩
                  go_wp2
                  go_roundw
                  case rel => first | exact ⟨k + 1, false, by go_num, by omega, rfl, HS.out, HX.out _⟩ | ((repeat apply Exists.intro); exact ⟨⟨k + 1, false, by go_num, by omega, rfl, HS.out, HX.out _⟩, rfl⟩)
                  case measure => simp [intOf]; omega
              · have hc2 : ¬ ((m.cl k : Nat) : Int) ≤ 4000 := by omega
                have HS : Hid (false = (ob && allN m.fOk (k + 1))) := (show false = (ob && (allN m.fOk k && m.fOk k)) by rw [← Bool.and_assoc, ← HO.out, HCK.out, decide_eq_false hc, Bool.true_and, Bool.false_and, Bool.false_and])
                clear hs hc
                go_wp2
                go_roundw
                case rel => first | exact ⟨k + 1, false, by go_num, by omega, rfl, HS.out, HX.out _⟩ | ((repeat apply Exists.intro); exact ⟨⟨k + 1, false, by go_num, by omega, rfl, HS.out, HX.out _⟩, rfl⟩)
                case measure => simp [intOf]; omega
          · obtain rfl : k = m.n2 := by omega
            have HO2 : Hid (ob2 = (ob && allN m.fOk m.n2)) := hs.out.1
            have HM3 := Lib.hid hs.out.2
            clear hlt hs
            go_wp2_with fail
            go_loopw [3, 76] (fun o i wr => ∃ (k : Nat) (ob3 : Bool), i = .int .i64 (k : Nat) ∧ k ≤ m.n3 ∧ .bool ob3 = o ∧ Hid (ob3 = (ob2 && allN m.kOk k) ∧ MxAt w gm m a1 a2 a3 wr)) (fun _ i _ => m.n3 - (intOf i).toNat)
            case atStart => exact ⟨0, ob2, rfl, Nat.zero_le _, rfl, by unfold allN; simp, HM3.out⟩
            case round =>
              obtain ⟨k, ob3, rfl, hk3, rfl, hs⟩ := hrel
              obtain ⟨wq, rfl⟩ : ∃ wq : World, wq = wr := ⟨_, rfl⟩
              obtain ⟨fs3, t0, t1, t2, t3, _⟩ := hs.out.2
              by_cases hlt : k < m.n3
              · obtain ⟨g, off, rfl, hgl, e0, e1⟩ := rows2 fs3.k hlt
                have hi0 : (0 : Int) ≤ (k : Int) := by omega
                have hi1 : (k : Int) < (m.n3 : Int) := by omega
                have hgm : gm < wq.heap.size := World.block_lt_of_cell? wq _ t0
                have HX := Lib.hid (fun (ob2 : Obj) => hs.out.2.below ((Below.refl _ _).alloc (Nat.le_refl _) ob2))
                have HO : Hid (ob3 = (ob2 && allN m.kOk k)) := hs.out.1
                have HCK : Hid (m.kOk k = (decide (0 ≤ m.fi k) && decide (m.fi k ≤ 255))) := rfl
                replace e0 : wq.cell? ⟨g, off + k * 2, none⟩ = some (.int .i64 (m.fi k)) := e0
                replace e1 : wq.cell? ⟨g, off + k * 2 + 1, none⟩ = some (.int .i64 (m.en k)) := e1
                cases ob3 with
                | false =>
                  have HS : Hid (false = (ob2 && allN m.kOk (k + 1))) := (show false = (ob2 && (allN m.kOk k && m.kOk k)) by rw [← Bool.and_assoc, ← HO.out, Bool.false_and])
                  clear hs
                  go_wp2
                  go_roundw
                  case rel => first | exact ⟨k + 1, false, by go_num, by omega, rfl, HS.out, HX.out _⟩ | ((repeat apply Exists.intro); exact ⟨⟨k + 1, false, by go_num, by omega, rfl, HS.out, HX.out _⟩, rfl⟩)
                  case measure => simp [intOf]; omega
                | true =>
                  generalize hP : (decide (0 ≤ m.fi k) && decide (m.fi k ≤ 255)) = P at HCK
                  have HP := Lib.hid (HW.out (m.fi k) 0 255)
                  rw [hP] at HP
                  have HS : Hid (P = (ob2 && allN m.kOk (k + 1))) := (show P = (ob2 && (allN m.kOk k && m.kOk k)) by rw [← Bool.and_assoc, ← HO.out, HCK.out, Bool.true_and])
                  clear hs hP
                  go_wp2_with fail
                  refine (HP.out _).mono ?_
                  rintro en w5 ⟨rfl, rfl⟩
                  go_wp2
                  go_roundw
                  case rel => first | exact ⟨k + 1, P, by go_num, by omega, rfl, HS.out, HX.out _⟩ | ((repeat apply Exists.intro); exact ⟨⟨k + 1, P, by go_num, by omega, rfl, HS.out, HX.out _⟩, rfl⟩)
                  case measure => simp [intOf]; omega
              · obtain rfl : k = m.n3 := by omega
                have HF : Hid (ob3 = SB) := (show ob3 = SB by rw [HSB.out, hs.out.1, HO2.out, HO1.out])
                have HBL := Lib.hid hs.out.2.bel
                clear hlt hs
                go_wp2
                go_ret
                exact ⟨ret_bool2 HF.out, HBL.out⟩
end
end Go.Proofs.Yteipnfnbepnpjaa
