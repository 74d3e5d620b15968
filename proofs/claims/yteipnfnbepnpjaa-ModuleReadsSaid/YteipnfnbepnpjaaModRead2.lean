/- module's Read, of any bytes. -/
import Derived.Test.YteipnfnbepnpjaaModRead1
namespace Go.Proofs.Yteipnfnbepnpjaa
open Go.RowKit Go.Maps
set_option linter.unusedVariables false
theorem takeM_byte {n : Nat} {s : RS} (h : ∀ y ∈ s.1, y < 256) : ∀ y ∈ (takeM n s).1, y < 256 := by
  unfold takeM
  split
  · intro y hy; rw [(List.mem_replicate.1 hy).2]; decide
  · split
    · intro y hy; rw [(List.mem_replicate.1 hy).2]; decide
    · exact fun y hy => h y (List.mem_of_mem_take hy)
theorem len3 : ∀ l : List Nat, l.length = 3 → ∃ x y z, l = [x, y, z]
  | [x, y, z], _ => ⟨x, y, z, rfl⟩
  | [], h => by simp at h
  | [_], h => by simp at h
  | [_, _], h => by simp at h
  | _ :: _ :: _ :: _ :: _, h => by simp at h
theorem P3.lt {w : World} {gm : Nat} {m : AM} {s : RS} {v1 v2 v3 : Value} {W : World} (h : P3 w gm m s v1 v2 v3 W) : w.heap.size < W.heap.size ∧ w.heap.size + 1 < W.heap.size ∧ w.heap.size + 1 + 1 < W.heap.size ∧ gm < W.heap.size := by
  have h1 := h.r1.rf.lt
  exact ⟨by omega, h1.1, h1.2.2, h1.2.1⟩
theorem P3.done {w : World} {gm : Nat} {m : AM} {s : RS} {v1 v2 v3 : Value} {W W' : World} (h : P3 w gm m s v1 v2 v3 W) (k : Keeps [w.heap.size, w.heap.size + 1] W W') : AMS W' m (.agg #[.int .i64 m.G, v1, v2, v3]) ∧ Below w.heap.size w W' :=
  ⟨h.ams W' k, h.r1.bel.trans (k.below h.r1.bel.size (by simp))⟩
theorem P3.res {w : World} {gm : Nat} {m : AM} {s : RS} {v1 v2 v3 : Value} {W : World} (h : P3 w gm m s v1 v2 v3 W) : W.cell? ⟨w.heap.size, 0, none⟩ = some (.int .i64 0) ∧ W.cell? ⟨w.heap.size, 1, none⟩ = some (.slice none 0 0) ∧ W.cell? ⟨w.heap.size, 2, none⟩ = some (.slice none 0 0) ∧ W.cell? ⟨w.heap.size, 3, none⟩ = some (.slice none 0 0) ∧ W.frozen? ⟨w.heap.size, 0, none⟩ = false ∧ W.frozen? ⟨w.heap.size, 1, none⟩ = false ∧ W.frozen? ⟨w.heap.size, 2, none⟩ = false ∧ W.frozen? ⟨w.heap.size, 3, none⟩ = false :=
  ⟨cell_of_block h.r1.res, cell_of_block h.r1.res, cell_of_block h.r1.res, cell_of_block h.r1.res, free_of_block h.r1.res, free_of_block h.r1.res, free_of_block h.r1.res, free_of_block h.r1.res⟩
theorem P3.mod {w : World} {gm : Nat} {m : AM} {s : RS} {v1 v2 v3 : Value} {W : World} (h : P3 w gm m s v1 v2 v3 W) : W.cell? ⟨gm, 0, none⟩ = some (.int .i64 m.G) ∧ W.cell? ⟨gm, 1, none⟩ = some v1 ∧ W.cell? ⟨gm, 2, none⟩ = some v2 ∧ W.cell? ⟨gm, 3, none⟩ = some v3 :=
  ⟨cell_of_block h.r1.rf.m, cell_of_block h.r1.rf.m, cell_of_block h.r1.rf.m, cell_of_block h.r1.rf.m⟩
theorem P3.why {w : World} {gm : Nat} {m : AM} {s : RS} {v1 v2 v3 : Value} {W : World} (h : P3 w gm m s v1 v2 v3 W) : W.cell? ⟨w.heap.size + 1, 1, none⟩ = some (.int .i64 (s.2 : Nat)) ∧ W.frozen? ⟨w.heap.size + 1, 1, none⟩ = false := by
  obtain ⟨a, len, cap, st, _⟩ := h.r1.rf.r.at_
  exact ⟨cell_of_block st, free_of_block st⟩
theorem P3.slices {w : World} {gm : Nat} {m : AM} {s : RS} {v1 v2 v3 : Value} {W : World} (h : P3 w gm m s v1 v2 v3 W) : ∃ a1 n1 c1 a2 n2 c2 a3 n3 c3, v1 = .slice a1 n1 c1 ∧ v2 = .slice a2 n2 c2 ∧ v3 = .slice a3 n3 c3 := by
  obtain ⟨a1, c1, a2, c2, a3, c3, ca, cc, e, _, _⟩ := (h.ams W (Keeps.refl _ _)).at_
  unfold modXV at e
  injection e with e
  have e1 := congrArg (fun x : Array Value => x[1]?) e
  have e2 := congrArg (fun x : Array Value => x[2]?) e
  have e3 := congrArg (fun x : Array Value => x[3]?) e
  exact ⟨_, _, _, _, _, _, _, _, _, by simpa using e1, by simpa using e2, by simpa using e3⟩
/-- how Read ends -/
def RdDone (w : World) (r : AM × Nat) (en : Ending) (W : World) : Prop := ∃ v, en = .returned (.tuple #[v, .int .i64 (r.2 : Nat)]) ∧ AMS W r.1 v ∧ Below w.heap.size w W
set_option maxRecDepth 100000 in
set_option maxHeartbeats 16000000 in
theorem read_any (a : Option Addr) (len cap : Nat) (bs : List Nat) (w : World) (h : HoldsB w a len cap bs) (hn : bs.length ≤ 1000000) (ha : ∀ g off, a = some ⟨g, off, none⟩ → g < w.heap.size) :
    Calls Try.prog 31 #[.slice a len cap] w (RdDone w (readM bs)) := by
  obtain ⟨w1, hw1⟩ : ∃ w1, w1 = ((w.alloc (.cells #[.int .i64 0, .slice none 0 0, .slice none 0 0, .slice none 0 0] 47)).alloc (.cells #[.slice a len cap, .int .i64 0] 82)).alloc (.cells #[.pointer (some ⟨w.heap.size + 1, 0, none⟩)] 80) := ⟨_, rfl⟩
  have h0 : R0 w (bs, 0) w1 := by rw [hw1]; exact r0_start a len cap bs w h hn ha
  have hby := takeM_byte (n := 3) (s := (bs, 0)) h.lt
  obtain ⟨x, y, z, hxyz⟩ : ∃ x y z, (takeM 3 (bs, 0)).1 = [x, y, z] := by
    have := takeM_length 3 (bs, 0)
    exact len3 _ this
  have hx : x < 256 := hby x (by rw [hxyz]; simp)
  have hy : y < 256 := hby y (by rw [hxyz]; simp)
  have hz : z < 256 := hby z (by rw [hxyz]; simp)
  obtain ⟨s1, hs1⟩ : ∃ s1, s1 = (takeM 3 (bs, 0)).2 := ⟨_, rfl⟩
  obtain ⟨pb, hpb⟩ : ∃ pb, pb = decide ([x, y, z] = [68, 67, 49]) := ⟨_, rfl⟩
  obtain ⟨s2, hs2⟩ : ∃ s2, s2 = wrongM (!pb) s1 := ⟨_, rfl⟩
  have HH : Hid (headS bs = s2) := (show headS bs = s2 by rw [hs2, hpb, hs1, ← hxyz]; rfl)
  have HTK : Hid (∀ W0, Keeps [] w1 W0 → Calls Try.prog 47 #[.pointer (some ⟨w.heap.size + 1, 0, none⟩), .int .i64 3] W0 fun en w' => ∃ g, en = .returned (.slice (some ⟨g, 0, none⟩) 3 3) ∧ HoldsB w' (some ⟨g, 0, none⟩) 3 3 [x, y, z] ∧ R0 w s1 w') := (show ∀ W0, _ → _ from fun W0 k0 => (take_any 3 (bs, 0) W0 (h0.same k0).r (by omega)).mono (by
    rintro en w' ⟨g, e, m, _, r, k⟩
    rw [hxyz] at m
    rw [← hs1] at r
    exact ⟨g, e, m.holds (by omega), (h0.same k0).keeps k r⟩))
  have HPX : Hid (∀ W, Calls Try.prog 46 #[.string (strOf [x, y, z]), .string ⟨#[68, 67, 49]⟩] W fun e w' => e = .returned (.bool pb) ∧ W = w') := (show ∀ W, _ from fun W => by rw [hpb]; exact prefix_any x y z hx hy hz W)
  have HWR : Hid (∀ W, R0 w s1 W → Calls Try.prog 45 #[.pointer (some ⟨w.heap.size + 1, 0, none⟩), .bool (!pb)] W fun en w' => en = .returned (.tuple #[]) ∧ R0 w s2 w') := (show ∀ W, _ → _ from fun W hh => (wrong_any (!pb) s1 W hh.r).mono (by
    rintro en w' ⟨e, r, k⟩
    rw [← hs2] at r
    exact ⟨e, hh.keeps k r⟩))
  have HCV := Lib.hid (fun (W : World) (g : Nat) (h : HoldsB W (some ⟨g, 0, none⟩) 3 3 [x, y, z]) => h.conv)
  obtain ⟨g1, hg1⟩ : ∃ g1, g1 = (oneM s2).1 := ⟨_, rfl⟩
  obtain ⟨s3, hs3⟩ : ∃ s3, s3 = (oneM s2).2 := ⟨_, rfl⟩
  have HON : Hid (∀ W, R0 w s2 W → Calls Try.prog 48 #[.pointer (some ⟨w.heap.size + 1, 0, none⟩)] W fun en w' => en = .returned (.int .i64 (g1 : Nat)) ∧ R0 w s3 w') := (show ∀ W, _ → _ from fun W hh => (one_any s2 W hh.r).mono (by
    rintro en w' ⟨e, _, r, k⟩
    rw [← hs3] at r
    rw [← hg1] at e
    exact ⟨e, hh.keeps k r⟩))
  obtain ⟨t1, ht1⟩ : ∃ t1, t1 = manyM constM s3 := ⟨_, rfl⟩
  obtain ⟨t2, ht2⟩ : ∃ t2, t2 = manyM funcM t1.2 := ⟨_, rfl⟩
  obtain ⟨t3, ht3⟩ : ∃ t3, t3 = manyM classM t2.2 := ⟨_, rfl⟩
  obtain ⟨m, hm⟩ : ∃ m, m = (⟨(g1 : Nat), t1.1, t2.1, t3.1⟩ : AM) := ⟨_, rfl⟩
  obtain ⟨s7, hs7⟩ : ∃ s7, s7 = wrongM (decide (0 < t3.2.1.length)) t3.2 := ⟨_, rfl⟩
  have HRM : Hid (readM bs = if (if s7.2 = 0 then m.rightE else s7.2) = 0 then (m, 0) else (AM.none, if s7.2 = 0 then m.rightE else s7.2)) := (show readM bs = _ by
    have e : bodyM (headS bs) = (m, s7) := by rw [HH.out, hs7, hm, ht3, ht2, ht1, hs3, hg1]; rfl
    unfold readM
    rw [e])
  have HM1 : Hid (∀ gm W, R1 w gm (g1 : Nat) (.slice none 0 0) (.slice none 0 0) (.slice none 0 0) s3 W → Calls Try.prog 49 #[.pointer (some ⟨w.heap.size + 1, 0, none⟩), .func (.func 50) #[] #[.pointer (some ⟨gm, 0, none⟩), .pointer (some ⟨w.heap.size + 1 + 1, 0, none⟩)]] W fun en W' => en = .returned (.tuple #[]) ∧ P1 w gm (g1 : Nat) t1 W') := (show ∀ gm W, _ → _ from fun gm W hh => by rw [ht1]; exact p1_many hh)
  have HM2 : Hid (∀ gm W, P1 w gm (g1 : Nat) t1 W → Calls Try.prog 49 #[.pointer (some ⟨w.heap.size + 1, 0, none⟩), .func (.func 52) #[] #[.pointer (some ⟨gm, 0, none⟩), .pointer (some ⟨w.heap.size + 1 + 1, 0, none⟩)]] W fun en W' => en = .returned (.tuple #[]) ∧ P2 w gm (g1 : Nat) t1.1 t2 W') := (show ∀ gm W, _ → _ from fun gm W hh => by rw [ht2]; exact p2_many hh)
  have HM3 : Hid (∀ gm W, P2 w gm (g1 : Nat) t1.1 t2 W → Calls Try.prog 49 #[.pointer (some ⟨w.heap.size + 1, 0, none⟩), .func (.func 54) #[] #[.pointer (some ⟨gm, 0, none⟩), .pointer (some ⟨w.heap.size + 1 + 1, 0, none⟩)]] W fun en W' => en = .returned (.tuple #[]) ∧ ∃ v1 v2 v3, P3 w gm m t3.2 v1 v2 v3 W') := (show ∀ gm W, _ → _ from fun gm W hh => by rw [hm, ht3]; exact p3_many hh)
  have HW7 : Hid (∀ gm v1 v2 v3 (b : Bool) W, b = decide (0 < t3.2.1.length) → P3 w gm m t3.2 v1 v2 v3 W → Calls Try.prog 45 #[.pointer (some ⟨w.heap.size + 1, 0, none⟩), .bool b] W fun en w' => en = .returned (.tuple #[]) ∧ P3 w gm m s7 v1 v2 v3 w' ∧ w'.cell? ⟨w.heap.size + 1, 0, none⟩ = W.cell? ⟨w.heap.size + 1, 0, none⟩) := (show ∀ gm v1 v2 v3 b W, _ → _ → _ from fun gm v1 v2 v3 b W hb hh => (wrong_any2 b t3.2 W hh.r1.rf.r).mono (by
    rintro en w' ⟨e, r, k, q⟩
    rw [hb, ← hs7] at r
    exact ⟨e, hh.read k r, q⟩))
  have HRT : Hid (∀ gm v1 v2 v3 W, P3 w gm m s7 v1 v2 v3 W → Calls Try.prog 30 #[.agg #[.int .i64 m.G, v1, v2, v3]] W fun en w' => en = .returned (.int .i64 (m.rightE : Nat)) ∧ P3 w gm m s7 v1 v2 v3 w') := (show ∀ gm v1 v2 v3 W, _ → _ from fun gm v1 v2 v3 W hh => (right_am m _ W (hh.ams W (Keeps.refl _ _))).mono (by
    rintro en w' ⟨e, b⟩
    exact ⟨e, hh.same (Keeps.of_below b (Nat.le_refl _) _)⟩))
  have HC0 := Lib.hid h0.ptr
  have HW1 := Lib.hid hw1
  have HR1 := Lib.hid (fun W (hh : R0 w s3 W) => R1.made hh ((g1 : Nat) : Int))
  have HG : Hid (m.G = (g1 : Nat)) := (show m.G = (g1 : Nat) by rw [hm])
  obtain ⟨rm, hrm⟩ : ∃ rm, rm = readM bs := ⟨_, rfl⟩
  rw [← hrm] at HRM ⊢
  clear h h0 hby hxyz hx hy hz hs1 hpb hs2 hg1 hs3 ht1 ht2 ht3 hm hs7 hw1 ha hrm
  go_enter Try.func31, Try.ntmps31
  go_wp2_with fail
  rw [← HW1.out]
  rename_i K hK
  have tail : ∀ (y9 y10 y11 y12 y13 y14 y15 : Value) (W : World), R0 w s2 W → K { tmps := #[.slice a len cap, undef, .pointer (some ⟨w.heap.size, 0, none⟩), .int .i64 0, .pointer (some ⟨w.heap.size + 1 + 1, 0, none⟩), undef, .slice a len cap, .agg #[.slice a len cap, .int .i64 0], .pointer (some ⟨w.heap.size + 1, 0, none⟩), y9, y10, y11, y12, y13, y14, y15, undef, undef, undef, undef, undef, undef, undef, undef, undef, undef, undef, undef, undef, undef, undef, undef, undef, undef, undef, undef, undef, undef, undef, undef, undef, undef, undef, undef, undef, undef, undef, undef, undef, undef, undef, undef, undef, undef, undef, undef, undef], defers := [] } W := by
    intro y9 y10 y11 y12 y13 y14 y15 W hn6
    apply hK
    clear hK
    have HR6 := Lib.hid hn6
    have q6 := hn6.ptr
    clear hn6
    go_wp2_with fail
    refine (HON.out _ HR6.out).mono ?_
    rintro en w7 ⟨rfl, hr7⟩
    have HR7 := Lib.hid hr7
    have HA7 := Lib.hid (HR1.out w7 hr7)
    have q7 := HA7.out.ptr
    clear hr7 q6
    go_wp2_with fail
    refine (HM1.out _ _ HA7.out).mono ?_
    rintro en w8 ⟨rfl, h8⟩
    have H8 := Lib.hid h8
    obtain ⟨_, r8, _⟩ := h8.at_
    have q8 := r8.ptr
    clear h8 r8 q7
    go_wp2_with fail
    refine (HM2.out _ _ H8.out).mono ?_
    rintro en w9 ⟨rfl, h9⟩
    have H9 := Lib.hid h9
    obtain ⟨_, _, _, r9, _⟩ := h9.at_
    have q9 := r9.ptr
    clear h9 r9 q8
    go_wp2_with fail
    refine (HM3.out _ _ H9.out).mono ?_
    rintro en w10 ⟨rfl, u1, u2, u3, h10⟩
    obtain ⟨z1, z2, z3, z4, z5, z6, z7, z8, z9, rfl, rfl, rfl⟩ := h10.slices
    have H10 := Lib.hid h10
    obtain ⟨a5, l5, c5, st5, hb5, _⟩ := h10.r1.rf.r.at_
    have q10 := h10.r1.ptr
    have e10 : w10.cell? ⟨w.heap.size + 1, 0, none⟩ = some (.slice a5 l5 c5) := cell_of_block st5
    have hle5 := hb5.eq
    have HD : Hid (decide ((0 : Int) < (l5 : Int)) = decide (0 < t3.2.1.length)) := (show _ = _ by rw [hle5]; congr 1; rw [eq_iff_iff]; omega)
    have HD2 : Hid (decide (0 < l5) = decide (0 < t3.2.1.length)) := (show _ = _ by rw [hle5])
    clear h10 st5 hb5 q9 hle5
    go_wp2_with fail
    go_region_held3 (fun W => W.cell? ⟨w.heap.size + 1 + 1, 0, none⟩ = some (.pointer (some ⟨w.heap.size + 1, 0, none⟩)) ∧ W.cell? ⟨w.heap.size + 1, 0, none⟩ = some (.slice a5 l5 c5))
      (first | go_keep | exact q)
      (first | (go_at_call 45
                refine (HW7.out _ _ _ _ _ _ (by first | exact HD.out | exact HD2.out) (H10.out.same (by repeat (first | exact Keeps.refl _ _ | refine Keeps.drew ?_)))).mono ?_
                rintro en w11 ⟨rfl, h11, hq11⟩
                have q := And.intro h11.r1.ptr (hq11.trans e10)))
    have H11 := Lib.hid h11
    clear q hq11 e10 q10 h11 HD HD2
    have q11 := H11.out.r1.ptr
    have e11 := H11.out.why.1
    have f11 := H11.out.why.2
    obtain ⟨d0, d1, d2, d3, fz0, fz1, fz2, fz3⟩ := H11.out.res
    obtain ⟨l0, l1, l2, l3⟩ := H11.out.lt
    by_cases h7 : s7.2 = 0
    · rw [h7] at e11
      replace e11 : w11.cell? ⟨w.heap.size + 1, 1, none⟩ = some (.int .i64 0) := e11
      obtain ⟨m0, m1, m2, m3⟩ := H11.out.mod
      have H7 := Lib.hid h7
      clear h7
      go_wp2_with fail
      go_region_law
        (first | (go_simp; go_at_call 30
                  refine (HRT.out _ _ _ _ _ (H11.out.same (by repeat (first | exact Keeps.refl _ _ | refine Keeps.drew ?_)))).mono ?_
                  rintro en w12 ⟨rfl, h12⟩
                  have q12 := h12.r1.ptr
                  have e12 := h12.why.1
                  have f12 := h12.why.2
                  have l12 := h12.lt.2.1))
      all_goals
        have H12 := Lib.hid h12
        clear d0 d1 d2 d3 fz0 fz1 fz2 fz3 m0 m1 m2 m3 e11 f11 q11
        obtain ⟨d0, d1, d2, d3, fz0, fz1, fz2, fz3⟩ := H12.out.res
        obtain ⟨m0, m1, m2, m3⟩ := H12.out.mod
        obtain ⟨y0, y1, y2, y3⟩ := H12.out.lt
        have hgt := H12.out.r1.gt
        have hn1 : ¬ (w7.heap.size = w.heap.size + 1) := by omega
        have hn2 : ¬ (w.heap.size + 1 = w7.heap.size) := by omega
        have hn3 : ¬ (w7.heap.size = w.heap.size) := by omega
        have hn4 : ¬ (w.heap.size = w7.heap.size) := by omega
        by_cases hr : m.rightE = 0
        · have HV : Hid (rm = (m, 0)) := (show rm = (m, 0) by rw [HRM.out, if_pos H7.out, if_pos hr])
          rw [hr]
          clear h12 hr hgt
          go_wp2
          rw [HV.out]
          refine bodyPost_ret (v := .tuple #[.agg #[.int .i64 m.G, .slice z1 z2 z3, .slice z4 z5 z6, .slice z7 z8 z9], .int .i64 0]) ?_ rfl ⟨_, rfl, ?_⟩
          · have hres : Try.f31.results = #[.cell 2 47, .tmp 3] := by kernel_rfl
            simp only [results, hres]
            go_simp
          · exact H12.out.done (by repeat (first | exact Keeps.refl _ _ | refine Keeps.drew ?_ | refine Keeps.setCell ?_ (.inl (by simp)) _))
        · have HV : Hid (rm = (AM.none, m.rightE)) := (show rm = (AM.none, m.rightE) by rw [HRM.out, if_pos H7.out, if_neg hr])
          have b2 : ((m.rightE : Int) != 0) = true := by rw [bne_iff_ne]; omega
          clear h12 hr hgt
          go_wp2_with fail
          go_region
          go_wp2
          rw [HV.out]
          refine bodyPost_ret (v := .tuple #[.agg #[.int .i64 0, .slice none 0 0, .slice none 0 0, .slice none 0 0], .int .i64 (m.rightE : Nat)]) ?_ rfl ⟨_, rfl, ams_none _, ?_⟩
          · have hres : Try.f31.results = #[.cell 2 47, .tmp 3] := by kernel_rfl
            simp only [results, hres]
            go_simp
          · exact (H12.out.done (by repeat (first | exact Keeps.refl _ _ | refine Keeps.drew ?_ | refine Keeps.setCell ?_ (.inl (by simp)) _))).2
    · have b1 : ((s7.2 : Int) == 0) = false := by rw [beq_eq_false_iff_ne]; omega
      have b2 : ((s7.2 : Int) != 0) = true := by rw [bne_iff_ne]; omega
      have HV : Hid (rm = (AM.none, s7.2)) := (show rm = (AM.none, s7.2) by rw [HRM.out, if_neg h7, if_neg h7])
      clear h7
      go_wp2_with fail
      go_region
      go_wp2
      rw [HV.out]
      refine bodyPost_ret (v := .tuple #[.agg #[.int .i64 0, .slice none 0 0, .slice none 0 0, .slice none 0 0], .int .i64 (s7.2 : Nat)]) ?_ rfl ⟨_, rfl, ams_none _, ?_⟩
      · have hres : Try.f31.results = #[.cell 2 47, .tmp 3] := by kernel_rfl
        simp only [results, hres]
        go_simp
      · exact (H11.out.done (by repeat (first | exact Keeps.refl _ _ | refine Keeps.drew ?_ | refine Keeps.setCell ?_ (.inl (by simp)) _))).2
  clear hK
  have c0 := HC0.out
  go_region_law
    (first | (go_simp; go_at_call 47
              refine (HTK.out _ (by repeat (first | exact Keeps.refl _ _ | refine Keeps.drew ?_))).mono ?_
              rintro en w4 ⟨g, rfl, hy4, hn4⟩
              have q4 := hn4.ptr
              have v0 := HCV.out w4 g hy4
              have v1 := HCV.out w4.drew g (hy4.below (Below.refl _ _).drew)
              have v2 := HCV.out w4.drew.drew g (hy4.below (Below.refl _ _).drew.drew))
           | (go_simp; go_at_call 46
              refine (HPX.out _).mono ?_
              rintro en w5 ⟨rfl, rfl⟩)
           | (go_simp; go_at_call 45
              refine (HWR.out _ (hn4.same (by repeat (first | exact Keeps.refl _ _ | refine Keeps.drew ?_)))).mono ?_
              rintro en w6 ⟨rfl, hn6⟩))
  all_goals exact tail _ _ _ _ _ _ _ _ hn6
end Go.Proofs.Yteipnfnbepnpjaa
