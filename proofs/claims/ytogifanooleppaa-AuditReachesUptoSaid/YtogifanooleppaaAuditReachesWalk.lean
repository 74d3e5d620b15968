/- The walk of the law AuditReaches: it answers true for every input that is not too great. -/
import Derived.Test.YtogifanooleppaaAudRefC
import Derived.Test.YtogifanooleppaaSameIntsR
import Derived.Test.YtogifanooleppaaAuditAllWalk
namespace Go.Proofs.Ytogifanooleppaa
open Go.RowKit Go.Maps
set_option linter.unusedVariables false

theorem nodup_len {S L : List Int} (hn : S.Nodup) (h : ∀ x ∈ S, x ∈ L) : S.length ≤ L.length := by
  induction S generalizing L with
  | nil => simp
  | cons a S ih =>
    rw [List.nodup_cons] at hn
    have ha := h a (by simp)
    have h2 := ih (L := L.erase a) hn.2 fun x hx => by
      have hne : x ≠ a := fun e => hn.1 (by rw [← e]; exact hx)
      exact (List.mem_erase_of_ne hne).2 (h x (by simp [hx]))
    have h3 := List.length_erase_of_mem ha
    have h4 := List.length_pos_of_mem ha
    rw [List.length_cons]
    omega
theorem rch_len {l : List ObjV} {roots S : List Int} (hS : S.Pairwise (· < ·)) (hm : ∀ x, x ∈ S ↔ Rch l roots x) : S.length ≤ l.length := by
  have := nodup_len (S := S) (L := l.map (·.h)) (hS.imp fun {a b} h => by omega) fun x hx => by
    obtain ⟨o, ho, e⟩ := firstO_isSome.1 ((hm x).1 hx).is
    exact List.mem_map.2 ⟨o, ho, e⟩
  rwa [List.length_map] at this
/-- from what is reached no more is -/
theorem rch_again {l : List ObjV} {roots S : List Int} (hm : ∀ x, x ∈ S ↔ Rch l roots x) (x : Int) : x ∈ S ↔ Rch l S x := by
  constructor
  · intro h; exact .root h ((hm x).1 h).is
  · intro h
    induction h with
    | root h1 _ => exact h1
    | step h1 h2 h3 h4 ih => exact (hm _).2 (.step ((hm _).1 ih) h2 h3 h4)
theorem auditReaches.out (a0 : Option Addr) (len0 cap0 : Nat) (a1 : Option Addr) (len1 cap1 : Nat) (w : World) (h0 : len0 ≤ 9223372036854775807) (h1 : len1 ≤ 9223372036854775807) (hd : 40 < len0 ∨ (len0 ≤ 40 ∧ 40 < len1)) :
    Calls Try.prog 9 #[.slice a0 len0 cap0, .slice a1 len1 cap1] w fun e w' => e = .returned (.bool true) ∧ Below w.heap.size w w' := by
  rcases hd with h | ⟨h, h'⟩
  all_goals
    go_enter Try.func9, Try.ntmps9
    go_wp2_with (go_at_call 35; refine (alive24 _).mono ?_; rintro e w' ⟨rfl, hb⟩)
    go_ret
    exact ⟨rfl, by assumption⟩
set_option maxRecDepth 100000 in
set_option maxHeartbeats 4000000 in
theorem auditReaches.into (a0 : Option Addr) (len0 cap0 : Nat) (a1 : Option Addr) (len1 cap1 : Nat) (l : List ObjV) (roots : List Int) (w : World) (h : ObjsAt w a0 len0 cap0 l) (hr : NumsAt w a1 len1 cap1 roots) (hd0 : len0 ≤ 40) (hd1 : len1 ≤ 40) (hbk : refsN l + 6 * len0 + len1 ≤ 1048576) :
    Calls Try.prog 9 #[.slice a0 len0 cap0, .slice a1 len1 cap1] w fun e w' => e = .returned (.bool true) ∧ Below w.heap.size w w' := by
  have HO := Lib.hid h
  have HR := Lib.hid hr
  have hlen := h.size
  have HCP := Lib.hid h.le
  have d0 : decide ((40 : Int) < (len0 : Int)) = false := by rw [decide_eq_false_iff_not]; omega
  have d1 : decide ((40 : Int) < (len1 : Int)) = false := by rw [decide_eq_false_iff_not]; omega
  obtain ⟨B, hB⟩ : ∃ B, B = w.heap.size := ⟨_, rfl⟩
  have HB := Lib.hid hB
  have HSB : Hid (∀ W, Below B w W → B ≤ W.heap.size) := (show ∀ W, Below B w W → B ≤ W.heap.size from fun W hb => by rw [HB.out]; exact hb.size)
  have HTR : Hid (∀ W W', Below B w W → Below W.heap.size W W' → Below B w W') := (show ∀ W W', Below B w W → Below W.heap.size W W' → Below B w W' from fun W W' h1 h2 => h1.trans (h2.mono (HSB.out _ h1)))
  obtain ⟨S, hS1, hS2⟩ := rch_list l roots
  have hSL := rch_len hS1 hS2
  have HSM := Lib.hid (And.intro hS1 hS2)
  have HWF : Hid (∀ x ∈ S, (Lit.int .i64 x).wf = true) := (show ∀ x ∈ S, (Lit.int .i64 x).wf = true from fun x hx => by
    obtain ⟨o, ho, e⟩ := firstO_isSome.1 ((hS2 x).1 hx).is
    rw [← e]; exact HO.out.wf o ho)
  have C1 := Lib.hid (fun W (hb : Below B w W) => reach_any a0 a1 len0 cap0 len1 cap1 l roots S W (HO.out.below (by rw [← HB.out]; exact hb)) (HR.out.below (by rw [← HB.out]; exact hb)) (by omega) hS1 hS2)
  have C2 := Lib.hid (fun W ar cr (hb : Below B w W) (hn : NumsAt W ar S.length cr S) => reach_any a0 ar len0 cap0 S.length cr l S S W (HO.out.below (by rw [← HB.out]; exact hb)) hn (by omega) hS1 (rch_again hS2))
  clear h hr hB hS1 hS2
  go_enter Try.func9, Try.ntmps9
  go_wp2_with fail
  refine (alive24 _).mono ?_
  rintro e w1 ⟨rfl, hb1⟩
  have HB1 : Hid (Below B w w1) := (show Below B w w1 by rw [HB.out]; exact hb1)
  clear hb1
  go_wp2_with fail
  refine (C1.out _ HB1.out).mono ?_
  rintro e w2 ⟨v2, rfl, hr2, _, hb2⟩
  have HB2 := Lib.hid (HTR.out _ _ HB1.out hb2)
  obtain ⟨ar, cr, rfl, hq1, hq2, _, _⟩ := hr2.read
  have HNR := Lib.hid (hr2.nums rfl HWF.out)
  have HRW := Lib.hid hr2
  unfold maxLen at hq2
  clear hr2 hb2
  go_wp2_with fail
  go_loopw [7] (fun i wr => ∃ (k : Nat), i = .int .i64 (k : Nat) ∧ k ≤ len0 ∧ Hid (Below w2.heap.size w2 wr)) (fun i _ => len0 - (intOf i).toNat)
  case atStart => exact ⟨0, rfl, Nat.zero_le _, Below.refl _ _⟩
  case round =>
    obtain ⟨i, rfl, hi, hbr⟩ := hrel
    obtain ⟨wo, rfl⟩ : ∃ wo : World, wo = wr := ⟨_, rfl⟩
    by_cases hlt : i < len0
    · obtain ⟨o, ho⟩ : ∃ o, l[i]? = some o := ⟨l[i]'(by omega), List.getElem?_eq_getElem (by omega)⟩
      have HOI := Lib.hid ho
      have HBO := Lib.hid (HTR.out _ _ HB2.out hbr.out)
      obtain ⟨b, off, rfl, hbl, c0, _, _, _, c4⟩ := obj_at HO.out HBO.out HB.out ho
      have hi0 : (0 : Int) ≤ (i : Int) := by omega
      have hi1 : (i : Int) < (len0 : Int) := by omega
      have hrm : o.rl ≤ 9223372036854775807 := by have := (HO.out.refs o (List.mem_of_getElem? ho)).ints; have h1 := this.le; have h2 := this.max; omega
      by_cases hr : 40 < o.rl
      · clear ho
        go_wp2
        go_ret
        exact ⟨rfl, by rw [← HB.out]; exact HBO.out⟩
      · have hr' : o.rl ≤ 40 := by omega
        have HBR := Lib.hid hbr.out
        clear ho hr hbr
        go_wp2_with fail
        go_loopw [8, 9] (fun fv kv wr => ∃ (k : Nat) (f : Bool), kv = .int .i64 (k : Nat) ∧ k ≤ i ∧ fv = .bool f ∧ Hid (f = true → ∀ p ∈ l.take k, p.h ≠ o.h) ∧ Hid (Below w2.heap.size w2 wr)) (fun _ kv _ => i - (intOf kv).toNat)
        case atStart => exact ⟨0, true, rfl, Nat.zero_le _, rfl, (fun _ p hp => by simp at hp), HBR⟩
        case round =>
          obtain ⟨k, f, rfl, hk, rfl, hf, hbk⟩ := hrel
          obtain ⟨wk, rfl⟩ : ∃ wk : World, wk = wr := ⟨_, rfl⟩
          have HBK := Lib.hid (HTR.out _ _ HB2.out hbk.out)
          by_cases hki : k < i
          · obtain ⟨p, hp⟩ : ∃ p, l[k]? = some p := ⟨l[k]'(by omega), List.getElem?_eq_getElem (by omega)⟩
            obtain ⟨b', off', eb, _, e0, _, _, _, _⟩ := obj_at HO.out HBK.out HB.out hp
            cases eb
            obtain ⟨b', off', eb, _, f0, _, _, _, _⟩ := obj_at HO.out HBK.out HB.out HOI.out
            cases eb
            have hk0 : (0 : Int) ≤ (k : Int) := by omega
            have hk1 : (k : Int) < (len0 : Int) := by omega
            have HBZ := Lib.hid (fun n => bel_drewN hbk.out n)
            cases f with
            | false =>
              clear hp hbk c0 c4 hf
              go_wp2_with fail
              go_quiet (fail)
              go_wp2
              go_roundw
              case rel => first | exact ⟨k + 1, false, by go_num, by omega, rfl, Lib.hid (fun h => by cases h), HBZ.out _⟩ | ((repeat apply Exists.intro); exact ⟨⟨k + 1, false, by go_num, by omega, rfl, Lib.hid (fun h => by cases h), HBZ.out _⟩, rfl⟩)
              case measure => simp [intOf]; omega
            | true =>
              by_cases he : p.h = o.h
              · have hne : (p.h != o.h) = false := by rw [bne_eq_false_iff_eq]; exact he
                clear hp hbk c0 c4 hf he
                go_wp2_with fail
                go_quiet (fail)
                go_wp2
                go_roundw
                case rel => first | exact ⟨k + 1, false, by go_num, by omega, rfl, Lib.hid (fun h => by cases h), HBZ.out _⟩ | ((repeat apply Exists.intro); exact ⟨⟨k + 1, false, by go_num, by omega, rfl, Lib.hid (fun h => by cases h), HBZ.out _⟩, rfl⟩)
                case measure => simp [intOf]; omega
              · have hne : (p.h != o.h) = true := by rw [bne_iff_ne]; exact he
                have HF2 : Hid (∀ p ∈ l.take (k + 1), p.h ≠ o.h) := (show ∀ p ∈ l.take (k + 1), p.h ≠ o.h from fun p2 hp2 => by
                  rw [List.take_add_one, hp, List.mem_append] at hp2
                  rcases hp2 with hp2 | hp2
                  · exact hf.out rfl p2 hp2
                  · simp at hp2; rw [hp2]; exact he)
                clear hp hbk c0 c4 hf he
                go_wp2_with fail
                go_quiet (fail)
                go_wp2
                go_roundw
                case rel => first | exact ⟨k + 1, true, by go_num, by omega, rfl, Lib.hid (fun _ => HF2.out), HBZ.out _⟩ | ((repeat apply Exists.intro); exact ⟨⟨k + 1, true, by go_num, by omega, rfl, Lib.hid (fun _ => HF2.out), HBZ.out _⟩, rfl⟩)
                case measure => simp [intOf]; omega
          · obtain rfl : k = i := by omega
            obtain ⟨b', off', eb, _, e0, _, _, _, e4⟩ := obj_at HO.out HBK.out HB.out HOI.out
            cases eb
            have hsome : (firstO l o.h).isSome = true := firstO_isSome.2 ⟨o, List.mem_of_getElem? HOI.out, rfl⟩
            have HNRk := Lib.hid (fun W (hb : Below w2.heap.size w2 W) => HNR.out.below hb)
            have HNRT := Lib.hid (fun W (hb : Below B w W) => HR.out.below (by rw [← HB.out]; exact hb))
            obtain ⟨rb, hrb⟩ : ∃ rb, decide (o.h ∈ roots) = rb := ⟨_, rfl⟩
            have HA1 := Lib.hid (has_to24 hrb wk (HNRT.out wk HBK.out))
            have HA2 : Hid (rb = true → Calls Try.prog 43 #[.slice ar S.length cr, .int .i64 o.h] wk fun e w' => e = .returned (.bool true) ∧ wk = w') := (show rb = true → _ from fun hb => has_to24 (by
              rw [decide_eq_true_iff]
              rw [hb, decide_eq_true_iff] at hrb
              exact (HSM.out.2 _).2 (.root hrb hsome)) wk (HNRk.out wk hbk.out))
            have HFF := Lib.hid hf.out
            have HBKK := Lib.hid hbk.out
            have hnr := HO.out.refs o (List.mem_of_getElem? HOI.out)
            have HNO := Lib.hid hnr
            have hos := hnr.size
            obtain ⟨sb, hsb⟩ : ∃ sb, decide (o.h ∈ S) = sb := ⟨_, rfl⟩
            have HSB2 := Lib.hid (fun W (hb : Below w2.heap.size w2 W) => has_to24 hsb W (HNRk.out W hb))
            have HYS : Hid (f = true → sb = true → ∀ q, q < o.rl → (∃ p ∈ l, p.h = hg o.refs q) → hg o.refs q ∈ S) := (show f = true → sb = true → ∀ q, q < o.rl → (∃ p ∈ l, p.h = hg o.refs q) → hg o.refs q ∈ S from fun h1 h2 q hq hp => by
              rw [h2, decide_eq_true_iff] at hsb
              exact (HSM.out.2 _).2 (.step ((HSM.out.2 _).1 hsb) (firstO_at HOI.out rfl (HFF.out h1)) (List.mem_of_getElem? (hg_some (by omega))) (firstO_isSome.2 hp)))
            clear hf hbk c0 c4 hki hrb hsome hnr hsb hk
            cases rb
            all_goals
              go_wp2_with fail
              refine HA1.out.mono ?_
              rintro e wz ⟨rfl, rfl⟩
              first
                | (go_wp2_with fail
                   refine (HA2.out trivial).mono ?_
                   rintro e wz ⟨rfl, rfl⟩
                   go_wp2_with fail)
                | (go_wp2_with fail)
            all_goals
              clear HA1 HA2 e0 e4
              go_loopw [10] (fun qv wr => ∃ (q : Nat), qv = .int .i64 (q : Nat) ∧ q ≤ o.rl ∧ Hid (Below w2.heap.size w2 wr)) (fun qv _ => o.rl - (intOf qv).toNat)
              case atStart => exact ⟨0, rfl, Nat.zero_le _, HBKK⟩
              case round =>
                obtain ⟨q, rfl, hq, hbq⟩ := hrel
                obtain ⟨wq, rfl⟩ : ∃ wq : World, wq = wr := ⟨_, rfl⟩
                have HBQ := Lib.hid (HTR.out _ _ HB2.out hbq.out)
                have HBQ2 := Lib.hid hbq.out
                obtain ⟨b', off', eb, _, e0, _, _, _, e4⟩ := obj_at HO.out HBQ.out HB.out HOI.out
                cases eb
                have hq0 : (0 : Int) ≤ (q : Int) := by omega
                by_cases hql : q < o.rl
                · have hq1' : (q : Int) < (o.rl : Int) := by omega
                  cases f with
                  | false =>
                    clear hbq
                    go_wp2
                    go_roundw
                    case rel => first | exact ⟨k + 1, by go_num, by omega, HBQ2⟩ | ((repeat apply Exists.intro); exact ⟨⟨k + 1, by go_num, by omega, HBQ2⟩, rfl⟩)
                    case measure => simp [intOf]; omega
                  | true =>
                    have HHS := Lib.hid (HSB2.out wq hbq.out)
                    cases sb with
                    | false =>
                      clear hbq
                      go_wp2_with fail
                      refine HHS.out.mono ?_
                      rintro e wz ⟨rfl, rfl⟩
                      go_wp2
                      go_roundw
                      case rel => first | exact ⟨k + 1, by go_num, by omega, HBQ2⟩ | ((repeat apply Exists.intro); exact ⟨⟨k + 1, by go_num, by omega, HBQ2⟩, rfl⟩)
                      case measure => simp [intOf]; omega
                    | true =>
                      have HY := Lib.hid (HYS.out rfl rfl q hql)
                      obtain ⟨y, hy⟩ : ∃ y, hg o.refs q = y := ⟨_, rfl⟩
                      rw [hy] at HY
                      have HYC : Hid (∀ W, Below B w W → ∃ b2 off2, o.ra = some ⟨b2, off2, none⟩ ∧ W.cell? ⟨b2, off2 + q, none⟩ = some (.int .i64 y)) := (show ∀ W, Below B w W → ∃ b2 off2, o.ra = some ⟨b2, off2, none⟩ ∧ W.cell? ⟨b2, off2 + q, none⟩ = some (.int .i64 y) from fun W hb => by
                        obtain ⟨b2, off2, ea, hbl2, e5⟩ := HNO.out.at hql
                        rw [hy] at e5
                        rw [HB.out] at hb
                        exact ⟨b2, off2, ea, (hb.cell (p := ⟨b2, off2 + q, none⟩) hbl2).trans e5⟩)
                      clear hbq hy
                      go_wp2_with fail
                      refine HHS.out.mono ?_
                      rintro e wz ⟨rfl, rfl⟩
                      clear e0 e4
                      go_wp2_with fail
                      go_loopw [11, 12] (fun tv jv wr => ∃ (j : Nat) (t : Bool), jv = .int .i64 (j : Nat) ∧ j ≤ len0 ∧ tv = .bool t ∧ Hid (t = true → ∃ p ∈ l, p.h = y) ∧ Hid (Below w2.heap.size w2 wr)) (fun _ jv _ => len0 - (intOf jv).toNat)
                      case atStart => exact ⟨0, false, rfl, Nat.zero_le _, rfl, (fun h => by cases h), HBQ2⟩
                      case round =>
                        obtain ⟨j, t, rfl, hj, rfl, ht, hbj⟩ := hrel
                        obtain ⟨wj, rfl⟩ : ∃ wj : World, wj = wr := ⟨_, rfl⟩
                        have HBJ := Lib.hid (HTR.out _ _ HB2.out hbj.out)
                        have HBZ := Lib.hid (fun n => bel_drewN hbj.out n)
                        obtain ⟨b2, off2, ea, e5⟩ := HYC.out wj HBJ.out
                        obtain ⟨b', off', eb, _, e0, _, _, _, e4⟩ := obj_at HO.out HBJ.out HB.out HOI.out
                        cases eb
                        rw [ea] at e4
                        by_cases hjl : j < len0
                        · obtain ⟨p, hp⟩ : ∃ p, l[j]? = some p := ⟨l[j]'(by omega), List.getElem?_eq_getElem (by omega)⟩
                          obtain ⟨b', off', eb, _, f0, _, _, _, _⟩ := obj_at HO.out HBJ.out HB.out hp
                          cases eb
                          have hj0 : (0 : Int) ≤ (j : Int) := by omega
                          have hj1 : (j : Int) < (len0 : Int) := by omega
                          cases t with
                          | true =>
                            have HT := Lib.hid (ht.out rfl)
                            clear hp hbj ht ea
                            go_wp2_with fail
                            go_quiet (fail)
                            go_wp2
                            go_roundw
                            case rel => first | exact ⟨j + 1, true, by go_num, by omega, rfl, Lib.hid (fun _ => HT.out), HBZ.out _⟩ | ((repeat apply Exists.intro); exact ⟨⟨j + 1, true, by go_num, by omega, rfl, Lib.hid (fun _ => HT.out), HBZ.out _⟩, rfl⟩)
                            case measure => simp [intOf]; omega
                          | false =>
                            by_cases he : p.h = y
                            · have hbe : (p.h == y) = true := by rw [beq_iff_eq]; exact he
                              have HT : Hid (∃ p ∈ l, p.h = y) := (show ∃ p ∈ l, p.h = y from ⟨p, List.mem_of_getElem? hp, he⟩)
                              clear hp hbj ht he ea
                              go_wp2_with fail
                              go_quiet (fail)
                              go_wp2
                              go_roundw
                              case rel => first | exact ⟨j + 1, true, by go_num, by omega, rfl, Lib.hid (fun _ => HT.out), HBZ.out _⟩ | ((repeat apply Exists.intro); exact ⟨⟨j + 1, true, by go_num, by omega, rfl, Lib.hid (fun _ => HT.out), HBZ.out _⟩, rfl⟩)
                              case measure => simp [intOf]; omega
                            · have hbe : (p.h == y) = false := by rw [beq_eq_false_iff_ne]; exact he
                              clear hp hbj ht he ea
                              go_wp2_with fail
                              go_quiet (fail)
                              go_wp2
                              go_roundw
                              case rel => first | exact ⟨j + 1, false, by go_num, by omega, rfl, Lib.hid (fun h => by cases h), HBZ.out _⟩ | ((repeat apply Exists.intro); exact ⟨⟨j + 1, false, by go_num, by omega, rfl, Lib.hid (fun h => by cases h), HBZ.out _⟩, rfl⟩)
                              case measure => simp [intOf]; omega
                        · obtain rfl : j = len0 := by omega
                          have HBJ2 := Lib.hid hbj.out
                          cases t with
                          | false =>
                            clear hbj ht hjl ea
                            go_wp2
                            go_roundw
                            case rel => first | exact ⟨q + 1, by go_num, by omega, HBJ2⟩ | ((repeat apply Exists.intro); exact ⟨⟨q + 1, by go_num, by omega, HBJ2⟩, rfl⟩)
                            case measure => simp [intOf]; omega
                          | true =>
                            have HHY := Lib.hid (has_to24 (b := true) (l := S) (x := y) (by rw [decide_eq_true_iff]; exact HY.out (ht.out rfl)) wj (HNRk.out wj hbj.out))
                            clear hbj ht hjl ea
                            go_wp2_with fail
                            refine HHY.out.mono ?_
                            rintro e wz ⟨rfl, rfl⟩
                            go_wp2
                            go_roundw
                            case rel => first | exact ⟨q + 1, by go_num, by omega, HBJ2⟩ | ((repeat apply Exists.intro); exact ⟨⟨q + 1, by go_num, by omega, HBJ2⟩, rfl⟩)
                            case measure => simp [intOf]; omega
                · obtain ⟨qq, hqq⟩ : ∃ qq, qq = q := ⟨_, rfl⟩
                  have hqe : q = o.rl := by omega
                  have hqi : decide ((q : Int) < (o.rl : Int)) = false := by rw [decide_eq_false_iff_not]; omega
                  clear hbq hqq
                  go_wp2
                  go_roundw
                  case rel => first | exact ⟨k + 1, by go_num, by omega, HBQ2⟩ | ((repeat apply Exists.intro); exact ⟨⟨k + 1, by go_num, by omega, HBQ2⟩, rfl⟩)
                  case measure => simp [intOf]; omega
    · obtain rfl : i = len0 := by omega
      have HBO := Lib.hid (HTR.out _ _ HB2.out hbr.out)
      have HC2 := Lib.hid (C2.out wo ar cr HBO.out (HNR.out.below hbr.out))
      have HRO := Lib.hid (HRW.out.keeps (Keeps.of_below hbr.out (Nat.le_refl _) []) fun _ _ => List.not_mem_nil)
      clear hlt hbr
      go_wp2_with fail
      refine HC2.out.mono ?_
      rintro e w5 ⟨v5, rfl, hr5, _, hb5⟩
      have HB5 := Lib.hid (HTR.out _ _ HBO.out hb5)
      have HSI := Lib.hid (sameInts_r S v5 _ w5 hr5 (HRO.out.keeps (Keeps.of_below hb5 (Nat.le_refl _) []) fun _ _ => List.not_mem_nil))
      clear hr5 hb5
      go_wp2_with fail
      refine HSI.out.mono ?_
      rintro e w6 ⟨rfl, k6, rfl⟩
      go_wp2
      go_ret
      exact ⟨rfl, by rw [← HB.out]; exact bel_drewN HB5.out k6⟩
theorem auditReaches.walkB (a0 : Option Addr) (len0 cap0 : Nat) (a1 : Option Addr) (len1 cap1 : Nat) (l : List ObjV) (roots : List Int) (w : World) (h : ObjsAt w a0 len0 cap0 l) (hr : NumsAt w a1 len1 cap1 roots) (hbk : refsN l + 6 * len0 + len1 ≤ 1048576) :
    Calls Try.prog 9 #[.slice a0 len0 cap0, .slice a1 len1 cap1] w fun e w' => e = .returned (.bool true) ∧ Below w.heap.size w w' := by
  by_cases hd : len0 ≤ 40 ∧ len1 ≤ 40
  · exact auditReaches.into a0 len0 cap0 a1 len1 cap1 l roots w h hr hd.1 hd.2 hbk
  · exact auditReaches.out a0 len0 cap0 a1 len1 cap1 w (by have := h.le; have := h.max; omega) (by have := hr.ints.le; have := hr.ints.max; omega) (by omega)
end Go.Proofs.Ytogifanooleppaa
