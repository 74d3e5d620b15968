/- Plain: a module that may be is read as it was written; no beginning of it is one, nor what goes on behind it. -/
import Derived.Test.YteipnfnbepnpjaaModLawE
namespace Go.Proofs.Yteipnfnbepnpjaa
open Go.RowKit
set_option linter.unusedVariables false
def enc (m : AM) : List Nat := [68, 67, 49] ++ (m.G.toNat :: (m.cs.length :: m.cs.flatMap encC) ++ (m.fs.length :: m.fs.flatMap encF) ++ (m.ks.length :: m.ks.flatMap encK))
def headM (s : RS) : Unit × RS := ((), wrongM (!(decide ((takeM 3 s).1 = [68, 67, 49]))) (takeM 3 s).2)
def partM (s : RS) : AM × RS :=
  let g := oneM s
  let c := manyM constM g.2
  let f := manyM funcM c.2
  let k := manyM classM f.2
  (⟨(g.1 : Nat), c.1, f.1, k.1⟩, k.2)
theorem PG.head : PG headM := PG.bind (g := fun (h : List Nat) s => ((), wrongM (!(decide (h = [68, 67, 49]))) s)) (PG.take 3) fun h => PG.wrong _
theorem PG.part : PG partM :=
  PG.bind (g := fun (g : Nat) s => ((⟨(g : Nat), (manyM constM s).1, (manyM funcM (manyM constM s).2).1, (manyM classM (manyM funcM (manyM constM s).2).2).1⟩ : AM), (manyM classM (manyM funcM (manyM constM s).2).2).2)) PG.one fun g =>
  PG.bind (g := fun (c : List ConT) s => ((⟨(g : Nat), c, (manyM funcM s).1, (manyM classM (manyM funcM s).2).1⟩ : AM), (manyM classM (manyM funcM s).2).2)) (PG.many PG.const) fun c =>
  PG.bind (g := fun (f : List FunT) s => ((⟨(g : Nat), c, f, (manyM classM s).1⟩ : AM), (manyM classM s).2)) (PG.many PG.func) fun f =>
  PG.bind (g := fun (k : List ClsT) s => ((⟨(g : Nat), c, f, k⟩ : AM), s)) (PG.many PG.class) fun k => PG.pure _
def allM (s : RS) : AM × RS := partM (headM s).2
theorem PG.all : PG allM := PG.bind (g := fun (_ : Unit) s => partM s) PG.head fun _ => PG.part
def endM (r : AM × RS) : AM × Nat :=
  let s := wrongM (decide (0 < r.2.1.length)) r.2
  let e := if s.2 = 0 then r.1.rightE else s.2
  if e = 0 then (r.1, 0) else (AM.none, e)
theorem bodyM_part (s : RS) : bodyM s = ((partM s).1, wrongM (decide (0 < (partM s).2.1.length)) (partM s).2) := rfl
theorem headS_head (bs : List Nat) : headS bs = (headM (bs, 0)).2 := rfl
theorem readM_all (bs : List Nat) : readM bs = endM (allM (bs, 0)) := by
  unfold readM allM endM
  rw [headS_head]
  rw [bodyM_part]
/-- what a module that may be has -/
structure AMok (m : AM) : Prop where
  g : 0 ≤ m.G
  c : ∀ c ∈ m.cs, (c.1 = true → c.2.1 = 0) ∧ (c.1 = false → c.2.2.size = 0 ∧ -9223372036854775808 ≤ c.2.1 ∧ c.2.1 < 9223372036854775808)
  f : ∀ f ∈ m.fs, 0 ≤ f.1 ∧ 0 ≤ f.2.1
  k : ∀ k ∈ m.ks, 0 ≤ k.1 ∧ -1 ≤ k.2
theorem manyM_enc {α : Type} (f : RS → α × RS) (en : α → List Nat) (l : List α) (t : List Nat) (h : ∀ x ∈ l, ∀ t, f (en x ++ t, 0) = (x, (t, 0))) : manyM f (l.length :: l.flatMap en ++ t, 0) = (l, (t, 0)) := by
  unfold manyM
  rw [List.cons_append, one_cons]
  exact many_enc f en l [] t h
theorem all_enc (m : AM) (ok : AMok m) (t : List Nat) : allM (enc m ++ t, 0) = (m, (t, 0)) := by
  have hh : (headM (enc m ++ t, 0)).2 = ((m.G.toNat :: ((m.cs.length :: m.cs.flatMap encC) ++ ((m.fs.length :: m.fs.flatMap encF) ++ ((m.ks.length :: m.ks.flatMap encK) ++ t)))), 0) := by
    unfold headM enc
    rw [List.append_assoc, take_app [68, 67, 49] _ 3 rfl]
    have hw : ∀ s : RS, wrongM false s = s := fun s => by unfold wrongM; rw [if_neg (by simp)]
    have hd : (!(decide (([68, 67, 49] : List Nat) = [68, 67, 49]))) = false := by decide
    simp [List.append_assoc]
    exact hw _
  unfold allM
  rw [hh]
  unfold partM
  simp only [one_cons]
  rw [manyM_enc constM encC m.cs _ (fun x hx t => const_enc x t (ok.c x hx).1 (ok.c x hx).2)]
  simp only
  rw [manyM_enc funcM encF m.fs _ (fun x hx t => func_enc x t (ok.f x hx).1 (ok.f x hx).2)]
  simp only
  rw [manyM_enc classM encK m.ks _ (fun x hx t => class_enc x t (ok.k x hx).1 (ok.k x hx).2)]
  have e : ((m.G.toNat : Nat) : Int) = m.G := by have := ok.g; omega
  rw [e]
theorem read_enc (m : AM) (ok : AMok m) (hr : m.rightE = 0) : readM (enc m) = (m, 0) := by
  have h := all_enc m ok []
  rw [List.append_nil] at h
  rw [readM_all, h]
  unfold endM
  have e : wrongM (decide (0 < ([] : List Nat).length)) ([], 0) = ([], 0) := rfl
  simp only [e, if_true, hr]
theorem read_more (m : AM) (ok : AMok m) : readM (enc m ++ [0]) = (AM.none, 8) := by
  rw [readM_all, all_enc m ok [0]]
  unfold endM
  have e : wrongM (decide (0 < ([0] : List Nat).length)) ([0], 0) = ([0], 8) := rfl
  simp only [e]
  rfl
theorem read_short (m : AM) (ok : AMok m) (n : Nat) (hn : n < (enc m).length) : readM ((enc m).take n) = (AM.none, 7) := by
  have h := all_enc m ok []
  rw [List.append_nil] at h
  obtain ⟨c, h1, _, h3⟩ := PG.all.good _ _ _ h
  rw [List.append_nil] at h1
  have h7 := h3 ((enc m).take n) ((enc m).drop n) (by rw [← h1, List.take_append_drop]) (fun e => by have := congrArg List.length e; simp at this; omega)
  rw [readM_all]
  cases hx : allM ((enc m).take n, 0) with
  | mk x s =>
    obtain ⟨l, e⟩ := s
    rw [hx] at h7
    have h7 : e = 7 := h7
    subst h7
    have e7 : wrongM (decide (0 < l.length)) (l, 7) = (l, 7) := by unfold wrongM; rw [if_neg (by rintro ⟨h, _⟩; exact absurd h (by decide : ¬ (7 : Nat) = 0))]
    unfold endM
    simp only [e7]
    rfl
end Go.Proofs.Yteipnfnbepnpjaa
