/- what reads and writes modules, as plain functions; no program in sight. -/
import Derived.Test.YteipnfnbepnpjaaModTake
namespace Go.Proofs.Yteipnfnbepnpjaa
open Go.RowKit Go.Maps
set_option linter.unusedVariables false

abbrev RS := List Nat × Nat
def oneM (s : RS) : Nat × RS := ((takeM 1 s).1.headD 0, (takeM 1 s).2)
def wrongM (b : Bool) (s : RS) : RS := if s.2 = 0 ∧ b = true then (s.1, 8) else s
/-- a number out of its bytes, the lowest first -/
def leN : List Nat → Nat
  | [] => 0
  | y :: l => y + 256 * leN l
abbrev ConT := Bool × Int × ByteArray
abbrev FunT := Int × Int × List Nat
abbrev ClsT := Int × Int
def constM (s : RS) : ConT × RS :=
  let k := oneM s
  let s2 := wrongM (decide (1 < k.1)) k.2
  if k.1 = 1 then let n := oneM s2; let t := takeM n.1 n.2; ((true, 0, strOf t.1), t.2)
  else let t := takeM 8 s2; ((false, wrap64 (leN t.1 : Nat), ByteArray.empty), t.2)
def funcM (s : RS) : FunT × RS :=
  let p := oneM s
  let q := oneM p.2
  let x := oneM q.2
  let y := oneM x.2
  let t := takeM (x.1 + 256 * y.1) y.2
  (((p.1 : Nat), (q.1 : Nat), t.1), t.2)
def classM (s : RS) : ClsT × RS :=
  let p := oneM s
  let q := oneM p.2
  (((p.1 : Nat), (q.1 : Int) - 1), q.2)
def manyA {α : Type} (f : RS → α × RS) : Nat → RS → List α → List α × RS
  | 0, s, acc => (acc, s)
  | n + 1, s, acc => if s.2 = 0 then manyA f n (f s).2 (acc ++ [(f s).1]) else (acc, s)
def manyM {α : Type} (f : RS → α × RS) (s : RS) : List α × RS := manyA f (oneM s).1 (oneM s).2 []
structure AM where
  G : Int
  cs : List ConT
  fs : List FunT
  ks : List ClsT
def AM.none : AM := ⟨0, [], [], []⟩
def AM.x (m : AM) (c1 c2 c3 : Nat) (ca : Nat → Option Addr) (cc : Nat → Nat) : ModX :=
  { G := m.G, n1 := m.cs.length, c1 := c1, n2 := m.fs.length, c2 := c2, n3 := m.ks.length, c3 := c3,
    b := fun i => (m.cs[i]?.getD (false, 0, ByteArray.empty)).1, z := fun i => (m.cs[i]?.getD (false, 0, ByteArray.empty)).2.1, s := fun i => (m.cs[i]?.getD (false, 0, ByteArray.empty)).2.2,
    p := fun i => (m.fs[i]?.getD (0, 0, [])).1, lo := fun i => (m.fs[i]?.getD (0, 0, [])).2.1, ca := ca, cl := fun i => (m.fs[i]?.getD (0, 0, [])).2.2.length, cc := cc,
    fi := fun i => (m.ks[i]?.getD (0, 0)).1, en := fun i => (m.ks[i]?.getD (0, 0)).2 }
def AM.rightE (m : AM) : Nat := (m.x 0 0 0 (fun _ => Option.none) (fun _ => 0)).rightE
theorem AM.x_right (m : AM) (c1 c2 c3 : Nat) (ca : Nat → Option Addr) (cc : Nat → Nat) : (m.x c1 c2 c3 ca cc).rightE = m.rightE := rfl
/-- what Read answers -/
def headS (bs : List Nat) : RS := let h := takeM 3 (bs, 0); wrongM (!(decide (h.1 = [68, 67, 49]))) h.2
def bodyM (s : RS) : AM × RS :=
  let g := oneM s
  let c := manyM constM g.2
  let f := manyM funcM c.2
  let k := manyM classM f.2
  (⟨(g.1 : Nat), c.1, f.1, k.1⟩, wrongM (decide (0 < k.2.1.length)) k.2)
def readM (bs : List Nat) : AM × Nat :=
  let r := bodyM (headS bs)
  let e := if r.2.2 = 0 then r.1.rightE else r.2.2
  if e = 0 then (r.1, 0) else (AM.none, e)
/-- a module in memory -/
structure AMS (w : World) (m : AM) (v : Value) : Prop where
  at_ : ∃ a1 c1 a2 c2 a3 c3 ca cc, v = modXV (m.x c1 c2 c3 ca cc) a1 a2 a3 ∧ ModS w (m.x c1 c2 c3 ca cc) a1 a2 a3 ∧ ∀ i f, m.fs[i]? = some f → HoldsB w (ca i) f.2.2.length (cc i) f.2.2
theorem AMS.below {w w' : World} {m : AM} {v : Value} (h : AMS w m v) (hb : Below w.heap.size w w') : AMS w' m v := by
  obtain ⟨a1, c1, a2, c2, a3, c3, ca, cc, e, h1, h2⟩ := h.at_
  exact ⟨⟨a1, c1, a2, c2, a3, c3, ca, cc, e, h1.below hb, fun i f hf => (h2 i f hf).below hb⟩⟩
theorem right_am (m : AM) (v : Value) (w : World) (h : AMS w m v) :
    Calls Try.prog 30 #[v] w fun e w' => e = .returned (.int .i64 (m.rightE : Nat)) ∧ Below w.heap.size w w' := by
  obtain ⟨a1, c1, a2, c2, a3, c3, ca, cc, rfl, h1, _⟩ := h.at_
  exact right_any w h1
end Go.Proofs.Yteipnfnbepnpjaa
