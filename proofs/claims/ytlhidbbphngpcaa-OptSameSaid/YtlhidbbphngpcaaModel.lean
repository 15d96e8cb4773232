/-
  The plain data of the trees and programs, and how they lie in memory.
-/
import Derived.Test.YtlhidbbphngpcaaSl
namespace Go.Proofs.Ytlhidbbphngpcaa
set_option linter.unusedVariables false
set_option linter.unusedSimpArgs false
open Go.ChangeShapes Go.WideShapes Go.ChangeAt Go.RowKit

def I64 (x : Int) : Prop := (Lit.int .i64 x).wf = true
structure Clk where
  off : Int
  sav : Bool
  nm : ByteArray
structure Spn where
  fr : Int
  ck : Clk
structure Nod where
  lf : Bool
  an : Int
  bd : Int
  ls : Int
  mr : Int
structure Ans where
  ck : Clk
  offs : List Int
  jump : Int
structure Frs where
  nodes : List Nod
  answers : List Ans
structure Ins where
  op : Int
  n : Int
structure Prg where
  code : List Ins
  pool : List Int
  answers : List Ans
def RInt (cs : List Value) (x : Int) : Prop := cs = [.int .i64 x] ∧ I64 x
def RSpn (cs : List Value) (x : Spn) : Prop := cs = [.int .i64 x.fr, .int .i64 x.ck.off, .bool x.ck.sav, .string x.ck.nm] ∧ I64 x.fr ∧ I64 x.ck.off ∧ x.ck.nm.size ≤ maxLen
def RNod (cs : List Value) (x : Nod) : Prop := cs = [.bool x.lf, .int .i64 x.an, .int .i64 x.bd, .int .i64 x.ls, .int .i64 x.mr] ∧ I64 x.an ∧ I64 x.bd ∧ I64 x.ls ∧ I64 x.mr
def RIns (cs : List Value) (x : Ins) : Prop := cs = [.int .i64 x.op, .int .i64 x.n] ∧ I64 x.op ∧ I64 x.n
/-- an answer's cells in the world w. -/
def RAns (w : World) (cs : List Value) (x : Ans) : Prop :=
  ∃ v, cs = [.int .i64 x.ck.off, .bool x.ck.sav, .string x.ck.nm, v, .int .i64 x.jump] ∧ SlAt w 1 RInt v x.offs ∧ I64 x.ck.off ∧ I64 x.jump ∧ x.ck.nm.size ≤ maxLen
theorem RAns.mono {w w' : World} (hb : Below w.heap.size w w') (cs : List Value) (x : Ans) (h : RAns w cs x) : RAns w' cs x := by
  obtain ⟨v, h1, h2, h3⟩ := h
  exact ⟨v, h1, h2.mono hb fun _ _ h => h, h3⟩
/-- a forest's two slices. -/
def FrsAt (w : World) (vn va : Value) (f : Frs) : Prop := SlAt w 5 RNod vn f.nodes ∧ SlAt w 5 (RAns w) va f.answers
def PrgAt (w : World) (vc vp va : Value) (p : Prg) : Prop := SlAt w 2 RIns vc p.code ∧ SlAt w 1 RInt vp p.pool ∧ SlAt w 5 (RAns w) va p.answers
theorem FrsAt.mono {w w' : World} {vn va : Value} {f : Frs} (h : FrsAt w vn va f) (hb : Below w.heap.size w w') : FrsAt w' vn va f :=
  ⟨h.1.mono hb fun _ _ h => h, h.2.mono hb (RAns.mono hb)⟩
theorem PrgAt.mono {w w' : World} {vc vp va : Value} {p : Prg} (h : PrgAt w vc vp va p) (hb : Below w.heap.size w w') : PrgAt w' vc vp va p :=
  ⟨h.1.mono hb fun _ _ h => h, h.2.1.mono hb fun _ _ h => h, h.2.2.mono hb (RAns.mono hb)⟩
end Go.Proofs.Ytlhidbbphngpcaa
