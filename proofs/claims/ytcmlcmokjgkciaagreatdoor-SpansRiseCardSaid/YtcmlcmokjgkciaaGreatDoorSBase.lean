/-
  Plain facts on years, months and days (no program in sight).
  Small lemmas that the walks of this claim share.
  What the document's functions on days and moments answer.
  How arguments that came in read: structs, field by field.
  Slices that read as lists, whatever their elements.
  The plain data of the trees and programs, and how they lie in memory.
  How structs that came in read, cell by cell (written by readgen.py).
  How structs that came in read, cell by cell (written by readgen.py).
  How answers, forests, spans and programs that came in read.
-/
import Derived.WalkKit
import Derived.ProofKit
import Derived.OpenShut
import Derived.Outline
import Derived.LoopTactic
import Derived.BigQuiet
import Derived.Deep.QuietTactic
import Derived.WalkLawsBesides
import Derived.WalkSpells
import Derived.Lib.Hide
import Derived.Deep.Light
import Derived.Deep.LoopGhost
import Derived.ShutString
import Derived.ChangeOld
import Derived.Below
import Derived.Carry
import Derived.Deep.Slices
import Derived.DataReads
import Derived.Test.YtcmlcmokjgkciaaGreatDoorJBase
import Derived.Test.YtcmlcmokjgkciaaGreatDoorRows
namespace Go.Proofs.YtcmlcmokjgkciaaGreatDoor.Civ
set_option linter.unusedVariables false
set_option linter.unusedSimpArgs false

end Go.Proofs.YtcmlcmokjgkciaaGreatDoor.Civ
namespace Go.Proofs.YtcmlcmokjgkciaaGreatDoor
set_option linter.unusedVariables false
set_option linter.unusedSimpArgs false
open Go.ChangeShapes Go.WideShapes Go.ChangeAt Go.RowKit

end Go.Proofs.YtcmlcmokjgkciaaGreatDoor
namespace Go.Proofs.YtcmlcmokjgkciaaGreatDoor
set_option linter.unusedVariables false
set_option linter.unusedSimpArgs false
open Go.ChangeShapes Go.WideShapes Go.ChangeAt Go.RowKit Civ

end Go.Proofs.YtcmlcmokjgkciaaGreatDoor
namespace Go.Proofs.YtcmlcmokjgkciaaGreatDoor
set_option linter.unusedVariables false
set_option linter.unusedSimpArgs false
open Go.ChangeShapes Go.WideShapes Go.ChangeAt Go.RowKit

section
variable {H : Type} {enc : TypeId × Value → H} {P : Program} {w : World} {b : Nat} {sp : Nat → Bool} {held : Bool}
theorem mapM_some {α β : Type} {f : α → Option β} : ∀ {l : List α} {r : List β}, l.mapM f = some r → ∀ a ∈ l, ∃ y, f a = some y
  | [], _, _, a, ha => by simp at ha
  | x :: l, r, h, a, ha => by
    simp only [List.mapM_cons, Option.bind_eq_bind, Option.bind_eq_some_iff, Option.pure_def, Option.some.injEq] at h
    obtain ⟨y, hy, r', hr', rfl⟩ := h
    rcases List.mem_cons.1 ha with rfl | ha
    · exact ⟨y, hy⟩
    · exact mapM_some hr' a ha
theorem trod_fields {fuel : Nat} {t : TypeId} {fs : Array Field} {cs : List Value} {y : DataW H × List MemPlace} (hs : P.underlying t = some (.struct fs)) (h : DataW.trod enc P w b sp held fuel t cs = some y) :
    cs.length = P.cellsOf t ∧ ∀ (j : Nat) f, fs[j]? = some f → ∃ m z, DataW.trod enc P w b sp held m f.type ((cs.drop f.offset).take (P.cellsOf f.type)) = some z := by
  cases fuel with
  | zero => simp [DataW.trod] at h
  | succ fuel =>
    simp only [DataW.trod, hs] at h
    split at h
    · rename_i hl
      obtain ⟨xs, hx, _⟩ := Option.map_eq_some_iff.1 h
      exact ⟨hl, fun j f hf => by obtain ⟨z, hz⟩ := mapM_some hx f (by simpa using Array.mem_of_getElem? hf); exact ⟨fuel, z, hz⟩⟩
    · cases h
end
end Go.Proofs.YtcmlcmokjgkciaaGreatDoor
namespace Go.Proofs.YtcmlcmokjgkciaaGreatDoor
set_option linter.unusedVariables false
set_option linter.unusedSimpArgs false
open Go.ChangeShapes Go.WideShapes Go.ChangeAt Go.RowKit

theorem add_add (b off k j : Nat) : ((⟨b, off, none⟩ : Addr).add k).add j = ⟨b, off + k + j, none⟩ := by
  rw [add_one_, add_one_]
section
variable {H : Type} {enc : TypeId × Value → H} {P : Program} {w : World} {base : Nat} {sp : Nat → Bool} {held : Bool}
theorem slAt_of_trod {α : Type} {t e : TypeId} {sz fuel : Nat} {R : List Value → α → Prop} {cs : List Value} {y : DataW H × List MemPlace} (ht : P.underlying t = some (.slice e)) (hsz : P.cellsOf e = sz) (hpos : 0 < sz)
    (hR : ∀ m cs' z, DataW.trod enc P w base sp held m e cs' = some z → ∃ x, R cs' x) (h : DataW.trod enc P w base sp held fuel t cs = some y) :
    ∃ v xs, cs = [v] ∧ SlAt w sz R v xs := by
  rcases Deep.open_slice ht h with ⟨rfl, _⟩ | ⟨a, len, cap, m, n, D, Pl, rfl, hb, hl, hm, hmm, _, hel⟩
  · exact ⟨_, [], rfl, .inl ⟨none, 0, rfl, rfl⟩⟩
  · by_cases h0 : len = 0
    · subst h0; exact ⟨_, [], rfl, .inl ⟨some a, cap, rfl, rfl⟩⟩
    · have hlm : len ≤ m := by rw [hmm]; split <;> omega
      have hex : ∀ i, i < len → ∃ (x : α) (cs' : List Value), w.cells? base (a.add (i * sz)) sz = some cs' ∧ R cs' x := fun i hi => by
        obtain ⟨cs', h1, h2⟩ := hel i (by omega)
        obtain ⟨x, hx⟩ := hR _ _ _ h2
        rw [hsz] at h1
        exact ⟨x, cs', h1, hx⟩
      obtain ⟨x0, _, _, _⟩ := hex 0 (by omega)
      have hch : ∀ i, ∃ x : α, i < len → ∃ cs' : List Value, w.cells? base (a.add (i * sz)) sz = some cs' ∧ R cs' x := fun i => by
        by_cases hi : i < len
        · obtain ⟨x, hx⟩ := hex i hi; exact ⟨x, fun _ => hx⟩
        · exact ⟨x0, fun h => absurd h hi⟩
      obtain ⟨X, hX⟩ := Classical.axiomOfChoice hch
      obtain ⟨cs0, k0, _⟩ := hX 0 (by omega)
      obtain ⟨hbb, hl0, hc0⟩ := World.cells?_some k0
      obtain ⟨b, off, spot⟩ := a
      have hv0 : ∃ u, w.cell? (((⟨b, off, spot⟩ : Addr).add (0 * sz)).add 0) = some u := by
        rw [hc0 0 hpos]; exact ⟨_, List.getElem?_eq_getElem (by omega)⟩
      obtain ⟨u0, hu0⟩ := hv0
      have hspot : spot = none := by simpa [Addr.add] using World.cell?_spot hu0
      subst hspot
      have hblk : b < w.heap.size := by
        rcases Nat.lt_or_ge b w.heap.size with g | g
        · exact g
        · simp [World.cell?, Addr.add, Array.getElem?_eq_none g] at hu0
      refine ⟨_, (List.range len).map X, rfl, .inr ⟨b, off, cap, by simp, by simp; omega, by simpa using hl, hm, hblk, fun i hi => ?_⟩⟩
      have hi' : i < len := by simpa using hi
      obtain ⟨cs', e1, e2⟩ := hX i hi'
      obtain ⟨_, e3, e4⟩ := World.cells?_some e1
      refine ⟨cs', e3, by simpa using e2, fun j hj => ?_⟩
      have := e4 j hj
      rw [show (((⟨b, off, none⟩ : Addr).add (i * sz)).add j) = ⟨b, off + i * sz + j, none⟩ from add_add b off (i * sz) j] at this
      exact this
end
end Go.Proofs.YtcmlcmokjgkciaaGreatDoor
namespace Go.Proofs.YtcmlcmokjgkciaaGreatDoor
set_option linter.unusedVariables false
set_option linter.unusedSimpArgs false
open Go.ChangeShapes Go.WideShapes Go.ChangeAt Go.RowKit

end Go.Proofs.YtcmlcmokjgkciaaGreatDoor
namespace Go.Proofs.YtcmlcmokjgkciaaGreatDoor
set_option linter.unusedVariables false
set_option linter.unusedSimpArgs false
set_option maxRecDepth 100000
open Go.ChangeShapes Go.WideShapes Go.ChangeAt Go.RowKit

theorem cInt_ : Tryz.prog.cellsOf 3 = 1 := by kernel_rfl
theorem cRaw : Tryz.prog.cellsOf 89 = 4 := by kernel_rfl
theorem rdRaw {H : Type} {enc : TypeId × Value → H} {w : World} {b : Nat} {sp : Nat → Bool} {held : Bool} {fuel : Nat} {cs : List Value} {y : DataW H × List MemPlace} (h : DataW.trod enc Tryz.prog w b sp held fuel 89 cs = some y) :
    ∃ (x_k : Int) (x_a : Int) (x_b : Int) (x_c : Int), cs = [.int .i64 x_k, .int .i64 x_a, .int .i64 x_b, .int .i64 x_c] ∧ (Lit.int .i64 x_k).wf = true ∧ (Lit.int .i64 x_a).wf = true ∧ (Lit.int .i64 x_b).wf = true ∧ (Lit.int .i64 x_c).wf = true := by
  obtain ⟨hl, hf⟩ := trod_fields Tryz.underlying89 h
  rw [cRaw] at hl
  obtain ⟨c0, c1, c2, c3, rfl⟩ : ∃ c0 c1 c2 c3, cs = [c0, c1, c2, c3] := by
    match cs, hl with
    | [c0, c1, c2, c3], _ => exact ⟨c0, c1, c2, c3, rfl⟩
  obtain ⟨m0, z0, h0⟩ := hf 0 _ rfl
  have g0 : DataW.trod enc Tryz.prog w b sp held m0 3 [c0] = some z0 := by simpa [cInt_] using h0
  obtain ⟨x_k, e0, _, w0⟩ := DataW.trod_int Tryz.underlying3 g0
  simp only [List.cons.injEq, and_true] at e0
  subst e0
  obtain ⟨m1, z1, h1⟩ := hf 1 _ rfl
  have g1 : DataW.trod enc Tryz.prog w b sp held m1 3 [c1] = some z1 := by simpa [cInt_] using h1
  obtain ⟨x_a, e1, _, w1⟩ := DataW.trod_int Tryz.underlying3 g1
  simp only [List.cons.injEq, and_true] at e1
  subst e1
  obtain ⟨m2, z2, h2⟩ := hf 2 _ rfl
  have g2 : DataW.trod enc Tryz.prog w b sp held m2 3 [c2] = some z2 := by simpa [cInt_] using h2
  obtain ⟨x_b, e2, _, w2⟩ := DataW.trod_int Tryz.underlying3 g2
  simp only [List.cons.injEq, and_true] at e2
  subst e2
  obtain ⟨m3, z3, h3⟩ := hf 3 _ rfl
  have g3 : DataW.trod enc Tryz.prog w b sp held m3 3 [c3] = some z3 := by simpa [cInt_] using h3
  obtain ⟨x_c, e3, _, w3⟩ := DataW.trod_int Tryz.underlying3 g3
  simp only [List.cons.injEq, and_true] at e3
  subst e3
  exact ⟨x_k, x_a, x_b, x_c, rfl, w0, w1, w2, w3⟩
end Go.Proofs.YtcmlcmokjgkciaaGreatDoor
namespace Go.Proofs.YtcmlcmokjgkciaaGreatDoor
set_option linter.unusedVariables false
set_option linter.unusedSimpArgs false
set_option maxRecDepth 100000
open Go.ChangeShapes Go.WideShapes Go.ChangeAt Go.RowKit

end Go.Proofs.YtcmlcmokjgkciaaGreatDoor
namespace Go.Proofs.YtcmlcmokjgkciaaGreatDoor
set_option linter.unusedVariables false
set_option linter.unusedSimpArgs false
set_option maxRecDepth 100000
open Go.ChangeShapes Go.WideShapes Go.ChangeAt Go.RowKit

section
variable {H : Type} {enc : TypeId × Value → H} {w : World} {b : Nat} {sp : Nat → Bool} {held : Bool} {fuel : Nat} {cs : List Value} {y : DataW H × List MemPlace}
end
section
variable {H : Type} {enc : TypeId × Value → H} {w : World} {r : Reach} {b0 b : Nat} {sp : Nat → Bool} {held : Bool} {v : Value} {d : DataW H} {p : List MemPlace}
end
end Go.Proofs.YtcmlcmokjgkciaaGreatDoor
