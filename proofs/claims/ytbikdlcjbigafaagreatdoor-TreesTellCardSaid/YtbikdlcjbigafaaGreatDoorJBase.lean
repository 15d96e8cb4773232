/-
  Plain facts on years, months and days (no program in sight). Small lemmas that the walks of this claim share. What the document's functions on days and moments answer. How arguments that came in read: structs, field by field. Slices that read as lists, whatever their elements. The plain data of the trees and programs, and how they lie in memory. How structs that came in read, cell by cell (written by readgen.py). How structs that came in read, cell by cell (written by readgen.py). How answers, forests, spans and programs that came in read.
-/
import Derived.WalkKit
import Derived.ProofKit
import Derived.OpenShut
import Derived.Outline
import Derived.LoopTactic
import Derived.BigQuiet
import Derived.Deep.QuietTactic
import Derived.WalkLawsBesides
import Derived.WalkSpells
import Derived.Lib.Hide
import Derived.Deep.Light
import Derived.Deep.LoopGhost
import Derived.ShutString
import Derived.ChangeOld
import Derived.Below
import Derived.Carry
import Derived.Deep.Slices
import Derived.DataReads
import Derived.Test.YtbikdlcjbigafaaGreatDoorRows
namespace Go.Proofs.YtbikdlcjbigafaaGreatDoor.Civ
set_option linter.unusedVariables false
set_option linter.unusedSimpArgs false

/-- has a year a day more? -/
def leapB (y : Int) : Bool := decide (y % 4 = 0 ∧ (y % 100 ≠ 0 ∨ y % 400 = 0))
def lp (y : Int) : Int := if leapB y = true then 1 else 0

theorem tm0 (y k : Int) : y.tmod k = 0 ↔ y % k = 0 := by
  rw [← Int.dvd_iff_tmod_eq_zero, ← Int.dvd_iff_emod_eq_zero]
theorem leap_tmod (y : Int) : leapB y = (y.tmod 4 == 0 && (y.tmod 100 != 0 || y.tmod 400 == 0)) := by
  unfold leapB
  rw [Bool.eq_iff_iff]
  simp [tm0]
/-- days ahead of month i + 1 in a year that is no leap year. -/
def mon : Nat → Int
  | 0 => 0 | 1 => 31 | 2 => 59 | 3 => 90 | 4 => 120 | 5 => 151 | 6 => 181 | 7 => 212 | 8 => 243 | 9 => 273 | 10 => 304 | 11 => 334 | 12 => 365 | _ => 0
theorem mon_bd (i : Nat) : 0 ≤ mon i ∧ mon i ≤ 365 := by
  unfold mon; split <;> omega
/-- days of a month. -/
def dim (y m : Int) : Int := mon m.toNat - mon (m.toNat - 1) + if m = 2 ∧ leapB y = true then 1 else 0
/-- days ahead of a month. -/
def ah (y m : Int) : Int := mon (m.toNat - 1) + if 2 < m ∧ leapB y = true then 1 else 0
/-- the first day of a year. -/
def fst (y : Int) : Int := 365 * (y - 1) + (y - 1) / 4 - (y - 1) / 100 + (y - 1) / 400 - 719162
theorem lp_01 (y : Int) : 0 ≤ lp y ∧ lp y ≤ 1 := by unfold lp; split <;> omega
theorem m12 {m : Int} (h1 : 1 ≤ m) (h2 : m ≤ 12) : m = 1 ∨ m = 2 ∨ m = 3 ∨ m = 4 ∨ m = 5 ∨ m = 6 ∨ m = 7 ∨ m = 8 ∨ m = 9 ∨ m = 10 ∨ m = 11 ∨ m = 12 := by omega
theorem dim_eq (y m : Int) (h1 : 1 ≤ m) (h2 : m ≤ 12) : dim y m = if m = 2 then 28 + lp y else if m = 4 ∨ m = 6 ∨ m = 9 ∨ m = 11 then 30 else 31 := by
  unfold dim lp
  rcases m12 h1 h2 with rfl | rfl | rfl | rfl | rfl | rfl | rfl | rfl | rfl | rfl | rfl | rfl <;> cases h : leapB y <;> simp [mon, h]
theorem dim_bd (y m : Int) (h1 : 1 ≤ m) (h2 : m ≤ 12) : 28 ≤ dim y m ∧ dim y m ≤ 31 := by
  rw [dim_eq y m h1 h2]; have := lp_01 y; split <;> (try split) <;> omega
theorem ah_bd (y m : Int) (h1 : 1 ≤ m) (h2 : m ≤ 13) : 0 ≤ ah y m ∧ ah y m ≤ 366 := by
  unfold ah; have := mon_bd (m.toNat - 1); split <;> omega
theorem fst_bd (y : Int) (h1 : 1 ≤ y) (h2 : y ≤ 10000) : -719162 ≤ fst y ∧ fst y ≤ 3652059 := by
  unfold fst; omega
/-- the weekday of a day's number. -/
def wd (n : Int) : Int := (n + 4) % 7
theorem tmod7 (x : Int) : -7 < x.tmod 7 ∧ x.tmod 7 < 7 := by
  constructor
  · have := Int.lt_tmod_of_pos x (b := 7) (by omega); omega
  · have := Int.tmod_lt_of_pos x (b := 7) (by omega); omega
theorem tmod_emod (x : Int) : (x.tmod 7 - x) % 7 = 0 := by
  have := Int.tmod_add_mul_tdiv x 7; omega
theorem wd_a (n : Int) : ((n + 4).tmod 7 + 7) % 7 = wd n := by
  unfold wd; have := tmod_emod (n + 4); omega
theorem wd_bd (n : Int) : 0 ≤ wd n ∧ wd n ≤ 6 := by unfold wd; omega
/-- what is wrong with a day of a month. -/
def chk (k a n : Int) : Int :=
  if k < 1 ∨ 4 < k then 3 else if a < 0 ∨ 6 < a ∨ n < 0 ∨ 31 < n ∨ ¬ (k = 2 ↔ n = 0) ∨ (k = 1 ∧ a ≠ 0) then 2 else 0
/-- what is wrong with a moment. -/
def chkM (mo k a n t c : Int) : Int :=
  if chk k a n ≠ 0 then chk k a n else if c < 0 ∨ 2 < c then 3 else if mo < 1 ∨ 12 < mo ∨ t < 0 ∨ 604800 < t then 2 else 0
theorem fst_mono (a b : Int) (h : a ≤ b) : fst a ≤ fst b := by unfold fst; omega
theorem fst_1899 : fst 1899 = -25932 := by decide
theorem fst_1900 : fst 1900 = -25567 := by decide
theorem fst_2100 : fst 2100 = 47482 := by decide
theorem chk_zero {k a n : Int} (h : chk k a n = 0) : 1 ≤ k ∧ k ≤ 4 ∧ 0 ≤ a ∧ a ≤ 6 ∧ 0 ≤ n ∧ n ≤ 31 ∧ (k = 2 ↔ n = 0) ∧ (k = 1 → a = 0) := by
  unfold chk at h; split at h <;> (try split at h) <;> omega
/-- what is wrong with a day of a month of a year. -/
def fndE (y m k a n : Int) : Int :=
  if chk k a n ≠ 0 then chk k a n else if ¬ (1899 ≤ y ∧ y ≤ 2100 ∧ 1 ≤ m ∧ m ≤ 12) then 2 else if dim y m < n then 2 else 0
/-- the number of a day of a month of a year. -/
def fnd (y m k a n : Int) : Int :=
  if k = 1 then fst y + ah y m - 1 + n
  else if k = 3 then fst y + ah y m - 1 + n + (a - wd (fst y + ah y m - 1 + n) + 7) % 7
  else if k = 4 then fst y + ah y m - 1 + n - (wd (fst y + ah y m - 1 + n) - a + 7) % 7
  else fst y + ah y m - 1 + dim y m - (wd (fst y + ah y m - 1 + dim y m) - a + 7) % 7
theorem fndE_zero {y m k a n : Int} (h : fndE y m k a n = 0) : chk k a n = 0 ∧ 1899 ≤ y ∧ y ≤ 2100 ∧ 1 ≤ m ∧ m ≤ 12 ∧ n ≤ dim y m := by
  unfold fndE at h; split at h
  · omega
  · split at h
    · omega
    · split at h <;> omega
theorem chkM_zero {mo k a n t c : Int} (h : chkM mo k a n t c = 0) : chk k a n = 0 ∧ 0 ≤ c ∧ c ≤ 2 ∧ 1 ≤ mo ∧ mo ≤ 12 ∧ 0 ≤ t ∧ t ≤ 604800 := by
  unfold chkM at h; split at h
  · omega
  · split at h
    · omega
    · split at h <;> omega
/-- what is wrong with a moment of a year, an offset and what is saved. -/
def insE (y mo k a n t c o s : Int) : Int :=
  if chkM mo k a n t c ≠ 0 then chkM mo k a n t c else if ¬ (-86400 ≤ o ∧ o ≤ 86400 ∧ -86400 ≤ s ∧ s ≤ 86400) then 2 else fndE y mo k a n
/-- the instant of a moment of a year. -/
def ins (y mo k a n t c o s : Int) : Int :=
  if c = 0 then fnd y mo k a n * 86400 + t - (o + s) else if c = 1 then fnd y mo k a n * 86400 + t - o else fnd y mo k a n * 86400 + t
theorem insE_zero {y mo k a n t c o s : Int} (h : insE y mo k a n t c o s = 0) : chkM mo k a n t c = 0 ∧ -86400 ≤ o ∧ o ≤ 86400 ∧ -86400 ≤ s ∧ s ≤ 86400 ∧ fndE y mo k a n = 0 := by
  unfold insE at h; split at h
  · omega
  · split at h
    · omega
    · rename_i h1 h2; exact ⟨by omega, by omega, by omega, by omega, by omega, h⟩
theorem fnd_bd (y m k a n : Int) (h : fndE y m k a n = 0) : -26000 ≤ fnd y m k a n ∧ fnd y m k a n ≤ 48000 := by
  obtain ⟨hk, h1, h2, h3, h4, h5⟩ := fndE_zero h
  obtain ⟨g1, g2, g3, g4, g5, g6, g7, g8⟩ := chk_zero hk
  have hd := dim_bd y m h3 h4
  have ha := ah_bd y m h3 (by omega)
  have b1 := fst_mono 1899 y h1
  have b2 := fst_mono y 2100 h2
  rw [fst_1899] at b1; rw [fst_2100] at b2
  unfold fnd
  split
  · omega
  · split
    · omega
    · split <;> omega
end Go.Proofs.YtbikdlcjbigafaaGreatDoor.Civ
namespace Go.Proofs.YtbikdlcjbigafaaGreatDoor
set_option linter.unusedVariables false
set_option linter.unusedSimpArgs false
open Go.ChangeShapes Go.WideShapes Go.ChangeAt Go.RowKit

theorem ret_bool {a b : Bool} (h : a = b) : Ending.returned (.bool a) = .returned (.bool b) := by rw [h]
theorem ret_int {k : IntKind} {a b : Int} (h : a = b) : Ending.returned (.int k a) = .returned (.int k b) := by rw [h]
theorem ret_i2 {k k' : IntKind} {a b c d : Int} (h : a = b) (h' : c = d) : Ending.returned (.tuple #[.int k a, .int k' c]) = .returned (.tuple #[.int k b, .int k' d]) := by rw [h, h']
theorem below_in {w w1 : World} {o : Obj} (h : Below (w.alloc o).heap.size (w.alloc o) w1) : Below w.heap.size w w1 :=
  ((Below.refl _ _).alloc (Nat.le_refl _) _).trans (h.mono (by simp))
theorem below_two {w w1 w2 : World} {o : Obj} (h : Below (w.alloc o).heap.size (w.alloc o) w1) (g : Below w1.heap.size w1 w2) : Below w.heap.size w w2 :=
  (below_in h).trans (g.mono (by have := h.size; simp at this; omega))
theorem below_draws {B : Nat} {a w : World} (h : Below B a w) (n : Nat) : Below B a (w.drewN n) := ⟨h.os, h.tape, h.output, h.size, h.block⟩
theorem quiet_add_left {P : Program} {f : FuncId} {args : Array Value} {w : World} {a n : Nat} {v : Value}
    (h : Calls P f args (w.drewN (a + n)) fun e w' => e = .returned v ∧ w.drewN (a + n) = w') :
    Calls P f args (w.drewN (a + n)) fun e w'' => e = .returned v ∧ ∃ m, w'' = w.drewN (a + m) :=
  h.mono fun _ _ ⟨he, hm⟩ => ⟨he, n, hm.symm⟩
theorem beq_iff (a b c d : Int) : ((a == b) = (c == d)) ↔ (a = b ↔ c = d) := by
  rw [Bool.eq_iff_iff, beq_iff_eq, beq_iff_eq]
theorem bcell {W w1 : World} (hb : Below W.heap.size W w1) : (∀ b o, b < W.heap.size → w1.cell? ⟨b, o, none⟩ = W.cell? ⟨b, o, none⟩) ∧ (∀ b o, b < W.heap.size → w1.frozen? ⟨b, o, none⟩ = W.frozen? ⟨b, o, none⟩) :=
  ⟨fun b o h => hb.cell (p := ⟨b, o, none⟩) h, fun b o h => hb.frozen (p := ⟨b, o, none⟩) h⟩
end Go.Proofs.YtbikdlcjbigafaaGreatDoor
namespace Go.Proofs.YtbikdlcjbigafaaGreatDoor
set_option linter.unusedVariables false
set_option linter.unusedSimpArgs false
open Go.ChangeShapes Go.WideShapes Go.ChangeAt Go.RowKit Civ

end Go.Proofs.YtbikdlcjbigafaaGreatDoor
namespace Go.Proofs.YtbikdlcjbigafaaGreatDoor
set_option linter.unusedVariables false
set_option linter.unusedSimpArgs false
open Go.ChangeShapes Go.WideShapes Go.ChangeAt Go.RowKit

section
variable {H : Type} {enc : TypeId × Value → H} {P : Program} {w : World} {b : Nat} {sp : Nat → Bool} {held : Bool}
theorem mapM_some {α β : Type} {f : α → Option β} : ∀ {l : List α} {r : List β}, l.mapM f = some r → ∀ a ∈ l, ∃ y, f a = some y
  | [], _, _, a, ha => by simp at ha
  | x :: l, r, h, a, ha => by
    simp only [List.mapM_cons, Option.bind_eq_bind, Option.bind_eq_some_iff, Option.pure_def, Option.some.injEq] at h
    obtain ⟨y, hy, r', hr', rfl⟩ := h
    rcases List.mem_cons.1 ha with rfl | ha
    · exact ⟨y, hy⟩
    · exact mapM_some hr' a ha
theorem trod_fields {fuel : Nat} {t : TypeId} {fs : Array Field} {cs : List Value} {y : DataW H × List MemPlace} (hs : P.underlying t = some (.struct fs)) (h : DataW.trod enc P w b sp held fuel t cs = some y) :
    cs.length = P.cellsOf t ∧ ∀ (j : Nat) f, fs[j]? = some f → ∃ m z, DataW.trod enc P w b sp held m f.type ((cs.drop f.offset).take (P.cellsOf f.type)) = some z := by
  cases fuel with
  | zero => simp [DataW.trod] at h
  | succ fuel =>
    simp only [DataW.trod, hs] at h
    split at h
    · rename_i hl
      obtain ⟨xs, hx, _⟩ := Option.map_eq_some_iff.1 h
      exact ⟨hl, fun j f hf => by obtain ⟨z, hz⟩ := mapM_some hx f (by simpa using Array.mem_of_getElem? hf); exact ⟨fuel, z, hz⟩⟩
    · cases h
end
end Go.Proofs.YtbikdlcjbigafaaGreatDoor
namespace Go.Proofs.YtbikdlcjbigafaaGreatDoor
set_option linter.unusedVariables false
set_option linter.unusedSimpArgs false
open Go.ChangeShapes Go.WideShapes Go.ChangeAt Go.RowKit

/-- the slice value v reads as the list xs: element i lies in sz cells that R holds of. -/
def SlAt {α : Type} (w : World) (sz : Nat) (R : List Value → α → Prop) (v : Value) (xs : List α) : Prop :=
  (∃ a cap, v = .slice a 0 cap ∧ xs = []) ∨
  (∃ b off cap, v = .slice (some ⟨b, off, none⟩) xs.length cap ∧ 0 < xs.length ∧ xs.length ≤ cap ∧ cap ≤ maxLen ∧ b < w.heap.size ∧
    ∀ (i : Nat) (h : i < xs.length), ∃ cs : List Value, cs.length = sz ∧ R cs xs[i] ∧ ∀ j, j < sz → w.cell? ⟨b, off + i * sz + j, none⟩ = cs[j]?)
theorem SlAt.mono {α : Type} {w w' : World} {sz : Nat} {R R' : List Value → α → Prop} {v : Value} {xs : List α} (h : SlAt w sz R v xs) (hb : Below w.heap.size w w') (hR : ∀ cs x, R cs x → R' cs x) : SlAt w' sz R' v xs := by
  rcases h with h | ⟨b, off, cap, hv, h0, h1, h2, h3, h4⟩
  · exact .inl h
  · refine .inr ⟨b, off, cap, hv, h0, h1, h2, Nat.lt_of_lt_of_le h3 hb.size, fun i hi => ?_⟩
    obtain ⟨cs, c1, c2, c3⟩ := h4 i hi
    exact ⟨cs, c1, hR _ _ c2, fun j hj => by rw [hb.cell (p := ⟨b, _, none⟩) h3]; exact c3 j hj⟩
theorem add_one_ (b off k : Nat) : (⟨b, off, none⟩ : Addr).add k = ⟨b, off + k, none⟩ := by
  by_cases h : k = 0
  · subst h; simp [Addr.add]
  · simp [Addr.add, h]
theorem add_add (b off k j : Nat) : ((⟨b, off, none⟩ : Addr).add k).add j = ⟨b, off + k + j, none⟩ := by
  rw [add_one_, add_one_]
section
variable {H : Type} {enc : TypeId × Value → H} {P : Program} {w : World} {base : Nat} {sp : Nat → Bool} {held : Bool}
theorem slAt_of_trod {α : Type} {t e : TypeId} {sz fuel : Nat} {R : List Value → α → Prop} {cs : List Value} {y : DataW H × List MemPlace} (ht : P.underlying t = some (.slice e)) (hsz : P.cellsOf e = sz) (hpos : 0 < sz)
    (hR : ∀ m cs' z, DataW.trod enc P w base sp held m e cs' = some z → ∃ x, R cs' x) (h : DataW.trod enc P w base sp held fuel t cs = some y) :
    ∃ v xs, cs = [v] ∧ SlAt w sz R v xs := by
  rcases Deep.open_slice ht h with ⟨rfl, _⟩ | ⟨a, len, cap, m, n, D, Pl, rfl, hb, hl, hm, hmm, _, hel⟩
  · exact ⟨_, [], rfl, .inl ⟨none, 0, rfl, rfl⟩⟩
  · by_cases h0 : len = 0
    · subst h0; exact ⟨_, [], rfl, .inl ⟨some a, cap, rfl, rfl⟩⟩
    · have hlm : len ≤ m := by rw [hmm]; split <;> omega
      have hex : ∀ i, i < len → ∃ (x : α) (cs' : List Value), w.cells? base (a.add (i * sz)) sz = some cs' ∧ R cs' x := fun i hi => by
        obtain ⟨cs', h1, h2⟩ := hel i (by omega)
        obtain ⟨x, hx⟩ := hR _ _ _ h2
        rw [hsz] at h1
        exact ⟨x, cs', h1, hx⟩
      obtain ⟨x0, _, _, _⟩ := hex 0 (by omega)
      have hch : ∀ i, ∃ x : α, i < len → ∃ cs' : List Value, w.cells? base (a.add (i * sz)) sz = some cs' ∧ R cs' x := fun i => by
        by_cases hi : i < len
        · obtain ⟨x, hx⟩ := hex i hi; exact ⟨x, fun _ => hx⟩
        · exact ⟨x0, fun h => absurd h hi⟩
      obtain ⟨X, hX⟩ := Classical.axiomOfChoice hch
      obtain ⟨cs0, k0, _⟩ := hX 0 (by omega)
      obtain ⟨hbb, hl0, hc0⟩ := World.cells?_some k0
      obtain ⟨b, off, spot⟩ := a
      have hv0 : ∃ u, w.cell? (((⟨b, off, spot⟩ : Addr).add (0 * sz)).add 0) = some u := by
        rw [hc0 0 hpos]; exact ⟨_, List.getElem?_eq_getElem (by omega)⟩
      obtain ⟨u0, hu0⟩ := hv0
      have hspot : spot = none := by simpa [Addr.add] using World.cell?_spot hu0
      subst hspot
      have hblk : b < w.heap.size := by
        rcases Nat.lt_or_ge b w.heap.size with g | g
        · exact g
        · simp [World.cell?, Addr.add, Array.getElem?_eq_none g] at hu0
      refine ⟨_, (List.range len).map X, rfl, .inr ⟨b, off, cap, by simp, by simp; omega, by simpa using hl, hm, hblk, fun i hi => ?_⟩⟩
      have hi' : i < len := by simpa using hi
      obtain ⟨cs', e1, e2⟩ := hX i hi'
      obtain ⟨_, e3, e4⟩ := World.cells?_some e1
      refine ⟨cs', e3, by simpa using e2, fun j hj => ?_⟩
      have := e4 j hj
      rw [show (((⟨b, off, none⟩ : Addr).add (i * sz)).add j) = ⟨b, off + i * sz + j, none⟩ from add_add b off (i * sz) j] at this
      exact this
end
end Go.Proofs.YtbikdlcjbigafaaGreatDoor
namespace Go.Proofs.YtbikdlcjbigafaaGreatDoor
set_option linter.unusedVariables false
set_option linter.unusedSimpArgs false
open Go.ChangeShapes Go.WideShapes Go.ChangeAt Go.RowKit

def I64 (x : Int) : Prop := (Lit.int .i64 x).wf = true
structure Clk where
  off : Int
  sav : Bool
  nm : ByteArray
structure Spn where
  fr : Int
  ck : Clk
structure Nod where
  lf : Bool
  an : Int
  bd : Int
  ls : Int
  mr : Int
structure Ans where
  ck : Clk
  offs : List Int
  jump : Int
structure Frs where
  nodes : List Nod
  answers : List Ans
def RInt (cs : List Value) (x : Int) : Prop := cs = [.int .i64 x] ∧ I64 x
def RSpn (cs : List Value) (x : Spn) : Prop := cs = [.int .i64 x.fr, .int .i64 x.ck.off, .bool x.ck.sav, .string x.ck.nm] ∧ I64 x.fr ∧ I64 x.ck.off ∧ x.ck.nm.size ≤ maxLen
def RNod (cs : List Value) (x : Nod) : Prop := cs = [.bool x.lf, .int .i64 x.an, .int .i64 x.bd, .int .i64 x.ls, .int .i64 x.mr] ∧ I64 x.an ∧ I64 x.bd ∧ I64 x.ls ∧ I64 x.mr
/-- an answer's cells in the world w. -/
def RAns (w : World) (cs : List Value) (x : Ans) : Prop :=
  ∃ v, cs = [.int .i64 x.ck.off, .bool x.ck.sav, .string x.ck.nm, v, .int .i64 x.jump] ∧ SlAt w 1 RInt v x.offs ∧ I64 x.ck.off ∧ I64 x.jump ∧ x.ck.nm.size ≤ maxLen
theorem RAns.mono {w w' : World} (hb : Below w.heap.size w w') (cs : List Value) (x : Ans) (h : RAns w cs x) : RAns w' cs x := by
  obtain ⟨v, h1, h2, h3⟩ := h
  exact ⟨v, h1, h2.mono hb fun _ _ h => h, h3⟩
/-- a forest's two slices. -/
def FrsAt (w : World) (vn va : Value) (f : Frs) : Prop := SlAt w 5 RNod vn f.nodes ∧ SlAt w 5 (RAns w) va f.answers
theorem FrsAt.mono {w w' : World} {vn va : Value} {f : Frs} (h : FrsAt w vn va f) (hb : Below w.heap.size w w') : FrsAt w' vn va f :=
  ⟨h.1.mono hb fun _ _ h => h, h.2.mono hb (RAns.mono hb)⟩
end Go.Proofs.YtbikdlcjbigafaaGreatDoor
namespace Go.Proofs.YtbikdlcjbigafaaGreatDoor
set_option linter.unusedVariables false
set_option linter.unusedSimpArgs false
set_option maxRecDepth 100000
open Go.ChangeShapes Go.WideShapes Go.ChangeAt Go.RowKit

theorem cInt_ : Tryz.prog.cellsOf 3 = 1 := by kernel_rfl
theorem cRaw : Tryz.prog.cellsOf 98 = 4 := by kernel_rfl
theorem rdRaw {H : Type} {enc : TypeId × Value → H} {w : World} {b : Nat} {sp : Nat → Bool} {held : Bool} {fuel : Nat} {cs : List Value} {y : DataW H × List MemPlace} (h : DataW.trod enc Tryz.prog w b sp held fuel 98 cs = some y) :
    ∃ (x_k : Int) (x_a : Int) (x_b : Int) (x_c : Int), cs = [.int .i64 x_k, .int .i64 x_a, .int .i64 x_b, .int .i64 x_c] ∧ (Lit.int .i64 x_k).wf = true ∧ (Lit.int .i64 x_a).wf = true ∧ (Lit.int .i64 x_b).wf = true ∧ (Lit.int .i64 x_c).wf = true := by
  obtain ⟨hl, hf⟩ := trod_fields Tryz.underlying98 h
  rw [cRaw] at hl
  obtain ⟨c0, c1, c2, c3, rfl⟩ : ∃ c0 c1 c2 c3, cs = [c0, c1, c2, c3] := by
    match cs, hl with
    | [c0, c1, c2, c3], _ => exact ⟨c0, c1, c2, c3, rfl⟩
  obtain ⟨m0, z0, h0⟩ := hf 0 _ rfl
  have g0 : DataW.trod enc Tryz.prog w b sp held m0 3 [c0] = some z0 := by simpa [cInt_] using h0
  obtain ⟨x_k, e0, _, w0⟩ := DataW.trod_int Tryz.underlying3 g0
  simp only [List.cons.injEq, and_true] at e0
  subst e0
  obtain ⟨m1, z1, h1⟩ := hf 1 _ rfl
  have g1 : DataW.trod enc Tryz.prog w b sp held m1 3 [c1] = some z1 := by simpa [cInt_] using h1
  obtain ⟨x_a, e1, _, w1⟩ := DataW.trod_int Tryz.underlying3 g1
  simp only [List.cons.injEq, and_true] at e1
  subst e1
  obtain ⟨m2, z2, h2⟩ := hf 2 _ rfl
  have g2 : DataW.trod enc Tryz.prog w b sp held m2 3 [c2] = some z2 := by simpa [cInt_] using h2
  obtain ⟨x_b, e2, _, w2⟩ := DataW.trod_int Tryz.underlying3 g2
  simp only [List.cons.injEq, and_true] at e2
  subst e2
  obtain ⟨m3, z3, h3⟩ := hf 3 _ rfl
  have g3 : DataW.trod enc Tryz.prog w b sp held m3 3 [c3] = some z3 := by simpa [cInt_] using h3
  obtain ⟨x_c, e3, _, w3⟩ := DataW.trod_int Tryz.underlying3 g3
  simp only [List.cons.injEq, and_true] at e3
  subst e3
  exact ⟨x_k, x_a, x_b, x_c, rfl, w0, w1, w2, w3⟩
end Go.Proofs.YtbikdlcjbigafaaGreatDoor
namespace Go.Proofs.YtbikdlcjbigafaaGreatDoor
set_option linter.unusedVariables false
set_option linter.unusedSimpArgs false
set_option maxRecDepth 100000
open Go.ChangeShapes Go.WideShapes Go.ChangeAt Go.RowKit

end Go.Proofs.YtbikdlcjbigafaaGreatDoor
namespace Go.Proofs.YtbikdlcjbigafaaGreatDoor
set_option linter.unusedVariables false
set_option linter.unusedSimpArgs false
set_option maxRecDepth 100000
open Go.ChangeShapes Go.WideShapes Go.ChangeAt Go.RowKit

section
variable {H : Type} {enc : TypeId × Value → H} {w : World} {b : Nat} {sp : Nat → Bool} {held : Bool} {fuel : Nat} {cs : List Value} {y : DataW H × List MemPlace}
end
section
variable {H : Type} {enc : TypeId × Value → H} {w : World} {r : Reach} {b0 b : Nat} {sp : Nat → Bool} {held : Bool} {v : Value} {d : DataW H} {p : List MemPlace}
end
end Go.Proofs.YtbikdlcjbigafaaGreatDoor
