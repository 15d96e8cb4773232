/-
  A program as bytes: plain; what the writer's memory keeps.
-/
import Derived.Test.YtpnmaopompfalaaCodJ
import Derived.Test.YtpnmaopompfalaaEncB
namespace Go.Proofs.Ytpnmaopompfalaa
set_option linter.unusedVariables false
set_option linter.unusedSimpArgs false
open Go.ChangeShapes Go.WideShapes Go.ChangeAt Go.RowKit

theorem vgo_inl2 {n a lg e : Int} : ∀ {ts : List Int} {st : Vst}, vgo n a lg st ts = .inl e → e = 5 ∨ e = 4
  | [], st, h => by unfold vgo at h; cases h
  | t :: ts, st, h => by
    unfold vgo at h
    split at h
    · cases h; exact .inl rfl
    · split at h
      · cases h; exact .inr rfl
      · exact vgo_inl2 h
theorem scan_inl2 {c : List Ins} {e : Int} : ∀ (k : Nat), scan c k = .inl e → e ≠ 0
  | 0, h => by cases h
  | k + 1, h => by
    unfold scan at h
    split at h
    · exact scan_inl2 k h
    · match hs : scan c k, h with
      | .inl e', h =>
        have h' : Sum.inl e' = (Sum.inl e : Int ⊕ Vst) := h
        obtain rfl := Sum.inl.inj h'
        exact scan_inl2 k hs
      | .inr st, h =>
        have h' : vstep _ _ _ _ = Sum.inl e := h
        unfold vstep at h'
        split at h'
        · cases h'
        · split at h'
          · cases h'; decide
          · rcases vgo_inl2 h' with rfl | rfl <;> decide
theorem ver0 {p : Prg} {a b : Int} (h : verE p = (a, b, 0)) : prgE p = 0 ∧ ∃ st, scan p.code p.code.length = .inr st := by
  unfold verE at h
  split at h
  · rename_i h0
    simp only [Prod.mk.injEq] at h
    exact absurd h.2.2 h0
  · rename_i h0
    refine ⟨by simpa using h0, ?_⟩
    match hs : scan p.code p.code.length, h with
    | .inl e, h =>
      simp only [Prod.mk.injEq] at h
      exact absurd h.2.2 (scan_inl2 _ hs)
    | .inr st, h => exact ⟨st, rfl⟩
def enI (x : Ins) : List Int := x.op :: (if barB x.op = true then [] else zb x.n)
def savI (b : Bool) : Int := if b = true then 1 else 0
def enH (a : Ans) : List Int := zb a.ck.off ++ zb (savI a.ck.sav) ++ zb a.ck.nm.size ++ strL a.ck.nm ++ zb a.offs.length
def enA (a : Ans) : List Int := enH a ++ a.offs.flatMap zb ++ zb a.jump
def prg1 (p : Prg) : List Int := [115, 100, 49] ++ zb p.code.length
def prg2 (p : Prg) : List Int := prg1 p ++ p.code.flatMap enI ++ zb p.pool.length
def prg3 (p : Prg) : List Int := prg2 p ++ p.pool.flatMap zb ++ zb p.answers.length
def prgB (p : Prg) : List Int := prg3 p ++ p.answers.flatMap enA
theorem flat_le {α : Type} {f : α → List Int} {c : Nat} : ∀ (xs : List α), (∀ x ∈ xs, (f x).length ≤ c) → (xs.flatMap f).length ≤ xs.length * c
  | [], _ => by simp
  | x :: xs, h => by
    rw [List.flatMap_cons, List.length_append, List.length_cons, Nat.succ_mul]
    have h1 := h x List.mem_cons_self
    have h2 := flat_le xs (fun y hy => h y (List.mem_cons_of_mem _ hy))
    omega
theorem take_le {α : Type} {f : α → List Int} {c : Nat} (xs : List α) (k : Nat) (h : ∀ x ∈ xs, (f x).length ≤ c) : ((xs.take k).flatMap f).length ≤ xs.length * c := by
  have h1 := flat_le (xs.take k) (fun x hx => h x (List.mem_of_mem_take hx))
  have h2 : (xs.take k).length ≤ xs.length := by rw [List.length_take]; omega
  exact Nat.le_trans h1 (Nat.mul_le_mul_right _ h2)
theorem take_flat {α : Type} {f : α → List Int} (xs : List α) (k : Nat) (h : k < xs.length) : (xs.take (k + 1)).flatMap f = (xs.take k).flatMap f ++ f xs[k] := by
  rw [take_snoc xs k h, List.flatMap_append]; simp
theorem enI_le {x : Ins} (h : I64 x.n) : (enI x).length ≤ 11 := by
  unfold enI
  have := zb_len h
  rw [List.length_cons]
  split
  · simp
  · omega
theorem sav64 (b : Bool) : I64 (savI b) := by cases b; exact i64_zero; exact i64_nat 1 (by decide)
theorem ByAt.alloc {w : World} {P B : Nat} {l : List Int} (h : ByAt w P B l) (o : Obj) : ByAt (w.alloc o) P B l := by
  obtain ⟨v, c, e, fz, h1, h2, h3, h4, h5⟩ := h
  have hP := heap_lt h1
  have hb := (Below.refl w.heap.size w).alloc (Nat.le_refl _) o
  exact ⟨v, c, e, fz, (hb.block P hP).trans h1, h2, (hb.cell (p := ⟨P, 0, none⟩) hP).trans h3, (hb.frozen (p := ⟨P, 0, none⟩) hP).trans h4, h5.alloc _⟩
theorem ByAt.lt {w : World} {P B : Nat} {l : List Int} (h : ByAt w P B l) : P < w.heap.size := by
  obtain ⟨v, c, e, fz, h1, _⟩ := h
  exact heap_lt h1
theorem Kp.cell {P b j : Nat} {w w' : World} (h : Kp P w w') {c : Array Value} {e : TypeId} {fz : Nat × Nat} (hh : w.heap[b]? = some (.cells c e fz)) (he : e ≠ 5) (hb : b ≠ P) : w'.cell? ⟨b, j, none⟩ = w.cell? ⟨b, j, none⟩ :=
  World.cell?_of_block (a := ⟨b, j, none⟩) ((h b c e fz hh he hb).trans hh.symm)
theorem by_new (w : World) (E : TypeId) (hE : E ≠ 5) : By0 ((w.alloc (.cells #[.int .u8 115, .int .u8 100, .int .u8 49] 5 (3, 4))).alloc (.cells #[.slice (some ⟨w.heap.size, 0, none⟩) 3 3] E)) (w.heap.size + 1) w.heap.size [115, 100, 49] := by
  have hs := size_alloc w (.cells #[.int .u8 115, .int .u8 100, .int .u8 49] 5 (3, 4))
  refine ⟨.slice (some ⟨w.heap.size, 0, none⟩) 3 3, #[.slice (some ⟨w.heap.size, 0, none⟩) 3 3], E, (0, 0), ?_, hE, World.cell?_alloc_at _ _ _ 0 hs.symm, World.frozen?_alloc_at _ _ _ 0 hs.symm, ?_⟩
  · rw [← hs]; exact heap_alloc_new _ _
  · have hh : (w.alloc (.cells #[.int .u8 115, .int .u8 100, .int .u8 49] 5 (3, 4))).heap[w.heap.size]? = some (.cells #[.int .u8 115, .int .u8 100, .int .u8 49] 5 (3, 4)) := heap_alloc_new _ _
    have hr : RowW (w.alloc (.cells #[.int .u8 115, .int .u8 100, .int .u8 49] 5 (3, 4))) w.heap.size (.slice (some ⟨w.heap.size, 0, none⟩) 3 3) [115, 100, 49] := by
      refine .inr ⟨w.heap.size, _, _, rfl, Nat.le_refl _, hh, fun j u hj => ?_⟩
      have e : (w.alloc (.cells #[.int .u8 115, .int .u8 100, .int .u8 49] 5 (3, 4))).cell? ⟨w.heap.size, j, none⟩ = #[Value.int .u8 115, .int .u8 100, .int .u8 49][j]? := by
        simp only [World.cell?, hh]
        rfl
      rw [e]
      simpa [encB] using hj
    exact hr.alloc _
theorem heap_new (w : World) (c : Array Value) (E : TypeId) : (w.alloc (.cells c E)).heap[w.heap.size]? = some (.cells c E (0, 0)) := heap_alloc_new _ _
end Go.Proofs.Ytpnmaopompfalaa
