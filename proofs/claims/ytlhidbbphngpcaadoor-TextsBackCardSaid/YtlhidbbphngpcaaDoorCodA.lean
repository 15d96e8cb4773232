/-
  What is wrong with a program: code.check.
-/
import Derived.Test.YtlhidbbphngpcaaDoorTreeC
import Derived.Test.YtlhidbbphngpcaaDoorTreeT
namespace Go.Proofs.YtlhidbbphngpcaaDoor
set_option linter.unusedVariables false
set_option linter.unusedSimpArgs false
open Go.ChangeShapes Go.WideShapes Go.ChangeAt Go.RowKit

def mostI (p : Prg) (i op : Int) : Int := if op = 2 then p.pool.length - 1 else if op = 6 then p.answers.length - 1 else if op = 1 ∨ op = 3 then 0 else p.code.length - i - 2
def insE1 (p : Prg) (i : Nat) (x : Ins) : Int := if x.op < 1 ∨ 6 < x.op then 3 else if x.n < 0 ∨ mostI p i x.op < x.n then 2 else 0
/-- what is wrong with a program's parts. -/
def prgE (p : Prg) : Int :=
  if p.code.length = 0 then 6 else if 8000 < p.code.length ∨ 2000 < p.pool.length ∨ 2000 < p.answers.length then 1
  else if anssE p.answers ≠ 0 then anssE p.answers else ferr (insE1 p) 0 p.code
theorem insE1_kind (p : Prg) (i : Nat) (x : Ins) :
    (x.op < 1 ∧ insE1 p i x = 3) ∨ (1 ≤ x.op ∧ 6 < x.op ∧ insE1 p i x = 3) ∨
    ((x.op = 1 ∨ x.op = 2 ∨ x.op = 3 ∨ x.op = 4 ∨ x.op = 5 ∨ x.op = 6) ∧ ((x.n < 0 ∧ insE1 p i x = 2) ∨ (0 ≤ x.n ∧ mostI p i x.op < x.n ∧ insE1 p i x = 2) ∨ (0 ≤ x.n ∧ x.n ≤ mostI p i x.op ∧ insE1 p i x = 0))) := by
  by_cases a1 : x.op < 1
  · exact .inl ⟨a1, by unfold insE1; rw [if_pos (.inl a1)]⟩
  · by_cases a2 : 6 < x.op
    · exact .inr (.inl ⟨by omega, a2, by unfold insE1; rw [if_pos (.inr a2)]⟩)
    · refine .inr (.inr ⟨by omega, ?_⟩)
      have a3 : ¬ (x.op < 1 ∨ 6 < x.op) := fun h => h.elim a1 a2
      by_cases b1 : x.n < 0
      · exact .inl ⟨b1, by unfold insE1; rw [if_neg a3, if_pos (.inl b1)]⟩
      · by_cases b2 : mostI p i x.op < x.n
        · exact .inr (.inl ⟨by omega, b2, by unfold insE1; rw [if_neg a3, if_pos (.inr b2)]⟩)
        · exact .inr (.inr ⟨by omega, by omega, by unfold insE1; rw [if_neg a3, if_neg (fun h => h.elim b1 b2)]⟩)
theorem elemIns {w : World} {aa : Option Addr} {n ca : Nat} {xs : List Ins} (h : SlAt w 2 RIns (.slice aa n ca) xs) (k : Nat) (hk : k < xs.length) :
    ∃ b off, aa = some ⟨b, off, none⟩ ∧ b < w.heap.size ∧
      (w.cell? ⟨b, off + k * 2, none⟩ = some (.int .i64 xs[k].op) ∧ w.cell? ⟨b, off + k * 2 + 1, none⟩ = some (.int .i64 xs[k].n)) ∧ I64 xs[k].op ∧ I64 xs[k].n := by
  rcases h with ⟨a, cap, hv, rfl⟩ | ⟨b, off, cap, hv, h0, h1, h2, h3, h4⟩
  · simp at hk
  · obtain ⟨cs, _, ⟨rfl, r1, r2⟩, c3⟩ := h4 k hk
    simp only [Value.slice.injEq] at hv
    exact ⟨b, off, hv.1, h3, ⟨c3 0 (by omega), c3 1 (by omega)⟩, r1, r2⟩
def barB (op : Int) : Bool := op == 1 || op == 3
theorem bare_lit (op : Int) (r : Bool) (w : World) (hr : barB op = r) :
    Calls Tryd.prog 13 #[.int .i64 op] w fun e w' => e = .returned (.bool r) ∧ w = w' := by
  have H := Lib.hid hr.symm
  clear hr
  go_enter Tryd.func13, Tryd.ntmps13
  go_wp2
  all_goals (go_ret; exact ⟨ret_bool (by go_light; rw [H.out]; unfold barB; first | (simp [*]; done) | rfl | (simp [*]; omega)), rfl⟩)
theorem most_at (p : Prg) (i op : Int) : (op = 1 → mostI p i op = 0) ∧ (op = 3 → mostI p i op = 0) ∧ (op = 2 → mostI p i op = p.pool.length - 1) ∧ (op = 6 → mostI p i op = p.answers.length - 1) ∧ (op = 4 → mostI p i op = p.code.length - i - 2) ∧ (op = 5 → mostI p i op = p.code.length - i - 2) := by
  unfold mostI
  refine ⟨?_, ?_, ?_, ?_, ?_, ?_⟩ <;> (rintro rfl; simp)
end Go.Proofs.YtlhidbbphngpcaaDoor
