/-
  Turns in their order, plain: a strict order by what is told and by place; a list in order is the only one of its members; halves that are merged.
-/
import Derived.Test.YtdpbedkppomffaaDoorBase
namespace Go.Proofs.YtdpbedkppomffaaDoor
set_option linter.unusedVariables false
set_option linter.unusedSimpArgs false

/-- a moment of a year. -/
structure Mom where
  mo : Int
  k : Int
  a : Int
  n : Int
  t : Int
  c : Int
/-- a rule. -/
structure Rul where
  nm : ByteArray
  fr : Int
  to : Int
  at' : Mom
  sv : Int
  lt : ByteArray
/-- a rule in a year: what is told, its place, and the instant. -/
structure Trn where
  r : Rul
  no : Int
  tg : Int
  ins : Int
def tLt (a b : Trn) : Prop := a.no < b.no ∨ (a.no = b.no ∧ a.tg < b.tg)
instance (a b : Trn) : Decidable (tLt a b) := by unfold tLt; exact inferInstance
theorem tLt_trans {a b c : Trn} (h : tLt a b) (g : tLt b c) : tLt a c := by unfold tLt at *; omega
theorem tLt_asymm {a b : Trn} (h : tLt a b) (g : tLt b a) : False := by unfold tLt at *; omega
theorem tLt_irrefl {a : Trn} (h : tLt a a) : False := by unfold tLt at *; omega
theorem tLt_tri {a b : Trn} (h : a.tg ≠ b.tg) : tLt a b ∨ tLt b a := by unfold tLt; omega
/-- in order. -/
def Sd (l : List Trn) : Prop := l.Pairwise tLt
/-- places that rise. -/
def Tg (l : List Trn) : Prop := l.Pairwise fun a b => a.tg < b.tg
/-- places that are different. -/
def Td (l : List Trn) : Prop := l.Pairwise fun a b => a.tg ≠ b.tg
theorem Tg.td {l : List Trn} (h : Tg l) : Td l := h.imp fun h => by omega
theorem Td.perm {l m : List Trn} (h : Td l) (p : l.Perm m) : Td m := (p.pairwise_iff (fun h => Ne.symm h)).1 h
def so (l : List Trn) : List Trn := l.mergeSort fun a b => !decide (tLt b a)
theorem so_perm (l : List Trn) : (so l).Perm l := List.mergeSort_perm _ _
theorem so_len (l : List Trn) : (so l).length = l.length := (so_perm l).length_eq
theorem so_le (l : List Trn) : (so l).Pairwise fun a b => ¬ tLt b a := by
  have h := List.pairwise_mergeSort (le := fun a b => !decide (tLt b a)) (fun a b c h1 h2 => by
    simp only [Bool.not_eq_true', decide_eq_false_iff_not] at *
    unfold tLt at *
    omega) (fun a b => by
    simp only [Bool.or_eq_true, Bool.not_eq_true', decide_eq_false_iff_not]
    unfold tLt
    omega) l
  exact h.imp fun h => by simpa using h
theorem sd_unique : ∀ {l m : List Trn}, l.Perm m → l.Pairwise (fun a b => ¬ tLt b a) → Sd m → l = m
  | [], m, p, _, _ => p.nil_eq
  | x :: l, [], p, _, _ => by simpa using p.length_eq
  | x :: l, y :: m, p, h, g => by
    have hx : x ∈ y :: m := p.subset (by simp)
    have hy : y ∈ x :: l := p.symm.subset (by simp)
    have e : x = y := by
      rcases List.mem_cons.1 hx with e | hx
      · exact e
      · rcases List.mem_cons.1 hy with e | hy
        · exact e.symm
        · exact absurd ((List.pairwise_cons.1 g).1 x hx) ((List.pairwise_cons.1 h).1 y hy)
    subst e
    rw [sd_unique (p.cons_inv) (List.pairwise_cons.1 h).2 (List.pairwise_cons.1 g).2]
theorem so_eq {l m : List Trn} (p : l.Perm m) (h : Sd m) : so l = m := sd_unique ((so_perm l).trans p) (so_le l) h
theorem so_sd {l : List Trn} (h : Td l) : Sd (so l) := by
  have h1 := h.perm (so_perm l).symm
  have h2 := so_le l
  refine (h1.and h2).imp ?_
  rintro a b ⟨x, y⟩
  exact (tLt_tri x).resolve_right y
theorem so_self {l : List Trn} (h : Sd l) : so l = l := so_eq (List.Perm.refl _) h
theorem so_congr {l m : List Trn} (p : l.Perm m) (h : Td l) : so l = so m := so_eq (p.trans (so_perm m).symm) (so_sd (h.perm p))
/-- all of one list are ahead of all of another one, by their places. -/
def Ah (u v : List Trn) : Prop := ∀ x ∈ u, ∀ y ∈ v, x.tg < y.tg
/-- all of one list are ahead of all of another one. -/
def Lo (u v : List Trn) : Prop := ∀ x ∈ u, ∀ y ∈ v, tLt x y
theorem sd_app {u v : List Trn} : Sd (u ++ v) ↔ Sd u ∧ Sd v ∧ Lo u v := List.pairwise_append
theorem lt_key {x y : Trn} (h : x.tg < y.tg) : tLt y x ↔ y.no < x.no := by unfold tLt; omega
theorem nlt_key {x y : Trn} (h : x.tg < y.tg) : tLt x y ↔ ¬ y.no < x.no := by unfold tLt; omega
/-- a part of a list, put in order. -/
def seg (l : List Trn) (a b : Nat) : List Trn := l.take a ++ (so ((l.take b).drop a) ++ l.drop b)
theorem seg_len {l : List Trn} {a b : Nat} (h : a ≤ b) (hb : b ≤ l.length) : (seg l a b).length = l.length := by
  unfold seg
  rw [List.length_append, List.length_append, so_len, List.length_drop, List.length_take, List.length_take, List.length_drop]
  omega
theorem seg_of {p u s m : List Trn} (e : (so u) = m) : seg (p ++ (u ++ s)) p.length (p.length + u.length) = p ++ (m ++ s) := by
  unfold seg
  have h1 : (p ++ (u ++ s)).take (p.length + u.length) = p ++ u := by
    rw [← List.append_assoc, ← List.length_append, List.take_left]
  have h2 : (p ++ (u ++ s)).drop (p.length + u.length) = s := by
    rw [← List.append_assoc, ← List.length_append, List.drop_left]
  rw [h1, h2, List.take_left, List.drop_left, e]
/-- a list, parted at two places. -/
theorem cut3 {α : Type} (l : List α) {a b : Nat} (h : a ≤ b) (hb : b ≤ l.length) : ∃ p u s, l = p ++ (u ++ s) ∧ p.length = a ∧ u.length = b - a ∧ p = l.take a ∧ u = (l.take b).drop a ∧ s = l.drop b := by
  refine ⟨l.take a, (l.take b).drop a, l.drop b, ?_, by rw [List.length_take]; omega, by rw [List.length_drop, List.length_take]; omega, rfl, rfl, rfl⟩
  have h1 : l.take a = (l.take b).take a := by rw [List.take_take]; congr 1; omega
  rw [h1, ← List.append_assoc, List.take_append_drop, List.take_append_drop]
end Go.Proofs.YtdpbedkppomffaaDoor
