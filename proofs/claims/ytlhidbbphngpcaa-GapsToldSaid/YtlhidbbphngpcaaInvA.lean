/-
  What the clock of spans shows, turned round: the plain part of tree.Inverse.
-/
import Derived.Test.YtlhidbbphngpcaaFwdH
import Derived.Test.YtlhidbbphngpcaaOptP
namespace Go.Proofs.Ytlhidbbphngpcaa
set_option linter.unusedVariables false
set_option linter.unusedSimpArgs false
open Go.ChangeShapes Go.WideShapes Go.ChangeAt Go.RowKit

structure Seg where
  lo : Int
  hi : Int
  off : Int
  fr : Int
def nextF (xs : List Spn) (i : Nat) : Int := match xs[i + 1]? with | some s => s.fr | none => 4102444800
def segF (xs : List Spn) (i : Nat) (x : Spn) : Seg := ⟨x.fr + x.ck.off, nextF xs i + x.ck.off, x.ck.off, x.fr⟩
def segs (xs : List Spn) : List Seg := xs.mapIdx (segF xs)
theorem segs_len (xs : List Spn) : (segs xs).length = xs.length := by simp [segs]
theorem segs_at (xs : List Spn) (i : Nat) (h : i < xs.length) : (segs xs)[i]'(by rw [segs_len]; exact h) = segF xs i xs[i] := by simp [segs]
theorem segs_take (xs : List Spn) (i : Nat) (h : i < xs.length) : (segs xs).take (i + 1) = (segs xs).take i ++ [segF xs i xs[i]] := by
  rw [take_snoc _ i (by rw [segs_len]; exact h), segs_at xs i h]
def atL (ss : List Seg) : List Int := ss.flatMap fun s => [s.lo, s.hi]
theorem atL_len (ss : List Seg) : (atL ss).length = 2 * ss.length := by
  induction ss with
  | nil => rfl
  | cons s ss ih => simp only [atL, List.flatMap_cons, List.length_append] at ih ⊢; simp only [List.length_cons, List.length_nil]; omega
def inS (t : Int) (s : Seg) : Bool := decide (s.lo ≤ t) && decide (t < s.hi)
def offsAt (ss : List Seg) (t : Int) : List Int := (ss.filter (inS t)).map Seg.off
def jumpAt (ss : List Seg) (t : Int) : Int := match ss.find? (fun s => decide (t < s.lo)) with | some s => s.fr | none => 4102444800
def tellA (ss : List Seg) (t : Int) : Ans := ⟨⟨0, false, ⟨#[]⟩⟩, offsAt ss t, if (offsAt ss t).length = 0 then jumpAt ss t else 0⟩
def atS (xs : List Spn) : List Int := srtC (atL (segs xs))
def at0 (xs : List Spn) : Int := (atS xs).headD 0
/-- the numbers that are told, each with what is asked there. -/
def invP (xs : List Spn) : List Pc := ⟨0, 0⟩ :: (atS xs).mapIdx fun i x => ⟨x, (i : Int) + 1⟩
def invAn (xs : List Spn) : List Ans := tellA (segs xs) (at0 xs - 1) :: (atS xs).map (tellA (segs xs))
def bigA (a : Ans) : Bool := decide (6 < (a.offs.length : Int))
def invF (xs : List Spn) : Frs := ⟨chN (invP xs), invAn xs⟩
def invE (xs : List Spn) : Bool := (invAn xs).any bigA || decide (2000 < ((invAn xs).length : Int))
theorem invP_len (xs : List Spn) : (invP xs).length = (atS xs).length + 1 := by simp [invP]
theorem invAn_len (xs : List Spn) : (invAn xs).length = (atS xs).length + 1 := by simp [invAn]
theorem tell_congr {ss : List Seg} {u t : Int} (h : ∀ s ∈ ss, (s.lo ≤ u ↔ s.lo ≤ t) ∧ (s.hi ≤ u ↔ s.hi ≤ t)) : tellA ss u = tellA ss t := by
  have e1 : ss.filter (inS u) = ss.filter (inS t) := List.filter_congr fun s hs => by
    obtain ⟨a, b⟩ := h s hs
    unfold inS
    rw [Bool.eq_iff_iff]
    simp
    omega
  have e2 : ss.find? (fun s => decide (u < s.lo)) = ss.find? (fun s => decide (t < s.lo)) := by
    clear e1
    induction ss with
    | nil => rfl
    | cons s ss ih =>
      have hs := (h s (by simp)).1
      have e : decide (u < s.lo) = decide (t < s.lo) := by rw [Bool.eq_iff_iff]; simp; omega
      simp only [List.find?_cons, e, ih fun x hx => h x (by simp [hx])]
  unfold tellA offsAt jumpAt
  rw [e1, e2]
theorem split_at {A : List Int} (hA : A.Pairwise (· < ·)) (t : Int) : ∀ n, n ≤ A.length → ∃ i, i ≤ n ∧ (∀ j (hj : j < A.length), j < i → A[j] ≤ t) ∧ ∀ j (hj : j < A.length), i ≤ j → j < n → t < A[j]
  | 0, _ => ⟨0, Nat.le_refl _, fun j _ h => by omega, fun j _ _ h => by omega⟩
  | n + 1, hn => by
    obtain ⟨i, h1, h2, h3⟩ := split_at hA t n (by omega)
    by_cases h : A[n] ≤ t
    · refine ⟨n + 1, Nat.le_refl _, fun j hj hlt => ?_, fun j _ a b => by omega⟩
      by_cases e : j = n
      · subst e; exact h
      · have := List.pairwise_iff_getElem.1 hA j n hj (by omega) (by omega)
        omega
    · refine ⟨i, by omega, h2, fun j hj a b => ?_⟩
      by_cases e : j = n
      · subst e; omega
      · exact h3 j hj a (by omega)
theorem mem_atL {ss : List Seg} {s : Seg} (h : s ∈ ss) : s.lo ∈ atL ss ∧ s.hi ∈ atL ss :=
  ⟨List.mem_flatMap.2 ⟨s, h, by simp⟩, List.mem_flatMap.2 ⟨s, h, by simp⟩⟩
theorem atS_pos {xs : List Spn} (h : 0 < xs.length) : 0 < (atS xs).length := by
  have h1 := mem_atL (ss := segs xs) (List.getElem_mem (show 0 < (segs xs).length by rw [segs_len]; exact h))
  have := (srtC_mem (atL (segs xs)) _).2 h1.1
  unfold atS
  exact List.length_pos_of_mem this
theorem at0_eq {xs : List Spn} (h : 0 < (atS xs).length) : at0 xs = (atS xs)[0] := by
  unfold at0
  generalize atS xs = l at h
  cases l with
  | nil => simp at h
  | cons a l => rfl
/-- what the tree tells for t is what is told at t. -/
theorem inv_lf {xs : List Spn} (h0 : 0 < xs.length) (t : Int) : ∃ i, ∃ hi : i < (invAn xs).length, Lf (invF xs).nodes t ((invF xs).nodes.length - 1) i ∧ (invAn xs)[i] = tellA (segs xs) t := by
  have hp := atS_pos h0
  have hA : (atS xs).Pairwise (· < ·) := srtC_rise _
  have hm : ∀ s ∈ segs xs, s.lo ∈ atS xs ∧ s.hi ∈ atS xs := fun s hs => ⟨(srtC_mem _ _).2 (mem_atL hs).1, (srtC_mem _ _).2 (mem_atL hs).2⟩
  obtain ⟨i, h1, h2, h3⟩ := split_at hA t _ (Nat.le_refl _)
  have hi : i < (invP xs).length := by rw [invP_len]; omega
  have hl := chain_lf t (invP xs) i hi (fun j hj hij => by
    rw [invP_len] at hj
    match j, hj, hij with
    | j + 1, hj, hij =>
      simp only [invP, List.getElem_cons_succ, List.getElem_mapIdx]
      exact h3 j (by omega) (by omega) (by omega)) (fun j hj a b => by
    rw [invP_len] at hj
    match j, hj, a, b with
    | j + 1, hj, a, b =>
      simp only [invP, List.getElem_cons_succ, List.getElem_mapIdx]
      exact h2 j (by omega) (by omega))
  have he : (invP xs)[i].an = i := by
    match i, hi with
    | 0, _ => rfl
    | i + 1, _ => simp [invP, List.getElem_mapIdx]
  rw [he] at hl
  refine ⟨i, by rw [invAn_len]; rw [invP_len] at hi; exact hi, hl, ?_⟩
  match i, h1, h2, h3 with
  | 0, h1, h2, h3 =>
    show tellA (segs xs) (at0 xs - 1) = _
    refine tell_congr fun s hs => ?_
    obtain ⟨a, b⟩ := hm s hs
    have key : ∀ v ∈ atS xs, at0 xs ≤ v ∧ t < v := fun v hv => by
      obtain ⟨j, hj, rfl⟩ := List.mem_iff_getElem.1 hv
      refine ⟨?_, h3 j hj (Nat.zero_le _) hj⟩
      rw [at0_eq hp]
      by_cases e : j = 0
      · subst e; omega
      · have := List.pairwise_iff_getElem.1 hA 0 j hp hj (by omega); omega
    have := key _ a
    have := key _ b
    omega
  | i + 1, h1, h2, h3 =>
    simp only [invAn, List.getElem_cons_succ, List.getElem_map]
    refine tell_congr fun s hs => ?_
    obtain ⟨a, b⟩ := hm s hs
    have key : ∀ v ∈ atS xs, (v ≤ (atS xs)[i] ↔ v ≤ t) := fun v hv => by
      obtain ⟨j, hj, rfl⟩ := List.mem_iff_getElem.1 hv
      have hle := h2 i (by omega) (by omega)
      by_cases e : j ≤ i
      · have : (atS xs)[j] ≤ (atS xs)[i] := by
          by_cases e' : j = i
          · subst e'; omega
          · have := List.pairwise_iff_getElem.1 hA j i hj (by omega) (by omega); omega
        omega
      · have h4 := h3 j hj (by omega) hj
        have h5 := List.pairwise_iff_getElem.1 hA i j (by omega) hj (by omega)
        omega
    exact ⟨key _ a, key _ b⟩
theorem max_lo : ∀ (l : List Seg), 0 < l.length → ∃ s ∈ l, ∀ x ∈ l, x.lo ≤ s.lo
  | [s], _ => ⟨s, by simp, fun x hx => by rw [List.mem_singleton.1 hx]; exact Int.le_refl _⟩
  | s :: y :: r, _ => by
    obtain ⟨m, hm, hx⟩ := max_lo (y :: r) (by simp)
    by_cases h : m.lo ≤ s.lo
    · refine ⟨s, by simp, fun x hx' => ?_⟩
      rcases List.mem_cons.1 hx' with rfl | hx'
      · exact Int.le_refl _
      · have := hx x hx'; omega
    · refine ⟨m, List.mem_cons_of_mem _ hm, fun x hx' => ?_⟩
      rcases List.mem_cons.1 hx' with rfl | hx'
      · omega
      · exact hx x hx'
theorem filter_len_mono {α : Type} {p q : α → Bool} : ∀ {l : List α}, (∀ x ∈ l, p x = true → q x = true) → (l.filter p).length ≤ (l.filter q).length
  | [], _ => by simp
  | x :: l, h => by
    have ih := filter_len_mono (l := l) fun y hy => h y (List.mem_cons_of_mem _ hy)
    have hx := h x (by simp)
    simp only [List.filter_cons]
    cases hp : p x
    · cases hq : q x <;> simp <;> omega
    · rw [hx hp]; simp; omega
/-- where many offsets are, many are where one of these begins. -/
theorem wide_at {ss : List Seg} {t : Int} (h : 6 < (offsAt ss t).length) : ∃ s ∈ ss, 6 < (offsAt ss s.lo).length := by
  unfold offsAt at h ⊢
  rw [List.length_map] at h
  obtain ⟨s, hs, hx⟩ := max_lo (ss.filter (inS t)) (by omega)
  obtain ⟨hm, hi⟩ := List.mem_filter.1 hs
  refine ⟨s, hm, ?_⟩
  rw [List.length_map]
  refine Nat.lt_of_lt_of_le h (filter_len_mono fun x hx' hp => ?_)
  have h1 := hx x (List.mem_filter.2 ⟨hx', hp⟩)
  unfold inS at hp hi ⊢
  simp at hp hi ⊢
  omega
end Go.Proofs.Ytlhidbbphngpcaa
