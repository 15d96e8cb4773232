/-
  tree.Opt, plain: sizes; the whole.
-/
import Derived.Test.YtlhidbbphngpcaaOptD
import Derived.Test.YtlhidbbphngpcaaTreeJ
namespace Go.Proofs.Ytlhidbbphngpcaa
set_option linter.unusedVariables false
set_option linter.unusedSimpArgs false
open Go.ChangeShapes Go.WideShapes Go.ChangeAt Go.RowKit

theorem nodup_sub : ∀ (l m : List Int), l.Nodup → (∀ x ∈ l, x ∈ m) → l.length ≤ m.length
  | [], m, _, _ => Nat.zero_le _
  | a :: l, m, h, hs => by
    have hd := List.nodup_cons.1 h
    have ha := hs a (by simp)
    have ih := nodup_sub l (m.erase a) hd.2 fun x hx => by
      have hne : x ≠ a := fun e => hd.1 (e ▸ hx)
      exact (List.mem_erase_of_ne hne).2 (hs x (by simp [hx]))
    rw [List.length_erase_of_mem ha] at ih
    have : 0 < m.length := List.length_pos_of_mem ha
    simp
    omega
theorem nodup_eq {l m : List Int} (h1 : l.Nodup) (h2 : m.Nodup) (h : ∀ x, x ∈ l ↔ x ∈ m) : l.length = m.length :=
  Nat.le_antisymm (nodup_sub l m h1 fun x hx => (h x).1 hx) (nodup_sub m l h2 fun x hx => (h x).2 hx)
theorem srtC_nodup (l : List Int) : (srtC l).Nodup := (srtC_rise l).imp fun h => by omega
theorem srtC_len_le {l m : List Int} (h : ∀ x ∈ l, x ∈ m) : (srtC l).length ≤ (srtC m).length :=
  nodup_sub _ _ (srtC_nodup l) fun x hx => (srtC_mem m x).2 (h x ((srtC_mem l x).1 hx))
theorem srtC_len_eq {l m : List Int} (h : ∀ x, x ∈ l ↔ x ∈ m) : (srtC l).length = (srtC m).length :=
  Nat.le_antisymm (srtC_len_le fun x hx => (h x).1 hx) (srtC_len_le fun x hx => (h x).2 hx)
theorem srtC_map_le {l : List Int} (g : Int → Int) : (srtC (l.map g)).length ≤ (srtC l).length := by
  have h := nodup_sub (srtC (l.map g)) ((srtC l).map g) (srtC_nodup _) fun x hx => by
    obtain ⟨y, hy, rfl⟩ := List.mem_map.1 ((srtC_mem _ _).1 hx)
    exact List.mem_map.2 ⟨y, (srtC_mem _ _).2 hy, rfl⟩
  rwa [List.length_map] at h
def lvs (ns : List Nod) : List Int := (ns.filter fun n => n.lf).map Nod.an
theorem bnds_app (A B : List Nod) : bnds (A ++ B) = bnds A ++ bnds B := by unfold bnds; rw [List.filter_append, List.map_append]
theorem lvs_app (A B : List Nod) : lvs (A ++ B) = lvs A ++ lvs B := by unfold lvs; rw [List.filter_append, List.map_append]
theorem nod_count (ns : List Nod) : ns.length = (bnds ns).length + (lvs ns).length := by
  induction ns with
  | nil => rfl
  | cons n ns ih =>
    unfold bnds lvs at ih ⊢
    rw [List.length_map, List.length_map] at ih ⊢
    simp only [List.filter_cons]
    cases n.lf <;> simp <;> omega
theorem bnds_nodup (ns : List Nod) : (bnds ns).Nodup ↔ AskU ns := by
  unfold bnds List.Nodup
  rw [List.pairwise_map, List.pairwise_filter, List.pairwise_iff_getElem]
  constructor
  · intro h i j hi hj ei ej hb
    rcases Nat.lt_trichotomy i j with c | c | c
    · exact absurd hb (h i j hi hj c (by rw [ei]; rfl) (by rw [ej]; rfl))
    · exact c
    · exact absurd hb.symm (h j i hj hi c (by rw [ej]; rfl) (by rw [ei]; rfl))
  · intro h i j hi hj hij ei ej hb
    have := h i j hi hj (by simpa using ei) (by simpa using ej) hb
    omega
theorem bnds_chN : ∀ (ps : List Pc), bnds (chN ps) = ((ps.drop 1).map Pc.fr).reverse
  | [] => rfl
  | [p] => rfl
  | p :: q :: r => by
    rw [chN_cons, bnds_app, bnds_chN (q :: r)]
    simp [bnds, leafN, askN]
theorem lvs_chN : ∀ (ps : List Pc), lvs (chN ps) = (ps.map Pc.an).reverse
  | [] => rfl
  | [p] => rfl
  | p :: q :: r => by
    rw [chN_cons, lvs_app, lvs_chN (q :: r)]
    simp [lvs, leafN, askN]
theorem half_drop {α : Type} (l : List α) (k : Nat) (h0 : 0 < k) (h : k < l.length) : l.drop 1 = (l.take k).drop 1 ++ (l[k] :: (l.drop k).drop 1) := by
  rw [List.drop_drop, ← List.drop_eq_getElem_cons h]
  have : l = l.take k ++ l.drop k := (List.take_append_drop k l).symm
  have h1 : l.drop 1 = (l.take k ++ l.drop k).drop 1 := by rw [← this]
  rw [h1, List.drop_append_of_le_length (by rw [List.length_take]; omega)]
theorem bnds_bal : ∀ (F : Nat) (l : List Pc) (b : Nat), 0 < l.length → l.length ≤ F → (bnds (balF F l b)).Perm ((l.drop 1).map Pc.fr)
  | 0, l, b, h0, h => by omega
  | F + 1, l, b, h0, h => by
    by_cases h1 : l.length ≤ 1
    · rw [balF_one h1]
      have : l.drop 1 = [] := List.drop_eq_nil_of_le h1
      rw [this]
      exact List.Perm.refl _
    · obtain ⟨k, hk⟩ : ∃ k, k = l.length / 2 := ⟨_, rfl⟩
      rw [balF_two h1, ← hk, bnds_app, bnds_app, half_drop l k (by omega) (by omega), List.map_append]
      have hA := bnds_bal F (l.take k) b (by rw [List.length_take]; omega) (by rw [List.length_take]; omega)
      have hB := bnds_bal F (l.drop k) (b + (2 * k - 1)) (by rw [List.length_drop]; omega) (by rw [List.length_drop]; omega)
      rw [List.append_assoc]
      refine List.Perm.append hA ?_
      rw [List.map_cons]
      have e : bnds [askN (frAt l k) ((b + (2 * k - 1) - 1 : Nat) : Int) ((b + (2 * l.length - 2) - 1 : Nat) : Int)] = [l[k].fr] := by
        rw [frAt_eq (by omega)]; rfl
      rw [e]
      exact (List.perm_append_comm).trans (List.Perm.cons _ hB)
theorem lvs_bal : ∀ (F : Nat) (l : List Pc) (b : Nat), 0 < l.length → l.length ≤ F → lvs (balF F l b) = l.map Pc.an
  | 0, l, b, h0, h => by omega
  | F + 1, l, b, h0, h => by
    by_cases h1 : l.length ≤ 1
    · rw [balF_one h1, anAt_eq h0]
      match l, h0, h1 with
      | [p], _, _ => rfl
    · obtain ⟨k, hk⟩ : ∃ k, k = l.length / 2 := ⟨_, rfl⟩
      rw [balF_two h1, ← hk, lvs_app, lvs_app, lvs_bal F (l.take k) b (by rw [List.length_take]; omega) (by rw [List.length_take]; omega), lvs_bal F (l.drop k) _ (by rw [List.length_drop]; omega) (by rw [List.length_drop]; omega), ← List.map_append, List.take_append_drop]
      have : lvs [askN (frAt l k) ((b + (2 * k - 1) - 1 : Nat) : Int) ((b + (2 * l.length - 2) - 1 : Nat) : Int)] = [] := rfl
      rw [this, List.append_nil]
/-- the tree of pieces, balanced or a chain. -/
def optN (bal : Bool) (ps : List Pc) : List Nod := if bal = true then balF ps.length ps 0 else chN ps
theorem optN_bnds (bal : Bool) {ps : List Pc} (h0 : 0 < ps.length) : (bnds (optN bal ps)).Perm ((ps.drop 1).map Pc.fr) := by
  unfold optN
  cases bal
  · rw [if_neg (by simp), bnds_chN]; exact List.reverse_perm _
  · rw [if_pos rfl]; exact bnds_bal _ _ _ h0 (Nat.le_refl _)
theorem optN_lvs (bal : Bool) {ps : List Pc} (h0 : 0 < ps.length) (x : Int) : x ∈ lvs (optN bal ps) ↔ x ∈ ps.map Pc.an := by
  unfold optN
  cases bal
  · rw [if_neg (by simp), lvs_chN, List.mem_reverse]
  · rw [if_pos rfl, lvs_bal _ _ _ h0 (Nat.le_refl _)]
theorem optN_len (bal : Bool) {ps : List Pc} (h0 : 0 < ps.length) : (optN bal ps).length = 2 * ps.length - 1 := by
  unfold optN
  cases bal
  · rw [if_neg (by simp)]
    match ps, h0 with
    | p :: r, _ => rw [chN_len]; simp; omega
  · rw [if_pos rfl, balF_len _ _ _ h0 (Nat.le_refl _)]
theorem optN_askU (bal : Bool) {ps : List Pc} (h0 : 0 < ps.length) (hr : RiseP ps) : AskU (optN bal ps) := by
  refine (bnds_nodup _).1 ((optN_bnds bal h0).nodup_iff.2 ((rise_pair.1 hr).imp fun h => by omega))
theorem optN_root (bal : Bool) {ps : List Pc} (h0 : 0 < ps.length) : RootU (optN bal ps) := by
  have hl := optN_len bal h0
  refine ⟨by omega, ?_⟩
  by_cases h1 : ps.length = 1
  · left; omega
  · right
    have hx : ∃ x : Nod, x.lf = false ∧ ∃ A, optN bal ps = A ++ [x] := by
      unfold optN
      cases bal
      · rw [if_neg (by simp)]
        match ps, h0, h1 with
        | p :: q :: r, _, _ => exact ⟨_, rfl, chN (q :: r) ++ [leafN p.an], by rw [chN_cons, List.append_assoc]; rfl⟩
      · rw [if_pos rfl]
        obtain ⟨F, hF⟩ : ∃ F, ps.length = F + 1 := ⟨ps.length - 1, by omega⟩
        have : balF ps.length ps 0 = balF (F + 1) ps 0 := by rw [hF]
        rw [this, balF_two (by omega)]
        exact ⟨_, rfl, _, rfl⟩
    obtain ⟨x, hx, A, hA⟩ := hx
    simp only [hA]
    have e : (A ++ [x])[(A ++ [x]).length - 1]'(by simp) = x := by
      rw [List.getElem_append_right (by simp)]; simp
    rw [e]; exact hx
theorem optN_good (bal : Bool) (c : Int) {ps : List Pc} (h0 : 0 < ps.length) (hp : ∀ p ∈ ps, 0 ≤ p.an ∧ p.an < c) : ∀ i (hi : i < (optN bal ps).length), nodE c i (optN bal ps)[i] = 0 := by
  unfold optN
  cases bal
  · simp only [Bool.false_eq_true, if_false]
    exact chN_good c ps hp
  · simp only [if_true]
    intro i hi
    have := bal_good c ps.length ps 0 h0 (Nat.le_refl _) hp i hi
    rwa [Nat.zero_add] at this
theorem chain_lp {ps : List Pc} {t : Int} {i : Nat} (hi : i < ps.length) (hat : AtPc ps t i) : ∃ n, Lp (chN ps) t ((chN ps).length - 1) ps[i].an n :=
  (chain_lf t ps i hi hat.1 hat.2).lp
theorem optN_lp (bal : Bool) {ps : List Pc} {t : Int} {i : Nat} (hi : i < ps.length) (hat : AtPc ps t i) : ∃ n, Lp (optN bal ps) t ((optN bal ps).length - 1) ps[i].an n ∧ (bal = true → ∀ m, ps.length ≤ 2 ^ m → n ≤ m + 1) := by
  unfold optN
  cases bal
  · rw [if_neg (by simp)]
    obtain ⟨n, hn⟩ := chain_lp hi hat
    exact ⟨n, hn, fun h => by cases h⟩
  · rw [if_pos rfl]
    have key : ∀ m, ps.length ≤ 2 ^ m → ∃ n, n ≤ m + 1 ∧ Lp (balF ps.length ps 0) t ((balF ps.length ps 0).length - 1) ps[i].an n := fun m hm => by
      obtain ⟨n, h1, h2⟩ := bal_lp t ps.length ps [] i m hi (Nat.le_refl _) hm hat
      refine ⟨n, h1, ?_⟩
      rw [balF_len _ _ _ (by omega) (Nat.le_refl _)]
      simpa using h2
    obtain ⟨m0, hm0, hmin⟩ : ∃ m, ps.length ≤ 2 ^ m ∧ ∀ q, ps.length ≤ 2 ^ q → m ≤ q := by
      obtain ⟨m, ⟨h1, h2⟩, _⟩ := least (p := fun m => ps.length ≤ 2 ^ m) ps.length (Nat.le_of_lt Nat.lt_two_pow_self)
      exact ⟨m, h1, fun q hq => by
        rcases Nat.lt_or_ge q m with h | h
        · exact absurd hq (h2 q h)
        · exact h⟩
    obtain ⟨n, h1, h2⟩ := key m0 hm0
    exact ⟨n, h2, fun _ m hm => by have := hmin m hm; omega⟩
/-- the size of a forest that is shared. -/
theorem ShI.size {ns out : List Nod} {now : List Nat} {m : Int} (h : ShI ns ns.length out now) (ok : ∀ i (h : i < ns.length), nodE m i ns[i] = 0) (hu : AskU ns) : out.length = (bnds ns).length + (srtC (lvs ns)).length := by
  have g := h.good ok
  have ask_out : AskU out := fun p q hp hq ep eq hb => by
    obtain ⟨i, a1, a2, a3, a4⟩ := h.fst p hp
    obtain ⟨i', b1, b2, b3⟩ := h.img i a1
    obtain ⟨j, c1, c2, c3, c4⟩ := h.fst q hq
    obtain ⟨j', d1, d2, d3⟩ := h.img j c1
    simp only [a3] at b3
    simp only [c3] at d3
    have := hu i j i' j' (by rw [← renN_lf now, ← b3]; exact ep) (by rw [← renN_lf now, ← d3]; exact eq) (by rw [← renN_bd now ns[i], ← renN_bd now ns[j], ← b3, ← d3]; exact hb)
    subst this
    omega
  have lvs_out : (lvs out).Nodup := by
    unfold lvs List.Nodup
    rw [List.pairwise_map, List.pairwise_filter, List.pairwise_iff_getElem]
    intro p q hp hq hpq ep eq hb
    obtain ⟨_, _, e1, e2, e3⟩ := nod_leaf (g p hp) ep
    obtain ⟨_, _, f1, f2, f3⟩ := nod_leaf (g q hq) eq
    refine h.dup p q hp hq (by omega) ?_
    generalize out[p] = x at *
    generalize out[q] = y at *
    obtain ⟨x1, x2, x3, x4, x5⟩ := x
    obtain ⟨y1, y2, y3, y4, y5⟩ := y
    simp_all
  have mem_b : ∀ x, x ∈ bnds out ↔ x ∈ bnds ns := fun x => by
    unfold bnds
    simp only [List.mem_map, List.mem_filter]
    constructor
    · rintro ⟨n, ⟨hn, e⟩, rfl⟩
      obtain ⟨p, hp, rfl⟩ := List.mem_iff_getElem.1 hn
      obtain ⟨i, a1, a2, a3, a4⟩ := h.fst p hp
      obtain ⟨i', b1, b2, b3⟩ := h.img i a1
      simp only [a3] at b3
      exact ⟨ns[i], ⟨List.getElem_mem i', by rw [b3, renN_lf] at e; exact e⟩, by rw [b3, renN_bd]⟩
    · rintro ⟨n, ⟨hn, e⟩, rfl⟩
      obtain ⟨i, hi, rfl⟩ := List.mem_iff_getElem.1 hn
      obtain ⟨i', b1, b2, b3⟩ := h.img i hi
      exact ⟨out[now[i]], ⟨List.getElem_mem b2, by rw [b3, renN_lf]; exact e⟩, by rw [b3, renN_bd]⟩
  have mem_l : ∀ x, x ∈ lvs out ↔ x ∈ srtC (lvs ns) := fun x => by
    rw [srtC_mem]
    unfold lvs
    simp only [List.mem_map, List.mem_filter]
    constructor
    · rintro ⟨n, ⟨hn, e⟩, rfl⟩
      obtain ⟨p, hp, rfl⟩ := List.mem_iff_getElem.1 hn
      obtain ⟨i, a1, a2, a3, a4⟩ := h.fst p hp
      obtain ⟨i', b1, b2, b3⟩ := h.img i a1
      simp only [a3] at b3
      exact ⟨ns[i], ⟨List.getElem_mem i', by rw [b3, renN_lf] at e; exact e⟩, by rw [b3, renN_an]⟩
    · rintro ⟨n, ⟨hn, e⟩, rfl⟩
      obtain ⟨i, hi, rfl⟩ := List.mem_iff_getElem.1 hn
      obtain ⟨i', b1, b2, b3⟩ := h.img i hi
      exact ⟨out[now[i]], ⟨List.getElem_mem b2, by rw [b3, renN_lf]; exact e⟩, by rw [b3, renN_an]⟩
  rw [nod_count out, nodup_eq ((bnds_nodup out).2 ask_out) ((bnds_nodup ns).2 hu) mem_b, nodup_eq lvs_out (srtC_nodup _) mem_l]
end Go.Proofs.Ytlhidbbphngpcaa
