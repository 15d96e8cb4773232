/-
  What tree.Inverse tells at a number: plain.
-/
import Derived.Test.YtlhidbbphngpcaaInvB
import Derived.Test.YtlhidbbphngpcaaInvC
namespace Go.Proofs.Ytlhidbbphngpcaa
set_option linter.unusedVariables false
set_option linter.unusedSimpArgs false
open Go.ChangeShapes Go.WideShapes Go.ChangeAt Go.RowKit

theorem jump_fold (ss : List Seg) (t : Int) : ss.foldr (fun s j => if t < s.lo then s.fr else j) 4102444800 = jumpAt ss t := by
  induction ss with
  | nil => rfl
  | cons s ss ih =>
    rw [List.foldr_cons, ih]
    unfold jumpAt
    rw [List.find?_cons]
    by_cases h : t < s.lo
    · rw [if_pos h]; simp [h]
    · rw [if_neg h]; simp [h]
/-- the jump, when the places pre have been looked at. -/
def jmp (xs : List Spn) (t : Int) (pre : List (Fin xs.length)) : Int := pre.foldl (fun j k => if t < (segF xs k.1 xs[k.1]).lo then xs[k.1].fr else j) 4102444800
theorem jmp_snoc (xs : List Spn) (t : Int) (pre : List (Fin xs.length)) (x : Fin xs.length) : jmp xs t (pre ++ [x]) = if t < (segF xs x.1 xs[x.1]).lo then xs[x.1].fr else jmp xs t pre := by simp [jmp]
theorem jmp_done {xs : List Spn} {t : Int} {pre : List (Fin xs.length)} (h : Dn 0 pre) : jmp xs t pre = jumpAt (segs xs) t := by
  have e : pre.map (fun k => segF xs k.1 xs[k.1]) = (segs xs).reverse := by
    have h1 : pre.map (fun k => k.1) = (List.range' 0 xs.length).reverse := h.1
    have e1 : pre.map (fun k => segF xs k.1 xs[k.1]) = (pre.map (fun k => k.1)).map (fun i => (segs xs).getD i ⟨0, 0, 0, 0⟩) := by
      rw [List.map_map]
      refine List.map_congr_left fun k _ => ?_
      show _ = (segs xs).getD k.1 _
      rw [List.getD_eq_getElem?_getD, List.getElem?_eq_getElem (by rw [segs_len]; exact k.2), segs_at xs k.1 k.2]
      rfl
    rw [e1, h1, List.map_reverse]
    congr 1
    apply List.ext_getElem
    · rw [List.length_map, List.length_range', segs_len]
    · intro i h1 h2
      rw [List.getElem_map, List.getElem_range', Nat.zero_add, Nat.one_mul, List.getD_eq_getElem?_getD, List.getElem?_eq_getElem h2]
      rfl
  rw [← jump_fold]
  have e2 : jmp xs t pre = (pre.map (fun k => segF xs k.1 xs[k.1])).foldl (fun j s => if t < s.lo then s.fr else j) 4102444800 := by
    rw [List.foldl_map]
    rfl
  rw [e2, e, List.foldl_reverse]
theorem offs_take (xs : List Spn) (t : Int) (k : Nat) (h : k < xs.length) : offsAt ((segs xs).take (k + 1)) t = offsAt ((segs xs).take k) t ++ (if inS t (segF xs k xs[k]) = true then [xs[k].ck.off] else []) := by
  unfold offsAt
  rw [segs_take xs k h, List.filter_append, List.map_append]
  congr 1
  by_cases hb : inS t (segF xs k xs[k]) = true
  · rw [if_pos hb, List.filter_cons_of_pos hb, List.filter_nil]; rfl
  · rw [if_neg hb, List.filter_cons_of_neg hb, List.filter_nil]; rfl
theorem offs_len (ss : List Seg) (t : Int) : (offsAt ss t).length ≤ ss.length := by
  unfold offsAt
  rw [List.length_map]
  exact List.length_filter_le _ _
theorem offs_mem {xs : List Spn} {t o : Int} (h : o ∈ offsAt (segs xs) t) : ∃ i, ∃ hi : i < xs.length, o = xs[i].ck.off := by
  unfold offsAt at h
  obtain ⟨s, hs, rfl⟩ := List.mem_map.1 h
  obtain ⟨i, hi, rfl⟩ := List.mem_iff_getElem.1 (List.mem_filter.1 hs).1
  rw [segs_len] at hi
  exact ⟨i, hi, by rw [segs_at xs i hi]; rfl⟩
theorem jump_bd {xs : List Spn} (hb : ∀ j (hj : j < xs.length), SpB xs[j]) (t : Int) : -2208988800 ≤ jumpAt (segs xs) t ∧ jumpAt (segs xs) t ≤ 4102444800 := by
  unfold jumpAt
  split
  · rename_i s hs
    obtain ⟨i, hi, rfl⟩ := List.mem_iff_getElem.1 (List.mem_of_find?_eq_some hs)
    rw [segs_len] at hi
    rw [segs_at xs i hi]
    obtain ⟨a, b, _, _⟩ := hb i hi
    show -2208988800 ≤ xs[i].fr ∧ xs[i].fr ≤ 4102444800
    omega
  · omega
theorem tell_ok {xs : List Spn} (hb : ∀ j (hj : j < xs.length), SpB xs[j]) (t : Int) : AnO (tellA (segs xs) t) := by
  obtain ⟨j1, j2⟩ := jump_bd hb t
  refine ⟨i64_zero, ?_, Nat.zero_le _, fun o ho => ?_⟩
  · show I64 (if _ then _ else _)
    split
    · exact i64_of (by omega) (by omega)
    · exact i64_of (by omega) (by omega)
  · obtain ⟨i, hi, rfl⟩ := offs_mem ho
    obtain ⟨_, _, a, b⟩ := hb i hi
    exact i64_of (by omega) (by omega)
end Go.Proofs.Ytlhidbbphngpcaa
