/-
  tree.chain: pieces as a tree.
-/
import Derived.Test.YtlhidbbphngpcaaFwdC
namespace Go.Proofs.Ytlhidbbphngpcaa
set_option linter.unusedVariables false
set_option linter.unusedSimpArgs false
open Go.ChangeShapes Go.WideShapes Go.ChangeAt Go.RowKit

theorem elemPc {w : World} {aa : Option Addr} {n ca : Nat} {xs : List Pc} (h : SlAt w 2 RPc (.slice aa n ca) xs) (k : Nat) (hk : k < xs.length) :
    ∃ b off, aa = some ⟨b, off, none⟩ ∧ b < w.heap.size ∧ (w.cell? ⟨b, off + k * 2, none⟩ = some (.int .i64 xs[k].fr) ∧ w.cell? ⟨b, off + k * 2 + 1, none⟩ = some (.int .i64 xs[k].an)) := by
  rcases h with ⟨a, cap, hv, rfl⟩ | ⟨b, off, cap, hv, h0, h1, h2, h3, h4⟩
  · simp at hk
  · obtain ⟨cs, _, rfl, c3⟩ := h4 k hk
    simp only [Value.slice.injEq] at hv
    exact ⟨b, off, hv.1, h3, ⟨c3 0 (by omega), c3 1 (by omega)⟩⟩
theorem drop_two {α : Type} (xs : List α) (j : Nat) (h : j + 1 < xs.length) : xs.drop j = xs[j] :: xs[j + 1] :: xs.drop (j + 2) := by
  rw [List.drop_eq_getElem_cons (by omega), List.drop_eq_getElem_cons (by omega)]
theorem chN_drop (ps : List Pc) (j : Nat) (h : j + 1 < ps.length) : chN (ps.drop j) = chN (ps.drop (j + 1)) ++ [leafN ps[j].an, askN ps[j + 1].fr (chN (ps.drop (j + 1))).length ((chN (ps.drop (j + 1))).length - 1 : Nat)] := by
  rw [drop_two ps j h, chN_cons, ← List.drop_eq_getElem_cons (show j + 1 < ps.length by omega)]
theorem chN_dlen (ps : List Pc) (j : Nat) (h : j < ps.length) : (chN (ps.drop j)).length = 2 * (ps.length - 1 - j) + 1 := by
  rw [List.drop_eq_getElem_cons h, chN_len, List.length_drop]; omega
set_option maxRecDepth 100000 in
set_option maxHeartbeats 2000000 in
theorem chain_any (v : Value) (ps : List Pc) (w : World) (hv : SlAt w 2 RPc v ps) (h0 : 0 < ps.length) (h1 : ps.length ≤ 9000) :
    Calls Try.prog 39 #[v] w fun e w' => ∃ v', e = .returned v' ∧ w'.ownsRow w.heap.size 61 5 v' (chN ps).length ((chN ps).flatMap encN) ∧ Below w.heap.size w w' := by
  obtain ⟨an, cn, rfl, ln⟩ := hv.shape
  obtain ⟨b, off, rfl, hbb, cU, c1⟩ := elemPc hv (ps.length - 1) (by omega)
  clear cU
  obtain ⟨x, hlast⟩ : ∃ x, x = ps[ps.length - 1] := ⟨_, rfl⟩
  rw [← hlast] at c1
  have HL := Lib.hid hlast
  clear hlast
  have HV := Lib.hid hv
  have t1 : ((ps.length : Int) - 1).toNat = ps.length - 1 := by omega
  have t2 : (0 : Int) ≤ (ps.length : Int) - 1 := by omega
  have t3 : (ps.length : Int) - 1 < (ps.length : Int) := by omega
  have hx0 : (0 : Int) < (ps.length : Int) := by omega
  have hx1 : (ps.length : Int) ≤ 9000 := by omega
  have HX0 := Lib.hid h0
  have HX1 := Lib.hid h1
  clear hv ln
  have bw : Below w.heap.size w (w.alloc (.cells #[.slice none 0 0] 23)) := (Below.refl _ _).alloc (Nat.le_refl _) _
  have hw1 := size_alloc w (.cells #[.slice none 0 0] 23)
  have z0 : (w.alloc (.cells #[.slice none 0 0] 23)).cell? ⟨w.heap.size, 0, none⟩ = some (.slice none 0 0) := World.cell?_alloc_at (w := w) _ _ w.heap.size 0 rfl
  have z1 : (w.alloc (.cells #[.slice none 0 0] 23)).frozen? ⟨w.heap.size, 0, none⟩ = false := World.frozen?_alloc_at (w := w) _ _ w.heap.size 0 rfl
  have HW := Lib.hid hw1
  have HZ0 := Lib.hid z0
  have HZ1 := Lib.hid z1
  clear hw1 z0 z1
  go_enter Try.func39, Try.ntmps39
  go_wp2_with fail
  refine (chain1_any (leafN x.an) w.heap.size (w.heap.size + 1) (.slice none 0 0) [] _ (by omega) (by rw [HW.out]; exact Nat.le_refl _) HZ0.out HZ1.out (World.ownsRow_nil _ _ _ _) (by simp)).mono ?_
  rintro e w1 ⟨rfl, v1, k0, k1, hown, hb1⟩
  have hB1 := bw.trans hb1
  have hs1 : w.heap.size + 1 ≤ w1.heap.size := by have := hb1.size; rw [HW.out] at this; exact this
  have HO : Hid (w1.ownsRow (w.heap.size + 1) 61 5 v1 (chN (ps.drop (ps.length - 1))).length ((chN (ps.drop (ps.length - 1))).flatMap encN)) := by
    have e : chN (ps.drop (ps.length - 1)) = [] ++ [leafN x.an] := by
      rw [List.drop_eq_getElem_cons (show ps.length - 1 < ps.length by omega), show ps.length - 1 + 1 = ps.length from by omega, List.drop_length, ← HL.out]
      rfl
    rw [e]
    exact hown
  clear hown hb1 bw HW HZ0 HZ1
  have hm2 : Hid ((ps.length : Int) - 2 = ((ps.length - 1 : Nat) : Int) - 1) := by show _ = _; omega
  go_wp2
  go_loopw [5, 6] (fun r i wr => ∃ (j : Nat) (I : Int) (R : Nat), j + 1 ≤ ps.length ∧ i = .int .i64 I ∧ Hid (I = (j : Int) - 1) ∧ r = .int .i64 (R : Int) ∧ Hid (R = 2 * (ps.length - 1 - j)) ∧ Below w.heap.size w wr ∧ w.heap.size + 1 ≤ wr.heap.size ∧ ∃ v, wr.cell? ⟨w.heap.size, 0, none⟩ = some v ∧ wr.frozen? ⟨w.heap.size, 0, none⟩ = false ∧ Hid (wr.ownsRow (w.heap.size + 1) 61 5 v (chN (ps.drop j)).length ((chN (ps.drop j)).flatMap encN))) (fun _ i _ => (intOf i + 1).toNat)
  case atStart => exact ⟨ps.length - 1, _, 0, by omega, rfl, hm2, rfl, (by show 0 = _; omega), hB1, hs1, v1, k0, k1, HO⟩
  case round =>
    obtain ⟨j, I, R, hj, rfl, hI, rfl, hR, hbr, hsz, v, q0, q1, hown⟩ := hrel
    obtain ⟨av, cv, rfl⟩ := own_shape hown.out
    have hoz : w.heap.size < wr.heap.size := by omega
    rcases Nat.eq_zero_or_pos j with hj0 | hj0
    · have hneg : I < 0 := by have := hI.out; omega
      have hd : ps.drop j = ps := by rw [hj0]; rfl
      have HO2 : Hid (wr.ownsRow (w.heap.size + 1) 61 5 (.slice av (chN (ps.drop j)).length cv) (chN ps).length ((chN ps).flatMap encN)) := by
        have := hown.out
        rw [hd] at this ⊢
        exact this
      clear hd hj0 hI
      go_wp2
      go_ret
      exact ⟨_, rfl, ownsRow_base (by omega) HO2.out, hbr⟩
    · obtain ⟨k, rfl⟩ : ∃ k, j = k + 1 := ⟨j - 1, by omega⟩
      obtain rfl : I = (k : Int) := by have := hI.out; omega
      obtain ⟨b', o', hbo, _, c0, c2⟩ := elemPc HV.out k (by omega)
      obtain ⟨rfl, rfl⟩ : b = b' ∧ off = o' := by simpa using hbo
      obtain ⟨b', o', hbo2, _, c3, c4⟩ := elemPc HV.out (k + 1) (by omega)
      obtain ⟨rfl, rfl⟩ : b = b' ∧ off = o' := by simpa using hbo2
      have hcd := Lib.hid (chN_drop ps k (by omega))
      have hdl := Lib.hid (chN_dlen ps (k + 1) (by omega))
      have d2 := (hbr.cell (p := ⟨b, off + k * 2 + 1, none⟩) hbb).trans c2
      have d3 := (hbr.cell (p := ⟨b, off + (k + 1) * 2, none⟩) hbb).trans c3
      have hcnt : (chN (ps.drop (k + 1))).length ≤ 18000 := by rw [hdl.out]; omega
      have hRl : Hid (R + 1 = (chN (ps.drop (k + 1))).length) := by have := hR.out; have := hdl.out; show _ = _; omega
      have hR2 := Lib.hid (show R + 2 = 2 * (ps.length - 1 - k) by have := hR.out; omega)
      generalize hp : ps[k] = p at *
      generalize hq : ps[k + 1] = q at *
      generalize hns : chN (ps.drop (k + 1)) = ns at *
      clear hp hq hns c0 c2 c3 c4 hI hR hdl hbo hbo2 hj0
      have u1 : ((k : Int) + 1).toNat = k + 1 := by omega
      have u2 : (0 : Int) ≤ (k : Int) + 1 := by omega
      have u3 : (k : Int) + 1 < (ps.length : Int) := by omega
      go_wp2_with fail
      refine (chain1_any (leafN p.an) w.heap.size (w.heap.size + 1) _ ns _ (by omega) hsz q0 q1 hown.out (by omega)).mono ?_
      rintro e w2 ⟨rfl, v2, s0, s1, hown2, hb2⟩
      obtain ⟨a2, c2, rfl⟩ := own_shape hown2
      have hsz2 := Nat.le_trans hsz hb2.size
      have hbr2 := hbr.trans hb2
      have d4 := (hb2.cell (p := ⟨b, off + (k + 1) * 2, none⟩) hbb).trans d3
      have HO2 := Lib.hid hown2
      clear hown2 hb2 d2 d3 q0 q1 hown hoz
      have hz2 : w.heap.size < w2.heap.size := by omega
      go_wp2_with fail
      refine (chain1_any (askN q.fr ns.length R) w.heap.size (w.heap.size + 1) _ (ns ++ [leafN p.an]) _ (by omega) hsz2 s0 s1 HO2.out (by rw [List.length_append, List.length_singleton]; omega)).mono ?_
      rintro e w3 ⟨rfl, v3, p0, p1, hown3, hb3⟩
      have hsz3 := Nat.le_trans hsz2 hb3.size
      have hbr3 := hbr2.trans hb3
      have hlR : (ns ++ [leafN p.an]).length = R + 2 := by rw [List.length_append, List.length_singleton]; have := hRl.out; omega
      have hRR : ns.length - 1 = R := by have := hRl.out; omega
      have HO3 : Hid (w3.ownsRow (w.heap.size + 1) 61 5 v3 (chN (ps.drop k)).length ((chN (ps.drop k)).flatMap encN)) := by
        have e := hcd.out
        rw [hRR] at e
        have e2 : ns ++ [leafN p.an] ++ [askN q.fr ns.length R] = chN (ps.drop k) := by rw [e, List.append_assoc]; rfl
        rw [e2] at hown3
        exact hown3
      rw [hlR]
      clear hown3 hb3 s0 s1 HO2 hlR hRR hRl hcd d4 hbr hbr2 hsz hsz2
      go_wp2
      go_roundw
      case rel => exact ⟨k, _, R + 2, by omega, rfl, Lib.hid rfl, rfl, hR2, hbr3, hsz3, v3, p0, p1, HO3⟩
      case measure => simp [intOf]
end Go.Proofs.Ytlhidbbphngpcaa
