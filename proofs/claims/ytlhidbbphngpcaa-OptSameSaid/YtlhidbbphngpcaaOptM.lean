/-
  tree.Opt: what is refused; numbers of the nodes.
-/
import Derived.Test.YtlhidbbphngpcaaOptG
import Derived.Test.YtlhidbbphngpcaaOptH
import Derived.Test.YtlhidbbphngpcaaOptJ
import Derived.Test.YtlhidbbphngpcaaOptL
namespace Go.Proofs.Ytlhidbbphngpcaa
set_option linter.unusedVariables false
set_option linter.unusedSimpArgs false
open Go.ChangeShapes Go.WideShapes Go.ChangeAt Go.RowKit

theorem balF_64 : ∀ (F : Nat) (l : List Pc) (b : Nat), 0 < l.length → l.length ≤ F → b + 2 * l.length ≤ 100000 → (∀ p ∈ l, I64 p.fr ∧ I64 p.an) → ∀ n ∈ balF F l b, N64 n
  | 0, l, b, h0, h, _, _, _, _ => by omega
  | F + 1, l, b, h0, h, hb, hp, n, hn => by
    by_cases h1 : l.length ≤ 1
    · rw [balF_one h1] at hn
      rw [List.mem_singleton.1 hn, anAt_eq h0]
      exact ⟨(hp _ (List.getElem_mem h0)).2, i64_zero, i64_zero, i64_zero⟩
    · rw [balF_two h1] at hn
      rcases List.mem_append.1 hn with hn | hn
      · rcases List.mem_append.1 hn with hn | hn
        · exact balF_64 F _ _ (by rw [List.length_take]; omega) (by rw [List.length_take]; omega) (by rw [List.length_take]; omega) (fun p h => hp p (List.mem_of_mem_take h)) n hn
        · exact balF_64 F _ _ (by rw [List.length_drop]; omega) (by rw [List.length_drop]; omega) (by rw [List.length_drop]; omega) (fun p h => hp p (List.mem_of_mem_drop h)) n hn
      · rw [List.mem_singleton.1 hn, frAt_eq (by omega)]
        exact ⟨i64_zero, (hp _ (List.getElem_mem (show l.length / 2 < l.length by omega))).1, i64_nat _ (by omega), i64_nat _ (by omega)⟩
theorem optN_64 (b : Bool) {ps : List Pc} (h0 : 0 < ps.length) (h9 : ps.length ≤ 9000) (hp : ∀ p ∈ ps, I64 p.fr ∧ I64 p.an) : ∀ n ∈ optN b ps, N64 n := by
  unfold optN
  cases b
  · simp only [Bool.false_eq_true, if_false]; exact chN_64Z ps h9 hp
  · simp only [if_true]; exact balF_64 _ _ _ h0 (Nat.le_refl _) (by omega) hp
theorem optP_64 {f : Frs} {F : Int → Int} (h : Tells f F) (hb : ∀ n ∈ f.nodes, I64 n.bd) (m : Bool) : ∀ p ∈ optP f F m, I64 p.fr ∧ I64 p.an := by
  obtain ⟨_, h8, h2, _, _⟩ := frs_good h.ok
  have hfr : ∀ p ∈ pcsOf f.nodes F, I64 p.fr := fun p hp => by
    unfold pcsOf at hp
    rcases List.mem_cons.1 hp with rfl | hp
    · exact i64_zero
    · obtain ⟨x, hx, rfl⟩ := List.mem_map.1 hp
      obtain ⟨n, hn, rfl⟩ := List.mem_map.1 ((cuts_mem _ _).1 hx).1
      exact hb n (List.mem_filter.1 hn).1
  intro p hp
  obtain ⟨a1, a2⟩ := optP_an h m p hp
  have hl := optAns_le f m
  refine ⟨?_, i64_of (by omega) (by omega)⟩
  unfold optP at hp
  cases m
  · simp only [Bool.false_eq_true, if_false] at hp; exact hfr p hp
  · simp only [if_true] at hp
    obtain ⟨q, hq, rfl⟩ := List.mem_map.1 ((ddp_inv _ (pcsM f F) rfl).mem p hp)
    exact hfr q hq
theorem optP_9000 {f : Frs} {F : Int → Int} (h : Tells f F) (m : Bool) : (optP f F m).length ≤ 8001 := by
  obtain ⟨_, h8, _⟩ := frs_good h.ok
  have h4 := optP_le f F m
  have h5 : (cuts f.nodes).length ≤ (srtC (bnds f.nodes)).length := List.length_filter_le _ _
  have h6 := srtC_len (bnds f.nodes)
  have h7 := nod_count f.nodes
  omega
set_option maxRecDepth 100000 in
set_option maxHeartbeats 4000000 in
theorem opt_bad (f : Frs) (vn va : Value) (wy : Int) (w : World) (hf : FrsAt w vn va f) (hb : frsE f ≠ 0 ∨ wy < 0 ∨ 7 < wy) :
    Calls Try.prog 22 #[.agg #[vn, va], .int .i64 wy] w fun e w' => e = .returned (.tuple #[.agg #[.slice none 0 0, .slice none 0 0], .int .i64 (if frsE f ≠ 0 then frsE f else 2)]) ∧ Below w.heap.size w w' := by
  obtain ⟨r, hr⟩ : ∃ r, r = frsE f := ⟨_, rfl⟩
  rw [← hr] at hb ⊢
  have HR := Lib.hid hr
  obtain ⟨ao, cap, rfl, hl⟩ := hf.1.shape
  obtain ⟨bo, cap2, rfl, hl2⟩ := hf.2.shape
  have bw : Below w.heap.size w ((w.alloc (.cells #[.slice ao f.nodes.length cap, .slice bo f.answers.length cap2] 26)).alloc (.cells #[.slice none 0 0, .slice none 0 0] 26)) := below_alloc2 (Nat.le_refl _) _ _
  have HC := Lib.hid (fun W hb => check_any f _ _ W (hf.mono (w' := W) hb))
  have hs0 := size_alloc w (.cells #[.slice ao f.nodes.length cap, .slice bo f.answers.length cap2] 26)
  have o1 := (OBx.new (w.alloc (.cells #[.slice ao f.nodes.length cap, .slice bo f.answers.length cap2] 26)) (.slice none 0 0) (.slice none 0 0))
  rw [hs0] at o1
  have O1 := Lib.hid o1
  have BW := Lib.hid bw
  clear hf hr hl hl2 hs0 o1 bw
  by_cases hbad : r = 0
  · subst hbad
    have hwy := hb.resolve_left (by simp)
    rw [if_neg (by simp)]
    clear hb
    by_cases hneg : wy < 0
    · clear hwy
      go_enter Try.func22, Try.ntmps22
      go_wp2_with fail
      refine (HC.out _ BW.out).mono ?_; rintro e w1 ⟨rfl, hb1⟩
      rw [← HR.out]
      have O2 := Lib.hid (O1.out.below hb1 O1.out.2.2.2)
      obtain ⟨c0, c1, c2, c3⟩ := O2.out
      have HB := Lib.hid (BW.out.trans (hb1.mono (by have := BW.out.size; exact this)))
      clear hb1
      go_wp2_with fail
      exact bodyPost_ret (v := .tuple #[.agg #[.slice none 0 0, .slice none 0 0], .int .i64 2]) (by simp [results, Try.results22, go_sem, c0, c1, c3]) rfl ⟨rfl, (HB.out.setCell (by show w.heap.size ≤ w.heap.size + 1; omega) _).setCell (by show w.heap.size ≤ w.heap.size + 1; omega) _⟩
    · have hpos : 7 < wy := by omega
      clear hwy
      go_enter Try.func22, Try.ntmps22
      go_wp2_with fail
      refine (HC.out _ BW.out).mono ?_; rintro e w1 ⟨rfl, hb1⟩
      rw [← HR.out]
      have O2 := Lib.hid (O1.out.below hb1 O1.out.2.2.2)
      obtain ⟨c0, c1, c2, c3⟩ := O2.out
      have HB := Lib.hid (BW.out.trans (hb1.mono (by have := BW.out.size; exact this)))
      clear hb1
      go_wp2_with fail
      exact bodyPost_ret (v := .tuple #[.agg #[.slice none 0 0, .slice none 0 0], .int .i64 2]) (by simp [results, Try.results22, go_sem, c0, c1, c3]) rfl ⟨rfl, (HB.out.setCell (by show w.heap.size ≤ w.heap.size + 1; omega) _).setCell (by show w.heap.size ≤ w.heap.size + 1; omega) _⟩
  · have hrb : (r != 0) = true := by rw [bne_iff_ne]; exact hbad
    rw [if_pos hbad]
    clear hb hbad
    go_enter Try.func22, Try.ntmps22
    go_wp2_with fail
    refine (HC.out _ BW.out).mono ?_; rintro e w1 ⟨rfl, hb1⟩
    rw [← HR.out]
    have O2 := Lib.hid (O1.out.below hb1 O1.out.2.2.2)
    obtain ⟨c0, c1, c2, c3⟩ := O2.out
    have HB := Lib.hid (BW.out.trans (hb1.mono (by have := BW.out.size; exact this)))
    clear hb1
    go_wp2_with fail
    exact bodyPost_ret (v := .tuple #[.agg #[.slice none 0 0, .slice none 0 0], .int .i64 r]) (by simp [results, Try.results22, go_sem, c0, c1, c3]) rfl ⟨rfl, (HB.out.setCell (by show w.heap.size ≤ w.heap.size + 1; omega) _).setCell (by show w.heap.size ≤ w.heap.size + 1; omega) _⟩
end Go.Proofs.Ytlhidbbphngpcaa
