/-
  The bounds of a forest; copies of answers.
-/
import Derived.Test.YtlhidbbphngpcaaLem
import Derived.Test.YtlhidbbphngpcaaOwn
import Derived.Test.YtlhidbbphngpcaaTreeG
import Derived.Laws.AppendOwnNone
namespace Go.Proofs.Ytlhidbbphngpcaa
set_option linter.unusedVariables false
set_option linter.unusedSimpArgs false
open Go.ChangeShapes Go.WideShapes Go.ChangeAt Go.RowKit

set_option maxHeartbeats 1000000 in
theorem bounds_any (f : Frs) (vn va : Value) (w : World) (hf : FrsAt w vn va f) (hr : f.nodes.length * 8 ≤ 140737488355320) :
    Calls Try.prog 24 #[.agg #[vn, va]] w fun e w' => ∃ v xs, e = .returned v ∧ SlAt w' 1 RInt v xs ∧ Below w.heap.size w w' := by
  obtain ⟨nodes, answers⟩ := f
  obtain ⟨hn, ha⟩ := hf
  dsimp only at hn ha hr
  obtain ⟨an, cn, rfl, ln⟩ := hn.shape
  have ln' := maxLen_eq _ ln
  have HN := Lib.hid hn
  clear hn ha ln
  obtain ⟨i0, hi, hz0, hz1, hz2⟩ := info_parts info_int
  go_enter Try.func24, Try.ntmps24
  go_wp2
  have b0 : (w.alloc (.cells #[.slice an nodes.length cn, va] 26)).cell? ⟨w.heap.size, 0, none⟩ = some (.slice an nodes.length cn) := (World.cell?_alloc_at (w := w) _ _ w.heap.size 0 rfl).trans rfl
  have bz : w.heap.size < (w.alloc (.cells #[.slice an nodes.length cn, va] 26)).heap.size := by simp
  have bw : Below w.heap.size w (w.alloc (.cells #[.slice an nodes.length cn, va] 26)) := (Below.refl _ _).alloc (Nat.le_refl _) _
  generalize w.alloc (.cells #[.slice an nodes.length cn, va] 26) = W1 at *
  have HN1 := Lib.hid (HN.out.mono bw fun _ _ h => h)
  clear HN
  go_loopw [3, 4] (fun v t wr => ∃ k : Nat, k ≤ nodes.length ∧ t = .int .i64 k ∧ (∃ xs : List Int, xs.length ≤ k ∧ Hid (∀ x ∈ xs, I64 x) ∧ wr.ownsRow W1.heap.size 3 1 v xs.length (xs.flatMap encI)) ∧ Below W1.heap.size W1 wr) (fun _ t _ => (nodes.length - intOf t).toNat)
  case atStart => exact ⟨0, by omega, rfl, ⟨[], by simp, fun x hx => by simp at hx, World.ownsRow_nil _ _ _ _⟩, Below.refl _ _⟩
  case round =>
    obtain ⟨k, hk, rfl, ⟨xs, hx, hx64, hown⟩, hbr⟩ := hrel
    obtain ⟨hc, hf⟩ := bcell hbr
    by_cases hlt : k < nodes.length
    · obtain ⟨b, off, rfl, hbb, c0, c1, c2, c3, c4⟩ := elemNod HN1.out k hlt
      have H64 := Lib.hid (nods64 HN1.out nodes[k] (List.getElem_mem hlt)).2.1
      generalize nodes[k] = y at *
      have hsz := hbr.size
      cases e : y.lf
      · rw [e] at c0
        clear e
        go_wp2_with (at_builtin; refine wpList_append_own _ rfl _ _ 34 rfl W1.heap.size 3 i0 (.int .i64 0) 1 8 Try.underlying34 hi hz0 hz1 hz2 rfl (by decide) _ _ _ rfl (hown.alloc _) ⟨wr.heap.size, 0, none⟩ 1 1 [.int .i64 y.bd] rfl rfl (one_cell _ _ _) (by intro u hu; simp at hu; subst hu; rfl) (by unfold maxLen; omega) (by omega) (by rw [size_alloc]; omega) ?_; intro v' w1 hown' hgrow _)
        have hB : Below W1.heap.size W1 w1 := (hbr.alloc hsz _).grown hgrow (by rw [size_alloc]; omega) (fun g hg => (hown.lt g hg).1)
        have HO := own_snoc hown'
        have H6 : Hid (∀ x ∈ xs ++ [y.bd], I64 x) := fun x hx => by
          rcases List.mem_append.1 hx with h | h
          · exact hx64.out x h
          · simp at h; subst h; exact H64.out
        clear hown' hgrow
        go_wp2
        go_roundw
        case rel => exact ⟨k + 1, by omega, by go_num, ⟨xs ++ [y.bd], by simp; omega, H6, HO⟩, hB⟩
        case measure => simp [intOf]; omega
      · rw [e] at c0
        clear e
        go_wp2
        go_roundw
        case rel => exact ⟨k + 1, by omega, by go_num, ⟨xs, by omega, hx64, hown⟩, hbr⟩
        case measure => simp [intOf]; omega
    · go_wp2
      go_ret
      exact ⟨_, xs, rfl, ints_of_own hx64.out hown, bw.trans (hbr.mono bw.size)⟩
theorem clone_cells {w : World} {b off : Nat} {xs : List Int} (h : ∀ (i : Nat) (h : i < xs.length), w.cell? ⟨b, off + i, none⟩ = some (.int .i64 xs[i]) ∧ I64 xs[i]) (hb : b < w.heap.size) (o : Obj) :
    ∀ j u, (xs.flatMap encI)[j]? = some u → (w.alloc o).cell? ((⟨b, off, none⟩ : Addr).add j) = some u := by
  intro j u hj
  have hl : (xs.flatMap encI).length = xs.length := by
    have : ∀ l : List Int, (l.flatMap encI).length = l.length := fun l => by induction l <;> simp_all [encI]
    exact this xs
  have hlt : j < xs.length := by have := (List.getElem?_eq_some_iff.1 hj).1; omega
  have h1 := flat_at (enc := encI) (sz := 1) (fun _ => rfl) xs j 0 hlt (by omega)
  rw [Nat.mul_one, Nat.add_zero, hj] at h1
  have hB : Below w.heap.size w (w.alloc o) := (Below.refl _ _).alloc (Nat.le_refl _) _
  rw [add_one_, hB.cell (p := ⟨b, _, none⟩) hb, (h j hlt).1, h1]
  rfl
set_option maxHeartbeats 1000000 in
theorem cloneInts_any (v : Value) (xs : List Int) (w : World) (hv : SlAt w 1 RInt v xs) (hr : xs.length * 8 ≤ 140737488355328) :
    Calls Try.prog 58 #[v] w fun e w' => ∃ v', e = .returned v' ∧ w'.ownsRow w.heap.size 3 1 v' xs.length (xs.flatMap encI) ∧ Below w.heap.size w w' := by
  have q22 : ∀ (w : World) (a : Option Addr) (n c n' c' : Nat), (binOp .eql 34 (.slice a n c) (.slice none n' c')).run Try.prog w = .ok (.bool a.isNone) w := fun w a n c n' c' => Lib.run_eql_slice_nil w _ _ a n c n' c' Try.underlying34
  obtain ⟨i0, hi, hz0, hz1, hz2⟩ := info_parts info_int
  have fin : ∀ (ad : Addr) (n c : Nat), xs.length = n → (∀ j u, (xs.flatMap encI)[j]? = some u → (w.alloc (.cells #[] 3)).cell? (ad.add j) = some u) → Calls Try.prog 58 #[.slice (some ad) n c] w fun e w' => ∃ v', e = .returned v' ∧ w'.ownsRow w.heap.size 3 1 v' xs.length (xs.flatMap encI) ∧ Below w.heap.size w w' := by
    intro ad n c hn hc
    subst hn
    have HC := Lib.hid hc
    clear hc hv
    go_enter Try.func58, Try.ntmps58
    go_wp2_with (at_builtin; refine wpList_append_own _ rfl _ _ 34 rfl w.heap.size 3 i0 (.int .i64 0) 1 8 Try.underlying34 hi hz0 hz1 hz2 rfl (by decide) _ _ _ rfl (World.ownsRow_made w #[] 0 (Nat.le_refl _) (Nat.zero_le _) rfl) ad xs.length c (xs.flatMap encI) rfl (by rw [encI_len]; omega) HC.out (encI_one xs) (by unfold maxLen; omega) (by omega) (by rw [size_alloc]; omega) ?_; intro v' w1 hown' hgrow _)
    simp only [Nat.zero_add, List.nil_append] at hown'
    go_wp2
    go_ret
    exact ⟨_, rfl, hown', ((Below.refl _ w).alloc (Nat.le_refl _) _).grown (show (w.alloc (.cells #[] 3)).grownBy w1 (some w.heap.size) from hgrow) (by rw [size_alloc]; omega) (by intro k hk; exact Nat.le_of_eq (Option.some.inj hk))⟩
  rcases hv with ⟨a, cap, rfl, rfl⟩ | ⟨b, off, cap, rfl, h0, h1, h2, h3, h4⟩
  · cases a with
    | none =>
      clear fin hi hz0 hz1 hz2
      go_enter Try.func58, Try.ntmps58
      go_wp2
      go_ret
      exact ⟨_, rfl, World.ownsRow_nil _ _ _ _, Below.refl _ _⟩
    | some a => exact fin a 0 cap rfl (fun j u hj => by simp at hj)
  · exact fin _ _ _ rfl (clone_cells (intCell h4) h3 _)
set_option maxHeartbeats 1000000 in
theorem clone_any (a : Ans) (vo : Value) (w : World) (hv : SlAt w 1 RInt vo a.offs) (hr : a.offs.length * 8 ≤ 140737488355328) :
    Calls Try.prog 48 #[.agg #[.int .i64 a.ck.off, .bool a.ck.sav, .string a.ck.nm, vo, .int .i64 a.jump]] w fun e w' => ∃ v', e = .returned (.agg #[.int .i64 a.ck.off, .bool a.ck.sav, .string a.ck.nm, v', .int .i64 a.jump]) ∧ w'.ownsRow w.heap.size 3 1 v' a.offs.length (a.offs.flatMap encI) ∧ Below w.heap.size w w' := by
  obtain ⟨⟨off, sav, nm⟩, offs, jump⟩ := a
  dsimp only at hv hr ⊢
  obtain ⟨ao, cap, rfl, hl⟩ := hv.shape
  have HV := Lib.hid hv
  clear hv hl
  go_enter Try.func48, Try.ntmps48
  go_wp2_with fail
  have bw : Below w.heap.size w ((w.alloc (.cells #[.int .i64 off, .bool sav, .string nm, .slice ao offs.length cap, .int .i64 jump] 39)).alloc (.cells #[.int .i64 0, .bool false, .string ⟨#[]⟩, .slice none 0 0, .int .i64 0] 39)) := ((Below.refl _ _).alloc (Nat.le_refl _) _).alloc (size_le_push_ w _) _
  obtain ⟨hs, b0, b1, g0, g1⟩ := two_new w #[.int .i64 off, .bool sav, .string nm, .slice ao offs.length cap, .int .i64 jump] #[.int .i64 0, .bool false, .string ⟨#[]⟩, .slice none 0 0, .int .i64 0] 39 39
  generalize (w.alloc (.cells #[.int .i64 off, .bool sav, .string nm, .slice ao offs.length cap, .int .i64 jump] 39)).alloc (.cells #[.int .i64 0, .bool false, .string ⟨#[]⟩, .slice none 0 0, .int .i64 0] 39) = W2 at *
  refine (cloneInts_any _ offs _ (HV.out.mono bw fun _ _ h => h) hr).mono ?_
  rintro e w1 ⟨v', rfl, hown, hb1⟩
  obtain ⟨av, cv, rfl⟩ := own_shape hown
  obtain ⟨hc, hf⟩ := bcell hb1
  have hz : w.heap.size + 1 < w1.heap.size := by have := hb1.size; omega
  have hz0 : w.heap.size < w1.heap.size := by omega
  have d0 : w1.cell? ⟨w.heap.size, 0, none⟩ = some (.int .i64 off) := (hc _ _ (by omega)).trans (b0 0)
  have d1 : w1.cell? ⟨w.heap.size, 1, none⟩ = some (.bool sav) := (hc _ _ (by omega)).trans (b0 1)
  have d2 : w1.cell? ⟨w.heap.size, 2, none⟩ = some (.string nm) := (hc _ _ (by omega)).trans (b0 2)
  have d3 : w1.cell? ⟨w.heap.size, 3, none⟩ = some (.slice ao offs.length cap) := (hc _ _ (by omega)).trans (b0 3)
  have d4 : w1.cell? ⟨w.heap.size, 4, none⟩ = some (.int .i64 jump) := (hc _ _ (by omega)).trans (b0 4)
  have r0 : w1.cell? ⟨w.heap.size + 1, 0, none⟩ = some (.int .i64 0) := (hc _ _ (by omega)).trans (b1 0)
  have r1 : w1.cell? ⟨w.heap.size + 1, 1, none⟩ = some (.bool false) := (hc _ _ (by omega)).trans (b1 1)
  have r2 : w1.cell? ⟨w.heap.size + 1, 2, none⟩ = some (.string ⟨#[]⟩) := (hc _ _ (by omega)).trans (b1 2)
  have r3 : w1.cell? ⟨w.heap.size + 1, 3, none⟩ = some (.slice none 0 0) := (hc _ _ (by omega)).trans (b1 3)
  have r4 : w1.cell? ⟨w.heap.size + 1, 4, none⟩ = some (.int .i64 0) := (hc _ _ (by omega)).trans (b1 4)
  have f0 : ∀ j, w1.frozen? ⟨w.heap.size, j, none⟩ = false := fun j => (hf _ _ (by omega)).trans (g0 j)
  have f1 : ∀ j, w1.frozen? ⟨w.heap.size + 1, j, none⟩ = false := fun j => (hf _ _ (by omega)).trans (g1 j)
  have HB : Hid (Below w.heap.size w w1) := bw.trans (hb1.mono bw.size)
  have HO := Lib.hid hown
  have HS := Lib.hid hs
  clear hc hf b0 b1 g0 g1 hb1 bw hown hs HV
  go_wp2
  refine bodyPost_ret (v := .agg #[.int .i64 off, .bool sav, .string nm, .slice av offs.length cv, .int .i64 jump]) (by simp [results, Try.results48, go_sem, hz, hz0, r0, r1, r2, r3, r4]) rfl ⟨_, rfl, ?_, ?_⟩
  · have h2 := HS.out
    refine ownsRow_base (B := W2.heap.size) (by omega) ?_
    exact ownsRow_setCell_below (ownsRow_setCell_below (ownsRow_setCell_below (ownsRow_setCell_below (ownsRow_setCell_below (ownsRow_setCell_below HO.out (by show w.heap.size < _; omega) _) (by show w.heap.size + 1 < _; omega) _) (by show w.heap.size + 1 < _; omega) _) (by show w.heap.size + 1 < _; omega) _) (by show w.heap.size + 1 < _; omega) _) (by show w.heap.size + 1 < _; omega) _
  · exact (((((HB.out.setCell (by show w.heap.size ≤ w.heap.size; omega) _).setCell (by show w.heap.size ≤ w.heap.size + 1; omega) _).setCell (by show w.heap.size ≤ w.heap.size + 1; omega) _).setCell (by show w.heap.size ≤ w.heap.size + 1; omega) _).setCell (by show w.heap.size ≤ w.heap.size + 1; omega) _).setCell (by show w.heap.size ≤ w.heap.size + 1; omega) _
end Go.Proofs.Ytlhidbbphngpcaa
