/-
  The table of months, as the program's variable holds it.
  What the functions of package civil answer.
  What the document's functions on the numbers of days answer.
  The window.
  append(nil, xs...): a copy in new memory.
-/
import Derived.Lib.LaidTab
import Derived.Test.YtdpbedkppomffaaDoorBase
import Derived.Test.YtdpbedkppomffaaDoorTreeT
namespace Go.Proofs.YtdpbedkppomffaaDoor
set_option linter.unusedVariables false
set_option linter.unusedSimpArgs false
open Go.ChangeShapes Go.WideShapes Go.ChangeAt Go.RowKit Civ

/-- the months' variable holds the table. -/
def Tab (w : World) : Prop := (∀ i : Nat, i < 13 → w.cell? ⟨0, i, none⟩ = some (.int .i64 (mon i))) ∧ 0 < w.heap.size
theorem Tab.below {w w' : World} (h : Tab w) (hb : Below w.heap.size w w') : Tab w' :=
  ⟨fun i hi => by rw [hb.cell (p := ⟨_, _, none⟩) h.2]; exact h.1 i hi, Nat.lt_of_lt_of_le h.2 hb.size⟩
theorem Tab.drewN {w : World} (h : Tab w) (n : Nat) : Tab (w.drewN n) := h.below (below_draws (Below.refl _ _) n)
theorem Tab.alloc {w : World} (h : Tab w) (o : Obj) : Tab (w.alloc o) := h.below ((Below.refl _ _).alloc (Nat.le_refl _) o)
end Go.Proofs.YtdpbedkppomffaaDoor
namespace Go.Proofs.YtdpbedkppomffaaDoor
set_option linter.unusedVariables false
set_option linter.unusedSimpArgs false
open Go.ChangeShapes Go.WideShapes Go.ChangeAt Go.RowKit Civ

theorem leap_any (y : Int) (w : World) :
    Calls Tryd.prog 71 #[.int .i64 y] w fun e w' => e = .returned (.bool (leapB y)) ∧ w = w' := by
  rw [leap_tmod]
  go_enter Tryd.func71, Tryd.ntmps71
  go_wp2
  all_goals (go_ret; exact ⟨ret_bool (by simp [*]), rfl⟩)
theorem first_any (y : Int) (w : World) (h1 : 1 ≤ y) (h2 : y ≤ 10000) :
    Calls Tryd.prog 29 #[.int .i64 y] w fun e w' => e = .returned (.int .i64 (fst y)) ∧ w = w' := by
  go_enter Tryd.func29, Tryd.ntmps29
  go_wp2
  go_ret
  exact ⟨ret_int (by unfold fst; omega), rfl⟩
theorem year_any (y : Int) (w : World) :
   Calls Tryd.prog 70 #[.int .i64 y] w fun e w' => e = .returned (.bool (decide (1899 ≤ y ∧ y ≤ 2100))) ∧ w = w' := by
 go_enter Tryd.func70, Tryd.ntmps70
 go_wp2
 all_goals (go_ret; exact ⟨ret_bool (by first | (simp [*]; done) | (simp [*]; omega)), rfl⟩)
theorem ahead_any (y m : Int) (w : World) (hT : Tab w) (h1 : 1 ≤ m) (h2 : m ≤ 12) :
    Calls Tryd.prog 30 #[.int .i64 y, .int .i64 m] w fun e w' => e = .returned (.int .i64 (ah y m)) ∧ w = w' := by
  obtain ⟨k, rfl⟩ : ∃ k : Nat, m = k + 1 := ⟨(m - 1).toNat, by omega⟩
  have hc := hT.1 k (by omega)
  have hb := mon_bd k
  unfold ah
  rw [show ((k : Int) + 1).toNat - 1 = k from by omega]
  by_cases h3 : (2 : Int) < k + 1
  · go_enter Tryd.func30, Tryd.ntmps30
    go_wp2_with (go_at_call 71; refine (leap_any _ _).mono ?_; rintro e w' ⟨rfl, rfl⟩)
    all_goals (go_ret; exact ⟨ret_int (by simp [*]), rfl⟩)
  · go_enter Tryd.func30, Tryd.ntmps30
    go_wp2_with (go_at_call 71; refine (leap_any _ _).mono ?_; rintro e w' ⟨rfl, rfl⟩)
    all_goals (go_ret; exact ⟨ret_int (by simp [*]), rfl⟩)
theorem days_bad (y m : Int) (w : World) (h : ¬ (1899 ≤ y ∧ y ≤ 2100 ∧ 1 ≤ m ∧ m ≤ 12)) :
    Calls Tryd.prog 28 #[.int .i64 y, .int .i64 m] w fun e w' => e = .returned (.tuple #[.int .i64 0, .int .i64 2]) ∧ w = w' := by
  by_cases hy : 1899 ≤ y ∧ y ≤ 2100
  · have hd : decide (1899 ≤ y ∧ y ≤ 2100) = true := by simpa using hy
    by_cases h3 : m < 1
    · go_enter Tryd.func28, Tryd.ntmps28
      go_wp2_with (go_at_call 70; refine (year_any _ _).mono ?_; rintro e w' ⟨rfl, rfl⟩)
      go_ret2
      exact ⟨rfl, rfl⟩
    · have h4 : 12 < m := by omega
      go_enter Tryd.func28, Tryd.ntmps28
      go_wp2_with (go_at_call 70; refine (year_any _ _).mono ?_; rintro e w' ⟨rfl, rfl⟩)
      go_ret2
      exact ⟨rfl, rfl⟩
  · have hd : decide (1899 ≤ y ∧ y ≤ 2100) = false := by simpa using hy
    clear hy h
    go_enter Tryd.func28, Tryd.ntmps28
    go_wp2_with (go_at_call 70; refine (year_any _ _).mono ?_; rintro e w' ⟨rfl, rfl⟩)
    go_ret2
    exact ⟨rfl, rfl⟩
theorem days_ok (y m : Int) (w : World) (hT : Tab w) (h1 : 1899 ≤ y) (h2 : y ≤ 2100) (h3 : 1 ≤ m) (h4 : m ≤ 12) :
    Calls Tryd.prog 28 #[.int .i64 y, .int .i64 m] w fun e w' => e = .returned (.tuple #[.int .i64 (dim y m), .int .i64 0]) ∧ ∃ n, w' = w.drewN n := by
  have hd : decide (1899 ≤ y ∧ y ≤ 2100) = true := by simp; omega
  obtain ⟨k, rfl⟩ : ∃ k : Nat, m = k + 1 := ⟨(m - 1).toNat, by omega⟩
  have hc := hT.1 k (by omega)
  have hc1 := hT.1 (k + 1) (by omega)
  have hb := mon_bd k
  have hb1 := mon_bd (k + 1)
  have hf : dim y (k + 1) = mon (k + 1) - mon k + if ((k : Int) + 1 == 2 && leapB y) = true then 1 else 0 := by
    unfold dim
    rw [show ((k : Int) + 1).toNat = k + 1 from by omega, show k + 1 - 1 = k from by omega]
    simp
  have HF := Lib.hid hf
  clear hf
  go_enter Tryd.func28, Tryd.ntmps28
  go_wp2_with (go_at_call 70; refine (year_any _ _).mono ?_; rintro e w' ⟨rfl, rfl⟩)
  go_quiet (fail)
  go_wp2_with (go_at_call 71; refine (leap_any _ _).mono ?_; rintro e w' ⟨rfl, rfl⟩)
  all_goals (go_ret2; exact ⟨ret_i2 (by rw [HF.out]; simp [*]) rfl, _, rfl⟩)
theorem weekday_any (n : Int) (w : World) (h1 : -2199023255552 ≤ n) (h2 : n ≤ 2199023255552) :
    Calls Tryd.prog 112 #[.int .i64 n] w fun e w' => e = .returned (.int .i64 (wd n)) ∧ w = w' := by
  have hb := tmod7 (n + 4)
  go_enter Tryd.func112, Tryd.ntmps112
  go_wp2
  go_ret
  exact ⟨ret_int (wd_a n), rfl⟩
end Go.Proofs.YtdpbedkppomffaaDoor
namespace Go.Proofs.YtdpbedkppomffaaDoor
set_option linter.unusedVariables false
set_option linter.unusedSimpArgs false
open Go.ChangeShapes Go.WideShapes Go.ChangeAt Go.RowKit Civ

theorem daysto_any (y m : Int) (w : World) (h1 : 1899 ≤ y) (h2 : y ≤ 2100) (h3 : 1 ≤ m) (h4 : m ≤ 12) :
    Calls Tryd.prog 136 #[.int .i64 y, .int .i64 m] w fun e w' => e = .returned (.int .i64 (fst y + ah y m)) ∧ w = w' := by
  have hb := fst_bd y (by omega) (by omega)
  have hlast : ∀ k : Int, 1 ≤ k → k ≤ 12 → 0 ≤ ah y k ∧ ah y k ≤ 366 := fun k a b => ah_bd y k a (by omega)
  have HL := Lib.hid hlast
  clear hlast
  go_enter Tryd.func136, Tryd.ntmps136
  go_wp2
  go_loop [5, 6] (fun n k => ∃ i : Int, 1970 ≤ i ∧ (i = 1970 ∨ i ≤ y) ∧ k = .int .i64 i ∧ n = .int .i64 (fst i)) (fun _ k => (2100 - intOf k).toNat)
  case atStart => exact ⟨1970, by omega, .inl rfl, rfl, by rw [fst_1970]⟩
  case round =>
    obtain ⟨i, hi1, hi2, rfl, rfl⟩ := hrel
    have hs := fst_succ i
    have hl := lp_01 i
    have hbi := fst_bd i (by omega) (by omega)
    have HS : Hid (fst (i + 1) = fst i + 365 + lp i) := hs
    clear hs
    by_cases hlt : i < y
    · go_wp2_with (go_at_call 159; refine (isleap_any _ _).mono ?_; rintro e w' ⟨rfl, rfl⟩)
      all_goals
        go_round
        case rel => exact ⟨i + 1, by omega, .inr (by omega), rfl, by rw [HS.out]; simp [lp, *]⟩
        case measure => simp [intOf]; omega
    · have hiy : i = 1970 ∧ y ≤ 1970 ∨ i = y := by omega
      go_wp2
      go_loop [5, 7] (fun n k => ∃ j : Int, y ≤ j ∧ (j = y ∨ j ≤ 1970) ∧ k = .int .i64 j ∧ n = .int .i64 (fst i + fst y - fst j)) (fun _ k => (1970 - intOf k).toNat)
      case atStart => exact ⟨y, by omega, .inl rfl, rfl, by rw [show fst i + fst y - fst y = fst i by omega]⟩
      case round =>
        obtain ⟨j, hj1, hj2, rfl, rfl⟩ := hrel
        have hs := fst_succ j
        have hlj := lp_01 j
        have hbj := fst_bd j (by omega) (by omega)
        have HJ : Hid (fst (j + 1) = fst j + 365 + lp j) := hs
        clear hs
        by_cases hltj : j < 1970
        · go_wp2_with (go_at_call 159; refine (isleap_any _ _).mono ?_; rintro e w' ⟨rfl, rfl⟩)
          all_goals
            go_round
            case rel => exact ⟨j + 1, by omega, .inr (by omega), rfl, by rw [HJ.out]; simp [lp, *]; try omega⟩
            case measure => simp [intOf]; omega
        · have hn : fst i + fst y - fst j = fst y := by
            rcases hiy with ⟨rfl, h⟩ | rfl
            · have : j = 1970 := by omega
              rw [this]; omega
            · rw [show j = i by omega]; omega
          rw [hn]
          clear hn hiy hbj HJ hlj hj2 hbi HS hl hi2
          go_wp2
          go_loop [5, 8] (fun n k => ∃ q : Int, 1 ≤ q ∧ q ≤ m ∧ k = .int .i64 q ∧ n = .int .i64 (fst y + ah y q)) (fun _ k => (12 - intOf k).toNat)
          case atStart => exact ⟨1, by omega, by omega, rfl, by rw [ah_one]; simp⟩
          case round =>
            obtain ⟨q, hq1, hq2, rfl, rfl⟩ := hrel
            have hbq := HL.out q hq1 (by omega)
            have hdq := dim_bd y q hq1 (by omega)
            by_cases hltq : q < m
            · have HQ := Lib.hid (ah_succ y q hq1 (by omega))
              go_wp2_with (go_at_call 135; refine (daysof_ok _ _ _ (by omega) (by omega) (by omega) (by omega)).mono ?_; rintro e w' ⟨rfl, rfl⟩)
              go_round
              case rel => exact ⟨q + 1, by omega, by omega, rfl, by rw [HQ.out, Int.add_assoc]⟩
              case measure => simp [intOf]; omega
            · go_wp2
              go_ret
              exact ⟨ret_int (by rw [show q = m by omega]), rfl⟩
theorem ends_ah : ah 1899 1 = 0 ∧ ah 2100 12 = 334 := by decide
def DateOfIs (n : Int) (w : World) (e : Ending) (w' : World) : Prop := ∃ y m d : Int, e = .returned (.tuple #[.int .i64 y, .int .i64 m, .int .i64 d, .int .i64 0]) ∧ numOk y m d ∧ num y m d = n ∧ w = w'
theorem dateof_end (n y m : Int) (a1 : fst y ≤ n) (a2 : n < fst (y + 1)) (b1 : 1899 ≤ y) (b2 : y ≤ 2100) (c1 : 1 ≤ m) (c2 : m ≤ 12) (d1 : fst y + ah y m ≤ n) (d2 : n < fst y + ah y (m + 1)) :
    numOk y m (n - (fst y + ah y m) + 1) ∧ num y m (n - (fst y + ah y m) + 1) = n := by
  rw [ah_succ y m c1 c2] at d2
  refine ⟨⟨b1, b2, c1, c2, by omega, by omega⟩, by unfold num; omega⟩
end Go.Proofs.YtdpbedkppomffaaDoor
namespace Go.Proofs.YtdpbedkppomffaaDoor
set_option linter.unusedVariables false
set_option linter.unusedSimpArgs false
open Go.ChangeShapes Go.WideShapes Go.ChangeAt Go.RowKit
open Civ

theorem winIn (w : World) : Calls Tryd.prog 32 #[] w fun e w' => e = .returned (.tuple #[.int .i64 (-2208988800), .int .i64 4102444800]) ∧ w = w' := by
  have h1 := fst_bd 1900 (by omega) (by omega)
  have h2 := fst_bd 2100 (by omega) (by omega)
  go_enter Tryd.func32, Tryd.ntmps32
  go_wp2_with (go_at_call 29; refine (first_any _ _ (by omega) (by omega)).mono ?_; rintro e w' ⟨rfl, rfl⟩)
  go_ret2
  exact ⟨ret_i2 (by rw [fst_1900]; rfl) (by rw [fst_2100]; rfl), rfl⟩
end Go.Proofs.YtdpbedkppomffaaDoor
namespace Go.Proofs.YtdpbedkppomffaaDoor
set_option linter.unusedVariables false
set_option linter.unusedSimpArgs false
open Go.ChangeShapes Go.WideShapes Go.ChangeAt Go.RowKit

theorem len_flat {α : Type} {enc : α → List Value} {sz : Nat} (he : ∀ x, (enc x).length = sz) : ∀ (xs : List α), (xs.flatMap enc).length = xs.length * sz
  | [] => by simp
  | x :: xs => by rw [List.flatMap_cons, List.length_append, he, len_flat he xs, List.length_cons, Nat.succ_mul]; omega
/-- the cells that a slice reads, as one list. -/
theorem slAt_cells {α : Type} {w : World} {sz b off n cap : Nat} {R : List Value → α → Prop} {xs : List α} (h4 : ∀ (i : Nat) (h : i < xs.length), ∃ cs : List Value, cs.length = sz ∧ R cs xs[i] ∧ ∀ j, j < sz → w.cell? ⟨b, off + i * sz + j, none⟩ = cs[j]?) :
    ∃ C : Nat → List Value, (∀ i, (C i).length = sz) ∧ (∀ i (h : i < xs.length), R (C i) xs[i]) ∧ ∀ i, i < xs.length → ∀ j, j < sz → w.cell? ⟨b, off + i * sz + j, none⟩ = (C i)[j]? := by
  have hch : ∀ i, ∃ cs : List Value, cs.length = sz ∧ ∀ h : i < xs.length, R cs xs[i] ∧ ∀ j, j < sz → w.cell? ⟨b, off + i * sz + j, none⟩ = cs[j]? := fun i => by
    by_cases hi : i < xs.length
    · obtain ⟨cs, h1, h2, h3⟩ := h4 i hi
      exact ⟨cs, h1, fun _ => ⟨h2, h3⟩⟩
    · exact ⟨List.replicate sz (.int .i64 0), by simp, fun h => absurd h hi⟩
  obtain ⟨C, hC⟩ := Classical.axiomOfChoice hch
  exact ⟨C, fun i => (hC i).1, fun i h => ((hC i).2 h).1, fun i h => ((hC i).2 h).2⟩
theorem div_at {n sz j : Nat} (hs : 0 < sz) (h : j < n * sz) : ∃ i r, i < n ∧ r < sz ∧ j = i * sz + r :=
  ⟨j / sz, j % sz, Nat.div_lt_of_lt_mul (by rw [Nat.mul_comm]; exact h), Nat.mod_lt _ hs, by rw [Nat.mul_comm]; exact (Nat.div_add_mod j sz).symm⟩
theorem wpList_append_copy {P : Program} {w : World} {ops : Array Oper} {rest : List Oper} {o : Oper} {a : Act} {Q : Exit → Act → World → Prop} {α : Type} (hgd : o.guard = none) (s x : Operand) (t : TypeId)
    (ho : o.op = .call { callee := .builtin .append, args := #[s, x], argTypes := #[t, t] })
    (e : TypeId) (i : TypeInfo) (z : Value) (size bytes : Nat) (ht : P.underlying t = some (.slice e)) (hi : P.info? e = some i) (hz : i.zero = some z)
    (hsize : i.size = size) (hby : i.bytes = bytes) (hzs : z.cells.size = size) (hsz : 0 < size) (hs : a.eval s = .slice none 0 0)
    (v : Value) (xs : List α) (R : List Value → α → Prop) (hx : a.eval x = v) (hv : SlAt w size R v xs) (hnil : ∀ n cap, v = .slice none n cap → cap = 0)
    (h1 : ∀ cs y, R cs y → ∀ u ∈ cs, u.oneCell' = true) (h63 : xs.length ≤ maxLen) (hbytes : xs.length * bytes ≤ 140737488355328)
    (h : ∀ v' w', SlAt w' size R v' xs → Below w.heap.size w w' → wpList P ops Q rest (a.put o.dst v') w') : wpList P ops Q (o :: rest) a w := by
  rcases hv with ⟨ad, cap, rfl, rfl⟩ | ⟨b, off, cap, rfl, h0, hc, hm, hb, h4⟩
  · cases ad with
    | none =>
      obtain rfl := hnil _ _ rfl
      exact wpList_append_own_none hgd s x t ho w.heap.size e i size ht hi _ 0 [] hs (World.ownsRow_nil _ _ _ _) hx (h _ _ (.inl ⟨none, 0, rfl, rfl⟩) (Below.refl _ _))
    | some ad =>
      refine wpList_append_own w hgd s x t ho w.heap.size e i z size bytes ht hi hz hsize hby hzs hsz _ 0 [] hs (World.ownsRow_nil _ _ _ _) ad 0 cap [] hx (by simp) (by simp) (by simp) (by simp [maxLen]) (by simp) (Nat.le_refl _) ?_
      intro v' w' hown hg _
      obtain ⟨a2, c2, rfl⟩ := own_shape hown
      exact h _ _ (.inl ⟨a2, c2, rfl, rfl⟩) ((Below.refl _ _).grown hg (Nat.le_refl _) (fun k hk => by simp [Value.ownBlock] at hk))
  · obtain ⟨C, hC1, hC2, hC3⟩ := slAt_cells (n := 0) (cap := 0) h4
    have hl : ((List.range xs.length).flatMap C).length = xs.length * size := by rw [len_flat hC1, List.length_range]
    have hat : ∀ i r, i < xs.length → r < size → ((List.range xs.length).flatMap C)[i * size + r]? = (C i)[r]? := fun i r hi hr => by
      have := flat_at hC1 (List.range xs.length) i r (by simpa using hi) hr
      simpa using this
    refine wpList_append_own w hgd s x t ho w.heap.size e i z size bytes ht hi hz hsize hby hzs hsz _ 0 [] hs (World.ownsRow_nil _ _ _ _) ⟨b, off, none⟩ xs.length cap ((List.range xs.length).flatMap C) hx hl ?_ ?_ (by rw [Nat.zero_add]; exact h63) (by rw [Nat.zero_add]; exact hbytes) (Nat.le_refl _) ?_
    · intro j u hj
      have hjl : j < xs.length * size := by rw [← hl]; exact (List.getElem?_eq_some_iff.1 hj).1
      obtain ⟨i, r, hi, hr, rfl⟩ := div_at hsz hjl
      rw [hat i r hi hr] at hj
      rw [add_one_, ← Nat.add_assoc, hC3 i hi r hr]
      exact hj
    · intro u hu
      obtain ⟨i, hi, hu⟩ := List.mem_flatMap.1 hu
      exact h1 _ _ (hC2 i (by simpa using hi)) u hu
    · intro v' w' hown hg _
      rw [Nat.zero_add, List.nil_append] at hown
      refine h _ _ ?_ ((Below.refl _ _).grown hg (Nat.le_refl _) (fun k hk => by simp [Value.ownBlock] at hk))
      have hown' := hown
      obtain ⟨_, h2⟩ := hown'
      rcases h2 with ⟨_, e0⟩ | ⟨g, cap', cur, rfl, hgb, hh, hcc, hmm, _⟩
      · omega
      · have hg' : g < w'.heap.size := by
          rcases Nat.lt_or_ge g w'.heap.size with q | q
          · exact q
          · rw [Array.getElem?_eq_none q] at hh; cases hh
        refine .inr ⟨g, 0, cap', rfl, h0, hcc, hmm, hg', fun i hi => ⟨C i, hC1 i, hC2 i hi, fun j hj => ?_⟩⟩
        have hlt : i * size + j < xs.length * size := by
          have : (i + 1) * size ≤ xs.length * size := Nat.mul_le_mul_right _ hi
          rw [Nat.succ_mul] at this
          omega
        rw [Nat.zero_add, hown.cellAt _ hlt]
        exact hat i j hi hj
end Go.Proofs.YtdpbedkppomffaaDoor
