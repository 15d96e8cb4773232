/-
  The table of months, as the program's variable holds it. What the functions of package civil answer. What the document's functions on the numbers of days answer. The window. append(nil, xs...): a copy in new memory.
  What the functions of package civil on days of a month and moments answer.
  What the functions of package civil on days that are told answer.
  What the function of package civil on instants answers.
  What the document's functions on days that are told and on instants answer.
-/
import Derived.Lib.LaidTab
import Derived.Deep.Light
import Derived.Test.YtdpbedkppomffaaGreatDoorBase
import Derived.Test.YtdpbedkppomffaaGreatDoorTreeT
namespace Go.Proofs.YtdpbedkppomffaaGreatDoor
set_option linter.unusedVariables false
set_option linter.unusedSimpArgs false
open Go.ChangeShapes Go.WideShapes Go.ChangeAt Go.RowKit Civ

/-- the months' variable holds the table. -/
def Tab (w : World) : Prop := (∀ i : Nat, i < 13 → w.cell? ⟨1, i, none⟩ = some (.int .i64 (mon i))) ∧ 1 < w.heap.size
theorem Tab.below {w w' : World} (h : Tab w) (hb : Below w.heap.size w w') : Tab w' :=
  ⟨fun i hi => by rw [hb.cell (p := ⟨_, _, none⟩) h.2]; exact h.1 i hi, Nat.lt_of_lt_of_le h.2 hb.size⟩
theorem Tab.drewN {w : World} (h : Tab w) (n : Nat) : Tab (w.drewN n) := h.below (below_draws (Below.refl _ _) n)
theorem Tab.alloc {w : World} (h : Tab w) (o : Obj) : Tab (w.alloc o) := h.below ((Below.refl _ _).alloc (Nat.le_refl _) o)
end Go.Proofs.YtdpbedkppomffaaGreatDoor
namespace Go.Proofs.YtdpbedkppomffaaGreatDoor
set_option linter.unusedVariables false
set_option linter.unusedSimpArgs false
open Go.ChangeShapes Go.WideShapes Go.ChangeAt Go.RowKit Civ

theorem leap_any (y : Int) (w : World) :
    Calls Tryz.prog 169 #[.int .i64 y] w fun e w' => e = .returned (.bool (leapB y)) ∧ w = w' := by
  rw [leap_tmod]
  go_enter Tryz.func169, Tryz.ntmps169
  go_wp2
  all_goals (go_ret; exact ⟨ret_bool (by simp [*]), rfl⟩)
theorem first_any (y : Int) (w : World) (h1 : 1 ≤ y) (h2 : y ≤ 10000) :
    Calls Tryz.prog 61 #[.int .i64 y] w fun e w' => e = .returned (.int .i64 (fst y)) ∧ w = w' := by
  go_enter Tryz.func61, Tryz.ntmps61
  go_wp2
  go_ret
  exact ⟨ret_int (by unfold fst; omega), rfl⟩
theorem year_any (y : Int) (w : World) :
   Calls Tryz.prog 168 #[.int .i64 y] w fun e w' => e = .returned (.bool (decide (1899 ≤ y ∧ y ≤ 2100))) ∧ w = w' := by
 go_enter Tryz.func168, Tryz.ntmps168
 go_wp2
 all_goals (go_ret; exact ⟨ret_bool (by first | (simp [*]; done) | (simp [*]; omega)), rfl⟩)
theorem ahead_any (y m : Int) (w : World) (hT : Tab w) (h1 : 1 ≤ m) (h2 : m ≤ 12) :
    Calls Tryz.prog 125 #[.int .i64 y, .int .i64 m] w fun e w' => e = .returned (.int .i64 (ah y m)) ∧ w = w' := by
  obtain ⟨k, rfl⟩ : ∃ k : Nat, m = k + 1 := ⟨(m - 1).toNat, by omega⟩
  have hc := hT.1 k (by omega)
  have hb := mon_bd k
  unfold ah
  rw [show ((k : Int) + 1).toNat - 1 = k from by omega]
  by_cases h3 : (2 : Int) < k + 1
  · go_enter Tryz.func125, Tryz.ntmps125
    go_wp2_with (go_at_call 169; refine (leap_any _ _).mono ?_; rintro e w' ⟨rfl, rfl⟩)
    all_goals (go_ret; exact ⟨ret_int (by simp [*]), rfl⟩)
  · go_enter Tryz.func125, Tryz.ntmps125
    go_wp2_with (go_at_call 169; refine (leap_any _ _).mono ?_; rintro e w' ⟨rfl, rfl⟩)
    all_goals (go_ret; exact ⟨ret_int (by simp [*]), rfl⟩)
theorem days_bad (y m : Int) (w : World) (h : ¬ (1899 ≤ y ∧ y ≤ 2100 ∧ 1 ≤ m ∧ m ≤ 12)) :
    Calls Tryz.prog 124 #[.int .i64 y, .int .i64 m] w fun e w' => e = .returned (.tuple #[.int .i64 0, .int .i64 2]) ∧ w = w' := by
  by_cases hy : 1899 ≤ y ∧ y ≤ 2100
  · have hd : decide (1899 ≤ y ∧ y ≤ 2100) = true := by simpa using hy
    by_cases h3 : m < 1
    · go_enter Tryz.func124, Tryz.ntmps124
      go_wp2_with (go_at_call 168; refine (year_any _ _).mono ?_; rintro e w' ⟨rfl, rfl⟩)
      go_ret2
      exact ⟨rfl, rfl⟩
    · have h4 : 12 < m := by omega
      go_enter Tryz.func124, Tryz.ntmps124
      go_wp2_with (go_at_call 168; refine (year_any _ _).mono ?_; rintro e w' ⟨rfl, rfl⟩)
      go_ret2
      exact ⟨rfl, rfl⟩
  · have hd : decide (1899 ≤ y ∧ y ≤ 2100) = false := by simpa using hy
    clear hy h
    go_enter Tryz.func124, Tryz.ntmps124
    go_wp2_with (go_at_call 168; refine (year_any _ _).mono ?_; rintro e w' ⟨rfl, rfl⟩)
    go_ret2
    exact ⟨rfl, rfl⟩
theorem days_ok (y m : Int) (w : World) (hT : Tab w) (h1 : 1899 ≤ y) (h2 : y ≤ 2100) (h3 : 1 ≤ m) (h4 : m ≤ 12) :
    Calls Tryz.prog 124 #[.int .i64 y, .int .i64 m] w fun e w' => e = .returned (.tuple #[.int .i64 (dim y m), .int .i64 0]) ∧ ∃ n, w' = w.drewN n := by
  have hd : decide (1899 ≤ y ∧ y ≤ 2100) = true := by simp; omega
  obtain ⟨k, rfl⟩ : ∃ k : Nat, m = k + 1 := ⟨(m - 1).toNat, by omega⟩
  have hc := hT.1 k (by omega)
  have hc1 := hT.1 (k + 1) (by omega)
  have hb := mon_bd k
  have hb1 := mon_bd (k + 1)
  have hf : dim y (k + 1) = mon (k + 1) - mon k + if ((k : Int) + 1 == 2 && leapB y) = true then 1 else 0 := by
    unfold dim
    rw [show ((k : Int) + 1).toNat = k + 1 from by omega, show k + 1 - 1 = k from by omega]
    simp
  have HF := Lib.hid hf
  clear hf
  go_enter Tryz.func124, Tryz.ntmps124
  go_wp2_with (go_at_call 168; refine (year_any _ _).mono ?_; rintro e w' ⟨rfl, rfl⟩)
  go_quiet (fail)
  go_wp2_with (go_at_call 169; refine (leap_any _ _).mono ?_; rintro e w' ⟨rfl, rfl⟩)
  all_goals (go_ret2; exact ⟨ret_i2 (by rw [HF.out]; simp [*]) rfl, _, rfl⟩)
theorem weekday_any (n : Int) (w : World) (h1 : -2199023255552 ≤ n) (h2 : n ≤ 2199023255552) :
    Calls Tryz.prog 126 #[.int .i64 n] w fun e w' => e = .returned (.int .i64 (wd n)) ∧ w = w' := by
  have hb := tmod7 (n + 4)
  go_enter Tryz.func126, Tryz.ntmps126
  go_wp2
  go_ret
  exact ⟨ret_int (wd_a n), rfl⟩
end Go.Proofs.YtdpbedkppomffaaGreatDoor
namespace Go.Proofs.YtdpbedkppomffaaGreatDoor
set_option linter.unusedVariables false
set_option linter.unusedSimpArgs false
open Go.ChangeShapes Go.WideShapes Go.ChangeAt Go.RowKit Civ

theorem daysto_any (y m : Int) (w : World) (h1 : 1899 ≤ y) (h2 : y ≤ 2100) (h3 : 1 ≤ m) (h4 : m ≤ 12) :
    Calls Tryz.prog 75 #[.int .i64 y, .int .i64 m] w fun e w' => e = .returned (.int .i64 (fst y + ah y m)) ∧ w = w' := by
  have hb := fst_bd y (by omega) (by omega)
  have hlast : ∀ k : Int, 1 ≤ k → k ≤ 12 → 0 ≤ ah y k ∧ ah y k ≤ 366 := fun k a b => ah_bd y k a (by omega)
  have HL := Lib.hid hlast
  clear hlast
  go_enter Tryz.func75, Tryz.ntmps75
  go_wp2
  go_loop [5, 6] (fun n k => ∃ i : Int, 1970 ≤ i ∧ (i = 1970 ∨ i ≤ y) ∧ k = .int .i64 i ∧ n = .int .i64 (fst i)) (fun _ k => (2100 - intOf k).toNat)
  case atStart => exact ⟨1970, by omega, .inl rfl, rfl, by rw [fst_1970]⟩
  case round =>
    obtain ⟨i, hi1, hi2, rfl, rfl⟩ := hrel
    have hs := fst_succ i
    have hl := lp_01 i
    have hbi := fst_bd i (by omega) (by omega)
    have HS : Hid (fst (i + 1) = fst i + 365 + lp i) := hs
    clear hs
    by_cases hlt : i < y
    · go_wp2_with (go_at_call 132; refine (isleap_any _ _).mono ?_; rintro e w' ⟨rfl, rfl⟩)
      all_goals
        go_round
        case rel => exact ⟨i + 1, by omega, .inr (by omega), rfl, by rw [HS.out]; simp [lp, *]⟩
        case measure => simp [intOf]; omega
    · have hiy : i = 1970 ∧ y ≤ 1970 ∨ i = y := by omega
      go_wp2
      go_loop [5, 7] (fun n k => ∃ j : Int, y ≤ j ∧ (j = y ∨ j ≤ 1970) ∧ k = .int .i64 j ∧ n = .int .i64 (fst i + fst y - fst j)) (fun _ k => (1970 - intOf k).toNat)
      case atStart => exact ⟨y, by omega, .inl rfl, rfl, by rw [show fst i + fst y - fst y = fst i by omega]⟩
      case round =>
        obtain ⟨j, hj1, hj2, rfl, rfl⟩ := hrel
        have hs := fst_succ j
        have hlj := lp_01 j
        have hbj := fst_bd j (by omega) (by omega)
        have HJ : Hid (fst (j + 1) = fst j + 365 + lp j) := hs
        clear hs
        by_cases hltj : j < 1970
        · go_wp2_with (go_at_call 132; refine (isleap_any _ _).mono ?_; rintro e w' ⟨rfl, rfl⟩)
          all_goals
            go_round
            case rel => exact ⟨j + 1, by omega, .inr (by omega), rfl, by rw [HJ.out]; simp [lp, *]; try omega⟩
            case measure => simp [intOf]; omega
        · have hn : fst i + fst y - fst j = fst y := by
            rcases hiy with ⟨rfl, h⟩ | rfl
            · have : j = 1970 := by omega
              rw [this]; omega
            · rw [show j = i by omega]; omega
          rw [hn]
          clear hn hiy hbj HJ hlj hj2 hbi HS hl hi2
          go_wp2
          go_loop [5, 8] (fun n k => ∃ q : Int, 1 ≤ q ∧ q ≤ m ∧ k = .int .i64 q ∧ n = .int .i64 (fst y + ah y q)) (fun _ k => (12 - intOf k).toNat)
          case atStart => exact ⟨1, by omega, by omega, rfl, by rw [ah_one]; simp⟩
          case round =>
            obtain ⟨q, hq1, hq2, rfl, rfl⟩ := hrel
            have hbq := HL.out q hq1 (by omega)
            have hdq := dim_bd y q hq1 (by omega)
            by_cases hltq : q < m
            · have HQ := Lib.hid (ah_succ y q hq1 (by omega))
              go_wp2_with (go_at_call 133; refine (daysof_ok _ _ _ (by omega) (by omega) (by omega) (by omega)).mono ?_; rintro e w' ⟨rfl, rfl⟩)
              go_round
              case rel => exact ⟨q + 1, by omega, by omega, rfl, by rw [HQ.out, Int.add_assoc]⟩
              case measure => simp [intOf]; omega
            · go_wp2
              go_ret
              exact ⟨ret_int (by rw [show q = m by omega]), rfl⟩
theorem ends_ah : ah 1899 1 = 0 ∧ ah 2100 12 = 334 := by decide
def DateOfIs (n : Int) (w : World) (e : Ending) (w' : World) : Prop := ∃ y m d : Int, e = .returned (.tuple #[.int .i64 y, .int .i64 m, .int .i64 d, .int .i64 0]) ∧ numOk y m d ∧ num y m d = n ∧ w = w'
theorem dateof_end (n y m : Int) (a1 : fst y ≤ n) (a2 : n < fst (y + 1)) (b1 : 1899 ≤ y) (b2 : y ≤ 2100) (c1 : 1 ≤ m) (c2 : m ≤ 12) (d1 : fst y + ah y m ≤ n) (d2 : n < fst y + ah y (m + 1)) :
    numOk y m (n - (fst y + ah y m) + 1) ∧ num y m (n - (fst y + ah y m) + 1) = n := by
  rw [ah_succ y m c1 c2] at d2
  refine ⟨⟨b1, b2, c1, c2, by omega, by omega⟩, by unfold num; omega⟩
end Go.Proofs.YtdpbedkppomffaaGreatDoor
namespace Go.Proofs.YtdpbedkppomffaaGreatDoor
set_option linter.unusedVariables false
set_option linter.unusedSimpArgs false
open Go.ChangeShapes Go.WideShapes Go.ChangeAt Go.RowKit
open Civ

theorem winIn (w : World) : Calls Tryz.prog 20 #[] w fun e w' => e = .returned (.tuple #[.int .i64 (-2208988800), .int .i64 4102444800]) ∧ w = w' := by
  have h1 := fst_bd 1900 (by omega) (by omega)
  have h2 := fst_bd 2100 (by omega) (by omega)
  go_enter Tryz.func20, Tryz.ntmps20
  go_wp2_with (go_at_call 61; refine (first_any _ _ (by omega) (by omega)).mono ?_; rintro e w' ⟨rfl, rfl⟩)
  go_ret2
  exact ⟨ret_i2 (by rw [fst_1900]; rfl) (by rw [fst_2100]; rfl), rfl⟩
theorem winOf (w : World) : Calls Tryz.prog 28 #[] w fun e w' => e = .returned (.tuple #[.int .i64 (-2208988800), .int .i64 4102444800]) ∧ w = w' := by
  have h1 := fst_bd 1900 (by omega) (by omega)
  have h2 := fst_bd 2100 (by omega) (by omega)
  have h3 := ah_bd 1900 1 (by omega) (by omega)
  have h4 := ah_bd 2100 1 (by omega) (by omega)
  go_enter Tryz.func28, Tryz.ntmps28
  go_wp2_with (go_at_call 75; refine (daysto_any _ _ _ (by omega) (by omega) (by omega) (by omega)).mono ?_; rintro e w' ⟨rfl, rfl⟩)
  go_ret2
  exact ⟨ret_i2 (by rw [fst_1900, ah_one]; rfl) (by rw [fst_2100, ah_one]; rfl), rfl⟩
end Go.Proofs.YtdpbedkppomffaaGreatDoor
namespace Go.Proofs.YtdpbedkppomffaaGreatDoor
set_option linter.unusedVariables false
set_option linter.unusedSimpArgs false
open Go.ChangeShapes Go.WideShapes Go.ChangeAt Go.RowKit

theorem len_flat {α : Type} {enc : α → List Value} {sz : Nat} (he : ∀ x, (enc x).length = sz) : ∀ (xs : List α), (xs.flatMap enc).length = xs.length * sz
  | [] => by simp
  | x :: xs => by rw [List.flatMap_cons, List.length_append, he, len_flat he xs, List.length_cons, Nat.succ_mul]; omega
/-- the cells that a slice reads, as one list. -/
theorem slAt_cells {α : Type} {w : World} {sz b off n cap : Nat} {R : List Value → α → Prop} {xs : List α} (h4 : ∀ (i : Nat) (h : i < xs.length), ∃ cs : List Value, cs.length = sz ∧ R cs xs[i] ∧ ∀ j, j < sz → w.cell? ⟨b, off + i * sz + j, none⟩ = cs[j]?) :
    ∃ C : Nat → List Value, (∀ i, (C i).length = sz) ∧ (∀ i (h : i < xs.length), R (C i) xs[i]) ∧ ∀ i, i < xs.length → ∀ j, j < sz → w.cell? ⟨b, off + i * sz + j, none⟩ = (C i)[j]? := by
  have hch : ∀ i, ∃ cs : List Value, cs.length = sz ∧ ∀ h : i < xs.length, R cs xs[i] ∧ ∀ j, j < sz → w.cell? ⟨b, off + i * sz + j, none⟩ = cs[j]? := fun i => by
    by_cases hi : i < xs.length
    · obtain ⟨cs, h1, h2, h3⟩ := h4 i hi
      exact ⟨cs, h1, fun _ => ⟨h2, h3⟩⟩
    · exact ⟨List.replicate sz (.int .i64 0), by simp, fun h => absurd h hi⟩
  obtain ⟨C, hC⟩ := Classical.axiomOfChoice hch
  exact ⟨C, fun i => (hC i).1, fun i h => ((hC i).2 h).1, fun i h => ((hC i).2 h).2⟩
theorem div_at {n sz j : Nat} (hs : 0 < sz) (h : j < n * sz) : ∃ i r, i < n ∧ r < sz ∧ j = i * sz + r :=
  ⟨j / sz, j % sz, Nat.div_lt_of_lt_mul (by rw [Nat.mul_comm]; exact h), Nat.mod_lt _ hs, by rw [Nat.mul_comm]; exact (Nat.div_add_mod j sz).symm⟩
theorem wpList_append_copy {P : Program} {w : World} {ops : Array Oper} {rest : List Oper} {o : Oper} {a : Act} {Q : Exit → Act → World → Prop} {α : Type} (hgd : o.guard = none) (s x : Operand) (t : TypeId)
    (ho : o.op = .call { callee := .builtin .append, args := #[s, x], argTypes := #[t, t] })
    (e : TypeId) (i : TypeInfo) (z : Value) (size bytes : Nat) (ht : P.underlying t = some (.slice e)) (hi : P.info? e = some i) (hz : i.zero = some z)
    (hsize : i.size = size) (hby : i.bytes = bytes) (hzs : z.cells.size = size) (hsz : 0 < size) (hs : a.eval s = .slice none 0 0)
    (v : Value) (xs : List α) (R : List Value → α → Prop) (hx : a.eval x = v) (hv : SlAt w size R v xs) (hnil : ∀ n cap, v = .slice none n cap → cap = 0)
    (h1 : ∀ cs y, R cs y → ∀ u ∈ cs, u.oneCell' = true) (h63 : xs.length ≤ maxLen) (hbytes : xs.length * bytes ≤ 140737488355328)
    (h : ∀ v' w', SlAt w' size R v' xs → Below w.heap.size w w' → wpList P ops Q rest (a.put o.dst v') w') : wpList P ops Q (o :: rest) a w := by
  rcases hv with ⟨ad, cap, rfl, rfl⟩ | ⟨b, off, cap, rfl, h0, hc, hm, hb, h4⟩
  · cases ad with
    | none =>
      obtain rfl := hnil _ _ rfl
      exact wpList_append_own_none hgd s x t ho w.heap.size e i size ht hi _ 0 [] hs (World.ownsRow_nil _ _ _ _) hx (h _ _ (.inl ⟨none, 0, rfl, rfl⟩) (Below.refl _ _))
    | some ad =>
      refine wpList_append_own w hgd s x t ho w.heap.size e i z size bytes ht hi hz hsize hby hzs hsz _ 0 [] hs (World.ownsRow_nil _ _ _ _) ad 0 cap [] hx (by simp) (by simp) (by simp) (by simp [maxLen]) (by simp) (Nat.le_refl _) ?_
      intro v' w' hown hg _
      obtain ⟨a2, c2, rfl⟩ := own_shape hown
      exact h _ _ (.inl ⟨a2, c2, rfl, rfl⟩) ((Below.refl _ _).grown hg (Nat.le_refl _) (fun k hk => by simp [Value.ownBlock] at hk))
  · obtain ⟨C, hC1, hC2, hC3⟩ := slAt_cells (n := 0) (cap := 0) h4
    have hl : ((List.range xs.length).flatMap C).length = xs.length * size := by rw [len_flat hC1, List.length_range]
    have hat : ∀ i r, i < xs.length → r < size → ((List.range xs.length).flatMap C)[i * size + r]? = (C i)[r]? := fun i r hi hr => by
      have := flat_at hC1 (List.range xs.length) i r (by simpa using hi) hr
      simpa using this
    refine wpList_append_own w hgd s x t ho w.heap.size e i z size bytes ht hi hz hsize hby hzs hsz _ 0 [] hs (World.ownsRow_nil _ _ _ _) ⟨b, off, none⟩ xs.length cap ((List.range xs.length).flatMap C) hx hl ?_ ?_ (by rw [Nat.zero_add]; exact h63) (by rw [Nat.zero_add]; exact hbytes) (Nat.le_refl _) ?_
    · intro j u hj
      have hjl : j < xs.length * size := by rw [← hl]; exact (List.getElem?_eq_some_iff.1 hj).1
      obtain ⟨i, r, hi, hr, rfl⟩ := div_at hsz hjl
      rw [hat i r hi hr] at hj
      rw [add_one_, ← Nat.add_assoc, hC3 i hi r hr]
      exact hj
    · intro u hu
      obtain ⟨i, hi, hu⟩ := List.mem_flatMap.1 hu
      exact h1 _ _ (hC2 i (by simpa using hi)) u hu
    · intro v' w' hown hg _
      rw [Nat.zero_add, List.nil_append] at hown
      refine h _ _ ?_ ((Below.refl _ _).grown hg (Nat.le_refl _) (fun k hk => by simp [Value.ownBlock] at hk))
      have hown' := hown
      obtain ⟨_, h2⟩ := hown'
      rcases h2 with ⟨_, e0⟩ | ⟨g, cap', cur, rfl, hgb, hh, hcc, hmm, _⟩
      · omega
      · have hg' : g < w'.heap.size := by
          rcases Nat.lt_or_ge g w'.heap.size with q | q
          · exact q
          · rw [Array.getElem?_eq_none q] at hh; cases hh
        refine .inr ⟨g, 0, cap', rfl, h0, hcc, hmm, hg', fun i hi => ⟨C i, hC1 i, hC2 i hi, fun j hj => ?_⟩⟩
        have hlt : i * size + j < xs.length * size := by
          have : (i + 1) * size ≤ xs.length * size := Nat.mul_le_mul_right _ hi
          rw [Nat.succ_mul] at this
          omega
        rw [Nat.zero_add, hown.cellAt _ hlt]
        exact hat i j hi hj
end Go.Proofs.YtdpbedkppomffaaGreatDoor
namespace Go.Proofs.YtdpbedkppomffaaGreatDoor
set_option linter.unusedVariables false
set_option linter.unusedSimpArgs false
open Go.ChangeShapes Go.WideShapes Go.ChangeAt Go.RowKit Civ

set_option maxHeartbeats 1000000 in
theorem checkday_any (k a n : Int) (w : World) :
    Calls Tryz.prog 123 #[.agg #[.int .i64 k, .int .i64 a, .int .i64 n]] w fun e w' => e = .returned (.int .i64 (chk k a n)) ∧ Below w.heap.size w w' := by
  go_enter Tryz.func123, Tryz.ntmps123
  go_wp2
  all_goals
    go_ret
    refine ⟨ret_int ?_, (Below.refl _ _).alloc (Nat.le_refl _) _⟩
    go_light
    try simp only [beq_iff, beq_iff_eq, bne_iff_ne, bne_eq_false_iff_eq, ne_eq] at *
    unfold chk
    split <;> (try split) <;> omega
theorem checkmoment_any (mo k a n t c : Int) (w : World) :
    Calls Tryz.prog 119 #[.agg #[.int .i64 mo, .int .i64 k, .int .i64 a, .int .i64 n, .int .i64 t, .int .i64 c]] w fun e w' => e = .returned (.int .i64 (chkM mo k a n t c)) ∧ Below w.heap.size w w' := by
  by_cases h : chk k a n = 0
  · have hb : (chk k a n != 0) = false := by simp [h]
    have H := Lib.hid h
    clear h
    go_enter Tryz.func119, Tryz.ntmps119
    go_wp2_with fail
    refine (checkday_any _ _ _ _).mono ?_; rintro e w1 ⟨rfl, hb1⟩
    obtain ⟨hc, hf⟩ := bcell hb1
    go_wp2
    all_goals
      go_ret
      refine ⟨ret_int ?_, below_in hb1⟩
      go_light
      unfold chkM
      rw [if_neg (by rw [H.out]; simp)]
      clear hb1
      split <;> (try split) <;> omega
  · have hb : (chk k a n != 0) = true := by simp [h]
    have H := Lib.hid h
    clear h
    go_enter Tryz.func119, Tryz.ntmps119
    go_wp2_with fail
    refine (checkday_any _ _ _ _).mono ?_; rintro e w1 ⟨rfl, hb1⟩
    go_wp2
    go_ret
    refine ⟨ret_int ?_, below_in hb1⟩
    unfold chkM
    rw [if_pos H.out]
end Go.Proofs.YtdpbedkppomffaaGreatDoor
namespace Go.Proofs.YtdpbedkppomffaaGreatDoor
set_option linter.unusedVariables false
set_option linter.unusedSimpArgs false
open Go.ChangeShapes Go.WideShapes Go.ChangeAt Go.RowKit Civ

theorem checkday_ok (k a n : Int) (w : World) (h : chk k a n = 0) :
    Calls Tryz.prog 123 #[.agg #[.int .i64 k, .int .i64 a, .int .i64 n]] w fun e w' => e = .returned (.int .i64 0) ∧ Below w.heap.size w w' :=
  (checkday_any k a n w).mono fun e w' ⟨he, hb⟩ => ⟨by rw [he, h], hb⟩
theorem find_err (y m k a n : Int) (w : World) (hT : Tab w) (h : fndE y m k a n ≠ 0) :
    Calls Tryz.prog 66 #[.int .i64 y, .int .i64 m, .agg #[.int .i64 k, .int .i64 a, .int .i64 n]] w fun e w' => e = .returned (.tuple #[.int .i64 0, .int .i64 (fndE y m k a n)]) ∧ Below w.heap.size w w' := by
  by_cases hk : chk k a n = 0
  · have HK := Lib.hid hk
    by_cases hy : 1899 ≤ y ∧ y ≤ 2100 ∧ 1 ≤ m ∧ m ≤ 12
    · have hd : dim y m < n := by unfold fndE at h; simp [hk, hy] at h; omega
      have hE : Hid (fndE y m k a n = 2) := by show fndE y m k a n = 2; unfold fndE; simp [hk, hy, hd]
      obtain ⟨h1, h2, h3, h4⟩ := hy
      clear hk h
      go_enter Tryz.func66, Tryz.ntmps66
      go_wp2_with fail
      refine (checkday_ok _ _ _ _ HK.out).mono ?_; rintro e w1 ⟨rfl, hb1⟩
      obtain ⟨hc, hf⟩ := bcell hb1
      have hT1 : Tab w1 := (hT.alloc _).below hb1
      go_wp2_with fail
      refine (days_ok _ _ _ hT1 h1 h2 h3 h4).mono ?_; rintro e w' ⟨rfl, nn, rfl⟩
      go_wp2
      go_ret2
      exact ⟨by rw [hE.out]; rfl, below_draws (below_in hb1) _⟩
    · have hE : Hid (fndE y m k a n = 2) := by show fndE y m k a n = 2; unfold fndE; simp [hk, hy]
      have HY := Lib.hid hy
      clear hk h hy
      go_enter Tryz.func66, Tryz.ntmps66
      go_wp2_with fail
      refine (checkday_ok _ _ _ _ HK.out).mono ?_; rintro e w1 ⟨rfl, hb1⟩
      obtain ⟨hc, hf⟩ := bcell hb1
      go_wp2_with fail
      refine (days_bad _ _ _ HY.out).mono ?_; rintro e w' ⟨rfl, rfl⟩
      go_wp2
      go_ret2
      exact ⟨by rw [hE.out]; rfl, below_in hb1⟩
  · have hE : Hid (fndE y m k a n = chk k a n) := by show fndE y m k a n = chk k a n; unfold fndE; simp [hk]
    have hb : (chk k a n != 0) = true := by simp [hk]
    clear hk h
    go_enter Tryz.func66, Tryz.ntmps66
    go_wp2_with fail
    refine (checkday_any _ _ _ _).mono ?_; rintro e w1 ⟨rfl, hb1⟩
    go_wp2
    go_ret2
    exact ⟨by rw [hE.out]; rfl, below_in hb1⟩
set_option maxHeartbeats 400000 in
theorem find_ok (y m k a n : Int) (w : World) (hT : Tab w) (h : fndE y m k a n = 0) :
    Calls Tryz.prog 66 #[.int .i64 y, .int .i64 m, .agg #[.int .i64 k, .int .i64 a, .int .i64 n]] w fun e w' => e = .returned (.tuple #[.int .i64 (fnd y m k a n), .int .i64 0]) ∧ Below w.heap.size w w' := by
  obtain ⟨hk, h1, h2, h3, h4, h5⟩ := fndE_zero h
  obtain ⟨g1, g2, g3, g4, g5, g6, g7, g8⟩ := chk_zero hk
  have hd := dim_bd y m h3 h4
  have hb := fst_bd y (by omega) (by omega)
  have ha := ah_bd y m h3 (by omega)
  have HK := Lib.hid hk
  have H8 := Lib.hid g8
  clear hk h g7 g8
  have hw1 := wd_bd (fst y + ah y m - 1 + n)
  have hw2 := wd_bd (fst y + ah y m - 1 + dim y m)
  have hcase : k = 1 ∨ k = 2 ∨ k = 3 ∨ k = 4 := by omega
  rcases hcase with rfl | rfl | rfl | rfl
  all_goals
    go_enter Tryz.func66, Tryz.ntmps66
    go_wp2_with fail
    refine (checkday_ok _ _ _ _ HK.out).mono ?_; rintro e w1 ⟨rfl, hb1⟩
    obtain ⟨hc, hf⟩ := bcell hb1
    have hT1 : Tab w1 := (hT.alloc _).below hb1
    go_wp2_with fail
    refine (days_ok _ _ _ hT1 h1 h2 h3 h4).mono ?_; rintro e w' ⟨rfl, nn, rfl⟩
    go_wp2_with (first | (go_at_call 61; refine (first_any _ _ (by omega) (by omega)).mono ?_; rintro e w' ⟨rfl, rfl⟩) | (go_at_call 125; refine (ahead_any _ _ _ (hT1.drewN _) h3 h4).mono ?_; rintro e w' ⟨rfl, rfl⟩))
  · go_ret2
    exact ⟨ret_i2 (by simp [fnd]) rfl, below_draws (below_in hb1) _⟩
  all_goals
    go_quiet ((go_at_call 126; exact quiet_add_left (weekday_any _ _ (by omega) (by omega))))
    go_wp2
    go_ret2
    refine ⟨ret_i2 ?_ rfl, below_draws (below_draws (below_in hb1) _) _⟩
    go_light
    simp [fnd]
end Go.Proofs.YtdpbedkppomffaaGreatDoor
namespace Go.Proofs.YtdpbedkppomffaaGreatDoor
set_option linter.unusedVariables false
set_option linter.unusedSimpArgs false
open Go.ChangeShapes Go.WideShapes Go.ChangeAt Go.RowKit Civ

theorem checkmoment_ok (mo k a n t c : Int) (w : World) (h : chkM mo k a n t c = 0) :
    Calls Tryz.prog 119 #[.agg #[.int .i64 mo, .int .i64 k, .int .i64 a, .int .i64 n, .int .i64 t, .int .i64 c]] w fun e w' => e = .returned (.int .i64 0) ∧ Below w.heap.size w w' :=
  (checkmoment_any mo k a n t c w).mono fun e w' ⟨he, hb⟩ => ⟨by rw [he, h], hb⟩
theorem instant_err (y mo k a n t c o s : Int) (w : World) (hT : Tab w) (h : insE y mo k a n t c o s ≠ 0) :
    Calls Tryz.prog 63 #[.int .i64 y, .agg #[.int .i64 mo, .int .i64 k, .int .i64 a, .int .i64 n, .int .i64 t, .int .i64 c], .int .i64 o, .int .i64 s] w fun e w' => e = .returned (.tuple #[.int .i64 0, .int .i64 (insE y mo k a n t c o s)]) ∧ Below w.heap.size w w' := by
  by_cases hk : chkM mo k a n t c = 0
  · have HK := Lib.hid hk
    by_cases hy : -86400 ≤ o ∧ o ≤ 86400 ∧ -86400 ≤ s ∧ s ≤ 86400
    · have hE : Hid (insE y mo k a n t c o s = fndE y mo k a n) := by show insE y mo k a n t c o s = _; unfold insE; simp [hk, hy]
      rw [hE.out] at h
      have hb : (fndE y mo k a n != 0) = true := by simp [h]
      have H := Lib.hid h
      obtain ⟨h1, h2, h3, h4⟩ := hy
      clear hk h
      go_enter Tryz.func63, Tryz.ntmps63
      go_wp2_with fail
      refine (checkmoment_ok _ _ _ _ _ _ _ HK.out).mono ?_; rintro e w1 ⟨rfl, hb1⟩
      obtain ⟨hc, hf⟩ := bcell hb1
      have hT1 : Tab w1 := (hT.alloc _).below hb1
      go_wp2_with fail
      refine (find_err _ _ _ _ _ _ hT1 H.out).mono ?_; rintro e w2 ⟨rfl, hb2⟩
      go_wp2
      go_ret2
      exact ⟨by rw [hE.out]; rfl, below_two hb1 hb2⟩
    · have hE : Hid (insE y mo k a n t c o s = 2) := by show insE y mo k a n t c o s = _; unfold insE; simp [hk, hy]
      have hcase : o < -86400 ∨ (-86400 ≤ o ∧ 86400 < o) ∨ (-86400 ≤ o ∧ o ≤ 86400 ∧ s < -86400) ∨ (-86400 ≤ o ∧ o ≤ 86400 ∧ -86400 ≤ s ∧ 86400 < s) := by omega
      clear hk h hy
      rcases hcase with q1 | ⟨q1, q2⟩ | ⟨q1, q2, q3⟩ | ⟨q1, q2, q3, q4⟩
      all_goals
        go_enter Tryz.func63, Tryz.ntmps63
        go_wp2_with fail
        refine (checkmoment_ok _ _ _ _ _ _ _ HK.out).mono ?_; rintro e w1 ⟨rfl, hb1⟩
        obtain ⟨hc, hf⟩ := bcell hb1
        go_wp2
        go_ret2
        exact ⟨by rw [hE.out]; rfl, below_in hb1⟩
  · have hE : Hid (insE y mo k a n t c o s = chkM mo k a n t c) := by show insE y mo k a n t c o s = _; unfold insE; simp [hk]
    have hb : (chkM mo k a n t c != 0) = true := by simp [hk]
    clear hk h
    go_enter Tryz.func63, Tryz.ntmps63
    go_wp2_with fail
    refine (checkmoment_any _ _ _ _ _ _ _).mono ?_; rintro e w1 ⟨rfl, hb1⟩
    go_wp2
    go_ret2
    exact ⟨by rw [hE.out]; rfl, below_in hb1⟩
theorem instant_ok (y mo k a n t c o s : Int) (w : World) (hT : Tab w) (h : insE y mo k a n t c o s = 0) :
    Calls Tryz.prog 63 #[.int .i64 y, .agg #[.int .i64 mo, .int .i64 k, .int .i64 a, .int .i64 n, .int .i64 t, .int .i64 c], .int .i64 o, .int .i64 s] w fun e w' => e = .returned (.tuple #[.int .i64 (ins y mo k a n t c o s), .int .i64 0]) ∧ Below w.heap.size w w' := by
  obtain ⟨hk, h1, h2, h3, h4, h5⟩ := insE_zero h
  obtain ⟨g0, g1, g2, g3, g4, g5, g6⟩ := chkM_zero hk
  have hbd := fnd_bd y mo k a n h5
  have HK := Lib.hid hk
  have H5 := Lib.hid h5
  clear hk h5 h g0
  have hcase : c = 0 ∨ c = 1 ∨ c = 2 := by omega
  rcases hcase with rfl | rfl | rfl
  all_goals
    go_enter Tryz.func63, Tryz.ntmps63
    go_wp2_with fail
    refine (checkmoment_ok _ _ _ _ _ _ _ HK.out).mono ?_; rintro e w1 ⟨rfl, hb1⟩
    obtain ⟨hc, hf⟩ := bcell hb1
    have hT1 : Tab w1 := (hT.alloc _).below hb1
    have hz : w.heap.size < w1.heap.size := by have := hb1.size; simp at this; omega
    go_wp2_with fail
    refine (find_ok _ _ _ _ _ _ hT1 H5.out).mono ?_; rintro e w2 ⟨rfl, hb2⟩
    obtain ⟨hc2, hf2⟩ := bcell hb2
    go_wp2
    go_ret2
    exact ⟨ret_i2 (by simp [ins]) rfl, below_two hb1 hb2⟩
end Go.Proofs.YtdpbedkppomffaaGreatDoor
namespace Go.Proofs.YtdpbedkppomffaaGreatDoor
set_option linter.unusedVariables false
set_option linter.unusedSimpArgs false
open Go.ChangeShapes Go.WideShapes Go.ChangeAt Go.RowKit Civ

theorem dayfault_ok (k a n : Int) (w : World) (h : chk k a n = 0) :
    Calls Tryz.prog 153 #[.agg #[.int .i64 k, .int .i64 a, .int .i64 n]] w fun e w' => e = .returned (.int .i64 0) ∧ Below w.heap.size w w' :=
  (dayfault_any k a n w).mono fun e w' ⟨he, hb⟩ => ⟨by rw [he, h], hb⟩
theorem found_err (y m k a n : Int) (w : World) (h : fndE y m k a n ≠ 0) :
    Calls Tryz.prog 100 #[.int .i64 y, .int .i64 m, .agg #[.int .i64 k, .int .i64 a, .int .i64 n]] w fun e w' => e = .returned (.tuple #[.int .i64 0, .int .i64 (fndE y m k a n)]) ∧ Below w.heap.size w w' := by
  by_cases hk : chk k a n = 0
  · have HK := Lib.hid hk
    by_cases hy : 1899 ≤ y ∧ y ≤ 2100 ∧ 1 ≤ m ∧ m ≤ 12
    · have hd : dim y m < n := by unfold fndE at h; simp [hk, hy] at h; omega
      have hE : Hid (fndE y m k a n = 2) := by show fndE y m k a n = 2; unfold fndE; simp [hk, hy, hd]
      obtain ⟨h1, h2, h3, h4⟩ := hy
      clear hk h
      go_enter Tryz.func100, Tryz.ntmps100
      go_wp2_with fail
      refine (dayfault_ok _ _ _ _ HK.out).mono ?_; rintro e w1 ⟨rfl, hb1⟩
      obtain ⟨hc, hf⟩ := bcell hb1
      go_wp2_with fail
      refine (daysof_ok _ _ _ h1 h2 h3 h4).mono ?_; rintro e w' ⟨rfl, rfl⟩
      go_wp2
      go_ret2
      exact ⟨by rw [hE.out]; rfl, below_in hb1⟩
    · have hE : Hid (fndE y m k a n = 2) := by show fndE y m k a n = 2; unfold fndE; simp [hk, hy]
      have HY := Lib.hid hy
      clear hk h hy
      go_enter Tryz.func100, Tryz.ntmps100
      go_wp2_with fail
      refine (dayfault_ok _ _ _ _ HK.out).mono ?_; rintro e w1 ⟨rfl, hb1⟩
      obtain ⟨hc, hf⟩ := bcell hb1
      go_wp2_with fail
      refine (daysof_bad _ _ _ HY.out).mono ?_; rintro e w' ⟨rfl, rfl⟩
      go_wp2
      go_ret2
      exact ⟨by rw [hE.out]; rfl, below_in hb1⟩
  · have hE : Hid (fndE y m k a n = chk k a n) := by show fndE y m k a n = chk k a n; unfold fndE; simp [hk]
    have hb : (chk k a n != 0) = true := by simp [hk]
    clear hk h
    go_enter Tryz.func100, Tryz.ntmps100
    go_wp2_with fail
    refine (dayfault_any _ _ _ _).mono ?_; rintro e w1 ⟨rfl, hb1⟩
    go_wp2
    go_ret2
    exact ⟨by rw [hE.out]; rfl, below_in hb1⟩
set_option maxHeartbeats 800000 in
theorem found_ok (y m k a n : Int) (w : World) (h : fndE y m k a n = 0) :
    Calls Tryz.prog 100 #[.int .i64 y, .int .i64 m, .agg #[.int .i64 k, .int .i64 a, .int .i64 n]] w fun e w' => e = .returned (.tuple #[.int .i64 (fnd y m k a n), .int .i64 0]) ∧ Below w.heap.size w w' := by
  obtain ⟨hk, h1, h2, h3, h4, h5⟩ := fndE_zero h
  obtain ⟨g1, g2, g3, g4, g5, g6, g7, g8⟩ := chk_zero hk
  have hd := dim_bd y m h3 h4
  have hb := fst_bd y (by omega) (by omega)
  have ha := ah_bd y m h3 (by omega)
  have HK := Lib.hid hk
  clear hk h g7 g8
  have hcase : k = 1 ∨ k = 2 ∨ k = 3 ∨ k = 4 := by omega
  rcases hcase with rfl | rfl | rfl | rfl
  all_goals
    go_enter Tryz.func100, Tryz.ntmps100
    go_wp2_with fail
    refine (dayfault_ok _ _ _ _ HK.out).mono ?_; rintro e w1 ⟨rfl, hb1⟩
    obtain ⟨hc, hf⟩ := bcell hb1
    go_wp2_with fail
    refine (daysof_ok _ _ _ h1 h2 h3 h4).mono ?_; rintro e w' ⟨rfl, rfl⟩
    go_wp2
    go_quiet ((go_at_call 75; exact quiet_left (daysto_any _ _ _ h1 h2 h3 h4)))
    go_wp2_with (go_at_call 75; refine (daysto_any _ _ _ h1 h2 h3 h4).mono ?_; rintro e w' ⟨rfl, rfl⟩)
  · go_ret2
    exact ⟨ret_i2 (by simp [fnd]; try omega) rfl, below_draws (below_in hb1) _⟩
  · obtain ⟨N, hN⟩ : ∃ N : Int, N = fst y + ah y m + dim y m - 1 := ⟨_, rfl⟩
    rw [← hN]
    have hNb : -720000 ≤ N ∧ N ≤ 3700000 := by omega
    have HN := Lib.hid hN
    clear hN
    obtain ⟨J, hJ⟩ : ∃ J : Int, J = (wd N - a + 7) % 7 := ⟨_, rfl⟩
    have hJb : 0 ≤ J ∧ J ≤ 6 := by omega
    have HJ := Lib.hid hJ
    clear hJ hb ha hd
    go_loopw [10] (fun v wr => ∃ j : Int, 0 ≤ j ∧ j ≤ J ∧ v = .int .i64 (N + -j) ∧ ∃ q, wr = w1.drewN q) (fun v _ => (J - (intOf v - N)*(-1)).toNat)
    case atStart => exact ⟨0, by omega, by omega, by simp, _, rfl⟩
    case round =>
      obtain ⟨j, hj1, hj2, rfl, q, rfl⟩ := hrel
      have hiff := wd_down N a j g3 g4 hj1 (by rw [← HJ.out]; exact hj2)
      rw [← HJ.out] at hiff
      by_cases hjJ : j < J
      · have ht : (wd (N + -j) != a) = true := by
          rw [bne_iff_ne]; intro hh; have := hiff.1 hh; omega
        clear hiff
        go_wp2
        go_quiet ((go_at_call 154; exact quiet_add_left (weekdayof_any _ _ (by omega) (by omega))))
        go_wp2
        go_roundw
        case rel => exact ⟨j + 1, by omega, by omega, by go_num, _, rfl⟩
        case measure => simp [intOf]; omega
      · have hjj : j = J := by omega
        have ht : (wd (N + -j) != a) = false := by
          rw [bne_eq_false_iff_eq]; exact hiff.2 hjj
        have HJJ := Lib.hid hjj
        clear hiff hjj
        go_wp2
        go_quiet ((go_at_call 154; exact quiet_add_left (weekdayof_any _ _ (by omega) (by omega))))
        go_wp2
        go_ret2
        refine ⟨ret_i2 ?_ rfl, below_draws (below_draws (below_in hb1) _) _⟩
        go_light
        rw [HJJ.out, HJ.out]
        have hz := HN.out
        simp only [fnd]
        simp
        rw [show fst y + ah y m - 1 + dim y m = N by omega]; omega
  · obtain ⟨N, hN⟩ : ∃ N : Int, N = fst y + ah y m + n - 1 := ⟨_, rfl⟩
    rw [← hN]
    have hNb : -720000 ≤ N ∧ N ≤ 3700000 := by omega
    have HN := Lib.hid hN
    clear hN
    obtain ⟨J, hJ⟩ : ∃ J : Int, J = (a - wd N + 7) % 7 := ⟨_, rfl⟩
    have hJb : 0 ≤ J ∧ J ≤ 6 := by omega
    have HJ := Lib.hid hJ
    clear hJ hb ha hd
    go_loopw [10] (fun v wr => ∃ j : Int, 0 ≤ j ∧ j ≤ J ∧ v = .int .i64 (N + j) ∧ ∃ q, wr = w1.drewN q) (fun v _ => (J - (intOf v - N)*(1)).toNat)
    case atStart => exact ⟨0, by omega, by omega, by simp, _, rfl⟩
    case round =>
      obtain ⟨j, hj1, hj2, rfl, q, rfl⟩ := hrel
      have hiff := wd_up N a j g3 g4 hj1 (by rw [← HJ.out]; exact hj2)
      rw [← HJ.out] at hiff
      by_cases hjJ : j < J
      · have ht : (wd (N + j) != a) = true := by
          rw [bne_iff_ne]; intro hh; have := hiff.1 hh; omega
        clear hiff
        go_wp2
        go_quiet ((go_at_call 154; exact quiet_add_left (weekdayof_any _ _ (by omega) (by omega))))
        go_wp2
        go_roundw
        case rel => exact ⟨j + 1, by omega, by omega, by go_num, _, rfl⟩
        case measure => simp [intOf]; omega
      · have hjj : j = J := by omega
        have ht : (wd (N + j) != a) = false := by
          rw [bne_eq_false_iff_eq]; exact hiff.2 hjj
        have HJJ := Lib.hid hjj
        clear hiff hjj
        go_wp2
        go_quiet ((go_at_call 154; exact quiet_add_left (weekdayof_any _ _ (by omega) (by omega))))
        go_wp2
        go_ret2
        refine ⟨ret_i2 ?_ rfl, below_draws (below_draws (below_in hb1) _) _⟩
        go_light
        rw [HJJ.out, HJ.out]
        have hz := HN.out
        simp only [fnd]
        simp
        rw [show fst y + ah y m - 1 + n = N by omega]; try omega
  · obtain ⟨N, hN⟩ : ∃ N : Int, N = fst y + ah y m + n - 1 := ⟨_, rfl⟩
    rw [← hN]
    have hNb : -720000 ≤ N ∧ N ≤ 3700000 := by omega
    have HN := Lib.hid hN
    clear hN
    obtain ⟨J, hJ⟩ : ∃ J : Int, J = (wd N - a + 7) % 7 := ⟨_, rfl⟩
    have hJb : 0 ≤ J ∧ J ≤ 6 := by omega
    have HJ := Lib.hid hJ
    clear hJ hb ha hd
    go_loopw [10] (fun v wr => ∃ j : Int, 0 ≤ j ∧ j ≤ J ∧ v = .int .i64 (N + -j) ∧ ∃ q, wr = w1.drewN q) (fun v _ => (J - (intOf v - N)*(-1)).toNat)
    case atStart => exact ⟨0, by omega, by omega, by simp, _, rfl⟩
    case round =>
      obtain ⟨j, hj1, hj2, rfl, q, rfl⟩ := hrel
      have hiff := wd_down N a j g3 g4 hj1 (by rw [← HJ.out]; exact hj2)
      rw [← HJ.out] at hiff
      by_cases hjJ : j < J
      · have ht : (wd (N + -j) != a) = true := by
          rw [bne_iff_ne]; intro hh; have := hiff.1 hh; omega
        clear hiff
        go_wp2
        go_quiet ((go_at_call 154; exact quiet_add_left (weekdayof_any _ _ (by omega) (by omega))))
        go_wp2
        go_roundw
        case rel => exact ⟨j + 1, by omega, by omega, by go_num, _, rfl⟩
        case measure => simp [intOf]; omega
      · have hjj : j = J := by omega
        have ht : (wd (N + -j) != a) = false := by
          rw [bne_eq_false_iff_eq]; exact hiff.2 hjj
        have HJJ := Lib.hid hjj
        clear hiff hjj
        go_wp2
        go_quiet ((go_at_call 154; exact quiet_add_left (weekdayof_any _ _ (by omega) (by omega))))
        go_wp2
        go_ret2
        refine ⟨ret_i2 ?_ rfl, below_draws (below_draws (below_in hb1) _) _⟩
        go_light
        rw [HJJ.out, HJ.out]
        have hz := HN.out
        simp only [fnd]
        simp
        rw [show fst y + ah y m - 1 + n = N by omega]; omega
theorem momentfault_ok (mo k a n t c : Int) (w : World) (h : chkM mo k a n t c = 0) :
    Calls Tryz.prog 130 #[.agg #[.int .i64 mo, .int .i64 k, .int .i64 a, .int .i64 n, .int .i64 t, .int .i64 c]] w fun e w' => e = .returned (.int .i64 0) ∧ Below w.heap.size w w' :=
  (momentfault_any mo k a n t c w).mono fun e w' ⟨he, hb⟩ => ⟨by rw [he, h], hb⟩
theorem instantof_err (y mo k a n t c o s : Int) (w : World) (h : insE y mo k a n t c o s ≠ 0) :
    Calls Tryz.prog 99 #[.int .i64 y, .agg #[.int .i64 mo, .int .i64 k, .int .i64 a, .int .i64 n, .int .i64 t, .int .i64 c], .int .i64 o, .int .i64 s] w fun e w' => e = .returned (.tuple #[.int .i64 0, .int .i64 (insE y mo k a n t c o s)]) ∧ Below w.heap.size w w' := by
  by_cases hk : chkM mo k a n t c = 0
  · have HK := Lib.hid hk
    by_cases hy : -86400 ≤ o ∧ o ≤ 86400 ∧ -86400 ≤ s ∧ s ≤ 86400
    · have hE : Hid (insE y mo k a n t c o s = fndE y mo k a n) := by show insE y mo k a n t c o s = _; unfold insE; simp [hk, hy]
      rw [hE.out] at h
      have hb : (fndE y mo k a n != 0) = true := by simp [h]
      have H := Lib.hid h
      obtain ⟨h1, h2, h3, h4⟩ := hy
      have d1 : decide (-86400 ≤ o ∧ o ≤ 86400) = true := by simp; omega
      have d2 : decide (-86400 ≤ s ∧ s ≤ 86400) = true := by simp; omega
      clear hk h h1 h2 h3 h4
      go_enter Tryz.func99, Tryz.ntmps99
      go_wp2_with fail
      refine (momentfault_ok _ _ _ _ _ _ _ HK.out).mono ?_; rintro e w1 ⟨rfl, hb1⟩
      obtain ⟨hc, hf⟩ := bcell hb1
      go_wp2_with (first | (go_at_call 29; refine (in_any _ _ _ _).mono ?_; rintro e w' ⟨rfl, rfl⟩) | (go_at_call 100; refine (found_err _ _ _ _ _ _ H.out).mono ?_; rintro e w2 ⟨rfl, hb2⟩))
      go_ret2
      exact ⟨by rw [hE.out]; rfl, below_two hb1 hb2⟩
    · have hE : Hid (insE y mo k a n t c o s = 2) := by show insE y mo k a n t c o s = _; unfold insE; simp [hk, hy]
      have hcase : decide (-86400 ≤ o ∧ o ≤ 86400) = false ∨ (decide (-86400 ≤ o ∧ o ≤ 86400) = true ∧ decide (-86400 ≤ s ∧ s ≤ 86400) = false) := by simp; omega
      clear hk h hy
      rcases hcase with q1 | ⟨q1, q2⟩
      all_goals
        go_enter Tryz.func99, Tryz.ntmps99
        go_wp2_with fail
        refine (momentfault_ok _ _ _ _ _ _ _ HK.out).mono ?_; rintro e w1 ⟨rfl, hb1⟩
        obtain ⟨hc, hf⟩ := bcell hb1
        go_wp2_with (go_at_call 29; refine (in_any _ _ _ _).mono ?_; rintro e w' ⟨rfl, rfl⟩)
        go_ret2
        exact ⟨by rw [hE.out]; rfl, below_in hb1⟩
  · have hE : Hid (insE y mo k a n t c o s = chkM mo k a n t c) := by show insE y mo k a n t c o s = _; unfold insE; simp [hk]
    have hb : (chkM mo k a n t c != 0) = true := by simp [hk]
    have hb' : (chkM mo k a n t c == 0) = false := by simp [hk]
    clear hk h
    go_enter Tryz.func99, Tryz.ntmps99
    go_wp2_with fail
    refine (momentfault_any _ _ _ _ _ _ _).mono ?_; rintro e w1 ⟨rfl, hb1⟩
    go_wp2_with (go_at_call 29; refine (in_any _ _ _ _).mono ?_; rintro e w' ⟨rfl, rfl⟩)
    go_ret2
    exact ⟨by rw [hE.out]; rfl, below_in hb1⟩
theorem instantof_ok (y mo k a n t c o s : Int) (w : World) (h : insE y mo k a n t c o s = 0) :
    Calls Tryz.prog 99 #[.int .i64 y, .agg #[.int .i64 mo, .int .i64 k, .int .i64 a, .int .i64 n, .int .i64 t, .int .i64 c], .int .i64 o, .int .i64 s] w fun e w' => e = .returned (.tuple #[.int .i64 (ins y mo k a n t c o s), .int .i64 0]) ∧ Below w.heap.size w w' := by
  obtain ⟨hk, h1, h2, h3, h4, h5⟩ := insE_zero h
  obtain ⟨g0, g1, g2, g3, g4, g5, g6⟩ := chkM_zero hk
  have hbd := fnd_bd y mo k a n h5
  have HK := Lib.hid hk
  have H5 := Lib.hid h5
  have d1 : decide (-86400 ≤ o ∧ o ≤ 86400) = true := by simp; omega
  have d2 : decide (-86400 ≤ s ∧ s ≤ 86400) = true := by simp; omega
  clear hk h5 h g0
  have hcase : c = 0 ∨ c = 1 ∨ c = 2 := by omega
  rcases hcase with rfl | rfl | rfl
  all_goals
    go_enter Tryz.func99, Tryz.ntmps99
    go_wp2_with fail
    refine (momentfault_ok _ _ _ _ _ _ _ HK.out).mono ?_; rintro e w1 ⟨rfl, hb1⟩
    obtain ⟨hc, hf⟩ := bcell hb1
    have hz : w.heap.size < w1.heap.size := by have := hb1.size; simp at this; omega
    go_wp2_with (go_at_call 29; refine (in_any _ _ _ _).mono ?_; rintro e w' ⟨rfl, rfl⟩)
    refine (found_ok _ _ _ _ _ _ H5.out).mono ?_; rintro e w2 ⟨rfl, hb2⟩
    obtain ⟨hc2, hf2⟩ := bcell hb2
    go_wp2
    go_ret2
    exact ⟨ret_i2 (by simp [ins]; omega) rfl, below_two hb1 hb2⟩
theorem windowof_any (w : World) : Calls Tryz.prog 28 #[] w fun e w' => e = .returned (.tuple #[.int .i64 (-2208988800), .int .i64 4102444800]) ∧ w = w' := by
  have h1 := fst_bd 1900 (by omega) (by omega)
  have h2 := fst_bd 2100 (by omega) (by omega)
  have h3 := ah_bd 1900 1 (by omega) (by omega)
  have h4 := ah_bd 2100 1 (by omega) (by omega)
  go_enter Tryz.func28, Tryz.ntmps28
  go_wp2_with (go_at_call 75; refine (daysto_any _ _ _ (by omega) (by omega) (by omega) (by omega)).mono ?_; rintro e w' ⟨rfl, rfl⟩)
  go_ret2
  exact ⟨ret_i2 (by rw [fst_1900, ah_one]; rfl) (by rw [fst_2100, ah_one]; rfl), rfl⟩
end Go.Proofs.YtdpbedkppomffaaGreatDoor
