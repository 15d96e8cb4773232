/-
  TreesTell: what its trees tell, plain; an index of spans. · tree.Forward: the forest of spans that may be. · slices.Contains of ints. · What an operation of a drawn region leaves, as frg.py prints it: with boxes that are new. · What the row's condition on the listed variables gives the walks: tables of strings, the table of powers of ten. · A code read back, plain: cuts, pieces, operators, numbers. · A code read back, plain: numbers as decimals, both ways; a line; the whole.
-/
import Derived.BigQuiet
import Derived.LaidMore
import Derived.Stop.Joined
import Derived.Below
import Derived.Carry
import Derived.Lib.LaidTab
import Derived.Lib.IndexMore
import Derived.Lib.AtoiAll
import Derived.Lib.ItoaMem
import Derived.Lib.SlicesS
import Derived.Lib.ItoaLen
import Derived.Lib.OthersKept
import Derived.Lib.FrozenHead2
import Derived.Shelf.Strings.BuilderK
import Derived.Shelf.LaysM
import Derived.Shelf.Strconv.Itoa3
import Derived.Test.YtbikdlcjbigafaaGreatDoorJTrA
import Derived.Test.YtbikdlcjbigafaaGreatDoorJFwdH
import Derived.Test.YtbikdlcjbigafaaGreatDoorJInvG
import Derived.Test.YtbikdlcjbigafaaGreatDoorJZonE0
import Derived.Test.YtbikdlcjbigafaaGreatDoorJTreeT
import Derived.Test.YtbikdlcjbigafaaGreatDoorJRdA
import Derived.Test.YtbikdlcjbigafaaGreatDoorJBase
import Derived.Test.YtbikdlcjbigafaaGreatDoorJZonB0
import Derived.Test.YtbikdlcjbigafaaGreatDoorProg
namespace Go.Proofs.YtbikdlcjbigafaaGreatDoor
set_option linter.unusedVariables false
set_option linter.unusedSimpArgs false
open Go.ChangeShapes Go.WideShapes Go.ChangeAt Go.RowKit Civ

set_option maxHeartbeats 1000000 in
set_option maxRecDepth 100000 in
theorem idxSpn_any (p : Spn → Bool) (F : Nat) (c : Value) (v : Value) (xs : List Spn) (w : World) (hv : SlAt w 4 RSpn v xs) (eg : ∀ args w, (callFunc F args).run Tryz.prog w = .ok (.enter F args) w)
    (hF : ∀ x ∈ xs, ∀ w1 : World, Below w.heap.size w w1 → Calls Tryz.prog F #[.agg #[.int .i64 x.fr, .int .i64 x.ck.off, .bool x.ck.sav, .string x.ck.nm], c] w1 fun e w' => e = .returned (.bool (p x)) ∧ Below w1.heap.size w1 w') :
    Calls Tryz.prog 26 #[v, .func (.func F) #[] #[c]] w fun e w' => e = .returned (.int .i64 (fidx p xs)) ∧ Below w.heap.size w w' := by
  obtain ⟨av, cv, rfl, hl⟩ := hv.shape
  have hm := maxLen_eq _ hl
  have HF := Lib.hid hF
  have HV := Lib.hid hv
  clear hF hv hl
  go_enter Tryz.func26, Tryz.ntmps26
  go_wp2
  go_loopw [8, 5] (fun t _ wr => ∃ k : Nat, k ≤ xs.length ∧ t = .int .i64 k ∧ Hid (∀ i (hi : i < xs.length), i < k → p xs[i] = false) ∧ Hid (Below w.heap.size w wr)) (fun t _ _ => (xs.length - intOf t).toNat)
  case atStart => exact ⟨0, by omega, rfl, fun i _ h => by omega, Below.refl _ _⟩
  case round =>
    obtain ⟨k, hk, rfl, hn, HB⟩ := hrel
    by_cases hlt : k < xs.length
    · obtain ⟨b, off, rfl, hb, ⟨c0, c1, c2, c3⟩, -, -, -⟩ := elemSpn (HV.out.mono HB.out fun _ _ h => h) k hlt
      have HC := Lib.hid (HF.out xs[k] (List.getElem_mem hlt) wr HB.out)
      have hlti : (k : Int) < (xs.length : Int) := by omega
      by_cases hp : p xs[k] = true
      · have hfin := Lib.hid (fidx_at p xs k hlt (fun i hi => hn.out i (by omega) hi) hp)
        generalize xs[k] = x at *
        rw [hp] at HC
        clear hp
        go_wp2_with fail
        refine HC.out.mono ?_; rintro e w1 ⟨rfl, hb1⟩
        have HB1 := Lib.hid (HB.out.trans (hb1.mono HB.out.size))
        clear hb1 HC hb
        go_wp2
        go_ret
        exact ⟨ret_int hfin.out.symm, HB1.out⟩
      · have hp' : p xs[k] = false := by simpa using hp
        clear hp
        have hn' : Hid (∀ i (hi : i < xs.length), i < k + 1 → p xs[i] = false) := fun i hi h => by
          by_cases e : i = k
          · subst e; exact hp'
          · exact hn.out i hi (by omega)
        generalize xs[k] = x at *
        rw [hp'] at HC
        clear hp'
        go_wp2_with fail
        refine HC.out.mono ?_; rintro e w1 ⟨rfl, hb1⟩
        have HB1 := Lib.hid (HB.out.trans (hb1.mono HB.out.size))
        clear hb1 HC hb
        go_wp2
        go_roundw
        case rel => exact ⟨k + 1, by omega, by go_num, hn', HB1⟩
        case measure => simp [intOf]; omega
    · have hfin := Lib.hid (fidx_none p xs (fun i hi => hn.out i hi (by omega)))
      have hnlt : ¬ (k : Int) < (xs.length : Int) := by omega
      go_wp2
      go_ret
      exact ⟨ret_int hfin.out.symm, HB.out⟩
theorem later_s (x : Spn) (T : Int) (G : Nat) (w : World) (hG : BxO w G #[.int .i64 T] 3) :
    Calls Tryz.prog 27 #[.agg #[.int .i64 x.fr, .int .i64 x.ck.off, .bool x.ck.sav, .string x.ck.nm], .pointer (some ⟨G, 0, none⟩)] w fun e w' => e = .returned (.bool (decide (T < x.fr))) ∧ Below w.heap.size w w' := by
  obtain ⟨xf, ⟨xo, xs, xn⟩⟩ := x
  dsimp only
  obtain ⟨W1, hW1⟩ : ∃ W1, W1 = w.alloc (.cells #[.int .i64 xf, .int .i64 xo, .bool xs, .string xn] 39) := ⟨_, rfl⟩
  have b1 : Below w.heap.size w W1 := by rw [hW1]; exact (Below.refl _ _).alloc (Nat.le_refl _) _
  have X1 : BxO W1 w.heap.size #[.int .i64 xf, .int .i64 xo, .bool xs, .string xn] 39 := by rw [hW1]; exact BxO.new _ _ _
  have c0 : W1.cell? ⟨w.heap.size, 0, none⟩ = some (.int .i64 xf) := X1.cell 0
  have cl := X1.lt
  have hG1 := box_at hG b1
  have g0 : W1.cell? ⟨G, 0, none⟩ = some (.int .i64 T) := hG1.cell 0
  have gl := hG1.lt
  have H1 := Lib.hid hW1
  have HB := Lib.hid b1
  clear hW1 b1 X1 hG1 hG
  go_enter Tryz.func27, Tryz.ntmps27
  go_upto_region 1 with fail
  rw [← H1.out]
  clear H1
  go_wp2
  go_ret
  exact ⟨ret_bool (by simp), HB.out⟩
theorem ksl_good {L : List Spn} {t : Int} {k : Nat} (h : KsL L t k) (h1 : 1 ≤ k) (h2 : k ≤ 30) : spnE L = 0 := by
  have hl := h.len
  unfold spnE
  rw [if_neg (by omega), if_neg (by omega)]
  refine ferr_none _ _ _ fun i hi => ?_
  obtain ⟨a, b, -, ⟨d, e⟩, f⟩ := h.bd _ (List.getElem_mem hi)
  rw [Nat.zero_add]
  unfold fsE
  rw [if_neg (by omega), if_neg (by omega), if_neg]
  rintro (⟨rfl, h3⟩ | ⟨h3, h4⟩)
  · exact h3 (h.fst hi)
  · rw [prevF_at h3 (by omega)] at h4
    obtain ⟨j, rfl⟩ : ∃ j, i = j + 1 := ⟨i - 1, by omega⟩
    have := h.rise j hi
    simp only [Nat.add_sub_cancel] at h4
    omega
theorem ksl_lt {L : List Spn} {t : Int} {k : Nat} (h : KsL L t k) : ∀ (d i : Nat) (hj : i + d < L.length), L[i].fr ≤ L[i + d].fr
  | 0, i, hj => Int.le_refl _
  | d + 1, i, hj => by
    have h1 := ksl_lt h d i (by omega)
    have h2 := h.rise (i + d) (by omega)
    show L[i].fr ≤ (L[i + d + 1]'(by omega)).fr
    omega
/-- the span at an instant of the window; the first one behind it. -/
theorem trees_at {L : List Spn} {t0 : Int} {k : Nat} (h : KsL L t0 k) (h1 : 1 ≤ k) {t : Int} (ht0 : -2208988800 ≤ t) (ht1 : t < 4102444800) :
    ∃ i, ∃ hi : i < L.length, AtSpan L t L.length i ∧ L[i].fr ≤ t ∧ (fidx (fun s : Spn => decide (t < s.fr)) L = if i + 1 < L.length then ((i + 1 : Nat) : Int) else -1) ∧
      L[i].ck.off ∈ offsAt (segs L) (t + L[i].ck.off) := by
  have hl := h.len
  obtain ⟨i, hat⟩ := atSpan_ex L t (by omega) L.length (by omega) (Nat.le_refl _)
  obtain ⟨hi, ⟨hi2, ha⟩, hb⟩ := hat
  have hfr : L[i].fr ≤ t := by
    rcases ha with rfl | ha
    · rw [h.fst hi]; exact ht0
    · exact ha
  have hno : ∀ j (hj : j < L.length), j ≤ i → decide (t < L[j].fr) = false := fun j hj hji => by
    rw [decide_eq_false_iff_not]
    have := ksl_lt h (i - j) j (by omega)
    simp only [show j + (i - j) = i by omega] at this
    omega
  refine ⟨i, hi, ⟨hi, ⟨hi2, ha⟩, hb⟩, hfr, ?_, ?_⟩
  · split
    · rename_i hlt
      have := fidx_at (fun s : Spn => decide (t < s.fr)) L (i + 1) hlt (fun j hj => hno j (by omega) (by omega)) (by simpa using hb (i + 1) hlt (by omega) hlt)
      exact this
    · exact fidx_none _ _ fun j hj => hno j hj (by omega)
  · unfold offsAt
    refine List.mem_map.2 ⟨segF L i L[i], List.mem_filter.2 ⟨?_, ?_⟩, rfl⟩
    · rw [← segs_at L i hi]
      exact List.getElem_mem _
    · unfold inS segF nextF
      rw [Bool.and_eq_true, decide_eq_true_iff, decide_eq_true_iff]
      dsimp only
      refine ⟨by omega, ?_⟩
      by_cases hlt : i + 1 < L.length
      · rw [List.getElem?_eq_getElem hlt]
        dsimp only
        have := hb (i + 1) hlt (by omega) hlt
        omega
      · rw [List.getElem?_eq_none (by omega)]
        dsimp only
        omega
/-- where the tree back can not be, there are more spans than an answer may list. -/
theorem inv_six {L : List Spn} (h30 : L.length ≤ 30) (h : invE L = true) : 6 < L.length := by
  unfold invE at h
  rw [Bool.or_eq_true] at h
  rcases h with h | h
  · obtain ⟨a, ha, hb⟩ := List.any_eq_true.1 h
    have hb2 := of_decide_eq_true hb
    have : ∃ t, a.offs = offsAt (segs L) t := by
      unfold invAn at ha
      rcases List.mem_cons.1 ha with rfl | ha
      · exact ⟨_, rfl⟩
      · obtain ⟨t, -, rfl⟩ := List.mem_map.1 ha
        exact ⟨t, rfl⟩
    obtain ⟨t, e⟩ := this
    have h2 := offs_len (segs L) t
    rw [segs_len] at h2
    rw [e] at hb2
    omega
  · have h2 := of_decide_eq_true h
    rw [invAn_len] at h2
    have h3 := srtC_len (atL (segs L))
    rw [atL_len, segs_len] at h3
    have h4 : (atS L).length ≤ 2 * L.length := h3
    omega
end Go.Proofs.YtbikdlcjbigafaaGreatDoor

namespace Go.Proofs.YtbikdlcjbigafaaGreatDoor
set_option linter.unusedVariables false
set_option linter.unusedSimpArgs false
open Go.ChangeShapes Go.WideShapes Go.ChangeAt Go.RowKit Civ

theorem forward_frs (v : Value) (xs : List Spn) (w : World) (hv : SlAt w 4 RSpn v xs) (hg : spnE xs = 0) :
    Calls Tryz.prog 23 #[v] w fun e w' => ∃ a c a' c', e = .returned (.tuple #[.agg #[.slice a (fwdF xs).nodes.length c, .slice a' (fwdF xs).answers.length c'], .int .i64 0]) ∧ FrsAt w' (.slice a (fwdF xs).nodes.length c) (.slice a' (fwdF xs).answers.length c') (fwdF xs) ∧ Below w.heap.size w w' := by
  obtain ⟨h0, h1, -⟩ := spn_good hg
  refine (forward_ok v xs w hv hg h0 h1).mono ?_
  rintro e w' ⟨vn, va, rfl, hn, ha, hb⟩
  obtain ⟨an, cn, rfl⟩ := own_shape hn
  obtain ⟨aa, ca, rfl⟩ := own_shape ha
  refine ⟨an, cn, aa, ca, rfl, ?_, hb⟩
  refine fwd_at (fun i hi => ?_) (chN_64 (pcsF xs) (by rw [pcs_len]; omega) fun p hp => ?_) hn ha
  · obtain ⟨cs, _, h1, h2, h3⟩ := hv.all xs[i] (List.getElem_mem hi)
    exact ⟨h2, h3⟩
  · obtain ⟨j, hj, rfl⟩ := List.mem_iff_getElem.1 hp
    have hj' : j < xs.length := by rw [pcs_len] at hj; exact hj
    rw [pcs_at xs j hj']
    obtain ⟨cs, _, h1, _⟩ := hv.all xs[j] (List.getElem_mem hj')
    exact ⟨h1, i64_nat _ (by omega)⟩
end Go.Proofs.YtbikdlcjbigafaaGreatDoor

namespace Go.Proofs.YtbikdlcjbigafaaGreatDoor
set_option linter.unusedVariables false
set_option linter.unusedSimpArgs false
open Go.ChangeShapes Go.WideShapes Go.ChangeAt Go.RowKit

set_option maxHeartbeats 2000000 in
theorem indexI_any (v : Value) (xs : List Int) (y : Int) (w : World) (hv : SlAt w 1 RInt v xs) :
    Calls Tryz.prog 58 #[v, .int .i64 y] w fun e w' => ∃ z : Int, e = .returned (.int .i64 z) ∧ (0 ≤ z ↔ y ∈ xs) ∧ ∃ q, w' = w.drewN q := by
  obtain ⟨aa, ca, rfl, la⟩ := hv.shape
  have la' := maxLen_eq _ la
  have HA := Lib.hid hv
  clear hv la
  go_enter Tryz.func58, Tryz.ntmps58
  go_wp2_with fail
  go_loopw [8] (fun t wr => ∃ k : Nat, k ≤ xs.length ∧ t = .int .i64 (k : Int) ∧ Hid (∀ i (hi : i < xs.length), i < k → xs[i] ≠ y) ∧ ∃ q, wr = w.drewN q) (fun t _ => (xs.length - intOf t).toNat)
  case atStart => exact ⟨0, by omega, rfl, fun i _ h => by omega, 0, rfl⟩
  case round =>
    obtain ⟨k, hk, rfl, hall, q, rfl⟩ := hrel
    by_cases hlt : k < xs.length
    · obtain ⟨b1, o1, e1, z1, c1, _⟩ := elemInt HA.out k hlt
      subst e1
      have hki : (k : Int) < (xs.length : Int) := by omega
      have hin : Hid (xs[k] = y → y ∈ xs) := fun h => h ▸ List.getElem_mem hlt
      have hnx : Hid (xs[k] ≠ y → ∀ i (hi : i < xs.length), i < k + 1 → xs[i] ≠ y) := fun h i hi hik => by
        by_cases e : i = k
        · subst e; exact h
        · exact hall.out i hi (by omega)
      generalize xs[k] = x at *
      by_cases hxy : x = y
      · have HIN := Lib.hid (hin.out hxy)
        subst hxy
        clear hin hnx
        go_wp2_with fail
        try (go_quiet (fail))
        go_wp2_with fail
        go_ret
        exact ⟨(k : Int), rfl, ⟨fun _ => HIN.out, fun _ => by omega⟩, _, rfl⟩
      · have HNX := Lib.hid (hnx.out hxy)
        clear hin hnx
        go_wp2_with fail
        try (go_quiet (fail))
        go_wp2_with fail
        go_roundw
        case rel => exact ⟨k + 1, by omega, by go_num, HNX, _, rfl⟩
        case measure => simp [intOf]; omega
    · have HN : Hid (¬ y ∈ xs) := fun h => by
        obtain ⟨i, hi, e⟩ := List.mem_iff_getElem.1 h
        exact hall.out i hi (by omega) e
      go_wp2_with fail
      go_ret
      exact ⟨-1, rfl, ⟨fun h => by omega, fun h => absurd h HN.out⟩, _, rfl⟩
theorem containsI_any (v : Value) (xs : List Int) (y : Int) (w : World) (hv : SlAt w 1 RInt v xs) :
    Calls Tryz.prog 28 #[v, .int .i64 y] w fun e w' => ∃ r : Bool, e = .returned (.bool r) ∧ (r = true ↔ y ∈ xs) ∧ ∃ q, w' = w.drewN q := by
  have HI := Lib.hid (indexI_any v xs y w hv)
  obtain ⟨aa, ca, rfl, la⟩ := hv.shape
  clear hv la
  go_enter Tryz.func28, Tryz.ntmps28
  go_wp2_with fail
  refine HI.out.mono ?_; rintro e w' ⟨z, rfl, hz, q, rfl⟩
  have HZ := Lib.hid hz
  clear hz
  go_wp2
  go_ret
  exact ⟨_, rfl, by simpa using HZ.out, q, rfl⟩
end Go.Proofs.YtbikdlcjbigafaaGreatDoor

namespace Go.Proofs.YtbikdlcjbigafaaGreatDoor
set_option linter.unusedVariables false
set_option linter.unusedSimpArgs false
open Go.ChangeShapes Go.WideShapes Go.ChangeAt Go.RowKit Civ

/-- what an operation leaves: a value; a row of its own; a place in it; a box that is new. -/
inductive Pn where
  | any
  | eq (v : Value)
  | row (cs : Array Value) (t : TypeId) (n : Nat)
  | ptr (cs : Array Value) (t : TypeId) (k : Nat)
  | new (cs : Array Value) (t : TypeId) (B : Nat)
def Pn.is : Pn → Value → World → Prop
  | .any, _, _ => True
  | .eq u, v, _ => v = u
  | .row cs t n, v, w => ∃ g, v = .slice (some ⟨g, 0, none⟩) n n ∧ BxO w g cs t
  | .ptr cs t k, v, w => ∃ g, v = .pointer (some ⟨g, k, none⟩) ∧ BxO w g cs t
  | .new cs t B, v, w => ∃ g, v = .pointer (some ⟨g, 0, none⟩) ∧ BxO w g cs t ∧ B ≤ g
theorem Pn.stb {p : Pn} {v : Value} {w w' : World} (h : p.is v w) (hb : Below w.heap.size w w') : p.is v w' := by
  cases p with
  | any => trivial
  | eq u => exact h
  | row cs t n => obtain ⟨g, h1, h2⟩ := h; exact ⟨g, h1, box_at h2 hb⟩
  | ptr cs t k => obtain ⟨g, h1, h2⟩ := h; exact ⟨g, h1, box_at h2 hb⟩
  | new cs t B => obtain ⟨g, h1, h2, h3⟩ := h; exact ⟨g, h1, box_at h2 hb, h3⟩
theorem BxO.put1 {W : World} {b : Nat} {t : TypeId} {a0 : Value} (h : BxO W b #[a0] t) (b0 : Value) : BxO (W.setCell ⟨b, 0, none⟩ b0) b #[b0] t := by
  simp [BxO, World.setCell, Array.getElem?_modify, show W.heap[b]? = _ from h]
end Go.Proofs.YtbikdlcjbigafaaGreatDoor

namespace Go.Proofs.YtbikdlcjbigafaaGreatDoor
set_option linter.unusedVariables false
set_option linter.unusedSimpArgs false
open Go.ChangeShapes Go.WideShapes Go.ChangeAt Go.RowKit

theorem cells_of_strs {H : Type} {enc : TypeId × Value → H} {P : Program} {w : World} {base : Nat} {sp : Nat → Bool} {held : Bool} {fuel : Nat} {t e : TypeId} {n : Nat} {cs : List Value} {zs : List (List UInt8)} {p : List MemPlace}
    (ht : P.underlying t = some (.array n e)) (he : P.underlying e = some .string) (hce : P.cellsOf e = 1) (hct : P.cellsOf t = n)
    (h : DataW.trod enc P w base sp held fuel t cs = some (.agg (zs.map fun z => .lit (.string z)), p)) : cs = zs.map fun z => Value.string ⟨z.toArray⟩ := by
  cases fuel with
  | zero => simp [DataW.trod] at h
  | succ fuel =>
    simp only [DataW.trod, ht, hce, hct, Nat.mul_one] at h
    split at h
    · rename_i hl
      obtain ⟨xs, hm, hx⟩ := Option.map_eq_some_iff.1 h
      have hxs : xs.map (·.1) = zs.map fun z => (DataW.lit (.string z) : DataW H) := by
        have := congrArg Prod.fst hx
        simpa using this
      have hxl : xs.length = n := by simpa using Lib.mapM_length hm
      have hzl : zs.length = n := by
        have := congrArg List.length hxs
        simp at this
        omega
      apply List.ext_getElem?
      intro i
      by_cases hi : i < n
      · obtain ⟨b, hb, hf⟩ := Lib.mapM_at hm i i (by simp [hi])
        obtain ⟨s, hc, rfl, _⟩ := DataW.trod_string he hf
        have h1 : cs[i]? = some (.string s) := by
          have := congrArg (·[0]?) hc
          simpa [List.getElem?_take, List.getElem?_drop] using this
        have h2 : (xs.map (·.1))[i]? = some (DataW.lit (.string s.data.toList) : DataW H) := by simp [hb]
        rw [hxs] at h2
        simp only [List.getElem?_map, Option.map_eq_some_iff, DataW.lit.injEq, Lit.string.injEq] at h2
        obtain ⟨z', hz', rfl⟩ := h2
        simp [h1, hz']
      · rw [List.getElem?_eq_none (by omega), List.getElem?_eq_none (by simp; omega)]
    · cases h
theorem strs_of_head {P : Program} {W : World} {name : String} {zs : List (List UInt8)} {rest : List (String × DataW Unit)} {g : Nat} {t e : TypeId} {n : Nat}
    (hg : P.globalNamed name = some g) (hty : (P.globals[g]?).map (·.type) = some t) (ht : P.underlying t = some (.array n e)) (he : P.underlying e = some .string) (hce : P.cellsOf e = 1) (hct : P.cellsOf t = n)
    (h : laidMet P ((name, .agg (zs.map fun z => .lit (.string z))) :: rest) W) : W.var? P name = some (zs.map fun z => Value.string ⟨z.toArray⟩).toArray := by
  obtain ⟨ps, ⟨g', t', cs, fuel, p, q, hg', ht', hvar, hd, _, _⟩, _⟩ := h
  obtain rfl := Option.some.inj (hg.symm.trans hg')
  obtain rfl := Option.some.inj (hty.symm.trans ht')
  rw [hvar, ← cells_of_strs ht he hce hct hd]
end Go.Proofs.YtbikdlcjbigafaaGreatDoor

namespace Go.Proofs.YtbikdlcjbigafaaGreatDoor
set_option linter.unusedVariables false
set_option linter.unusedSimpArgs false
open Go.ChangeShapes Go.WideShapes Go.ChangeAt Go.RowKit

/-- a text, cut at the first c. -/
def cutB (c : UInt8) : List UInt8 → List UInt8 × List UInt8 × Bool
  | [] => ([], [], false)
  | x :: l => if x = c then ([], l, true) else (x :: (cutB c l).1, (cutB c l).2.1, (cutB c l).2.2)
theorem cut_one (c : UInt8) : ∀ l : List UInt8, Lib.cut l [c] = cutB c l
  | [] => rfl
  | x :: l => by
    have ih := cut_one c l
    have hge := Lib.index_ge l [c]
    unfold Lib.cut at ih ⊢
    have e : Lib.index (x :: l) [c] = if [c].isPrefixOf (x :: l) then 0 else if Lib.index l [c] == -1 then -1 else Lib.index l [c] + 1 := rfl
    have e2 : [c].isPrefixOf (x :: l) = (c == x) := by simp [List.isPrefixOf]
    rw [e, e2]
    by_cases h : x = c
    · subst h
      simp [cutB]
    · have h' : (c == x) = false := by rw [beq_eq_false_iff_ne]; exact fun e => h e.symm
      rw [h']
      show _ = if x = c then _ else _
      rw [if_neg h, ← ih]
      by_cases h2 : Lib.index l [c] = -1
      · simp [h2]
      · have h3 : (Lib.index l [c] == -1) = false := by rw [beq_eq_false_iff_ne]; exact h2
        have h4 : 0 ≤ Lib.index l [c] := by omega
        have h5 : 0 ≤ Lib.index l [c] + 1 := by omega
        have h6 : (Lib.index l [c] + 1).toNat = (Lib.index l [c]).toNat + 1 := by omega
        simp only [h3, Bool.false_eq_true, if_false, if_pos h4, if_pos h5, h6, List.take_succ_cons, List.length_singleton, List.drop_succ_cons]
theorem spl_cut (c : UInt8) : ∀ (l cur : List UInt8), splB c cur l = if (cutB c l).2.2 then (cur ++ (cutB c l).1) :: splB c [] (cutB c l).2.1 else [cur ++ (cutB c l).1]
  | [], cur => by simp [splB, cutB]
  | x :: l, cur => by
    show (if x = c then _ else _) = _
    have e : cutB c (x :: l) = if x = c then ([], l, true) else (x :: (cutB c l).1, (cutB c l).2.1, (cutB c l).2.2) := rfl
    rw [e]
    by_cases h : x = c
    · simp [h]
    · rw [if_neg h, if_neg h, spl_cut c l (cur ++ [x])]
      simp
theorem spl_ne (c : UInt8) (cur l : List UInt8) : splB c cur l ≠ [] := by
  rw [spl_cut]
  split <;> simp
end Go.Proofs.YtbikdlcjbigafaaGreatDoor

namespace Go.Proofs.YtbikdlcjbigafaaGreatDoor
set_option linter.unusedVariables false
set_option linter.unusedSimpArgs false
open Go.ChangeShapes Go.WideShapes Go.ChangeAt Go.RowKit

def ilB (l : List UInt8) : List Int := l.map fun b => (b.toNat : Int)
def digsB (l : List UInt8) : Prop := ∀ b ∈ l, 48 ≤ b.toNat ∧ b.toNat ≤ 57
theorem dec_small {u : Nat} (h : u < 10) : Lib.decDigits u = [UInt8.ofNat (48 + u)] := by rw [Lib.decDigits, dif_pos h]
theorem dec_big {u : Nat} (h : ¬ u < 10) : Lib.decDigits u = Lib.decDigits (u / 10) ++ [UInt8.ofNat (48 + u % 10)] := by rw [Lib.decDigits, dif_neg h]
theorem dig_nat {u : Nat} (h : u < 10) : (UInt8.ofNat (48 + u)).toNat = 48 + u := by rw [UInt8.toNat_ofNat']; omega
theorem dec_digs (u : Nat) : digsB (Lib.decDigits u) := by
  induction u using Nat.strongRecOn with
  | _ u ih =>
    by_cases h : u < 10
    · rw [dec_small h]
      intro b hb
      simp at hb
      subst hb
      have := dig_nat h
      simp at this ⊢
      omega
    · rw [dec_big h]
      intro b hb
      rcases List.mem_append.1 hb with hb | hb
      · exact ih _ (by omega) b hb
      · have e : b = UInt8.ofNat (48 + u % 10) := by simpa using hb
        rw [e, dig_nat (by omega)]
        omega
theorem dec_ne (u : Nat) : Lib.decDigits u ≠ [] := by
  by_cases h : u < 10
  · rw [dec_small h]; simp
  · rw [dec_big h]; simp
theorem ilB_digs {l : List UInt8} : (ilB l).all digB = true ↔ digsB l := by
  unfold ilB digsB
  rw [List.all_eq_true]
  constructor
  · intro h b hb
    have := (digB_iff _).1 (h _ (List.mem_map_of_mem hb))
    omega
  · intro h x hx
    obtain ⟨b, hb, rfl⟩ := List.mem_map.1 hx
    have := h b hb
    exact (digB_iff _).2 (by omega)
theorem ilB_len (l : List UInt8) : (ilB l).length = l.length := by simp [ilB]
theorem snoc_ind {α : Type} {P : List α → Prop} (h0 : P []) (h1 : ∀ r x, P r → P (r ++ [x])) : ∀ (k : Nat) (l : List α), l.length = k → P l
  | 0, l, h => by rw [List.length_eq_zero_iff.1 h]; exact h0
  | k + 1, l, h => by
    rcases List.eq_nil_or_concat l with rfl | ⟨r, b, rfl⟩
    · exact h0
    · rw [List.concat_eq_append] at h ⊢
      exact h1 r b (snoc_ind h0 h1 k r (by simpa using h))
theorem dval_pos : ∀ (r : List UInt8), digsB r → (∃ b l, r = b :: l ∧ b.toNat ≠ 48) → 1 ≤ dval (ilB r) := by
  intro r
  refine snoc_ind (P := fun r => digsB r → (∃ b l, r = b :: l ∧ b.toNat ≠ 48) → 1 ≤ dval (ilB r)) ?_ ?_ _ r rfl
  · rintro _ ⟨b, l, e, _⟩; cases e
  · intro r x ih hd ⟨b, l, e, hb⟩
    have hx := hd x (by simp)
    unfold ilB
    rw [List.map_append, List.map_singleton, dval_snoc]
    rcases r with _ | ⟨c, r⟩
    · simp at e
      obtain ⟨rfl, _⟩ := e
      show 1 ≤ 10 * 0 + ((x.toNat : Int) - 48)
      omega
    · simp at e
      obtain ⟨rfl, _⟩ := e
      have := ih (fun y hy => hd y (List.mem_append_left _ hy)) ⟨c, r, rfl, hb⟩
      unfold ilB at this
      omega
theorem dec_of : ∀ (n : List UInt8), digsB n → n ≠ [] → (1 < n.length → n.head?.map (·.toNat) ≠ some 48) → n = Lib.decDigits (dval (ilB n)).toNat := by
  intro n
  refine snoc_ind (P := fun n => digsB n → n ≠ [] → (1 < n.length → n.head?.map (·.toNat) ≠ some 48) → n = Lib.decDigits (dval (ilB n)).toNat) ?_ ?_ _ n rfl
  · intro _ h; exact absurd rfl h
  · intro r x ih hd _ hh
    have hx := hd x (by simp)
    have ev : dval (ilB (r ++ [x])) = 10 * dval (ilB r) + ((x.toNat : Int) - 48) := by
      unfold ilB
      rw [List.map_append, List.map_singleton, dval_snoc]
    have ex : UInt8.ofNat (48 + (x.toNat - 48)) = x := by
      apply UInt8.toNat_inj.1
      rw [dig_nat (by omega)]
      omega
    rcases r with _ | ⟨c, r⟩
    · have : (dval (ilB [x])).toNat = x.toNat - 48 := by
        show ((10 * 0 + ((x.toNat : Int) - 48)) : Int).toNat = _
        omega
      show [x] = Lib.decDigits (dval (ilB [x])).toNat
      rw [this, dec_small (by omega), ex]
    · have hr : digsB (c :: r) := fun y hy => hd y (List.mem_append_left _ hy)
      have hc : c.toNat ≠ 48 := fun e => hh (by simp) (by simp [e])
      have hp := dval_pos (c :: r) hr ⟨c, r, rfl, hc⟩
      have hi := ih hr (by simp) (fun _ => by simpa using hc)
      have hv : (dval (ilB (c :: r ++ [x]))).toNat = 10 * (dval (ilB (c :: r))).toNat + (x.toNat - 48) := by rw [ev]; omega
      rw [hv, dec_big (by omega)]
      rw [show (10 * (dval (ilB (c :: r))).toNat + (x.toNat - 48)) / 10 = (dval (ilB (c :: r))).toNat by omega, ← hi, show (10 * (dval (ilB (c :: r))).toNat + (x.toNat - 48)) % 10 = x.toNat - 48 by omega, ex]
theorem parse_snoc (b : UInt8) (hb : 48 ≤ b.toNat ∧ b.toNat ≤ 57) : ∀ (l : List UInt8) (acc v : Nat), Lib.parseUint10 acc l = .ok v → v < 1000000 → Lib.parseUint10 acc (l ++ [b]) = .ok (v * 10 + (b.toNat - 48))
  | [], acc, v, h, hv => by
    simp only [Lib.parseUint10] at h
    injection h with h
    subst h
    show (if 48 ≤ b.toNat ∧ b.toNat ≤ 57 then _ else _) = _
    rw [if_pos hb, if_neg (by omega), if_neg (by omega)]
    rfl
  | c :: l, acc, v, h, hv => by
    simp only [Lib.parseUint10, List.cons_append] at h ⊢
    split at h
    · rename_i h1
      rw [if_pos h1]
      split at h
      · cases h
      · rename_i h2
        rw [if_neg h2]
        split at h
        · cases h
        · rename_i h3
          rw [if_neg h3]
          exact parse_snoc b hb l _ v h hv
    · cases h
theorem parse_dec (u : Nat) (h : u < 1000000) : Lib.parseUint10 0 (Lib.decDigits u) = .ok u := by
  induction u using Nat.strongRecOn with
  | _ u ih =>
    by_cases h1 : u < 10
    · rw [dec_small h1]
      have := parse_snoc (UInt8.ofNat (48 + u)) (by rw [dig_nat h1]; omega) [] 0 0 rfl (by omega)
      rw [dig_nat h1] at this
      rw [show [] ++ [UInt8.ofNat (48 + u)] = [UInt8.ofNat (48 + u)] from rfl] at this
      rw [this]
      congr 1
      omega
    · rw [dec_big h1]
      have hx : (UInt8.ofNat (48 + u % 10)).toNat = 48 + u % 10 := dig_nat (by omega)
      have := parse_snoc (UInt8.ofNat (48 + u % 10)) (by rw [hx]; omega) _ 0 _ (ih (u / 10) (by omega) (by omega)) (by omega)
      rw [hx] at this
      rw [this]
      congr 1
      omega
theorem atoi_dec (u : Nat) (h : u < 1000000) : Lib.atoiAll (Lib.decDigits u) = .ok (u : Int) := by
  have hp := parse_dec u h
  have hd := dec_digs u
  rcases hl : Lib.decDigits u with _ | ⟨c, r⟩
  · exact absurd hl (dec_ne u)
  · rw [hl] at hp hd
    have hc := hd c (by simp)
    have h43 : ¬ (c.toNat = 43 ∨ c.toNat = 45) := by omega
    unfold Lib.atoiAll
    dsimp only
    rw [if_neg h43]
    unfold Lib.parseMag
    rw [if_neg (List.cons_ne_nil _ _), hp]
    dsimp only
    rw [if_neg (by omega), if_neg (by omega), if_neg (by omega)]
end Go.Proofs.YtbikdlcjbigafaaGreatDoor
