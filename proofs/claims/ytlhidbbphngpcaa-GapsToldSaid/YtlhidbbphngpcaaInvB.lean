/-
  tree.Inverse: from where to where a span's clock shows something.
-/
import Derived.Test.YtlhidbbphngpcaaInvA
import Derived.Test.YtlhidbbphngpcaaWinB
namespace Go.Proofs.Ytlhidbbphngpcaa
set_option linter.unusedVariables false
set_option linter.unusedSimpArgs false
open Go.ChangeShapes Go.WideShapes Go.ChangeAt Go.RowKit

def SpB (x : Spn) : Prop := -2208988800 ≤ x.fr ∧ x.fr < 4102444800 ∧ -172800 ≤ x.ck.off ∧ x.ck.off ≤ 172800
theorem spB_of {xs : List Spn} (h : spnE xs = 0) : ∀ j (hj : j < xs.length), SpB xs[j] := fun j hj => by
  obtain ⟨_, _, h3⟩ := spn_good h
  obtain ⟨a, b, _, c, d, _, _⟩ := spE_zero (h3 j hj)
  exact ⟨a, b, c, d⟩
theorem nextF_bd {xs : List Spn} (h : ∀ j (hj : j < xs.length), SpB xs[j]) (i : Nat) : -2208988800 ≤ nextF xs i ∧ nextF xs i ≤ 4102444800 := by
  unfold nextF
  split
  · rename_i s hs
    obtain ⟨hj, rfl⟩ := List.getElem?_eq_some_iff.1 hs
    obtain ⟨a, b, _, _⟩ := h (i + 1) hj
    omega
  · omega
set_option maxRecDepth 100000 in
set_option maxHeartbeats 2000000 in
theorem ends_any (xs : List Spn) (v : Value) (T L i : Nat) (w : World) (hi : i < xs.length) (hT : w.cell? ⟨T, 0, none⟩ = some (.int .i64 4102444800)) (hL : w.cell? ⟨L, 0, none⟩ = some v) (hv : SlAt w 4 RSpn v xs) (hb : ∀ j (hj : j < xs.length), SpB xs[j]) :
    Calls Try.prog 34 #[.int .i64 (i : Int), .pointer (some ⟨T, 0, none⟩), .pointer (some ⟨L, 0, none⟩)] w fun e w' => e = .returned (.tuple #[.int .i64 (segF xs i xs[i]).lo, .int .i64 (segF xs i xs[i]).hi]) ∧ ∃ n, w' = w.drewN n := by
  obtain ⟨an, cn, rfl, ln⟩ := hv.shape
  have ln' := maxLen_eq _ ln
  obtain ⟨b, off, rfl, hbb, ⟨c0, c1, -, -⟩, -, -, -⟩ := elemSpn hv i hi
  obtain ⟨p1, p2, p3, p4⟩ := hb i hi
  obtain ⟨q1, q2⟩ := nextF_bd hb i
  have HLO : Hid ((segF xs i xs[i]).lo = xs[i].fr + xs[i].ck.off) := Lib.hid rfl
  have HHI : Hid ((segF xs i xs[i]).hi = nextF xs i + xs[i].ck.off) := Lib.hid rfl
  have hi' : (i : Int) < (xs.length : Int) := by omega
  by_cases h : i + 1 < xs.length
  · obtain ⟨b', off', hbo, -, ⟨d0, -⟩, -⟩ := elemSpn hv (i + 1) h
    obtain ⟨rfl, rfl⟩ : b = b' ∧ off = off' := by simpa using hbo
    have hn : nextF xs i = xs[i + 1].fr := by unfold nextF; rw [List.getElem?_eq_getElem h]
    rw [← hn] at d0
    have h2 : (i : Int) + 1 < (xs.length : Int) := by omega
    have t2 : ((i : Int) + 1).toNat = i + 1 := by omega
    have t4 : (0 : Int) ≤ (i : Int) + 1 := by omega
    clear hv hb hbo hn ln h
    generalize nextF xs i = nx at *
    generalize (segF xs i xs[i]).lo = lo at *
    generalize (segF xs i xs[i]).hi = hh at *
    generalize xs[i] = x at *
    go_enter Try.func34, Try.ntmps34
    go_wp2
    have t5 : IntKind.i64.wrap (x.fr + x.ck.off) = x.fr + x.ck.off := IntWalk.i64_in _ (by omega)
    have t6 : IntKind.i64.wrap (nx + x.ck.off) = nx + x.ck.off := IntWalk.i64_in _ (by omega)
    go_quiet (fail)
    clear t5 t6
    go_wp2
    go_ret2
    exact ⟨ret_i2 HLO.out.symm HHI.out.symm, _, rfl⟩
  · have hn : nextF xs i = 4102444800 := by unfold nextF; rw [List.getElem?_eq_none (by omega)]
    have h2 : ¬ (i : Int) + 1 < (xs.length : Int) := by omega
    rw [hn] at HHI
    clear hv hb hn ln h q1 q2
    generalize (segF xs i xs[i]).lo = lo at *
    generalize (segF xs i xs[i]).hi = hh at *
    generalize xs[i] = x at *
    go_enter Try.func34, Try.ntmps34
    go_wp2
    have t5 : IntKind.i64.wrap (x.fr + x.ck.off) = x.fr + x.ck.off := IntWalk.i64_in _ (by omega)
    have t6 : IntKind.i64.wrap (4102444800 + x.ck.off) = 4102444800 + x.ck.off := IntWalk.i64_in _ (by omega)
    go_quiet (fail)
    clear t5 t6
    go_wp2
    go_ret2
    exact ⟨ret_i2 HLO.out.symm HHI.out.symm, _, rfl⟩
end Go.Proofs.Ytlhidbbphngpcaa
