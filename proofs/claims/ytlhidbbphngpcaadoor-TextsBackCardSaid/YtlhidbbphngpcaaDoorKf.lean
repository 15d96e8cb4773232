/-
  sundialkeep.Forest: forests that may be.
  sundialkeep.same; the answers' search.
  How a slice of raw numbers that came in reads.
-/
import Derived.Deep.AppendLies
import Derived.OrdersHeld
import Derived.Deep.RegionHeld3
import Derived.Test.YtlhidbbphngpcaaDoorTreeT
import Derived.Test.YtlhidbbphngpcaaDoorBase
namespace Go.Proofs.YtlhidbbphngpcaaDoor
set_option linter.unusedVariables false
set_option linter.unusedSimpArgs false
open Go.ChangeShapes Go.WideShapes Go.ChangeAt Go.RowKit

structure Rw where
  kd : Int
  ra : Int
  rb : Int
  rc : Int
def RRw (cs : List Value) (x : Rw) : Prop := cs = [.int .i64 x.kd, .int .i64 x.ra, .int .i64 x.rb, .int .i64 x.rc] ∧ I64 x.kd ∧ I64 x.ra ∧ I64 x.rb ∧ I64 x.rc
def AN5 : List Ans := [⟨⟨0, false, ⟨#[]⟩⟩, [], 1⟩, ⟨⟨0, false, ⟨#[]⟩⟩, [], 2⟩, ⟨⟨0, false, ⟨#[]⟩⟩, [], 1⟩, ⟨⟨0, false, ⟨#[]⟩⟩, [3600, 0], 0⟩, ⟨⟨0, true, ⟨#[88]⟩⟩, [], 0⟩]
def kf0 (w : World) : World := ((w.alloc (.cells #[.slice none 0 0, .slice none 0 0] 64)).alloc (.cells #[.int .i64 3600, .int .i64 0] 3)).alloc (.cells #[.int .i64 0, .bool false, .string ⟨#[]⟩, .slice none 0 0, .int .i64 1, .int .i64 0, .bool false, .string ⟨#[]⟩, .slice none 0 0, .int .i64 2, .int .i64 0, .bool false, .string ⟨#[]⟩, .slice none 0 0, .int .i64 1, .int .i64 0, .bool false, .string ⟨#[]⟩, .slice (some ⟨w.heap.size + 1, 0, none⟩) 2 2, .int .i64 0, .int .i64 0, .bool true, .string ⟨#[88]⟩, .slice none 0 0, .int .i64 0] 79)
def kf1 (w : World) : World := ((kf0 w).alloc (.cells #[.slice (some ⟨w.heap.size + 1 + 1 + 1 + 1, 0, none⟩) 1 1, .slice (some ⟨w.heap.size + 1 + 1, 0, none⟩) 5 5] 64)).alloc (.cells #[.bool true, .int .i64 1, .int .i64 0, .int .i64 0, .int .i64 0] 90)
theorem kf0_size (w : World) : (kf0 w).heap.size = w.heap.size + 3 := by unfold kf0; rw [size_alloc, size_alloc, size_alloc]
def KfC (W : World) (b : Nat) : Prop := (∀ j, W.cell? ⟨b + 1, j, none⟩ = #[Value.int .i64 3600, .int .i64 0][j]?) ∧ ∀ j, W.cell? ⟨b + 1 + 1, j, none⟩ = (#[.int .i64 0, .bool false, .string ⟨#[]⟩, .slice none 0 0, .int .i64 1, .int .i64 0, .bool false, .string ⟨#[]⟩, .slice none 0 0, .int .i64 2, .int .i64 0, .bool false, .string ⟨#[]⟩, .slice none 0 0, .int .i64 1, .int .i64 0, .bool false, .string ⟨#[]⟩, .slice (some ⟨b + 1, 0, none⟩) 2 2, .int .i64 0, .int .i64 0, .bool true, .string ⟨#[88]⟩, .slice none 0 0, .int .i64 0] : Array Value)[j]?
theorem KfC.ans {W : World} {b : Nat} (h : KfC W b) (hz : b + 1 + 1 < W.heap.size) : SlAt W 5 (RAns W) (.slice (some ⟨b + 1 + 1, 0, none⟩) 5 5) AN5 := by
  obtain ⟨hd, hc⟩ := h
  have hi : SlAt W 1 RInt (.slice (some ⟨b + 1, 0, none⟩) 2 2) [3600, 0] := by
    refine .inr ⟨b + 1, 0, 2, rfl, by decide, by decide, by decide, by omega, fun i hi => ?_⟩
    match i, hi with
    | 0, _ => exact ⟨[.int .i64 3600], rfl, ⟨rfl, i64_nat 3600 (by decide)⟩, fun j hj => by rw [hd]; match j, hj with | 0, _ => rfl⟩
    | 1, _ => exact ⟨[.int .i64 0], rfl, ⟨rfl, i64_zero⟩, fun j hj => by rw [hd]; match j, hj with | 0, _ => rfl⟩
  refine .inr ⟨b + 1 + 1, 0, 5, rfl, by decide, by decide, by decide, hz, fun i hi' => ?_⟩
  match i, hi' with
  | 0, _ => exact ⟨[.int .i64 0, .bool false, .string ⟨#[]⟩, .slice none 0 0, .int .i64 1], rfl, ⟨_, rfl, SlAt_nil _, i64_zero, i64_nat 1 (by decide), Nat.zero_le _⟩, fun j hj => by rw [hc]; match j, hj with | 0, _ => rfl | 1, _ => rfl | 2, _ => rfl | 3, _ => rfl | 4, _ => rfl⟩
  | 1, _ => exact ⟨[.int .i64 0, .bool false, .string ⟨#[]⟩, .slice none 0 0, .int .i64 2], rfl, ⟨_, rfl, SlAt_nil _, i64_zero, i64_nat 2 (by decide), Nat.zero_le _⟩, fun j hj => by rw [hc]; match j, hj with | 0, _ => rfl | 1, _ => rfl | 2, _ => rfl | 3, _ => rfl | 4, _ => rfl⟩
  | 2, _ => exact ⟨[.int .i64 0, .bool false, .string ⟨#[]⟩, .slice none 0 0, .int .i64 1], rfl, ⟨_, rfl, SlAt_nil _, i64_zero, i64_nat 1 (by decide), Nat.zero_le _⟩, fun j hj => by rw [hc]; match j, hj with | 0, _ => rfl | 1, _ => rfl | 2, _ => rfl | 3, _ => rfl | 4, _ => rfl⟩
  | 3, _ => exact ⟨[.int .i64 0, .bool false, .string ⟨#[]⟩, .slice (some ⟨b + 1, 0, none⟩) 2 2, .int .i64 0], rfl, ⟨_, rfl, hi, i64_zero, i64_zero, Nat.zero_le _⟩, fun j hj => by rw [hc]; match j, hj with | 0, _ => rfl | 1, _ => rfl | 2, _ => rfl | 3, _ => rfl | 4, _ => rfl⟩
  | 4, _ => exact ⟨[.int .i64 0, .bool true, .string ⟨#[88]⟩, .slice none 0 0, .int .i64 0], rfl, ⟨_, rfl, SlAt_nil _, i64_zero, i64_zero, (show 1 ≤ maxLen by decide)⟩, fun j hj => by rw [hc]; match j, hj with | 0, _ => rfl | 1, _ => rfl | 2, _ => rfl | 3, _ => rfl | 4, _ => rfl⟩
theorem KfC.keep {W W' : World} {b : Nat} (h : KfC W b) (e1 : W'.heap[b + 1]? = W.heap[b + 1]?) (e2 : W'.heap[b + 1 + 1]? = W.heap[b + 1 + 1]?) : KfC W' b :=
  ⟨fun j => (World.cell?_of_block (a := ⟨b + 1, j, none⟩) e1).trans (h.1 j), fun j => (World.cell?_of_block (a := ⟨b + 1 + 1, j, none⟩) e2).trans (h.2 j)⟩
theorem kf0_cells (w : World) : KfC (kf0 w) w.heap.size := by
  have hs1 := size_alloc w (.cells #[.slice none 0 0, .slice none 0 0] 64)
  refine ⟨fun j => ?_, fun j => World.cell?_alloc_at _ _ _ _ (by rw [size_alloc, size_alloc])⟩
  unfold kf0
  rw [((Below.refl _ _).alloc (Nat.le_refl _) _).cell (p := ⟨w.heap.size + 1, j, none⟩) (by rw [size_alloc, size_alloc]; exact Nat.lt_succ_self _)]
  exact World.cell?_alloc_at _ _ _ _ hs1.symm
/-- nodes that may be, over five answers. -/
def GoodN (ns : List Nod) : Prop := (∀ i (hi : i < ns.length), nodE 5 (i : Nat) ns[i] = 0) ∧ ∀ n ∈ ns, I64 n.an ∧ I64 n.bd ∧ I64 n.ls ∧ I64 n.mr
theorem GoodN.snoc {ns : List Nod} {x : Nod} (h : GoodN ns) (h1 : nodE 5 (ns.length : Nat) x = 0) (h2 : I64 x.an ∧ I64 x.bd ∧ I64 x.ls ∧ I64 x.mr) : GoodN (ns ++ [x]) := by
  refine ⟨fun i hi => ?_, fun n hn => ?_⟩
  · by_cases hl : i < ns.length
    · rw [List.getElem_append_left hl]; exact h.1 i hl
    · have e : i = ns.length := by rw [List.length_append, List.length_singleton] at hi; omega
      subst e
      rw [List.getElem_append_right (Nat.le_refl _)]
      simpa using h1
  · rcases List.mem_append.1 hn with h3 | h3
    · exact h.2 n h3
    · obtain rfl := List.mem_singleton.1 h3; exact h2
theorem GoodN.frs {ns : List Nod} (h : GoodN ns) (h0 : 0 < ns.length) (h1 : ns.length ≤ 8000) : frsE ⟨ns, AN5⟩ = 0 := by
  unfold frsE
  dsimp only
  rw [if_neg (by omega), if_neg (by show ¬ (8000 < ns.length ∨ 2000 < 5); omega), if_neg (by show ¬ (anssE AN5 ≠ 0); decide +kernel)]
  exact ferr_none _ _ _ fun i hi => by rw [Nat.zero_add]; exact h.1 i hi
/-- the nodes of raw things. -/
def m4R (n : Nat) : Int := if 4 < (n : Int) then 4 else (n : Int)
def nodR (x : Rw) (n : Nat) : Nod := if pkv x.kd 3 = 0 then leafN (pkv x.ra 5) else askN (pkv x.ra 60 - 20) (n - 1 - pkv x.rb (m4R n)) (n - 1 - pkv x.rc (m4R n))
def fstN (xs : List Rw) : Nat → List Nod
  | 0 => [leafN 1]
  | k + 1 => match xs[k]? with
    | some x => fstN xs k ++ [nodR x (fstN xs k).length]
    | none => fstN xs k
def frst (xs : List Rw) : Frs := ⟨fstN xs 40, AN5⟩
theorem fstN_succ {xs : List Rw} {k : Nat} {x : Rw} (h : xs[k]? = some x) : fstN xs (k + 1) = fstN xs k ++ [nodR x (fstN xs k).length] := by
  show (match xs[k]? with | some x => fstN xs k ++ [nodR x (fstN xs k).length] | none => fstN xs k) = _
  rw [h]
theorem fst_leaf {xs : List Rw} {k : Nat} {x : Rw} {ns : List Nod} (hn : ns = fstN xs k) (h : xs[k]? = some x) (h0 : pkv x.kd 3 = 0) : ns ++ [leafN (pkv x.ra 5)] = fstN xs (k + 1) := by
  rw [fstN_succ h, ← hn]
  unfold nodR
  rw [if_pos h0]
theorem fst_ask {xs : List Rw} {k : Nat} {x : Rw} {ns : List Nod} {m4 : Int} (hn : ns = fstN xs k) (h : xs[k]? = some x) (h0 : ¬ pkv x.kd 3 = 0) (hm : m4 = (if 4 < (ns.length : Int) then 4 else (ns.length : Int))) : ns ++ [askN (pkv x.ra 60 - 20) (ns.length - 1 - pkv x.rb m4) (ns.length - 1 - pkv x.rc m4)] = fstN xs (k + 1) := by
  rw [fstN_succ h, ← hn, hm]
  unfold nodR m4R
  rw [if_neg h0]
theorem fstN_stop {xs : List Rw} {k : Nat} (h : xs.length ≤ k) : ∀ d, fstN xs (k + d) = fstN xs k
  | 0 => rfl
  | d + 1 => by
    show (match xs[k + d]? with | some x => fstN xs (k + d) ++ [nodR x (fstN xs (k + d)).length] | none => fstN xs (k + d)) = _
    rw [List.getElem?_eq_none (by omega)]
    exact fstN_stop h d
theorem fst_end {xs : List Rw} {k : Nat} {ns : List Nod} (hn : ns = fstN xs k) (hk : k ≤ 40) (h : xs.length ≤ k ∨ 40 ≤ k) : (⟨ns, AN5⟩ : Frs) = frst xs := by
  unfold frst
  rw [hn]
  rcases h with h | h
  · have := fstN_stop h (40 - k)
    rw [show k + (40 - k) = 40 by omega] at this
    rw [this]
  · rw [show k = 40 by omega]
theorem leaf_good {n : Nat} {a : Int} (h0 : 0 ≤ a) (h1 : a < 5) : nodE 5 (n : Nat) (leafN a) = 0 ∧ I64 (leafN a).an ∧ I64 (leafN a).bd ∧ I64 (leafN a).ls ∧ I64 (leafN a).mr := by
  refine ⟨?_, i64_of (by show _ ≤ a; omega) (by show a ≤ _; omega), i64_zero, i64_zero, i64_zero⟩
  unfold nodE leafN
  rw [if_pos rfl, if_neg (by dsimp only; omega), if_neg (by simp)]
theorem ask_good {n : Nat} {b l m : Int} (hb : -100 ≤ b ∧ b ≤ 100) (hl : 0 ≤ l ∧ l < n) (hm : 0 ≤ m ∧ m < n) (hn : n ≤ 100000) : nodE 5 (n : Nat) (askN b l m) = 0 ∧ I64 (askN b l m).an ∧ I64 (askN b l m).bd ∧ I64 (askN b l m).ls ∧ I64 (askN b l m).mr := by
  refine ⟨?_, i64_zero, i64_of (by show _ ≤ b; omega) (by show b ≤ _; omega), i64_of (by show _ ≤ l; omega) (by show l ≤ _; omega), i64_of (by show _ ≤ m; omega) (by show m ≤ _; omega)⟩
  unfold nodE askN
  rw [if_neg (by simp), if_neg (by simp), if_neg (by dsimp only; omega)]
theorem size_al {W : World} {n : Nat} (h : W.heap.size = n) (o : Obj) : (W.alloc o).heap.size = n + 1 := by rw [size_alloc, h]
/-- behind the append of a round. -/
theorem kf_mid {wr Wb w1 : World} {o : Obj} {B n : Nat} {v : Value} {l : List Value} (hon : wr.ownsRow B 90 5 v n l) (honb : Wb.ownsRow B 90 5 v n l) (hB : B ≤ wr.heap.size) (hsb : Wb.heap.size = wr.heap.size + 1)
    (hg : ((Wb.alloc o).drew).grownBy w1 v.ownBlock) : (∀ j, w1.cell? ⟨wr.heap.size, j, none⟩ = Wb.cell? ⟨wr.heap.size, j, none⟩) ∧ Below B Wb w1 := by
  have hs := size_alloc Wb o
  have hB2 : Below B Wb ((Wb.alloc o).drew) := ((Below.refl B Wb).alloc (by omega) _).drew
  refine ⟨fun j => ?_, append_keep honb hB2 (by omega) hg⟩
  have hne : some wr.heap.size ≠ v.ownBlock := by
    intro e
    have := (hon.lt wr.heap.size e.symm).2
    omega
  rw [grown_cell hg (by show wr.heap.size < (Wb.alloc o).heap.size; omega) hne]
  exact ((Below.refl Wb.heap.size _).alloc (Nat.le_refl _) _).cell (p := ⟨wr.heap.size, j, none⟩) (by rw [hsb]; exact Nat.lt_succ_self _)
theorem kf_rel {W0 wr Wb w1 : World} {F : Nat} {nn : Nat} {l : List Value} {u va v' : Value} (hbr : Below F W0 wr) (hbR : Below (F + 1) wr Wb) (k2 : Below (F + 1) Wb w1) (y0 : w1.cell? ⟨F, 0, none⟩ = some u) (y1 : w1.cell? ⟨F, 1, none⟩ = some va) (y2 : ∀ j, w1.frozen? ⟨F, j, none⟩ = false) (HO : w1.ownsRow (F + 1) 90 5 v' nn l) (hsz : F + 1 ≤ wr.heap.size) :
    (w1.setCell ⟨F, 0, none⟩ v').cell? ⟨F, 0, none⟩ = some v' ∧ (w1.setCell ⟨F, 0, none⟩ v').cell? ⟨F, 1, none⟩ = some va ∧ (w1.setCell ⟨F, 0, none⟩ v').ownsRow (F + 1) 90 5 v' nn l ∧ (∀ j, (w1.setCell ⟨F, 0, none⟩ v').frozen? ⟨F, j, none⟩ = false) ∧ Below F W0 (w1.setCell ⟨F, 0, none⟩ v') ∧ F + 1 ≤ (w1.setCell ⟨F, 0, none⟩ v').heap.size := by
  have h1 := hbR.size
  have h2 := k2.size
  refine ⟨World.cell?_setCell_same (h := y0) .., ?_, ownsRow_setCell_below HO (Nat.lt_succ_self _) _, fun j => ?_, ?_, ?_⟩
  · rw [World.cell?_setCell_other (h := by simp)]; exact y1
  · rw [World.frozen?_setCell]; exact y2 j
  · exact (hbr.trans ((hbR.trans k2).mono (Nat.le_succ _))).setCell (Nat.le_refl _) _
  · rw [World.size_setCell]; omega
theorem elemRw {w : World} {aa : Option Addr} {n ca : Nat} {xs : List Rw} (h : SlAt w 4 RRw (.slice aa n ca) xs) (k : Nat) (hk : k < xs.length) :
    ∃ b off, aa = some ⟨b, off, none⟩ ∧ b < w.heap.size ∧
      (w.cell? ⟨b, off + k * 4, none⟩ = some (.int .i64 xs[k].kd) ∧ w.cell? ⟨b, off + k * 4 + 1, none⟩ = some (.int .i64 xs[k].ra) ∧ w.cell? ⟨b, off + k * 4 + 2, none⟩ = some (.int .i64 xs[k].rb) ∧ w.cell? ⟨b, off + k * 4 + 3, none⟩ = some (.int .i64 xs[k].rc)) ∧ I64 xs[k].kd ∧ I64 xs[k].ra ∧ I64 xs[k].rb ∧ I64 xs[k].rc := by
  rcases h with ⟨a, cap, hv, rfl⟩ | ⟨b, off, cap, hv, h0, h1, h2, h3, h4⟩
  · simp at hk
  · obtain ⟨cs, _, ⟨rfl, r1, r2, r3, r4⟩, c3⟩ := h4 k hk
    simp only [Value.slice.injEq] at hv
    exact ⟨b, off, hv.1, h3, ⟨c3 0 (by omega), c3 1 (by omega), c3 2 (by omega), c3 3 (by omega)⟩, r1, r2, r3, r4⟩
set_option maxRecDepth 100000 in
set_option maxHeartbeats 4000000 in
theorem forest_is (v : Value) (xs : List Rw) (w : World) (hv : SlAt w 4 RRw v xs) :
    Calls Tryd.prog 28 #[v] w fun e w' => ∃ vn va f, e = .returned (.agg #[vn, va]) ∧ FrsAt w' vn va f ∧ (frsE f = 0 ∧ f.nodes.length ≤ 41 ∧ f = frst xs) ∧ Below w.heap.size w w' := by
  obtain ⟨an, cn, rfl, ln⟩ := hv.shape
  have ln' := maxLen_eq _ ln
  have HV := Lib.hid hv
  obtain ⟨j0, hj0, hj1, hj2, hj3⟩ := info_parts info_node
  clear hv ln
  go_enter Tryd.func28, Tryd.ntmps28
  go_wp2
  have hs0 := kf0_size w
  have hA := kf0_cells w
  have b00 : Below w.heap.size w (kf0 w) := (below_alloc2 (Nat.le_refl _) _ _).alloc (by rw [size_alloc, size_alloc]; omega) _
  have b01 : Below (kf0 w).heap.size (kf0 w) (kf1 w) := below_alloc2 (Nat.le_refl _) _ _
  have f0 : (kf1 w).cell? ⟨w.heap.size + 3, 0, none⟩ = some (.slice (some ⟨w.heap.size + 4, 0, none⟩) 1 1) := by
    unfold kf1
    rw [((Below.refl _ _).alloc (Nat.le_refl _) _).cell (p := ⟨w.heap.size + 3, 0, none⟩) (by rw [size_alloc, hs0]; exact Nat.lt_succ_self _), World.cell?_alloc_at _ _ _ _ hs0.symm]
    rfl
  have f1 : (kf1 w).cell? ⟨w.heap.size + 3, 1, none⟩ = some (.slice (some ⟨w.heap.size + 2, 0, none⟩) 5 5) := by
    unfold kf1
    rw [((Below.refl _ _).alloc (Nat.le_refl _) _).cell (p := ⟨w.heap.size + 3, 1, none⟩) (by rw [size_alloc, hs0]; exact Nat.lt_succ_self _), World.cell?_alloc_at _ _ _ _ hs0.symm]
    rfl
  have f2 : ∀ j, (kf1 w).frozen? ⟨w.heap.size + 3, j, none⟩ = false := fun j => by
    unfold kf1
    rw [((Below.refl _ _).alloc (Nat.le_refl _) _).frozen (p := ⟨w.heap.size + 3, j, none⟩) (by rw [size_alloc, hs0]; exact Nat.lt_succ_self _)]
    exact World.frozen?_alloc_at _ _ _ _ hs0.symm
  have hsz1 : (kf1 w).heap.size = w.heap.size + 5 := by unfold kf1; rw [size_alloc, size_alloc, hs0]
  have hown : (kf1 w).ownsRow (w.heap.size + 4) 90 5 (.slice (some ⟨w.heap.size + 4, 0, none⟩) 1 1) [leafN 1].length ([leafN 1].flatMap encN) := by
    have hs4 : w.heap.size + 4 = ((kf0 w).alloc (.cells #[.slice (some ⟨w.heap.size + 1 + 1 + 1 + 1, 0, none⟩) 1 1, .slice (some ⟨w.heap.size + 1 + 1, 0, none⟩) 5 5] 64)).heap.size := by rw [size_alloc, hs0]
    rw [hs4]
    exact World.ownsRow_lit _ _ 1 (Nat.le_refl _) (by decide) rfl
  have r0 : (kf0 w).cell? ⟨w.heap.size, 0, none⟩ = some (.slice none 0 0) := by
    unfold kf0
    rw [(below_alloc2 (Nat.le_refl _) _ _).cell (p := ⟨w.heap.size, 0, none⟩) (by rw [size_alloc]; exact Nat.lt_succ_self _), World.cell?_alloc_at _ _ _ _ rfl]
    rfl
  have r1 : (kf0 w).cell? ⟨w.heap.size, 1, none⟩ = some (.slice none 0 0) := by
    unfold kf0
    rw [(below_alloc2 (Nat.le_refl _) _ _).cell (p := ⟨w.heap.size, 1, none⟩) (by rw [size_alloc]; exact Nat.lt_succ_self _), World.cell?_alloc_at _ _ _ _ rfl]
    rfl
  have r2 : ∀ j, (kf0 w).frozen? ⟨w.heap.size, j, none⟩ = false := fun j => by
    unfold kf0
    rw [(below_alloc2 (Nat.le_refl _) _ _).frozen (p := ⟨w.heap.size, j, none⟩) (by rw [size_alloc]; exact Nat.lt_succ_self _)]
    exact World.frozen?_alloc_at _ _ _ _ rfl
  have hst : ∀ W, W = kf1 w → W = kf1 w := fun _ h => h
  change Code.wp _ _ _ _ (kf1 w)
  generalize kf1 w = W1 at *
  generalize kf0 w = W0 at *
  have HS0 := Lib.hid hs0
  have HA := Lib.hid hA
  have HO := Lib.hid hown
  have R0 := Lib.hid r0
  have R1 := Lib.hid r1
  have R2 := Lib.hid r2
  have F2 := Lib.hid f2
  have HZ1 : w.heap.size + 4 ≤ W1.heap.size := by omega
  have B01 : Below (w.heap.size + 3) W0 W1 := by rw [hs0] at b01; exact b01
  have hg1 : Hid (GoodN [leafN 1] ∧ [leafN 1].length = 0 + 1 ∧ [leafN 1] = fstN xs 0) := ⟨⟨fun i hi => by obtain rfl : i = 0 := (by simpa using hi); exact (leaf_good (n := 0) (by decide) (by decide)).1, fun n hn => by obtain rfl := List.mem_singleton.1 hn; exact (leaf_good (n := 0) (by decide) (by decide)).2⟩, rfl, rfl⟩
  clear hs0 hA hown r0 r1 r2 f2 hsz1 b01 hst
  go_loopw [4] (fun i wr => ∃ (k : Nat) (ns : List Nod) (vn : Value), k ≤ 40 ∧ i = .int .i64 k ∧ Hid (GoodN ns ∧ ns.length = k + 1 ∧ ns = fstN xs k) ∧ wr.cell? ⟨w.heap.size + 3, 0, none⟩ = some vn ∧ wr.cell? ⟨w.heap.size + 3, 1, none⟩ = some (.slice (some ⟨w.heap.size + 2, 0, none⟩) 5 5) ∧ Hid (wr.ownsRow (w.heap.size + 4) 90 5 vn ns.length (ns.flatMap encN)) ∧ Hid (∀ j, wr.frozen? ⟨w.heap.size + 3, j, none⟩ = false) ∧ Below (w.heap.size + 3) W0 wr ∧ w.heap.size + 4 ≤ wr.heap.size) (fun i _ => (40 - intOf i).toNat)
  case atStart => exact ⟨0, [leafN 1], _, by omega, rfl, hg1, f0, f1, HO, F2, B01, HZ1⟩
  case round =>
    obtain ⟨k, ns, vn, hk, rfl, hgn, c0, c1, hon, hfz, hbr, hsz⟩ := hrel
    have f5 := hfz.out
    obtain ⟨av, cv, rfl⟩ := own_shape hon.out
    have hz5 : w.heap.size + 3 < wr.heap.size := by omega
    have hnl : ns.length ≤ 41 := by have := hgn.out.2.1; omega
    have HNL := Lib.hid hnl
    have hnl0 : 0 < ns.length := by have := hgn.out.2.1; omega
    by_cases hgo : k < xs.length ∧ k < 40
    · obtain ⟨hlt, h40⟩ := hgo
      have b00' : Below w.heap.size w wr := b00.trans (hbr.mono (by omega))
      obtain ⟨b, off, rfl, hbb, ⟨d0, d1, d2, d3⟩, i0, i1, i2, i3⟩ := elemRw HV.out k hlt
      have m0 := (b00'.cell (p := ⟨b, off + k * 4, none⟩) hbb).trans d0
      have m1 := (b00'.cell (p := ⟨b, off + k * 4 + 1, none⟩) hbb).trans d1
      have m2 := (b00'.cell (p := ⟨b, off + k * 4 + 2, none⟩) hbb).trans d2
      have m3 := (b00'.cell (p := ⟨b, off + k * 4 + 3, none⟩) hbb).trans d3
      have I0 := Lib.hid i0
      have I1 := Lib.hid i1
      have I2 := Lib.hid i2
      have I3 := Lib.hid i3
      clear d0 d1 d2 d3 i0 i1 i2 i3 b00'
      have hxk : xs[k]? = some xs[k] := List.getElem?_eq_getElem hlt
      have HXK := Lib.hid hxk
      clear hxk
      generalize xs[k] = x at *
      have hlt' : (k : Int) < (xs.length : Int) := by omega
      have h40' : (k : Int) < 40 := by omega
      have hsb := size_alloc wr (.cells #[.int .i64 x.kd, .int .i64 x.ra, .int .i64 x.rb, .int .i64 x.rc] 92)
      have hbB : Below wr.heap.size wr (wr.alloc (.cells #[.int .i64 x.kd, .int .i64 x.ra, .int .i64 x.rb, .int .i64 x.rc] 92)) := (Below.refl _ _).alloc (Nat.le_refl _) _
      by_cases hp : pkv x.kd 3 = 0
      · have hp' : (pkv x.kd 3 == 0) = true := by rw [beq_iff_eq]; exact hp
        have HP0 := Lib.hid hp
        clear hp
        go_wp2_with (go_at_call 29; refine (picked_v _ _ _ I0.out (by omega) (by omega)).mono ?_; rintro e w' ⟨rfl, rfl⟩)
        have q1 : (wr.alloc (.cells #[.int .i64 x.kd, .int .i64 x.ra, .int .i64 x.rb, .int .i64 x.rc] 92)).cell? ⟨wr.heap.size, 1, none⟩ = some (.int .i64 x.ra) := World.cell?_alloc_at (w := wr) _ _ wr.heap.size 1 rfl
        have hbR : Below (w.heap.size + 4) wr (wr.alloc (.cells #[.int .i64 x.kd, .int .i64 x.ra, .int .i64 x.rb, .int .i64 x.rc] 92)) := hbB.mono hsz
        have hon1 := Lib.hid (hon.out.alloc (.cells #[.int .i64 x.kd, .int .i64 x.ra, .int .i64 x.rb, .int .i64 x.rc] 92))
        generalize wr.alloc (.cells #[.int .i64 x.kd, .int .i64 x.ra, .int .i64 x.rb, .int .i64 x.rc] 92) = Wb at *
        have g0 := (hbR.cell (p := ⟨w.heap.size + 3, 0, none⟩) (Nat.lt_succ_self _)).trans c0
        have g1 := (hbR.cell (p := ⟨w.heap.size + 3, 1, none⟩) (Nat.lt_succ_self _)).trans c1
        have g2 : ∀ j, Wb.frozen? ⟨w.heap.size + 3, j, none⟩ = false := fun j => (hbR.frozen (p := ⟨w.heap.size + 3, j, none⟩) (Nat.lt_succ_self _)).trans (f5 j)
        have hzb : w.heap.size + 4 < Wb.heap.size := by omega
        clear c0 c1 f5
        have g0' : Wb.cell? ⟨w.heap.size + 1 + 1 + 1, 0, none⟩ = some (.slice av ns.length cv) := g0
        have g2' : ∀ j, Wb.frozen? ⟨w.heap.size + 1 + 1 + 1, j, none⟩ = false := g2
        have hzF : w.heap.size + 1 + 1 + 1 < Wb.heap.size := by omega
        have HSB := Lib.hid hsb
        clear hsb
        have hnew : ¬ wr.heap.size = w.heap.size + 1 + 1 + 1 := by omega
        have hnew' : ¬ w.heap.size + 1 + 1 + 1 = wr.heap.size := by omega
        have hal : ∀ (o : Obj), (fun w' : World => w'.cell? ⟨wr.heap.size, 1, none⟩ = some (.int .i64 x.ra)) ((Wb.alloc o).drew) := fun o =>
          have bx : ∀ j, (Wb.alloc o).cell? ⟨wr.heap.size, j, none⟩ = Wb.cell? ⟨wr.heap.size, j, none⟩ := fun j => ((Below.refl Wb.heap.size Wb).alloc (Nat.le_refl _) o).cell (p := ⟨wr.heap.size, j, none⟩) (by rw [HSB.out]; exact Nat.lt_succ_self _)
          (bx 1).trans q1
        refine wp_region_held_drew (S := fun w' => w'.cell? ⟨wr.heap.size, 1, none⟩ = some (.int .i64 x.ra)) (by kernel_rfl) q1 (fun hHeld => ?_)
        have HS : (fun w' : World => w'.cell? ⟨wr.heap.size, 1, none⟩ = some (.int .i64 x.ra)) Wb.drew := hHeld
        clear hHeld
        refine wpAnyH_take (i := 0) (oi := ⟨some 40, _, _, _, _, none⟩) (v := ?_) rfl (by kernel_rfl) (by kernel_rfl) (by kernel_rfl) (fun _ _ _ h => h) (Or.inl ⟨by rfl, ?_⟩) HS ?_
        rotate_left
        · (intro w' hSw; (try dsimp only at hSw); go_simp; (try with_reducible rfl))
        try simp only [Act.put, List.setIfInBounds_toArray, List.set_cons_zero, List.set_cons_succ]
        refine wpAnyH_take (i := 2) (oi := ⟨some 42, _, _, _, _, none⟩) (v := ?_) rfl (by kernel_rfl) (by kernel_rfl) (by kernel_rfl) (fun _ _ _ h => h) (Or.inl ⟨by rfl, ?_⟩) HS ?_
        rotate_left
        · (intro w' hSw; (try dsimp only at hSw); go_simp; (try with_reducible rfl))
        try simp only [Act.put, List.setIfInBounds_toArray, List.set_cons_zero, List.set_cons_succ]
        refine wpAnyH_take (i := 3) (oi := ⟨some 43, _, _, _, _, none⟩) (v := ?_) rfl (by kernel_rfl) (by kernel_rfl) (by kernel_rfl) (fun _ _ _ h => h) (Or.inl ⟨by rfl, ?_⟩) HS ?_
        rotate_left
        · (intro w' hSw; (try dsimp only at hSw); go_simp; (try with_reducible rfl))
        try simp only [Act.put, List.setIfInBounds_toArray, List.set_cons_zero, List.set_cons_succ]
        refine wpAnyH_ready (rs := [1, 4]) (by kernel_rfl) (by simp) ?_
        refine (AllReadyH.cons (o := ⟨some 41, _, _, _, _, none⟩) rfl (fun K hK => ?_) (AllReadyH.cons (o := ⟨some 44, _, _, _, _, none⟩) rfl (fun K hK => ?_) AllReadyH.nil))
        · skip
          go_simp
          refine hK.out _ _ HS (fun hHeld => ?_)
          try clear hK K hHeld
          try simp only [Act.put, List.setIfInBounds_toArray, List.set_cons_zero, List.set_cons_succ]
          refine wpAnyH_ready (rs := [4]) (by kernel_rfl) (by simp) ?_
          refine (AllReadyH.cons (o := ⟨some 44, _, _, _, _, none⟩) rfl (fun K hK => ?_) AllReadyH.nil)
          go_simp
          (go_at_call_of 29 (Value.int .i64 x.ra); refine (picked_v _ _ _ I1.out (by omega) (by omega)).mono ?_; rintro e w' ⟨rfl, rfl⟩)
          try dsimp only
          refine hK.out _ _ HS (fun hHeld => ?_)
          try clear hK K hHeld
          try simp only [Act.put, List.setIfInBounds_toArray, List.set_cons_zero, List.set_cons_succ]
          refine wpAnyH_take (i := 5) (oi := ⟨some 45, _, _, _, _, none⟩) (v := ?_) rfl (by kernel_rfl) (by kernel_rfl) (by kernel_rfl) (fun _ _ _ h => h) (Or.inl ⟨by rfl, ?_⟩) HS ?_
          rotate_left
          · (intro w' hSw; (try dsimp only at hSw); go_simp; (try with_reducible rfl))
          try simp only [Act.put, List.setIfInBounds_toArray, List.set_cons_zero, List.set_cons_succ]
          refine wpAnyH_ready (rs := [6]) (by kernel_rfl) (by simp) ?_
          refine (AllReadyH.cons (o := ⟨some 46, _, _, _, _, none⟩) rfl (fun K hK => ?_) AllReadyH.nil)
          go_simp
          refine hK.out _ _ (hal _) (fun hHeld => ?_)
          clear HS
          have HS := hHeld
          try clear hK K hHeld
          try simp only [Act.put, List.setIfInBounds_toArray, List.set_cons_zero, List.set_cons_succ]
          refine wpAnyH_ready (rs := [7]) (by kernel_rfl) (by simp) ?_
          refine (AllReadyH.cons (o := ⟨some 47, _, _, _, _, none⟩) rfl (fun K hK => ?_) AllReadyH.nil)
          (refine step_append_lies _ (by rfl) _ _ _ (by rfl) (w.heap.size + 4) 90 j0 _ 5 40 Tryd.underlying62 hj0 hj1 hj2 hj3 rfl (by omega) (.slice av ns.length cv) ns.length (ns.flatMap encN) (by rfl) ((hon1.out.alloc _).drew) ⟨Wb.heap.size, 0, none⟩ 1 1 (encN (leafN (pkv x.ra 5))) (by rfl) (by rfl) (cells_at _ _ _ _ _ rfl rfl) (encN_one _) (by omega) (by unfold maxLen; omega) (by omega) (Nat.le_of_lt (Nat.lt_of_lt_of_eq (show w.heap.size + 4 < Wb.heap.size + 1 by omega) (size_alloc _ _).symm)) (Wb.heap.size + 1) (size_alloc _ _) ?_; intro gg cap w1 hown1 hgrow hat hltg; obtain ⟨k1, k2⟩ := kf_mid hon.out hon1.out hsz HSB.out hgrow; have s1 := (k1 1).trans q1; have y0 : w1.cell? ⟨w.heap.size + 1 + 1 + 1, 0, none⟩ = _ := (k2.cell (p := ⟨w.heap.size + 3, 0, none⟩) (Nat.lt_succ_self _)).trans g0; have y1 : w1.cell? ⟨w.heap.size + 1 + 1 + 1, 1, none⟩ = _ := (k2.cell (p := ⟨w.heap.size + 3, 1, none⟩) (Nat.lt_succ_self _)).trans g1; have y2 : ∀ j, w1.frozen? ⟨w.heap.size + 1 + 1 + 1, j, none⟩ = false := fun j => (k2.frozen (p := ⟨w.heap.size + 3, j, none⟩) (Nat.lt_succ_self _)).trans (g2 j); have y3 : w.heap.size + 1 + 1 + 1 < w1.heap.size := Nat.lt_of_lt_of_le (show w.heap.size + 3 < Wb.heap.size by omega) k2.size; have HO1 := Lib.hid (own_snocG hown1); clear hown1 hgrow hat k1)
          refine hK.out _ _ s1 (fun hHeld => ?_)
          clear HS
          have HS := hHeld
          try clear hK K hHeld
          try simp only [Act.put, List.setIfInBounds_toArray, List.set_cons_zero, List.set_cons_succ]
          refine wpAnyH_take (i := 8) (oi := ⟨some 48, _, _, _, _, none⟩) (v := ?_) rfl (by kernel_rfl) (by kernel_rfl) (by kernel_rfl) (fun _ _ _ h => h) (Or.inl ⟨by rfl, ?_⟩) HS ?_
          rotate_left
          · (intro w' hSw; (try dsimp only at hSw); go_simp; (try with_reducible rfl))
          try simp only [Act.put, List.setIfInBounds_toArray, List.set_cons_zero, List.set_cons_succ]
          refine wpAnyH_ready (rs := [9]) (by kernel_rfl) (by simp) ?_
          refine (AllReadyH.cons (o := ⟨none, _, _, _, _, none⟩) rfl (fun K hK => ?_) AllReadyH.nil)
          go_simp
          refine hK.out _ _ (by go_keep) (fun hHeld => ?_)
          try clear hK K hHeld
          try simp only [Act.put, List.setIfInBounds_toArray, List.set_cons_zero, List.set_cons_succ]
          refine wpAnyH_done (by kernel_rfl) ?_ _
          have HGN : Hid (GoodN (ns ++ [leafN (pkv x.ra 5)]) ∧ (ns ++ [leafN (pkv x.ra 5)]).length = k + 1 + 1 ∧ ns ++ [leafN (pkv x.ra 5)] = fstN xs (k + 1)) := by
            obtain ⟨p1, p2⟩ := pkv_bd x.ra 5 (by omega)
            have h := leaf_good (n := ns.length) p1 p2
            exact ⟨hgn.out.1.snoc h.1 h.2, by rw [List.length_append, List.length_singleton, hgn.out.2.1], fst_leaf hgn.out.2.2 HXK.out HP0.out⟩
          obtain ⟨e0, e1, e2, e3, e4, e5⟩ := kf_rel (F := w.heap.size + 3) hbr hbR k2 y0 y1 y2 HO1.out hsz
          have E2 := Lib.hid e2
          have E3 := Lib.hid e3
          clear e2 e3 y0 y1 y2 y3 k2 g0 g1 g2 g0' g2' HO1
          go_wp2
          go_roundw
          case rel => exact ⟨k + 1, _, _, by omega, by go_num, HGN, e0, e1, E2, E3, e4, e5⟩
          case measure => simp [intOf]; omega
        · skip
          go_simp
          (go_at_call_of 29 (Value.int .i64 x.ra); refine (picked_v _ _ _ I1.out (by omega) (by omega)).mono ?_; rintro e w' ⟨rfl, rfl⟩)
          try dsimp only
          refine hK.out _ _ HS (fun hHeld => ?_)
          try clear hK K hHeld
          try simp only [Act.put, List.setIfInBounds_toArray, List.set_cons_zero, List.set_cons_succ]
          refine wpAnyH_take (i := 5) (oi := ⟨some 45, _, _, _, _, none⟩) (v := ?_) rfl (by kernel_rfl) (by kernel_rfl) (by kernel_rfl) (fun _ _ _ h => h) (Or.inl ⟨by rfl, ?_⟩) HS ?_
          rotate_left
          · (intro w' hSw; (try dsimp only at hSw); go_simp; (try with_reducible rfl))
          try simp only [Act.put, List.setIfInBounds_toArray, List.set_cons_zero, List.set_cons_succ]
          refine wpAnyH_ready (rs := [1, 6]) (by kernel_rfl) (by simp) ?_
          refine (AllReadyH.cons (o := ⟨some 41, _, _, _, _, none⟩) rfl (fun K hK => ?_) (AllReadyH.cons (o := ⟨some 46, _, _, _, _, none⟩) rfl (fun K hK => ?_) AllReadyH.nil))
          · skip
            go_simp
            refine hK.out _ _ HS (fun hHeld => ?_)
            try clear hK K hHeld
            try simp only [Act.put, List.setIfInBounds_toArray, List.set_cons_zero, List.set_cons_succ]
            refine wpAnyH_ready (rs := [6]) (by kernel_rfl) (by simp) ?_
            refine (AllReadyH.cons (o := ⟨some 46, _, _, _, _, none⟩) rfl (fun K hK => ?_) AllReadyH.nil)
            go_simp
            refine hK.out _ _ (hal _) (fun hHeld => ?_)
            clear HS
            have HS := hHeld
            try clear hK K hHeld
            try simp only [Act.put, List.setIfInBounds_toArray, List.set_cons_zero, List.set_cons_succ]
            refine wpAnyH_ready (rs := [7]) (by kernel_rfl) (by simp) ?_
            refine (AllReadyH.cons (o := ⟨some 47, _, _, _, _, none⟩) rfl (fun K hK => ?_) AllReadyH.nil)
            (refine step_append_lies _ (by rfl) _ _ _ (by rfl) (w.heap.size + 4) 90 j0 _ 5 40 Tryd.underlying62 hj0 hj1 hj2 hj3 rfl (by omega) (.slice av ns.length cv) ns.length (ns.flatMap encN) (by rfl) ((hon1.out.alloc _).drew) ⟨Wb.heap.size, 0, none⟩ 1 1 (encN (leafN (pkv x.ra 5))) (by rfl) (by rfl) (cells_at _ _ _ _ _ rfl rfl) (encN_one _) (by omega) (by unfold maxLen; omega) (by omega) (Nat.le_of_lt (Nat.lt_of_lt_of_eq (show w.heap.size + 4 < Wb.heap.size + 1 by omega) (size_alloc _ _).symm)) (Wb.heap.size + 1) (size_alloc _ _) ?_; intro gg cap w1 hown1 hgrow hat hltg; obtain ⟨k1, k2⟩ := kf_mid hon.out hon1.out hsz HSB.out hgrow; have s1 := (k1 1).trans q1; have y0 : w1.cell? ⟨w.heap.size + 1 + 1 + 1, 0, none⟩ = _ := (k2.cell (p := ⟨w.heap.size + 3, 0, none⟩) (Nat.lt_succ_self _)).trans g0; have y1 : w1.cell? ⟨w.heap.size + 1 + 1 + 1, 1, none⟩ = _ := (k2.cell (p := ⟨w.heap.size + 3, 1, none⟩) (Nat.lt_succ_self _)).trans g1; have y2 : ∀ j, w1.frozen? ⟨w.heap.size + 1 + 1 + 1, j, none⟩ = false := fun j => (k2.frozen (p := ⟨w.heap.size + 3, j, none⟩) (Nat.lt_succ_self _)).trans (g2 j); have y3 : w.heap.size + 1 + 1 + 1 < w1.heap.size := Nat.lt_of_lt_of_le (show w.heap.size + 3 < Wb.heap.size by omega) k2.size; have HO1 := Lib.hid (own_snocG hown1); clear hown1 hgrow hat k1)
            refine hK.out _ _ s1 (fun hHeld => ?_)
            clear HS
            have HS := hHeld
            try clear hK K hHeld
            try simp only [Act.put, List.setIfInBounds_toArray, List.set_cons_zero, List.set_cons_succ]
            refine wpAnyH_take (i := 8) (oi := ⟨some 48, _, _, _, _, none⟩) (v := ?_) rfl (by kernel_rfl) (by kernel_rfl) (by kernel_rfl) (fun _ _ _ h => h) (Or.inl ⟨by rfl, ?_⟩) HS ?_
            rotate_left
            · (intro w' hSw; (try dsimp only at hSw); go_simp; (try with_reducible rfl))
            try simp only [Act.put, List.setIfInBounds_toArray, List.set_cons_zero, List.set_cons_succ]
            refine wpAnyH_ready (rs := [9]) (by kernel_rfl) (by simp) ?_
            refine (AllReadyH.cons (o := ⟨none, _, _, _, _, none⟩) rfl (fun K hK => ?_) AllReadyH.nil)
            go_simp
            refine hK.out _ _ (by go_keep) (fun hHeld => ?_)
            try clear hK K hHeld
            try simp only [Act.put, List.setIfInBounds_toArray, List.set_cons_zero, List.set_cons_succ]
            refine wpAnyH_done (by kernel_rfl) ?_ _
            have HGN : Hid (GoodN (ns ++ [leafN (pkv x.ra 5)]) ∧ (ns ++ [leafN (pkv x.ra 5)]).length = k + 1 + 1 ∧ ns ++ [leafN (pkv x.ra 5)] = fstN xs (k + 1)) := by
              obtain ⟨p1, p2⟩ := pkv_bd x.ra 5 (by omega)
              have h := leaf_good (n := ns.length) p1 p2
              exact ⟨hgn.out.1.snoc h.1 h.2, by rw [List.length_append, List.length_singleton, hgn.out.2.1], fst_leaf hgn.out.2.2 HXK.out HP0.out⟩
            obtain ⟨e0, e1, e2, e3, e4, e5⟩ := kf_rel (F := w.heap.size + 3) hbr hbR k2 y0 y1 y2 HO1.out hsz
            have E2 := Lib.hid e2
            have E3 := Lib.hid e3
            clear e2 e3 y0 y1 y2 y3 k2 g0 g1 g2 g0' g2' HO1
            go_wp2
            go_roundw
            case rel => exact ⟨k + 1, _, _, by omega, by go_num, HGN, e0, e1, E2, E3, e4, e5⟩
            case measure => simp [intOf]; omega
          · skip
            go_simp
            refine hK.out _ _ (hal _) (fun hHeld => ?_)
            clear HS
            have HS := hHeld
            try clear hK K hHeld
            try simp only [Act.put, List.setIfInBounds_toArray, List.set_cons_zero, List.set_cons_succ]
            refine wpAnyH_ready (rs := [1]) (by kernel_rfl) (by simp) ?_
            refine (AllReadyH.cons (o := ⟨some 41, _, _, _, _, none⟩) rfl (fun K hK => ?_) AllReadyH.nil)
            go_simp
            refine hK.out _ _ HS (fun hHeld => ?_)
            try clear hK K hHeld
            try simp only [Act.put, List.setIfInBounds_toArray, List.set_cons_zero, List.set_cons_succ]
            refine wpAnyH_ready (rs := [7]) (by kernel_rfl) (by simp) ?_
            refine (AllReadyH.cons (o := ⟨some 47, _, _, _, _, none⟩) rfl (fun K hK => ?_) AllReadyH.nil)
            (refine step_append_lies _ (by rfl) _ _ _ (by rfl) (w.heap.size + 4) 90 j0 _ 5 40 Tryd.underlying62 hj0 hj1 hj2 hj3 rfl (by omega) (.slice av ns.length cv) ns.length (ns.flatMap encN) (by rfl) ((hon1.out.alloc _).drew) ⟨Wb.heap.size, 0, none⟩ 1 1 (encN (leafN (pkv x.ra 5))) (by rfl) (by rfl) (cells_at _ _ _ _ _ rfl rfl) (encN_one _) (by omega) (by unfold maxLen; omega) (by omega) (Nat.le_of_lt (Nat.lt_of_lt_of_eq (show w.heap.size + 4 < Wb.heap.size + 1 by omega) (size_alloc _ _).symm)) (Wb.heap.size + 1) (size_alloc _ _) ?_; intro gg cap w1 hown1 hgrow hat hltg; obtain ⟨k1, k2⟩ := kf_mid hon.out hon1.out hsz HSB.out hgrow; have s1 := (k1 1).trans q1; have y0 : w1.cell? ⟨w.heap.size + 1 + 1 + 1, 0, none⟩ = _ := (k2.cell (p := ⟨w.heap.size + 3, 0, none⟩) (Nat.lt_succ_self _)).trans g0; have y1 : w1.cell? ⟨w.heap.size + 1 + 1 + 1, 1, none⟩ = _ := (k2.cell (p := ⟨w.heap.size + 3, 1, none⟩) (Nat.lt_succ_self _)).trans g1; have y2 : ∀ j, w1.frozen? ⟨w.heap.size + 1 + 1 + 1, j, none⟩ = false := fun j => (k2.frozen (p := ⟨w.heap.size + 3, j, none⟩) (Nat.lt_succ_self _)).trans (g2 j); have y3 : w.heap.size + 1 + 1 + 1 < w1.heap.size := Nat.lt_of_lt_of_le (show w.heap.size + 3 < Wb.heap.size by omega) k2.size; have HO1 := Lib.hid (own_snocG hown1); clear hown1 hgrow hat k1)
            refine hK.out _ _ s1 (fun hHeld => ?_)
            clear HS
            have HS := hHeld
            try clear hK K hHeld
            try simp only [Act.put, List.setIfInBounds_toArray, List.set_cons_zero, List.set_cons_succ]
            refine wpAnyH_take (i := 8) (oi := ⟨some 48, _, _, _, _, none⟩) (v := ?_) rfl (by kernel_rfl) (by kernel_rfl) (by kernel_rfl) (fun _ _ _ h => h) (Or.inl ⟨by rfl, ?_⟩) HS ?_
            rotate_left
            · (intro w' hSw; (try dsimp only at hSw); go_simp; (try with_reducible rfl))
            try simp only [Act.put, List.setIfInBounds_toArray, List.set_cons_zero, List.set_cons_succ]
            refine wpAnyH_ready (rs := [9]) (by kernel_rfl) (by simp) ?_
            refine (AllReadyH.cons (o := ⟨none, _, _, _, _, none⟩) rfl (fun K hK => ?_) AllReadyH.nil)
            go_simp
            refine hK.out _ _ (by go_keep) (fun hHeld => ?_)
            try clear hK K hHeld
            try simp only [Act.put, List.setIfInBounds_toArray, List.set_cons_zero, List.set_cons_succ]
            refine wpAnyH_done (by kernel_rfl) ?_ _
            have HGN : Hid (GoodN (ns ++ [leafN (pkv x.ra 5)]) ∧ (ns ++ [leafN (pkv x.ra 5)]).length = k + 1 + 1 ∧ ns ++ [leafN (pkv x.ra 5)] = fstN xs (k + 1)) := by
              obtain ⟨p1, p2⟩ := pkv_bd x.ra 5 (by omega)
              have h := leaf_good (n := ns.length) p1 p2
              exact ⟨hgn.out.1.snoc h.1 h.2, by rw [List.length_append, List.length_singleton, hgn.out.2.1], fst_leaf hgn.out.2.2 HXK.out HP0.out⟩
            obtain ⟨e0, e1, e2, e3, e4, e5⟩ := kf_rel (F := w.heap.size + 3) hbr hbR k2 y0 y1 y2 HO1.out hsz
            have E2 := Lib.hid e2
            have E3 := Lib.hid e3
            clear e2 e3 y0 y1 y2 y3 k2 g0 g1 g2 g0' g2' HO1
            go_wp2
            go_roundw
            case rel => exact ⟨k + 1, _, _, by omega, by go_num, HGN, e0, e1, E2, E3, e4, e5⟩
            case measure => simp [intOf]; omega
      · have hp' : (pkv x.kd 3 == 0) = false := by rw [beq_eq_false_iff_ne]; exact hp
        have HP0 := Lib.hid hp
        clear hp
        go_wp2_with (go_at_call 29; refine (picked_v _ _ _ I0.out (by omega) (by omega)).mono ?_; rintro e w' ⟨rfl, rfl⟩)
        have qj : ∀ j, (wr.alloc (.cells #[.int .i64 x.kd, .int .i64 x.ra, .int .i64 x.rb, .int .i64 x.rc] 92)).cell? ⟨wr.heap.size, j, none⟩ = _ := fun j => World.cell?_alloc_at (w := wr) _ _ wr.heap.size j rfl
        have q1 : (wr.alloc (.cells #[.int .i64 x.kd, .int .i64 x.ra, .int .i64 x.rb, .int .i64 x.rc] 92)).cell? ⟨wr.heap.size, 1, none⟩ = some (.int .i64 x.ra) := qj 1
        have q2 : (wr.alloc (.cells #[.int .i64 x.kd, .int .i64 x.ra, .int .i64 x.rb, .int .i64 x.rc] 92)).cell? ⟨wr.heap.size, 2, none⟩ = some (.int .i64 x.rb) := qj 2
        have q3 : (wr.alloc (.cells #[.int .i64 x.kd, .int .i64 x.ra, .int .i64 x.rb, .int .i64 x.rc] 92)).cell? ⟨wr.heap.size, 3, none⟩ = some (.int .i64 x.rc) := qj 3
        have hbR : Below (w.heap.size + 4) wr (wr.alloc (.cells #[.int .i64 x.kd, .int .i64 x.ra, .int .i64 x.rb, .int .i64 x.rc] 92)) := hbB.mono hsz
        have hon1 := Lib.hid (hon.out.alloc (.cells #[.int .i64 x.kd, .int .i64 x.ra, .int .i64 x.rb, .int .i64 x.rc] 92))
        clear qj
        generalize wr.alloc (.cells #[.int .i64 x.kd, .int .i64 x.ra, .int .i64 x.rb, .int .i64 x.rc] 92) = Wb at *
        have g0 := (hbR.cell (p := ⟨w.heap.size + 3, 0, none⟩) (Nat.lt_succ_self _)).trans c0
        have g1 := (hbR.cell (p := ⟨w.heap.size + 3, 1, none⟩) (Nat.lt_succ_self _)).trans c1
        have g2 : ∀ j, Wb.frozen? ⟨w.heap.size + 3, j, none⟩ = false := fun j => (hbR.frozen (p := ⟨w.heap.size + 3, j, none⟩) (Nat.lt_succ_self _)).trans (f5 j)
        have hzb : w.heap.size + 4 < Wb.heap.size := by omega
        clear c0 c1 f5
        have g0' : Wb.cell? ⟨w.heap.size + 1 + 1 + 1, 0, none⟩ = some (.slice av ns.length cv) := g0
        have g2' : ∀ j, Wb.frozen? ⟨w.heap.size + 1 + 1 + 1, j, none⟩ = false := g2
        have hzF : w.heap.size + 1 + 1 + 1 < Wb.heap.size := by omega
        have HSB := Lib.hid hsb
        clear hsb
        have hnew : ¬ wr.heap.size = w.heap.size + 1 + 1 + 1 := by omega
        have hnew' : ¬ w.heap.size + 1 + 1 + 1 = wr.heap.size := by omega
        obtain ⟨m4, hm4⟩ : ∃ m4 : Int, m4 = (if 4 < (ns.length : Int) then 4 else (ns.length : Int)) := ⟨_, rfl⟩
        have hm4a : 1 ≤ m4 := by split at hm4 <;> omega
        have hm4b : m4 ≤ 4 := by split at hm4 <;> omega
        have hm4c : m4 ≤ ns.length := by split at hm4 <;> omega
        obtain ⟨p1a, p1b⟩ := pkv_bd x.ra 60 (by omega)
        obtain ⟨p2a, p2b⟩ := pkv_bd x.rb m4 (by omega)
        obtain ⟨p3a, p3b⟩ := pkv_bd x.rc m4 (by omega)
        have hask := ask_good (n := ns.length) (b := pkv x.ra 60 - 20) (l := ns.length - 1 - pkv x.rb m4) (m := ns.length - 1 - pkv x.rc m4) (by omega) (by omega) (by omega) (by omega)
        have HASK := Lib.hid hask
        have HM4 := Lib.hid hm4
        have hif : (if 4 < (ns.length : Int) then (4 : Int) else (ns.length : Int)) = m4 := hm4.symm
        have t1 : IntKind.i64.wrap (pkv x.ra 60 - 20) = pkv x.ra 60 - 20 := IntWalk.i64_in _ (by omega)
        have t2 : IntKind.i64.wrap ((ns.length : Int) - 1) = (ns.length : Int) - 1 := IntWalk.i64_in _ (by omega)
        have t3 : IntKind.i64.wrap ((ns.length : Int) - 1 - pkv x.rb m4) = (ns.length : Int) - 1 - pkv x.rb m4 := IntWalk.i64_in _ (by omega)
        have t4 : IntKind.i64.wrap ((ns.length : Int) - 1 - pkv x.rc m4) = (ns.length : Int) - 1 - pkv x.rc m4 := IntWalk.i64_in _ (by omega)
        clear hask hm4 p1a p1b p2a p2b p3a p3b
        have hal : ∀ (o : Obj), (fun w' : World => w'.cell? ⟨wr.heap.size, 1, none⟩ = some (.int .i64 x.ra) ∧ w'.cell? ⟨wr.heap.size, 2, none⟩ = some (.int .i64 x.rb) ∧ w'.cell? ⟨wr.heap.size, 3, none⟩ = some (.int .i64 x.rc)) ((Wb.alloc o).drew) := fun o =>
          have bx : ∀ j, (Wb.alloc o).cell? ⟨wr.heap.size, j, none⟩ = Wb.cell? ⟨wr.heap.size, j, none⟩ := fun j => ((Below.refl Wb.heap.size Wb).alloc (Nat.le_refl _) o).cell (p := ⟨wr.heap.size, j, none⟩) (by rw [HSB.out]; exact Nat.lt_succ_self _)
          ⟨(bx 1).trans q1, (bx 2).trans q2, (bx 3).trans q3⟩
        refine wp_region_held_drew (S := fun w' => w'.cell? ⟨wr.heap.size, 1, none⟩ = some (.int .i64 x.ra) ∧ w'.cell? ⟨wr.heap.size, 2, none⟩ = some (.int .i64 x.rb) ∧ w'.cell? ⟨wr.heap.size, 3, none⟩ = some (.int .i64 x.rc)) (by kernel_rfl) ⟨q1, q2, q3⟩ (fun hHeld => ?_)
        have HS : (fun w' : World => w'.cell? ⟨wr.heap.size, 1, none⟩ = some (.int .i64 x.ra) ∧ w'.cell? ⟨wr.heap.size, 2, none⟩ = some (.int .i64 x.rb) ∧ w'.cell? ⟨wr.heap.size, 3, none⟩ = some (.int .i64 x.rc)) Wb.drew := hHeld
        clear hHeld
        refine wpAnyH_take (i := 0) (oi := ⟨some 49, _, _, _, _, none⟩) (v := ?_) rfl (by kernel_rfl) (by kernel_rfl) (by kernel_rfl) (fun _ _ _ h => h) (Or.inl ⟨by rfl, ?_⟩) HS ?_
        rotate_left
        · (intro w' hSw; (try dsimp only at hSw); go_simp; (try with_reducible rfl))
        try simp only [Act.put, List.setIfInBounds_toArray, List.set_cons_zero, List.set_cons_succ]
        refine wpAnyH_take (i := 2) (oi := ⟨some 51, _, _, _, _, none⟩) (v := ?_) rfl (by kernel_rfl) (by kernel_rfl) (by kernel_rfl) (fun _ _ _ h => h) (Or.inl ⟨by rfl, ?_⟩) HS ?_
        rotate_left
        · (intro w' hSw; (try dsimp only at hSw); go_simp; (try with_reducible rfl))
        try simp only [Act.put, List.setIfInBounds_toArray, List.set_cons_zero, List.set_cons_succ]
        refine wpAnyH_take (i := 3) (oi := ⟨some 52, _, _, _, _, none⟩) (v := ?_) rfl (by kernel_rfl) (by kernel_rfl) (by kernel_rfl) (fun _ _ _ h => h) (Or.inl ⟨by rfl, ?_⟩) HS ?_
        rotate_left
        · (intro w' hSw; (try dsimp only at hSw); go_simp; (try with_reducible rfl))
        try simp only [Act.put, List.setIfInBounds_toArray, List.set_cons_zero, List.set_cons_succ]
        refine wpAnyH_take (i := 6) (oi := ⟨some 55, _, _, _, _, none⟩) (v := ?_) rfl (by kernel_rfl) (by kernel_rfl) (by kernel_rfl) (fun _ _ _ h => h) (Or.inl ⟨by rfl, ?_⟩) HS ?_
        rotate_left
        · (intro w' hSw; (try dsimp only at hSw); go_simp; (try with_reducible rfl))
        try simp only [Act.put, List.setIfInBounds_toArray, List.set_cons_zero, List.set_cons_succ]
        refine wpAnyH_take (i := 7) (oi := ⟨some 56, _, _, _, _, none⟩) (v := ?_) rfl (by kernel_rfl) (by kernel_rfl) (by kernel_rfl) (fun _ _ _ h => h) (Or.inl ⟨by rfl, ?_⟩) HS ?_
        rotate_left
        · (intro w' hSw; (try dsimp only at hSw); go_simp; (try with_reducible rfl))
        try simp only [Act.put, List.setIfInBounds_toArray, List.set_cons_zero, List.set_cons_succ]
        refine wpAnyH_take (i := 8) (oi := ⟨some 57, _, _, _, _, none⟩) (v := ?_) rfl (by kernel_rfl) (by kernel_rfl) (by kernel_rfl) (fun _ _ _ h => h) (Or.inl ⟨by rfl, ?_⟩) HS ?_
        rotate_left
        · (intro w' hSw; (try dsimp only at hSw); go_simp; (try with_reducible rfl))
        try simp only [Act.put, List.setIfInBounds_toArray, List.set_cons_zero, List.set_cons_succ]
        refine wpAnyH_take (i := 9) (oi := ⟨some 58, _, _, _, _, none⟩) (v := ?_) rfl (by kernel_rfl) (by kernel_rfl) (by kernel_rfl) (fun _ _ _ h => h) (Or.inl ⟨by rfl, ?_⟩) HS ?_
        rotate_left
        · (intro w' hSw; (try dsimp only at hSw); go_simp; (try with_reducible rfl))
        try simp only [Act.put, List.setIfInBounds_toArray, List.set_cons_zero, List.set_cons_succ]
        refine wpAnyH_take (i := 10) (oi := ⟨some 59, _, _, _, _, none⟩) (v := ?_) rfl (by kernel_rfl) (by kernel_rfl) (by kernel_rfl) (fun _ _ _ h => h) (Or.inl ⟨by rfl, ?_⟩) HS ?_
        rotate_left
        · (intro w' hSw; (try dsimp only at hSw); go_simp; (try with_reducible rfl))
        try simp only [Act.put, List.setIfInBounds_toArray, List.set_cons_zero, List.set_cons_succ]
        refine wpAnyH_take (i := 11) (oi := ⟨some 60, _, _, _, _, none⟩) (v := ?_) rfl (by kernel_rfl) (by kernel_rfl) (by kernel_rfl) (fun _ _ _ h => h) (Or.inl ⟨by rfl, ?_⟩) HS ?_
        rotate_left
        · (intro w' hSw; (try dsimp only at hSw); go_simp; (try with_reducible rfl))
        try simp only [Act.put, List.setIfInBounds_toArray, List.set_cons_zero, List.set_cons_succ]
        refine wpAnyH_take (i := 14) (oi := ⟨some 63, _, _, _, _, none⟩) (v := ?_) rfl (by kernel_rfl) (by kernel_rfl) (by kernel_rfl) (fun _ _ _ h => h) (Or.inl ⟨by rfl, ?_⟩) HS ?_
        rotate_left
        · (intro w' hSw; (try dsimp only at hSw); go_simp; (try with_reducible rfl))
        try simp only [Act.put, List.setIfInBounds_toArray, List.set_cons_zero, List.set_cons_succ]
        refine wpAnyH_take (i := 15) (oi := ⟨some 64, _, _, _, _, none⟩) (v := ?_) rfl (by kernel_rfl) (by kernel_rfl) (by kernel_rfl) (fun _ _ _ h => h) (Or.inl ⟨by rfl, ?_⟩) HS ?_
        rotate_left
        · (intro w' hSw; (try dsimp only at hSw); go_simp; (try with_reducible rfl))
        try simp only [Act.put, List.setIfInBounds_toArray, List.set_cons_zero, List.set_cons_succ]
        refine wpAnyH_take (i := 16) (oi := ⟨some 65, _, _, _, _, none⟩) (v := ?_) rfl (by kernel_rfl) (by kernel_rfl) (by kernel_rfl) (fun _ _ _ h => h) (Or.inl ⟨by rfl, ?_⟩) HS ?_
        rotate_left
        · (intro w' hSw; (try dsimp only at hSw); go_simp; (try with_reducible rfl))
        try simp only [Act.put, List.setIfInBounds_toArray, List.set_cons_zero, List.set_cons_succ]
        refine wpAnyH_take (i := 17) (oi := ⟨some 66, _, _, _, _, none⟩) (v := ?_) rfl (by kernel_rfl) (by kernel_rfl) (by kernel_rfl) (fun _ _ _ h => h) (Or.inl ⟨by rfl, ?_⟩) HS ?_
        rotate_left
        · (intro w' hSw; (try dsimp only at hSw); go_simp; (try with_reducible rfl))
        try simp only [Act.put, List.setIfInBounds_toArray, List.set_cons_zero, List.set_cons_succ]
        refine wpAnyH_take (i := 18) (oi := ⟨some 67, _, _, _, _, none⟩) (v := ?_) rfl (by kernel_rfl) (by kernel_rfl) (by kernel_rfl) (fun _ _ _ h => h) (Or.inl ⟨by rfl, ?_⟩) HS ?_
        rotate_left
        · (intro w' hSw; (try dsimp only at hSw); go_simp; (try with_reducible rfl))
        try simp only [Act.put, List.setIfInBounds_toArray, List.set_cons_zero, List.set_cons_succ]
        refine wpAnyH_take (i := 19) (oi := ⟨some 68, _, _, _, _, none⟩) (v := ?_) rfl (by kernel_rfl) (by kernel_rfl) (by kernel_rfl) (fun _ _ _ h => h) (Or.inl ⟨by rfl, ?_⟩) HS ?_
        rotate_left
        · (intro w' hSw; (try dsimp only at hSw); go_simp; (try with_reducible rfl))
        try simp only [Act.put, List.setIfInBounds_toArray, List.set_cons_zero, List.set_cons_succ]
        refine wpAnyH_ready (rs := [1, 4]) (by kernel_rfl) (by simp) ?_
        refine (AllReadyH.cons (o := ⟨some 50, _, _, _, _, none⟩) rfl (fun K hK => ?_) (AllReadyH.cons (o := ⟨some 53, _, _, _, _, none⟩) rfl (fun K hK => ?_) AllReadyH.nil))
        · skip
          go_simp
          refine hK.out _ _ HS (fun hHeld => ?_)
          try clear hK K hHeld
          try simp only [Act.put, List.setIfInBounds_toArray, List.set_cons_zero, List.set_cons_succ]
          refine wpAnyH_ready (rs := [4]) (by kernel_rfl) (by simp) ?_
          refine (AllReadyH.cons (o := ⟨some 53, _, _, _, _, none⟩) rfl (fun K hK => ?_) AllReadyH.nil)
          go_simp
          (go_at_call_of 29 (Value.int .i64 x.ra); refine (picked_v _ _ _ I1.out (by omega) (by omega)).mono ?_; rintro e w' ⟨rfl, rfl⟩)
          try dsimp only
          refine hK.out _ _ HS (fun hHeld => ?_)
          try clear hK K hHeld
          try simp only [Act.put, List.setIfInBounds_toArray, List.set_cons_zero, List.set_cons_succ]
          refine wpAnyH_take (i := 5) (oi := ⟨some 54, _, _, _, _, none⟩) (v := ?_) rfl (by kernel_rfl) (by kernel_rfl) (by kernel_rfl) (fun _ _ _ h => h) (Or.inl ⟨by rfl, ?_⟩) HS ?_
          rotate_left
          · (intro w' hSw; (try dsimp only at hSw); go_simp; (try with_reducible rfl))
          try simp only [Act.put, List.setIfInBounds_toArray, List.set_cons_zero, List.set_cons_succ]
          refine wpAnyH_ready (rs := [12]) (by kernel_rfl) (by simp) ?_
          refine (AllReadyH.cons (o := ⟨some 61, _, _, _, _, none⟩) rfl (fun K hK => ?_) AllReadyH.nil)
          go_simp
          (go_at_call_of 29 (Value.int .i64 x.rb); refine (picked_v _ m4 _ I2.out (by omega) (by omega)).mono ?_; rintro e w' ⟨rfl, rfl⟩)
          try dsimp only
          refine hK.out _ _ HS (fun hHeld => ?_)
          try clear hK K hHeld
          try simp only [Act.put, List.setIfInBounds_toArray, List.set_cons_zero, List.set_cons_succ]
          refine wpAnyH_take (i := 13) (oi := ⟨some 62, _, _, _, _, none⟩) (v := ?_) rfl (by kernel_rfl) (by kernel_rfl) (by kernel_rfl) (fun _ _ _ h => h) (Or.inl ⟨by rfl, ?_⟩) HS ?_
          rotate_left
          · (intro w' hSw; (try dsimp only at hSw); go_simp; (try with_reducible rfl))
          try simp only [Act.put, List.setIfInBounds_toArray, List.set_cons_zero, List.set_cons_succ]
          refine wpAnyH_ready (rs := [20]) (by kernel_rfl) (by simp) ?_
          refine (AllReadyH.cons (o := ⟨some 69, _, _, _, _, none⟩) rfl (fun K hK => ?_) AllReadyH.nil)
          go_simp
          (go_at_call_of 29 (Value.int .i64 x.rc); refine (picked_v _ m4 _ I3.out (by omega) (by omega)).mono ?_; rintro e w' ⟨rfl, rfl⟩)
          try dsimp only
          refine hK.out _ _ HS (fun hHeld => ?_)
          try clear hK K hHeld
          try simp only [Act.put, List.setIfInBounds_toArray, List.set_cons_zero, List.set_cons_succ]
          refine wpAnyH_take (i := 21) (oi := ⟨some 70, _, _, _, _, none⟩) (v := ?_) rfl (by kernel_rfl) (by kernel_rfl) (by kernel_rfl) (fun _ _ _ h => h) (Or.inl ⟨by rfl, ?_⟩) HS ?_
          rotate_left
          · (intro w' hSw; (try dsimp only at hSw); go_simp; (try with_reducible rfl))
          try simp only [Act.put, List.setIfInBounds_toArray, List.set_cons_zero, List.set_cons_succ]
          refine wpAnyH_take (i := 22) (oi := ⟨some 71, _, _, _, _, none⟩) (v := ?_) rfl (by kernel_rfl) (by kernel_rfl) (by kernel_rfl) (fun _ _ _ h => h) (Or.inl ⟨by rfl, ?_⟩) HS ?_
          rotate_left
          · (intro w' hSw; (try dsimp only at hSw); go_simp; (try with_reducible rfl))
          try simp only [Act.put, List.setIfInBounds_toArray, List.set_cons_zero, List.set_cons_succ]
          refine wpAnyH_ready (rs := [23]) (by kernel_rfl) (by simp) ?_
          refine (AllReadyH.cons (o := ⟨some 72, _, _, _, _, none⟩) rfl (fun K hK => ?_) AllReadyH.nil)
          go_simp
          refine hK.out _ _ (hal _) (fun hHeld => ?_)
          clear HS
          have HS := hHeld
          try clear hK K hHeld
          try simp only [Act.put, List.setIfInBounds_toArray, List.set_cons_zero, List.set_cons_succ]
          refine wpAnyH_ready (rs := [24]) (by kernel_rfl) (by simp) ?_
          refine (AllReadyH.cons (o := ⟨some 73, _, _, _, _, none⟩) rfl (fun K hK => ?_) AllReadyH.nil)
          (refine step_append_lies _ (by rfl) _ _ _ (by rfl) (w.heap.size + 4) 90 j0 _ 5 40 Tryd.underlying62 hj0 hj1 hj2 hj3 rfl (by omega) (.slice av ns.length cv) ns.length (ns.flatMap encN) (by rfl) ((hon1.out.alloc _).drew) ⟨Wb.heap.size, 0, none⟩ 1 1 (encN (askN (pkv x.ra 60 - 20) (ns.length - 1 - pkv x.rb m4) (ns.length - 1 - pkv x.rc m4))) (by rfl) (by rfl) (cells_at _ _ _ _ _ rfl rfl) (encN_one _) (by omega) (by unfold maxLen; omega) (by omega) (Nat.le_of_lt (Nat.lt_of_lt_of_eq (show w.heap.size + 4 < Wb.heap.size + 1 by omega) (size_alloc _ _).symm)) (Wb.heap.size + 1) (size_alloc _ _) ?_; intro gg cap w1 hown1 hgrow hat hltg; obtain ⟨k1, k2⟩ := kf_mid hon.out hon1.out hsz HSB.out hgrow; have s1 := (k1 1).trans q1; have s2 := (k1 2).trans q2; have s3 := (k1 3).trans q3; have y0 : w1.cell? ⟨w.heap.size + 1 + 1 + 1, 0, none⟩ = _ := (k2.cell (p := ⟨w.heap.size + 3, 0, none⟩) (Nat.lt_succ_self _)).trans g0; have y1 : w1.cell? ⟨w.heap.size + 1 + 1 + 1, 1, none⟩ = _ := (k2.cell (p := ⟨w.heap.size + 3, 1, none⟩) (Nat.lt_succ_self _)).trans g1; have y2 : ∀ j, w1.frozen? ⟨w.heap.size + 1 + 1 + 1, j, none⟩ = false := fun j => (k2.frozen (p := ⟨w.heap.size + 3, j, none⟩) (Nat.lt_succ_self _)).trans (g2 j); have y3 : w.heap.size + 1 + 1 + 1 < w1.heap.size := Nat.lt_of_lt_of_le (show w.heap.size + 3 < Wb.heap.size by omega) k2.size; have HO1 := Lib.hid (own_snocG hown1); clear hown1 hgrow hat k1)
          refine hK.out _ _ ⟨s1, s2, s3⟩ (fun hHeld => ?_)
          clear HS
          have HS := hHeld
          try clear hK K hHeld
          try simp only [Act.put, List.setIfInBounds_toArray, List.set_cons_zero, List.set_cons_succ]
          refine wpAnyH_take (i := 25) (oi := ⟨some 74, _, _, _, _, none⟩) (v := ?_) rfl (by kernel_rfl) (by kernel_rfl) (by kernel_rfl) (fun _ _ _ h => h) (Or.inl ⟨by rfl, ?_⟩) HS ?_
          rotate_left
          · (intro w' hSw; (try dsimp only at hSw); go_simp; (try with_reducible rfl))
          try simp only [Act.put, List.setIfInBounds_toArray, List.set_cons_zero, List.set_cons_succ]
          refine wpAnyH_ready (rs := [26]) (by kernel_rfl) (by simp) ?_
          refine (AllReadyH.cons (o := ⟨none, _, _, _, _, none⟩) rfl (fun K hK => ?_) AllReadyH.nil)
          go_simp
          refine hK.out _ _ (by go_keep) (fun hHeld => ?_)
          try clear hK K hHeld
          try simp only [Act.put, List.setIfInBounds_toArray, List.set_cons_zero, List.set_cons_succ]
          refine wpAnyH_done (by kernel_rfl) ?_ _
          have HGN : Hid (GoodN (ns ++ [askN (pkv x.ra 60 - 20) (ns.length - 1 - pkv x.rb m4) (ns.length - 1 - pkv x.rc m4)]) ∧ (ns ++ [askN (pkv x.ra 60 - 20) (ns.length - 1 - pkv x.rb m4) (ns.length - 1 - pkv x.rc m4)]).length = k + 1 + 1 ∧ ns ++ [askN (pkv x.ra 60 - 20) (ns.length - 1 - pkv x.rb m4) (ns.length - 1 - pkv x.rc m4)] = fstN xs (k + 1)) :=
            ⟨hgn.out.1.snoc HASK.out.1 HASK.out.2, by rw [List.length_append, List.length_singleton, hgn.out.2.1], fst_ask hgn.out.2.2 HXK.out HP0.out HM4.out⟩
          obtain ⟨e0, e1, e2, e3, e4, e5⟩ := kf_rel (F := w.heap.size + 3) hbr hbR k2 y0 y1 y2 HO1.out hsz
          have E2 := Lib.hid e2
          have E3 := Lib.hid e3
          clear e2 e3 y0 y1 y2 y3 k2 g0 g1 g2 g0' g2' HO1 t1 t2 t3 t4 hif
          go_wp2
          go_roundw
          case rel => exact ⟨k + 1, _, _, by omega, by go_num, HGN, e0, e1, E2, E3, e4, e5⟩
          case measure => simp [intOf]; omega
        · skip
          go_simp
          (go_at_call_of 29 (Value.int .i64 x.ra); refine (picked_v _ _ _ I1.out (by omega) (by omega)).mono ?_; rintro e w' ⟨rfl, rfl⟩)
          try dsimp only
          refine hK.out _ _ HS (fun hHeld => ?_)
          try clear hK K hHeld
          try simp only [Act.put, List.setIfInBounds_toArray, List.set_cons_zero, List.set_cons_succ]
          refine wpAnyH_take (i := 5) (oi := ⟨some 54, _, _, _, _, none⟩) (v := ?_) rfl (by kernel_rfl) (by kernel_rfl) (by kernel_rfl) (fun _ _ _ h => h) (Or.inl ⟨by rfl, ?_⟩) HS ?_
          rotate_left
          · (intro w' hSw; (try dsimp only at hSw); go_simp; (try with_reducible rfl))
          try simp only [Act.put, List.setIfInBounds_toArray, List.set_cons_zero, List.set_cons_succ]
          refine wpAnyH_ready (rs := [1, 12]) (by kernel_rfl) (by simp) ?_
          refine (AllReadyH.cons (o := ⟨some 50, _, _, _, _, none⟩) rfl (fun K hK => ?_) (AllReadyH.cons (o := ⟨some 61, _, _, _, _, none⟩) rfl (fun K hK => ?_) AllReadyH.nil))
          · skip
            go_simp
            refine hK.out _ _ HS (fun hHeld => ?_)
            try clear hK K hHeld
            try simp only [Act.put, List.setIfInBounds_toArray, List.set_cons_zero, List.set_cons_succ]
            refine wpAnyH_ready (rs := [12]) (by kernel_rfl) (by simp) ?_
            refine (AllReadyH.cons (o := ⟨some 61, _, _, _, _, none⟩) rfl (fun K hK => ?_) AllReadyH.nil)
            go_simp
            (go_at_call_of 29 (Value.int .i64 x.rb); refine (picked_v _ m4 _ I2.out (by omega) (by omega)).mono ?_; rintro e w' ⟨rfl, rfl⟩)
            try dsimp only
            refine hK.out _ _ HS (fun hHeld => ?_)
            try clear hK K hHeld
            try simp only [Act.put, List.setIfInBounds_toArray, List.set_cons_zero, List.set_cons_succ]
            refine wpAnyH_take (i := 13) (oi := ⟨some 62, _, _, _, _, none⟩) (v := ?_) rfl (by kernel_rfl) (by kernel_rfl) (by kernel_rfl) (fun _ _ _ h => h) (Or.inl ⟨by rfl, ?_⟩) HS ?_
            rotate_left
            · (intro w' hSw; (try dsimp only at hSw); go_simp; (try with_reducible rfl))
            try simp only [Act.put, List.setIfInBounds_toArray, List.set_cons_zero, List.set_cons_succ]
            refine wpAnyH_ready (rs := [20]) (by kernel_rfl) (by simp) ?_
            refine (AllReadyH.cons (o := ⟨some 69, _, _, _, _, none⟩) rfl (fun K hK => ?_) AllReadyH.nil)
            go_simp
            (go_at_call_of 29 (Value.int .i64 x.rc); refine (picked_v _ m4 _ I3.out (by omega) (by omega)).mono ?_; rintro e w' ⟨rfl, rfl⟩)
            try dsimp only
            refine hK.out _ _ HS (fun hHeld => ?_)
            try clear hK K hHeld
            try simp only [Act.put, List.setIfInBounds_toArray, List.set_cons_zero, List.set_cons_succ]
            refine wpAnyH_take (i := 21) (oi := ⟨some 70, _, _, _, _, none⟩) (v := ?_) rfl (by kernel_rfl) (by kernel_rfl) (by kernel_rfl) (fun _ _ _ h => h) (Or.inl ⟨by rfl, ?_⟩) HS ?_
            rotate_left
            · (intro w' hSw; (try dsimp only at hSw); go_simp; (try with_reducible rfl))
            try simp only [Act.put, List.setIfInBounds_toArray, List.set_cons_zero, List.set_cons_succ]
            refine wpAnyH_take (i := 22) (oi := ⟨some 71, _, _, _, _, none⟩) (v := ?_) rfl (by kernel_rfl) (by kernel_rfl) (by kernel_rfl) (fun _ _ _ h => h) (Or.inl ⟨by rfl, ?_⟩) HS ?_
            rotate_left
            · (intro w' hSw; (try dsimp only at hSw); go_simp; (try with_reducible rfl))
            try simp only [Act.put, List.setIfInBounds_toArray, List.set_cons_zero, List.set_cons_succ]
            refine wpAnyH_ready (rs := [23]) (by kernel_rfl) (by simp) ?_
            refine (AllReadyH.cons (o := ⟨some 72, _, _, _, _, none⟩) rfl (fun K hK => ?_) AllReadyH.nil)
            go_simp
            refine hK.out _ _ (hal _) (fun hHeld => ?_)
            clear HS
            have HS := hHeld
            try clear hK K hHeld
            try simp only [Act.put, List.setIfInBounds_toArray, List.set_cons_zero, List.set_cons_succ]
            refine wpAnyH_ready (rs := [24]) (by kernel_rfl) (by simp) ?_
            refine (AllReadyH.cons (o := ⟨some 73, _, _, _, _, none⟩) rfl (fun K hK => ?_) AllReadyH.nil)
            (refine step_append_lies _ (by rfl) _ _ _ (by rfl) (w.heap.size + 4) 90 j0 _ 5 40 Tryd.underlying62 hj0 hj1 hj2 hj3 rfl (by omega) (.slice av ns.length cv) ns.length (ns.flatMap encN) (by rfl) ((hon1.out.alloc _).drew) ⟨Wb.heap.size, 0, none⟩ 1 1 (encN (askN (pkv x.ra 60 - 20) (ns.length - 1 - pkv x.rb m4) (ns.length - 1 - pkv x.rc m4))) (by rfl) (by rfl) (cells_at _ _ _ _ _ rfl rfl) (encN_one _) (by omega) (by unfold maxLen; omega) (by omega) (Nat.le_of_lt (Nat.lt_of_lt_of_eq (show w.heap.size + 4 < Wb.heap.size + 1 by omega) (size_alloc _ _).symm)) (Wb.heap.size + 1) (size_alloc _ _) ?_; intro gg cap w1 hown1 hgrow hat hltg; obtain ⟨k1, k2⟩ := kf_mid hon.out hon1.out hsz HSB.out hgrow; have s1 := (k1 1).trans q1; have s2 := (k1 2).trans q2; have s3 := (k1 3).trans q3; have y0 : w1.cell? ⟨w.heap.size + 1 + 1 + 1, 0, none⟩ = _ := (k2.cell (p := ⟨w.heap.size + 3, 0, none⟩) (Nat.lt_succ_self _)).trans g0; have y1 : w1.cell? ⟨w.heap.size + 1 + 1 + 1, 1, none⟩ = _ := (k2.cell (p := ⟨w.heap.size + 3, 1, none⟩) (Nat.lt_succ_self _)).trans g1; have y2 : ∀ j, w1.frozen? ⟨w.heap.size + 1 + 1 + 1, j, none⟩ = false := fun j => (k2.frozen (p := ⟨w.heap.size + 3, j, none⟩) (Nat.lt_succ_self _)).trans (g2 j); have y3 : w.heap.size + 1 + 1 + 1 < w1.heap.size := Nat.lt_of_lt_of_le (show w.heap.size + 3 < Wb.heap.size by omega) k2.size; have HO1 := Lib.hid (own_snocG hown1); clear hown1 hgrow hat k1)
            refine hK.out _ _ ⟨s1, s2, s3⟩ (fun hHeld => ?_)
            clear HS
            have HS := hHeld
            try clear hK K hHeld
            try simp only [Act.put, List.setIfInBounds_toArray, List.set_cons_zero, List.set_cons_succ]
            refine wpAnyH_take (i := 25) (oi := ⟨some 74, _, _, _, _, none⟩) (v := ?_) rfl (by kernel_rfl) (by kernel_rfl) (by kernel_rfl) (fun _ _ _ h => h) (Or.inl ⟨by rfl, ?_⟩) HS ?_
            rotate_left
            · (intro w' hSw; (try dsimp only at hSw); go_simp; (try with_reducible rfl))
            try simp only [Act.put, List.setIfInBounds_toArray, List.set_cons_zero, List.set_cons_succ]
            refine wpAnyH_ready (rs := [26]) (by kernel_rfl) (by simp) ?_
            refine (AllReadyH.cons (o := ⟨none, _, _, _, _, none⟩) rfl (fun K hK => ?_) AllReadyH.nil)
            go_simp
            refine hK.out _ _ (by go_keep) (fun hHeld => ?_)
            try clear hK K hHeld
            try simp only [Act.put, List.setIfInBounds_toArray, List.set_cons_zero, List.set_cons_succ]
            refine wpAnyH_done (by kernel_rfl) ?_ _
            have HGN : Hid (GoodN (ns ++ [askN (pkv x.ra 60 - 20) (ns.length - 1 - pkv x.rb m4) (ns.length - 1 - pkv x.rc m4)]) ∧ (ns ++ [askN (pkv x.ra 60 - 20) (ns.length - 1 - pkv x.rb m4) (ns.length - 1 - pkv x.rc m4)]).length = k + 1 + 1 ∧ ns ++ [askN (pkv x.ra 60 - 20) (ns.length - 1 - pkv x.rb m4) (ns.length - 1 - pkv x.rc m4)] = fstN xs (k + 1)) :=
              ⟨hgn.out.1.snoc HASK.out.1 HASK.out.2, by rw [List.length_append, List.length_singleton, hgn.out.2.1], fst_ask hgn.out.2.2 HXK.out HP0.out HM4.out⟩
            obtain ⟨e0, e1, e2, e3, e4, e5⟩ := kf_rel (F := w.heap.size + 3) hbr hbR k2 y0 y1 y2 HO1.out hsz
            have E2 := Lib.hid e2
            have E3 := Lib.hid e3
            clear e2 e3 y0 y1 y2 y3 k2 g0 g1 g2 g0' g2' HO1 t1 t2 t3 t4 hif
            go_wp2
            go_roundw
            case rel => exact ⟨k + 1, _, _, by omega, by go_num, HGN, e0, e1, E2, E3, e4, e5⟩
            case measure => simp [intOf]; omega
          · skip
            go_simp
            (go_at_call_of 29 (Value.int .i64 x.rb); refine (picked_v _ m4 _ I2.out (by omega) (by omega)).mono ?_; rintro e w' ⟨rfl, rfl⟩)
            try dsimp only
            refine hK.out _ _ HS (fun hHeld => ?_)
            try clear hK K hHeld
            try simp only [Act.put, List.setIfInBounds_toArray, List.set_cons_zero, List.set_cons_succ]
            refine wpAnyH_take (i := 13) (oi := ⟨some 62, _, _, _, _, none⟩) (v := ?_) rfl (by kernel_rfl) (by kernel_rfl) (by kernel_rfl) (fun _ _ _ h => h) (Or.inl ⟨by rfl, ?_⟩) HS ?_
            rotate_left
            · (intro w' hSw; (try dsimp only at hSw); go_simp; (try with_reducible rfl))
            try simp only [Act.put, List.setIfInBounds_toArray, List.set_cons_zero, List.set_cons_succ]
            refine wpAnyH_ready (rs := [1, 20]) (by kernel_rfl) (by simp) ?_
            refine (AllReadyH.cons (o := ⟨some 50, _, _, _, _, none⟩) rfl (fun K hK => ?_) (AllReadyH.cons (o := ⟨some 69, _, _, _, _, none⟩) rfl (fun K hK => ?_) AllReadyH.nil))
            · skip
              go_simp
              refine hK.out _ _ HS (fun hHeld => ?_)
              try clear hK K hHeld
              try simp only [Act.put, List.setIfInBounds_toArray, List.set_cons_zero, List.set_cons_succ]
              refine wpAnyH_ready (rs := [20]) (by kernel_rfl) (by simp) ?_
              refine (AllReadyH.cons (o := ⟨some 69, _, _, _, _, none⟩) rfl (fun K hK => ?_) AllReadyH.nil)
              go_simp
              (go_at_call_of 29 (Value.int .i64 x.rc); refine (picked_v _ m4 _ I3.out (by omega) (by omega)).mono ?_; rintro e w' ⟨rfl, rfl⟩)
              try dsimp only
              refine hK.out _ _ HS (fun hHeld => ?_)
              try clear hK K hHeld
              try simp only [Act.put, List.setIfInBounds_toArray, List.set_cons_zero, List.set_cons_succ]
              refine wpAnyH_take (i := 21) (oi := ⟨some 70, _, _, _, _, none⟩) (v := ?_) rfl (by kernel_rfl) (by kernel_rfl) (by kernel_rfl) (fun _ _ _ h => h) (Or.inl ⟨by rfl, ?_⟩) HS ?_
              rotate_left
              · (intro w' hSw; (try dsimp only at hSw); go_simp; (try with_reducible rfl))
              try simp only [Act.put, List.setIfInBounds_toArray, List.set_cons_zero, List.set_cons_succ]
              refine wpAnyH_take (i := 22) (oi := ⟨some 71, _, _, _, _, none⟩) (v := ?_) rfl (by kernel_rfl) (by kernel_rfl) (by kernel_rfl) (fun _ _ _ h => h) (Or.inl ⟨by rfl, ?_⟩) HS ?_
              rotate_left
              · (intro w' hSw; (try dsimp only at hSw); go_simp; (try with_reducible rfl))
              try simp only [Act.put, List.setIfInBounds_toArray, List.set_cons_zero, List.set_cons_succ]
              refine wpAnyH_ready (rs := [23]) (by kernel_rfl) (by simp) ?_
              refine (AllReadyH.cons (o := ⟨some 72, _, _, _, _, none⟩) rfl (fun K hK => ?_) AllReadyH.nil)
              go_simp
              refine hK.out _ _ (hal _) (fun hHeld => ?_)
              clear HS
              have HS := hHeld
              try clear hK K hHeld
              try simp only [Act.put, List.setIfInBounds_toArray, List.set_cons_zero, List.set_cons_succ]
              refine wpAnyH_ready (rs := [24]) (by kernel_rfl) (by simp) ?_
              refine (AllReadyH.cons (o := ⟨some 73, _, _, _, _, none⟩) rfl (fun K hK => ?_) AllReadyH.nil)
              (refine step_append_lies _ (by rfl) _ _ _ (by rfl) (w.heap.size + 4) 90 j0 _ 5 40 Tryd.underlying62 hj0 hj1 hj2 hj3 rfl (by omega) (.slice av ns.length cv) ns.length (ns.flatMap encN) (by rfl) ((hon1.out.alloc _).drew) ⟨Wb.heap.size, 0, none⟩ 1 1 (encN (askN (pkv x.ra 60 - 20) (ns.length - 1 - pkv x.rb m4) (ns.length - 1 - pkv x.rc m4))) (by rfl) (by rfl) (cells_at _ _ _ _ _ rfl rfl) (encN_one _) (by omega) (by unfold maxLen; omega) (by omega) (Nat.le_of_lt (Nat.lt_of_lt_of_eq (show w.heap.size + 4 < Wb.heap.size + 1 by omega) (size_alloc _ _).symm)) (Wb.heap.size + 1) (size_alloc _ _) ?_; intro gg cap w1 hown1 hgrow hat hltg; obtain ⟨k1, k2⟩ := kf_mid hon.out hon1.out hsz HSB.out hgrow; have s1 := (k1 1).trans q1; have s2 := (k1 2).trans q2; have s3 := (k1 3).trans q3; have y0 : w1.cell? ⟨w.heap.size + 1 + 1 + 1, 0, none⟩ = _ := (k2.cell (p := ⟨w.heap.size + 3, 0, none⟩) (Nat.lt_succ_self _)).trans g0; have y1 : w1.cell? ⟨w.heap.size + 1 + 1 + 1, 1, none⟩ = _ := (k2.cell (p := ⟨w.heap.size + 3, 1, none⟩) (Nat.lt_succ_self _)).trans g1; have y2 : ∀ j, w1.frozen? ⟨w.heap.size + 1 + 1 + 1, j, none⟩ = false := fun j => (k2.frozen (p := ⟨w.heap.size + 3, j, none⟩) (Nat.lt_succ_self _)).trans (g2 j); have y3 : w.heap.size + 1 + 1 + 1 < w1.heap.size := Nat.lt_of_lt_of_le (show w.heap.size + 3 < Wb.heap.size by omega) k2.size; have HO1 := Lib.hid (own_snocG hown1); clear hown1 hgrow hat k1)
              refine hK.out _ _ ⟨s1, s2, s3⟩ (fun hHeld => ?_)
              clear HS
              have HS := hHeld
              try clear hK K hHeld
              try simp only [Act.put, List.setIfInBounds_toArray, List.set_cons_zero, List.set_cons_succ]
              refine wpAnyH_take (i := 25) (oi := ⟨some 74, _, _, _, _, none⟩) (v := ?_) rfl (by kernel_rfl) (by kernel_rfl) (by kernel_rfl) (fun _ _ _ h => h) (Or.inl ⟨by rfl, ?_⟩) HS ?_
              rotate_left
              · (intro w' hSw; (try dsimp only at hSw); go_simp; (try with_reducible rfl))
              try simp only [Act.put, List.setIfInBounds_toArray, List.set_cons_zero, List.set_cons_succ]
              refine wpAnyH_ready (rs := [26]) (by kernel_rfl) (by simp) ?_
              refine (AllReadyH.cons (o := ⟨none, _, _, _, _, none⟩) rfl (fun K hK => ?_) AllReadyH.nil)
              go_simp
              refine hK.out _ _ (by go_keep) (fun hHeld => ?_)
              try clear hK K hHeld
              try simp only [Act.put, List.setIfInBounds_toArray, List.set_cons_zero, List.set_cons_succ]
              refine wpAnyH_done (by kernel_rfl) ?_ _
              have HGN : Hid (GoodN (ns ++ [askN (pkv x.ra 60 - 20) (ns.length - 1 - pkv x.rb m4) (ns.length - 1 - pkv x.rc m4)]) ∧ (ns ++ [askN (pkv x.ra 60 - 20) (ns.length - 1 - pkv x.rb m4) (ns.length - 1 - pkv x.rc m4)]).length = k + 1 + 1 ∧ ns ++ [askN (pkv x.ra 60 - 20) (ns.length - 1 - pkv x.rb m4) (ns.length - 1 - pkv x.rc m4)] = fstN xs (k + 1)) :=
                ⟨hgn.out.1.snoc HASK.out.1 HASK.out.2, by rw [List.length_append, List.length_singleton, hgn.out.2.1], fst_ask hgn.out.2.2 HXK.out HP0.out HM4.out⟩
              obtain ⟨e0, e1, e2, e3, e4, e5⟩ := kf_rel (F := w.heap.size + 3) hbr hbR k2 y0 y1 y2 HO1.out hsz
              have E2 := Lib.hid e2
              have E3 := Lib.hid e3
              clear e2 e3 y0 y1 y2 y3 k2 g0 g1 g2 g0' g2' HO1 t1 t2 t3 t4 hif
              go_wp2
              go_roundw
              case rel => exact ⟨k + 1, _, _, by omega, by go_num, HGN, e0, e1, E2, E3, e4, e5⟩
              case measure => simp [intOf]; omega
            · skip
              go_simp
              (go_at_call_of 29 (Value.int .i64 x.rc); refine (picked_v _ m4 _ I3.out (by omega) (by omega)).mono ?_; rintro e w' ⟨rfl, rfl⟩)
              try dsimp only
              refine hK.out _ _ HS (fun hHeld => ?_)
              try clear hK K hHeld
              try simp only [Act.put, List.setIfInBounds_toArray, List.set_cons_zero, List.set_cons_succ]
              refine wpAnyH_take (i := 21) (oi := ⟨some 70, _, _, _, _, none⟩) (v := ?_) rfl (by kernel_rfl) (by kernel_rfl) (by kernel_rfl) (fun _ _ _ h => h) (Or.inl ⟨by rfl, ?_⟩) HS ?_
              rotate_left
              · (intro w' hSw; (try dsimp only at hSw); go_simp; (try with_reducible rfl))
              try simp only [Act.put, List.setIfInBounds_toArray, List.set_cons_zero, List.set_cons_succ]
              refine wpAnyH_take (i := 22) (oi := ⟨some 71, _, _, _, _, none⟩) (v := ?_) rfl (by kernel_rfl) (by kernel_rfl) (by kernel_rfl) (fun _ _ _ h => h) (Or.inl ⟨by rfl, ?_⟩) HS ?_
              rotate_left
              · (intro w' hSw; (try dsimp only at hSw); go_simp; (try with_reducible rfl))
              try simp only [Act.put, List.setIfInBounds_toArray, List.set_cons_zero, List.set_cons_succ]
              refine wpAnyH_ready (rs := [1, 23]) (by kernel_rfl) (by simp) ?_
              refine (AllReadyH.cons (o := ⟨some 50, _, _, _, _, none⟩) rfl (fun K hK => ?_) (AllReadyH.cons (o := ⟨some 72, _, _, _, _, none⟩) rfl (fun K hK => ?_) AllReadyH.nil))
              · skip
                go_simp
                refine hK.out _ _ HS (fun hHeld => ?_)
                try clear hK K hHeld
                try simp only [Act.put, List.setIfInBounds_toArray, List.set_cons_zero, List.set_cons_succ]
                refine wpAnyH_ready (rs := [23]) (by kernel_rfl) (by simp) ?_
                refine (AllReadyH.cons (o := ⟨some 72, _, _, _, _, none⟩) rfl (fun K hK => ?_) AllReadyH.nil)
                go_simp
                refine hK.out _ _ (hal _) (fun hHeld => ?_)
                clear HS
                have HS := hHeld
                try clear hK K hHeld
                try simp only [Act.put, List.setIfInBounds_toArray, List.set_cons_zero, List.set_cons_succ]
                refine wpAnyH_ready (rs := [24]) (by kernel_rfl) (by simp) ?_
                refine (AllReadyH.cons (o := ⟨some 73, _, _, _, _, none⟩) rfl (fun K hK => ?_) AllReadyH.nil)
                (refine step_append_lies _ (by rfl) _ _ _ (by rfl) (w.heap.size + 4) 90 j0 _ 5 40 Tryd.underlying62 hj0 hj1 hj2 hj3 rfl (by omega) (.slice av ns.length cv) ns.length (ns.flatMap encN) (by rfl) ((hon1.out.alloc _).drew) ⟨Wb.heap.size, 0, none⟩ 1 1 (encN (askN (pkv x.ra 60 - 20) (ns.length - 1 - pkv x.rb m4) (ns.length - 1 - pkv x.rc m4))) (by rfl) (by rfl) (cells_at _ _ _ _ _ rfl rfl) (encN_one _) (by omega) (by unfold maxLen; omega) (by omega) (Nat.le_of_lt (Nat.lt_of_lt_of_eq (show w.heap.size + 4 < Wb.heap.size + 1 by omega) (size_alloc _ _).symm)) (Wb.heap.size + 1) (size_alloc _ _) ?_; intro gg cap w1 hown1 hgrow hat hltg; obtain ⟨k1, k2⟩ := kf_mid hon.out hon1.out hsz HSB.out hgrow; have s1 := (k1 1).trans q1; have s2 := (k1 2).trans q2; have s3 := (k1 3).trans q3; have y0 : w1.cell? ⟨w.heap.size + 1 + 1 + 1, 0, none⟩ = _ := (k2.cell (p := ⟨w.heap.size + 3, 0, none⟩) (Nat.lt_succ_self _)).trans g0; have y1 : w1.cell? ⟨w.heap.size + 1 + 1 + 1, 1, none⟩ = _ := (k2.cell (p := ⟨w.heap.size + 3, 1, none⟩) (Nat.lt_succ_self _)).trans g1; have y2 : ∀ j, w1.frozen? ⟨w.heap.size + 1 + 1 + 1, j, none⟩ = false := fun j => (k2.frozen (p := ⟨w.heap.size + 3, j, none⟩) (Nat.lt_succ_self _)).trans (g2 j); have y3 : w.heap.size + 1 + 1 + 1 < w1.heap.size := Nat.lt_of_lt_of_le (show w.heap.size + 3 < Wb.heap.size by omega) k2.size; have HO1 := Lib.hid (own_snocG hown1); clear hown1 hgrow hat k1)
                refine hK.out _ _ ⟨s1, s2, s3⟩ (fun hHeld => ?_)
                clear HS
                have HS := hHeld
                try clear hK K hHeld
                try simp only [Act.put, List.setIfInBounds_toArray, List.set_cons_zero, List.set_cons_succ]
                refine wpAnyH_take (i := 25) (oi := ⟨some 74, _, _, _, _, none⟩) (v := ?_) rfl (by kernel_rfl) (by kernel_rfl) (by kernel_rfl) (fun _ _ _ h => h) (Or.inl ⟨by rfl, ?_⟩) HS ?_
                rotate_left
                · (intro w' hSw; (try dsimp only at hSw); go_simp; (try with_reducible rfl))
                try simp only [Act.put, List.setIfInBounds_toArray, List.set_cons_zero, List.set_cons_succ]
                refine wpAnyH_ready (rs := [26]) (by kernel_rfl) (by simp) ?_
                refine (AllReadyH.cons (o := ⟨none, _, _, _, _, none⟩) rfl (fun K hK => ?_) AllReadyH.nil)
                go_simp
                refine hK.out _ _ (by go_keep) (fun hHeld => ?_)
                try clear hK K hHeld
                try simp only [Act.put, List.setIfInBounds_toArray, List.set_cons_zero, List.set_cons_succ]
                refine wpAnyH_done (by kernel_rfl) ?_ _
                have HGN : Hid (GoodN (ns ++ [askN (pkv x.ra 60 - 20) (ns.length - 1 - pkv x.rb m4) (ns.length - 1 - pkv x.rc m4)]) ∧ (ns ++ [askN (pkv x.ra 60 - 20) (ns.length - 1 - pkv x.rb m4) (ns.length - 1 - pkv x.rc m4)]).length = k + 1 + 1 ∧ ns ++ [askN (pkv x.ra 60 - 20) (ns.length - 1 - pkv x.rb m4) (ns.length - 1 - pkv x.rc m4)] = fstN xs (k + 1)) :=
                  ⟨hgn.out.1.snoc HASK.out.1 HASK.out.2, by rw [List.length_append, List.length_singleton, hgn.out.2.1], fst_ask hgn.out.2.2 HXK.out HP0.out HM4.out⟩
                obtain ⟨e0, e1, e2, e3, e4, e5⟩ := kf_rel (F := w.heap.size + 3) hbr hbR k2 y0 y1 y2 HO1.out hsz
                have E2 := Lib.hid e2
                have E3 := Lib.hid e3
                clear e2 e3 y0 y1 y2 y3 k2 g0 g1 g2 g0' g2' HO1 t1 t2 t3 t4 hif
                go_wp2
                go_roundw
                case rel => exact ⟨k + 1, _, _, by omega, by go_num, HGN, e0, e1, E2, E3, e4, e5⟩
                case measure => simp [intOf]; omega
              · skip
                go_simp
                refine hK.out _ _ (hal _) (fun hHeld => ?_)
                clear HS
                have HS := hHeld
                try clear hK K hHeld
                try simp only [Act.put, List.setIfInBounds_toArray, List.set_cons_zero, List.set_cons_succ]
                refine wpAnyH_ready (rs := [1]) (by kernel_rfl) (by simp) ?_
                refine (AllReadyH.cons (o := ⟨some 50, _, _, _, _, none⟩) rfl (fun K hK => ?_) AllReadyH.nil)
                go_simp
                refine hK.out _ _ HS (fun hHeld => ?_)
                try clear hK K hHeld
                try simp only [Act.put, List.setIfInBounds_toArray, List.set_cons_zero, List.set_cons_succ]
                refine wpAnyH_ready (rs := [24]) (by kernel_rfl) (by simp) ?_
                refine (AllReadyH.cons (o := ⟨some 73, _, _, _, _, none⟩) rfl (fun K hK => ?_) AllReadyH.nil)
                (refine step_append_lies _ (by rfl) _ _ _ (by rfl) (w.heap.size + 4) 90 j0 _ 5 40 Tryd.underlying62 hj0 hj1 hj2 hj3 rfl (by omega) (.slice av ns.length cv) ns.length (ns.flatMap encN) (by rfl) ((hon1.out.alloc _).drew) ⟨Wb.heap.size, 0, none⟩ 1 1 (encN (askN (pkv x.ra 60 - 20) (ns.length - 1 - pkv x.rb m4) (ns.length - 1 - pkv x.rc m4))) (by rfl) (by rfl) (cells_at _ _ _ _ _ rfl rfl) (encN_one _) (by omega) (by unfold maxLen; omega) (by omega) (Nat.le_of_lt (Nat.lt_of_lt_of_eq (show w.heap.size + 4 < Wb.heap.size + 1 by omega) (size_alloc _ _).symm)) (Wb.heap.size + 1) (size_alloc _ _) ?_; intro gg cap w1 hown1 hgrow hat hltg; obtain ⟨k1, k2⟩ := kf_mid hon.out hon1.out hsz HSB.out hgrow; have s1 := (k1 1).trans q1; have s2 := (k1 2).trans q2; have s3 := (k1 3).trans q3; have y0 : w1.cell? ⟨w.heap.size + 1 + 1 + 1, 0, none⟩ = _ := (k2.cell (p := ⟨w.heap.size + 3, 0, none⟩) (Nat.lt_succ_self _)).trans g0; have y1 : w1.cell? ⟨w.heap.size + 1 + 1 + 1, 1, none⟩ = _ := (k2.cell (p := ⟨w.heap.size + 3, 1, none⟩) (Nat.lt_succ_self _)).trans g1; have y2 : ∀ j, w1.frozen? ⟨w.heap.size + 1 + 1 + 1, j, none⟩ = false := fun j => (k2.frozen (p := ⟨w.heap.size + 3, j, none⟩) (Nat.lt_succ_self _)).trans (g2 j); have y3 : w.heap.size + 1 + 1 + 1 < w1.heap.size := Nat.lt_of_lt_of_le (show w.heap.size + 3 < Wb.heap.size by omega) k2.size; have HO1 := Lib.hid (own_snocG hown1); clear hown1 hgrow hat k1)
                refine hK.out _ _ ⟨s1, s2, s3⟩ (fun hHeld => ?_)
                clear HS
                have HS := hHeld
                try clear hK K hHeld
                try simp only [Act.put, List.setIfInBounds_toArray, List.set_cons_zero, List.set_cons_succ]
                refine wpAnyH_take (i := 25) (oi := ⟨some 74, _, _, _, _, none⟩) (v := ?_) rfl (by kernel_rfl) (by kernel_rfl) (by kernel_rfl) (fun _ _ _ h => h) (Or.inl ⟨by rfl, ?_⟩) HS ?_
                rotate_left
                · (intro w' hSw; (try dsimp only at hSw); go_simp; (try with_reducible rfl))
                try simp only [Act.put, List.setIfInBounds_toArray, List.set_cons_zero, List.set_cons_succ]
                refine wpAnyH_ready (rs := [26]) (by kernel_rfl) (by simp) ?_
                refine (AllReadyH.cons (o := ⟨none, _, _, _, _, none⟩) rfl (fun K hK => ?_) AllReadyH.nil)
                go_simp
                refine hK.out _ _ (by go_keep) (fun hHeld => ?_)
                try clear hK K hHeld
                try simp only [Act.put, List.setIfInBounds_toArray, List.set_cons_zero, List.set_cons_succ]
                refine wpAnyH_done (by kernel_rfl) ?_ _
                have HGN : Hid (GoodN (ns ++ [askN (pkv x.ra 60 - 20) (ns.length - 1 - pkv x.rb m4) (ns.length - 1 - pkv x.rc m4)]) ∧ (ns ++ [askN (pkv x.ra 60 - 20) (ns.length - 1 - pkv x.rb m4) (ns.length - 1 - pkv x.rc m4)]).length = k + 1 + 1 ∧ ns ++ [askN (pkv x.ra 60 - 20) (ns.length - 1 - pkv x.rb m4) (ns.length - 1 - pkv x.rc m4)] = fstN xs (k + 1)) :=
                  ⟨hgn.out.1.snoc HASK.out.1 HASK.out.2, by rw [List.length_append, List.length_singleton, hgn.out.2.1], fst_ask hgn.out.2.2 HXK.out HP0.out HM4.out⟩
                obtain ⟨e0, e1, e2, e3, e4, e5⟩ := kf_rel (F := w.heap.size + 3) hbr hbR k2 y0 y1 y2 HO1.out hsz
                have E2 := Lib.hid e2
                have E3 := Lib.hid e3
                clear e2 e3 y0 y1 y2 y3 k2 g0 g1 g2 g0' g2' HO1 t1 t2 t3 t4 hif
                go_wp2
                go_roundw
                case rel => exact ⟨k + 1, _, _, by omega, by go_num, HGN, e0, e1, E2, E3, e4, e5⟩
                case measure => simp [intOf]; omega
    · have hst : ¬ k < xs.length ∨ (k < xs.length ∧ ¬ k < 40) := by omega
      have HFN : Hid (frsE ⟨ns, AN5⟩ = 0) := hgn.out.1.frs hnl0 (by omega)
      have h64 : Hid (∀ n ∈ ns, I64 n.an ∧ I64 n.bd ∧ I64 n.ls ∧ I64 n.mr) := hgn.out.1.2
      have u0 := (hbr.cell (p := ⟨w.heap.size, 0, none⟩) (by show w.heap.size < w.heap.size + 3; omega)).trans R0.out
      have u1 := (hbr.cell (p := ⟨w.heap.size, 1, none⟩) (by show w.heap.size < w.heap.size + 3; omega)).trans R1.out
      have u2 : ∀ j, wr.frozen? ⟨w.heap.size, j, none⟩ = false := fun j => (hbr.frozen (p := ⟨w.heap.size, j, none⟩) (by show w.heap.size < w.heap.size + 3; omega)).trans (R2.out j)
      have u3 : w.heap.size < wr.heap.size := by omega
      have hBW : Below w.heap.size w wr := b00.trans (hbr.mono (by omega))
      have HBW := Lib.hid hBW
      have HBR := Lib.hid hbr
      have hKC : KfC ((wr.setCell ⟨w.heap.size, 0, none⟩ (.slice av ns.length cv)).setCell ⟨w.heap.size, 1, none⟩ (.slice (some ⟨w.heap.size + 1 + 1, 0, none⟩) 5 5)) w.heap.size := by
        have kk : ∀ c, w.heap.size < c → ((wr.setCell ⟨w.heap.size, 0, none⟩ (.slice av ns.length cv)).setCell ⟨w.heap.size, 1, none⟩ (.slice (some ⟨w.heap.size + 1 + 1, 0, none⟩) 5 5)).heap[c]? = wr.heap[c]? := fun c hc => (RowKit.Below.heap_setCell _ _ _ _ (by show c ≠ w.heap.size; omega)).trans (RowKit.Below.heap_setCell _ _ _ _ (by show c ≠ w.heap.size; omega))
        exact HA.out.keep ((kk _ (by omega)).trans (hbr.block _ (by omega))) ((kk _ (by omega)).trans (hbr.block _ (by omega)))
      have hFR : FrsAt ((wr.setCell ⟨w.heap.size, 0, none⟩ (.slice av ns.length cv)).setCell ⟨w.heap.size, 1, none⟩ (.slice (some ⟨w.heap.size + 1 + 1, 0, none⟩) 5 5)) (.slice av ns.length cv) (.slice (some ⟨w.heap.size + 1 + 1, 0, none⟩) 5 5) ⟨ns, AN5⟩ := by
        refine ⟨slAt_of_own (enc := encN) (by omega) (fun _ => rfl) (fun x hx => ⟨rfl, h64.out x hx⟩) (ownsRow_setCell_below (ownsRow_setCell_below hon.out (by show w.heap.size < _; omega) _) (by show w.heap.size < _; omega) _), hKC.ans ?_⟩
        rw [World.size_setCell, World.size_setCell]
        omega
      have HFR := Lib.hid hFR
      clear hgo hbr hBW hKC hFR
      rcases hst with h | ⟨h, h'⟩
      · have hh : (xs.length : Int) ≤ (k : Int) := by omega
        have HFE : Hid ((⟨ns, AN5⟩ : Frs) = frst xs) := fst_end hgn.out.2.2 hk (.inl (by omega))
        clear h
        go_wp2_with fail
        refine bodyPost_ret (v := .agg #[.slice av ns.length cv, .slice (some ⟨w.heap.size + 1 + 1, 0, none⟩) 5 5]) (by simp [results, Tryd.results28, go_sem, u0, u1, u2, u3]) rfl ⟨_, _, _, rfl, HFR.out, ⟨HFN.out, HNL.out, HFE.out⟩, ?_⟩
        exact (HBW.out.setCell (by show w.heap.size ≤ w.heap.size; omega) _).setCell (by show w.heap.size ≤ w.heap.size; omega) _
      · have hh : (k : Int) < (xs.length : Int) := by omega
        have hh' : (40 : Int) ≤ (k : Int) := by omega
        have HFE : Hid ((⟨ns, AN5⟩ : Frs) = frst xs) := fst_end hgn.out.2.2 hk (.inr (by omega))
        clear h h'
        go_wp2_with fail
        refine bodyPost_ret (v := .agg #[.slice av ns.length cv, .slice (some ⟨w.heap.size + 1 + 1, 0, none⟩) 5 5]) (by simp [results, Tryd.results28, go_sem, u0, u1, u2, u3]) rfl ⟨_, _, _, rfl, HFR.out, ⟨HFN.out, HNL.out, HFE.out⟩, ?_⟩
        exact (HBW.out.setCell (by show w.heap.size ≤ w.heap.size; omega) _).setCell (by show w.heap.size ≤ w.heap.size; omega) _
theorem forest_lim (v : Value) (xs : List Rw) (w : World) (hv : SlAt w 4 RRw v xs) :
    Calls Tryd.prog 28 #[v] w fun e w' => ∃ vn va f, e = .returned (.agg #[vn, va]) ∧ FrsAt w' vn va f ∧ (frsE f = 0 ∧ f.nodes.length ≤ 41) ∧ Below w.heap.size w w' :=
  (forest_is v xs w hv).mono fun e w' ⟨vn, va, f, he, h1, h2, h3⟩ => ⟨vn, va, f, he, h1, ⟨h2.1, h2.2.1⟩, h3⟩
theorem forest_any (v : Value) (xs : List Rw) (w : World) (hv : SlAt w 4 RRw v xs) :
    Calls Tryd.prog 28 #[v] w fun e w' => ∃ vn va f, e = .returned (.agg #[vn, va]) ∧ FrsAt w' vn va f ∧ frsE f = 0 ∧ Below w.heap.size w w' :=
  (forest_lim v xs w hv).mono fun e w' ⟨vn, va, f, he, h1, h2, h3⟩ => ⟨vn, va, f, he, h1, h2.1, h3⟩
end Go.Proofs.YtlhidbbphngpcaaDoor
namespace Go.Proofs.YtlhidbbphngpcaaDoor
set_option linter.unusedVariables false
set_option linter.unusedSimpArgs false
open Go.ChangeShapes Go.WideShapes Go.ChangeAt Go.RowKit

set_option maxHeartbeats 2000000 in
theorem equal_any (va vb : Value) (xs ys : List Int) (w : World) (ha : SlAt w 1 RInt va xs) (hb : SlAt w 1 RInt vb ys) :
    Calls Tryd.prog 80 #[va, vb] w fun e w' => ∃ r n, e = .returned (.bool r) ∧ (xs = ys → r = true) ∧ w' = w.drewN n := by
  obtain ⟨aa, ca, rfl, la⟩ := ha.shape
  obtain ⟨ab, cb, rfl, lb⟩ := hb.shape
  have la' := maxLen_eq _ la
  have lb' := maxLen_eq _ lb
  have HA := Lib.hid ha
  have HB := Lib.hid hb
  clear ha hb la lb
  by_cases hl : xs.length = ys.length
  · obtain ⟨n, hn⟩ : ∃ n, n = ys.length := ⟨_, rfl⟩
    rw [hl, ← hn] at la' ⊢
    have HXN : Hid (xs.length = n) := by show _ = _; rw [hl, hn]
    have HYN : Hid (ys.length = n) := hn.symm
    rw [hl, ← hn] at HA
    rw [← hn] at HB
    clear hl hn lb'
    go_enter Tryd.func80, Tryd.ntmps80
    go_wp2_with fail
    go_loopw [13] (fun t wr => ∃ k : Nat, k ≤ n ∧ t = .int .i64 (k : Int) ∧ ∃ q, wr = w.drewN q) (fun t _ => (n - intOf t).toNat)
    case atStart => exact ⟨0, by omega, rfl, 0, rfl⟩
    case round =>
      obtain ⟨k, hk, rfl, q, rfl⟩ := hrel
      by_cases hlt : k < n
      · have hkx : k < xs.length := by rw [HXN.out]; exact hlt
        have hky : k < ys.length := by rw [HYN.out]; exact hlt
        obtain ⟨b1, o1, e1, z1, c1, _⟩ := elemInt HA.out k hkx
        obtain ⟨b2, o2, e2, z2, c2, _⟩ := elemInt HB.out k hky
        subst e1 e2
        have hkn : (k : Int) < (n : Int) := by omega
        have hne : Hid (xs[k] ≠ ys[k] → xs ≠ ys) := fun h e => by subst e; exact h rfl
        generalize xs[k] = x at *
        generalize ys[k] = y at *
        by_cases hxy : x = y
        · subst hxy
          clear hne
          go_wp2_with fail
          go_quiet (fail)
          go_wp2_with fail
          go_roundw
          case rel => exact ⟨k + 1, by omega, by go_num, _, rfl⟩
          case measure => simp [intOf]; omega
        · have hb : (x != y) = true := by simpa using hxy
          have HNE : Hid (xs ≠ ys) := hne.out hxy
          clear hne hxy
          go_wp2_with fail
          go_quiet (fail)
          go_wp2_with fail
          go_ret
          exact ⟨false, q + nq, rfl, fun h => absurd h HNE.out, by simp [World.drewN, Nat.add_assoc]⟩
      · go_wp2_with fail
        go_ret
        exact ⟨true, _, rfl, fun _ => rfl, rfl⟩
  · have HNE : Hid (xs ≠ ys) := fun e => hl (by rw [e])
    have hl' : ((xs.length : Int) != (ys.length : Int)) = true := by simp; omega
    have hl2 : ¬ (xs.length : Int) = (ys.length : Int) := by omega
    go_enter Tryd.func80, Tryd.ntmps80
    go_wp2
    go_ret
    exact ⟨false, 0, rfl, fun h => absurd h HNE.out, rfl⟩
theorem ba_toList {a b : ByteArray} (h : a.toList = b.toList) : a = b := Go.WideShapes.bytes_inj (by rw [← ByteArray.toList_eq, ← ByteArray.toList_eq]; exact h)
/-- a box that holds an answer. -/
def AnB (W : World) (T : Nat) (A : Ans) : Prop := ∃ v, SlAt W 1 RInt v A.offs ∧ T < W.heap.size ∧ ∀ j, j < 5 → W.cell? ⟨T, j, none⟩ = [Value.int .i64 A.ck.off, .bool A.ck.sav, .string A.ck.nm, v, .int .i64 A.jump][j]?
theorem AnB.mono {W W' : World} {T : Nat} {A : Ans} (h : AnB W T A) (hb : Below W.heap.size W W') : AnB W' T A := by
  obtain ⟨v, h1, h2, h3⟩ := h
  exact ⟨v, h1.mono hb fun _ _ h => h, Nat.lt_of_lt_of_le h2 hb.size, fun j hj => (hb.cell (p := ⟨T, j, none⟩) h2).trans (h3 j hj)⟩
end Go.Proofs.YtlhidbbphngpcaaDoor
namespace Go.Proofs.YtlhidbbphngpcaaDoor
set_option linter.unusedVariables false
set_option linter.unusedSimpArgs false
set_option maxRecDepth 100000
open Go.ChangeShapes Go.WideShapes Go.ChangeAt Go.RowKit
section
variable {H : Type} {enc : TypeId × Value → H} {w : World} {r : Reach} {b0 b : Nat} {sp : Nat → Bool} {held : Bool} {fuel : Nat} {cs : List Value} {y : DataW H × List MemPlace} {v : Value} {d : DataW H} {p : List MemPlace}
theorem rdRaws (h : DataW.trod enc Tryd.prog w b sp held fuel 31 cs = some y) : ∃ v xs, cs = [v] ∧ SlAt w 4 RRw v xs :=
  slAt_of_trod Tryd.underlying31 cRaw (by omega) (fun m cs' z hz => by
    obtain ⟨k, a, b, c, e, w1, w2, w3, w4⟩ := rdRaw hz
    exact ⟨⟨k, a, b, c⟩, e, w1, w2, w3, w4⟩) h
theorem openRaws (hv : Value.okWide Tryd.prog w r b0 31 v) (h : DataW.Trod enc Tryd.prog w b sp held 31 v d p) : ∃ xs, SlAt w 4 RRw v xs := by
  obtain ⟨a, len, cap, rfl⟩ := okWide_slice Tryd.underlying31 hv
  obtain ⟨fuel, hf⟩ := h
  obtain ⟨v', xs, e, h1⟩ := rdRaws hf
  have e' : [Value.slice a len cap] = [v'] := e
  simp only [List.cons.injEq, and_true] at e'
  subst e'
  exact ⟨xs, h1⟩
end
end Go.Proofs.YtlhidbbphngpcaaDoor
