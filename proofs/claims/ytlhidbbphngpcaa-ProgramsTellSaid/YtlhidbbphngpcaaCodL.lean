/-
  The law of code.Verify.
  code.Run: the stack; pop.
  A run, by the document: RanOf; what is refused.
  A run, by the document: RanOf.
-/
import Derived.Test.YtlhidbbphngpcaaCodH
import Derived.Test.YtlhidbbphngpcaaCodF
import Derived.Test.YtlhidbbphngpcaaTreeT
namespace Go.Proofs.Ytlhidbbphngpcaa
set_option linter.unusedVariables false
set_option linter.unusedSimpArgs false
open Go.ChangeShapes Go.WideShapes Go.ChangeAt Go.RowKit

theorem verE_bad {p : Prg} (h : prgE p ≠ 0) : verE p = (0, 0, prgE p) := by unfold verE; rw [if_pos h]
theorem verify_any (p : Prg) (vc vp va : Value) (w : World) (hp : PrgAt w vc vp va p) {a b c : Int} (h : verE p = (a, b, c)) :
    Calls Try.prog 32 #[.agg #[vc, vp, va]] w fun e w' => e = .returned (.tuple #[.int .i64 a, .int .i64 b, .int .i64 c]) ∧ Below w.heap.size w w' := by
  by_cases hg : prgE p = 0
  · refine (verify_good p vc vp va w hp hg).mono ?_
    rintro e w' ⟨he, hb⟩
    rw [h] at he
    exact ⟨he, hb⟩
  · refine (verify_bad p vc vp va w hp hg).mono ?_
    rintro e w' ⟨he, hb⟩
    rw [verE_bad hg] at h
    cases h
    exact ⟨he, hb⟩
end Go.Proofs.Ytlhidbbphngpcaa
namespace Go.Proofs.Ytlhidbbphngpcaa
set_option linter.unusedVariables false
set_option linter.unusedSimpArgs false
open Go.ChangeShapes Go.WideShapes Go.ChangeAt Go.RowKit

theorem own_pre {w : World} {B n m cap : Nat} {e : TypeId} {a : Option Addr} {xs ys : List Value} (h : w.ownsRow B e 1 (.slice a (n + m) cap) (n + m) (xs ++ ys)) (hx : xs.length = n) (hm : 0 < m) : w.ownsRow B e 1 (.slice a n cap) n xs := by
  obtain ⟨h1, h2⟩ := h
  refine ⟨by omega, ?_⟩
  rcases h2 with ⟨hv, h0⟩ | ⟨g, cap', cur, hv, hb, hh, hc, hm', hs, ht⟩
  · omega
  · right
    simp only [Value.slice.injEq] at hv
    obtain ⟨rfl, _, rfl⟩ := hv
    refine ⟨g, cap, cur, rfl, hb, hh, by omega, hm', hs, ?_⟩
    have e1 : cur.toList.take (n * 1) = (cur.toList.take ((n + m) * 1)).take n := by rw [List.take_take, Nat.min_eq_left (by omega), Nat.mul_one]
    rw [e1, ht, ← hx, List.take_left]
theorem own_some {w : World} {B n cap : Nat} {e : TypeId} {a : Option Addr} {xs : List Value} (h : w.ownsRow B e 1 (.slice a n cap) n xs) (hn : 0 < n) : ∃ g, a = some ⟨g, 0, none⟩ ∧ B ≤ g ∧ g < w.heap.size ∧ n ≤ cap := by
  obtain ⟨h1, h2⟩ := h
  rcases h2 with ⟨hv, h0⟩ | ⟨g, cap', cur, hv, hb, hh, hc, hm', hs, ht⟩
  · omega
  · simp only [Value.slice.injEq] at hv
    obtain ⟨rfl, _, rfl⟩ := hv
    refine ⟨g, rfl, hb, ?_, hc⟩
    rcases Nat.lt_or_ge g w.heap.size with q | q
    · exact q
    · rw [Array.getElem?_eq_none q] at hh; cases hh
/-- block o holds the stack l. -/
def StkAt (w : World) (o B : Nat) (l : List Int) : Prop := ∃ v, w.cell? ⟨o, 0, none⟩ = some v ∧ w.frozen? ⟨o, 0, none⟩ = false ∧ w.ownsRow B 3 1 v l.length (l.flatMap encI)
theorem flatI_len (l : List Int) : (l.flatMap encI).length = l.length := by
  induction l with
  | nil => rfl
  | cons x l ih => rw [List.flatMap_cons, List.length_append, ih]; simp [encI]; omega
theorem flatI_at (l : List Int) (i : Nat) (h : i < l.length) : (l.flatMap encI)[i]? = some (.int .i64 l[i]) := by
  induction l generalizing i with
  | nil => simp at h
  | cons x l ih =>
    cases i with
    | zero => rfl
    | succ i => exact ih i (by simpa using h)
theorem own_intAt {w : World} {B cap g : Nat} {e : TypeId} {l : List Int} (h : w.ownsRow B e 1 (.slice (some ⟨g, 0, none⟩) l.length cap) l.length (l.flatMap encI)) (i : Nat) (hi : i < l.length) : w.cell? ⟨g, i, none⟩ = some (.int .i64 l[i]) := by
  rw [World.ownsRow.cellAt h i (by omega)]
  exact flatI_at l i hi
set_option maxHeartbeats 1000000 in
theorem pop_any (o B : Nat) (l : List Int) (x : Int) (w : World) (hoB : o < B) (hB : B ≤ w.heap.size) (hl : l.length ≤ 8) (hs : StkAt w o B (l ++ [x])) :
    Calls Try.prog 57 #[.pointer (some ⟨o, 0, none⟩)] w fun e w' => e = .returned (.int .i64 x) ∧ StkAt w' o B l ∧ Below o w w' ∧ (∀ b j, b ≠ o → w'.cell? ⟨b, j, none⟩ = w.cell? ⟨b, j, none⟩) ∧ w'.heap.size = w.heap.size := by
  obtain ⟨v, hc, hf, hown⟩ := hs
  obtain ⟨a, cap, rfl⟩ := own_shape hown
  obtain ⟨g, rfl, hg, hgs, hcap⟩ := own_some hown (by simp)
  have hlast := own_intAt hown l.length (by simp)
  rw [List.getElem_concat_length rfl] at hlast
  have hpre := hown
  rw [List.flatMap_append, List.length_append] at hpre
  have hp2 := Lib.hid (own_pre hpre (flatI_len l) (by simp))
  have hoz : o < w.heap.size := by omega
  have hlen : (l ++ [x]).length = l.length + 1 := by simp
  rw [hlen] at hc hcap
  have hca : (l.length : Int) ≤ (cap : Int) := by omega
  clear hpre hown hlen
  have HC := Lib.hid hc
  have HF := Lib.hid hf
  go_enter Try.func57, Try.ntmps57
  go_wp2
  go_ret
  refine ⟨rfl, ⟨_, World.cell?_setCell_same (h := HC.out) .., ?_, ?_⟩, ?_, fun b j hb => ?_, World.size_setCell _ _ _⟩
  · rw [World.frozen?_setCell]; exact HF.out
  · exact ownsRow_setCell_below hp2.out hoB _
  · exact (Below.refl o w).setCell (p := ⟨o, 0, none⟩) (Nat.le_refl _) _
  · exact World.cell?_setCell_other (h := by simp [hb]) ..
end Go.Proofs.Ytlhidbbphngpcaa
namespace Go.Proofs.Ytlhidbbphngpcaa
set_option linter.unusedVariables false
set_option linter.unusedSimpArgs false
open Go.ChangeShapes Go.WideShapes Go.ChangeAt Go.RowKit

theorem vgo_inl {n a lg e : Int} : ∀ {ts : List Int} {st : Vst}, vgo n a lg st ts = .inl e → e = 5 ∨ e = 4
  | [], st, h => by unfold vgo at h; cases h
  | t :: ts, st, h => by
    unfold vgo at h
    split at h
    · cases h; exact .inl rfl
    · split at h
      · cases h; exact .inr rfl
      · exact vgo_inl h
theorem scan_inl {c : List Ins} {e : Int} : ∀ (k : Nat), scan c k = .inl e → e ≠ 0
  | 0, h => by cases h
  | k + 1, h => by
    unfold scan at h
    split at h
    · exact scan_inl k h
    · match hs : scan c k, h with
      | .inl e', h =>
        have h' : Sum.inl e' = (Sum.inl e : Int ⊕ Vst) := h
        obtain rfl := Sum.inl.inj h'
        exact scan_inl k hs
      | .inr st, h =>
        have h' : vstep _ _ _ _ = Sum.inl e := h
        unfold vstep at h'
        split at h'
        · cases h'
        · split at h'
          · cases h'; decide
          · rcases vgo_inl h' with rfl | rfl <;> decide
theorem ver_zero {p : Prg} {a b : Int} (h : verE p = (a, b, 0)) : prgE p = 0 ∧ ∃ st, scan p.code p.code.length = .inr st := by
  unfold verE at h
  split at h
  · rename_i h0
    simp only [Prod.mk.injEq] at h
    exact absurd h.2.2 h0
  · rename_i h0
    refine ⟨by simpa using h0, ?_⟩
    match hs : scan p.code p.code.length, h with
    | .inl e, h =>
      simp only [Prod.mk.injEq] at h
      exact absurd h.2.2 (scan_inl _ hs)
    | .inr st, h => exact ⟨st, rfl⟩
theorem run_of {p : Prg} {a b : Int} (t : Int) (h : verE p = (a, b, 0)) : ∃ i k, Rn p t 0 [] 0 i k ∧ i < p.answers.length ∧ 0 ≤ k ∧ k ≤ 8000 := by
  obtain ⟨hg, st, hs⟩ := ver_zero h
  obtain ⟨g0, g1, _, _, _, _⟩ := prg_good hg
  have hn : ∀ x ∈ p.code, 0 ≤ x.n := fun x hx => by
    obtain ⟨i, hi, rfl⟩ := List.mem_iff_getElem.1 hx
    exact (ins_n8 hg hi).2.1
  obtain ⟨_, _, i3⟩ := scan_all g0 hn _ _ (Nat.le_refl _) hs
  obtain ⟨i, k, h1, h2, h3, h4⟩ := run_ex p t hg hs _ 0 [] 0 rfl g0 (by rw [show ((0 : Nat) : Int) = 0 from rfl, i3]; rfl) (Int.le_refl _) (by simp)
  exact ⟨i, k, h1, h2, h3, by omega⟩
/-- a world in which the two boxes of a run stand: the program's and the result's. -/
structure RvAt (w w1 : World) (vc vp va : Value) : Prop where
  q0 : w1.cell? ⟨w.heap.size, 0, none⟩ = some vc
  q1 : w1.cell? ⟨w.heap.size, 1, none⟩ = some vp
  q2 : w1.cell? ⟨w.heap.size, 2, none⟩ = some va
  r0 : w1.cell? ⟨w.heap.size + 1, 0, none⟩ = some (.int .i64 0)
  r1 : w1.cell? ⟨w.heap.size + 1, 1, none⟩ = some (.bool false)
  r2 : w1.cell? ⟨w.heap.size + 1, 2, none⟩ = some (.string ⟨#[]⟩)
  r3 : w1.cell? ⟨w.heap.size + 1, 3, none⟩ = some (.slice none 0 0)
  r4 : w1.cell? ⟨w.heap.size + 1, 4, none⟩ = some (.int .i64 0)
  f1 : ∀ j, w1.frozen? ⟨w.heap.size + 1, j, none⟩ = false
  hz : w.heap.size + 1 < w1.heap.size
  hb : Below w.heap.size w w1
theorem RvAt.new (w : World) (vc vp va : Value) : RvAt w ((w.alloc (.cells #[vc, vp, va] 68)).alloc (.cells #[.int .i64 0, .bool false, .string ⟨#[]⟩, .slice none 0 0, .int .i64 0] 39)) vc vp va := by
  obtain ⟨hs, b0, b1, g0, g1⟩ := two_new w #[vc, vp, va] #[.int .i64 0, .bool false, .string ⟨#[]⟩, .slice none 0 0, .int .i64 0] 68 39
  exact ⟨b0 0, b0 1, b0 2, b1 0, b1 1, b1 2, b1 3, b1 4, g1, by omega, ((Below.refl _ _).alloc (Nat.le_refl _) _).alloc (size_le_push_ w _) _⟩
theorem RvAt.up {w w1 w2 : World} {vc vp va : Value} (h : RvAt w w1 vc vp va) {B : Nat} (hB : w.heap.size + 1 < B) (g : Below B w1 w2) : RvAt w w2 vc vp va := by
  have hz := h.hz
  have hc : ∀ b o, b < B → w2.cell? ⟨b, o, none⟩ = w1.cell? ⟨b, o, none⟩ := fun b o hb => g.cell (p := ⟨b, o, none⟩) hb
  have hf : ∀ b o, b < B → w2.frozen? ⟨b, o, none⟩ = w1.frozen? ⟨b, o, none⟩ := fun b o hb => g.frozen (p := ⟨b, o, none⟩) hb
  have h0 : w.heap.size < B := by omega
  exact ⟨(hc _ _ h0).trans h.q0, (hc _ _ h0).trans h.q1, (hc _ _ h0).trans h.q2, (hc _ _ hB).trans h.r0, (hc _ _ hB).trans h.r1, (hc _ _ hB).trans h.r2, (hc _ _ hB).trans h.r3, (hc _ _ hB).trans h.r4, fun j => (hf _ _ hB).trans (h.f1 j), Nat.lt_of_lt_of_le hz g.size, h.hb.trans (g.mono (by omega))⟩
theorem RvAt.below {w w1 w2 : World} {vc vp va : Value} (h : RvAt w w1 vc vp va) (g : Below w1.heap.size w1 w2) : RvAt w w2 vc vp va := h.up h.hz g
set_option maxRecDepth 100000 in
set_option maxHeartbeats 2000000 in
theorem run_bad (p : Prg) (vc vp va : Value) (t : Int) (w : World) (hp : PrgAt w vc vp va p) {a b c : Int} (h : verE p = (a, b, c)) (hc : c ≠ 0) :
    Calls Try.prog 31 #[.agg #[vc, vp, va], .int .i64 t] w fun e w' => e = .returned (.tuple #[.agg #[.int .i64 0, .bool false, .string ⟨#[]⟩, .slice none 0 0, .int .i64 0], .int .i64 0, .int .i64 c]) ∧ Below w.heap.size w w' := by
  have HP := Lib.hid hp
  have HV := Lib.hid h
  have hne : (c != 0) = true := by rw [bne_iff_ne]; exact hc
  have E := RvAt.new w vc vp va
  clear hp h hc
  go_enter Try.func31, Try.ntmps31
  go_wp2_with fail
  refine (verify_any p vc vp va _ (HP.out.mono E.hb) HV.out).mono ?_; rintro e w1 ⟨rfl, hb1⟩
  have E1 := E.below hb1
  obtain ⟨q0, q1, q2, r0, r1, r2, r3, r4, f1, hz, hbw⟩ := E1
  clear E hb1
  go_wp2
  exact bodyPost_ret (v := .tuple #[.agg #[.int .i64 0, .bool false, .string ⟨#[]⟩, .slice none 0 0, .int .i64 0], .int .i64 0, .int .i64 c]) (by simp [results, Try.results31, go_sem, hz, r0, r1, r2, r3, r4]) rfl ⟨rfl, five_below hbw (by omega) _ _ _ _ _⟩
end Go.Proofs.Ytlhidbbphngpcaa
namespace Go.Proofs.Ytlhidbbphngpcaa
set_option linter.unusedVariables false
set_option linter.unusedSimpArgs false
open Go.ChangeShapes Go.WideShapes Go.ChangeAt Go.RowKit

theorem row_keep {w wA w1 : World} {B C n : Nat} {e : TypeId} {v : Value} {xs : List Value} (hown : w.ownsRow B e 1 v n xs) (hA : Below C w wA) (hC : C ≤ B) (hBz : B ≤ w.heap.size) (hgrow : wA.grownBy w1 v.ownBlock) : Below C w w1 :=
  hA.trans ((Below.refl C wA).grown hgrow (Nat.le_trans (Nat.le_trans hC hBz) hA.size) (fun g hg => Nat.le_trans hC (hown.lt g hg).1))
end Go.Proofs.Ytlhidbbphngpcaa
