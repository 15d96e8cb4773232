/-
  A run, by the document: RanOf; what is refused.
-/
import Derived.Test.YtpnmaopompfalaaCodK
import Derived.Test.YtpnmaopompfalaaCodJ
namespace Go.Proofs.Ytpnmaopompfalaa
set_option linter.unusedVariables false
set_option linter.unusedSimpArgs false
open Go.ChangeShapes Go.WideShapes Go.ChangeAt Go.RowKit

theorem vgo_inl {n a lg e : Int} : ∀ {ts : List Int} {st : Vst}, vgo n a lg st ts = .inl e → e = 5 ∨ e = 4
  | [], st, h => by unfold vgo at h; cases h
  | t :: ts, st, h => by
    unfold vgo at h
    split at h
    · cases h; exact .inl rfl
    · split at h
      · cases h; exact .inr rfl
      · exact vgo_inl h
theorem scan_inl {c : List Ins} {e : Int} : ∀ (k : Nat), scan c k = .inl e → e ≠ 0
  | 0, h => by cases h
  | k + 1, h => by
    unfold scan at h
    split at h
    · exact scan_inl k h
    · match hs : scan c k, h with
      | .inl e', h =>
        have h' : Sum.inl e' = (Sum.inl e : Int ⊕ Vst) := h
        obtain rfl := Sum.inl.inj h'
        exact scan_inl k hs
      | .inr st, h =>
        have h' : vstep _ _ _ _ = Sum.inl e := h
        unfold vstep at h'
        split at h'
        · cases h'
        · split at h'
          · cases h'; decide
          · rcases vgo_inl h' with rfl | rfl <;> decide
theorem ver_zero {p : Prg} {a b : Int} (h : verE p = (a, b, 0)) : prgE p = 0 ∧ ∃ st, scan p.code p.code.length = .inr st := by
  unfold verE at h
  split at h
  · rename_i h0
    simp only [Prod.mk.injEq] at h
    exact absurd h.2.2 h0
  · rename_i h0
    refine ⟨by simpa using h0, ?_⟩
    match hs : scan p.code p.code.length, h with
    | .inl e, h =>
      simp only [Prod.mk.injEq] at h
      exact absurd h.2.2 (scan_inl _ hs)
    | .inr st, h => exact ⟨st, rfl⟩
theorem run_of {p : Prg} {a b : Int} (t : Int) (h : verE p = (a, b, 0)) : ∃ i k, Rn p t 0 [] 0 i k ∧ i < p.answers.length ∧ 0 ≤ k ∧ k ≤ 8000 := by
  obtain ⟨hg, st, hs⟩ := ver_zero h
  obtain ⟨g0, g1, _, _, _, _⟩ := prg_good hg
  have hn : ∀ x ∈ p.code, 0 ≤ x.n := fun x hx => by
    obtain ⟨i, hi, rfl⟩ := List.mem_iff_getElem.1 hx
    exact (ins_n8 hg hi).2.1
  obtain ⟨_, _, i3⟩ := scan_all g0 hn _ _ (Nat.le_refl _) hs
  obtain ⟨i, k, h1, h2, h3, h4⟩ := run_ex p t hg hs _ 0 [] 0 rfl g0 (by rw [show ((0 : Nat) : Int) = 0 from rfl, i3]; rfl) (Int.le_refl _) (by simp)
  exact ⟨i, k, h1, h2, h3, by omega⟩
/-- a world in which the two boxes of a run stand: the program's and the result's. -/
structure RvAt (w w1 : World) (vc vp va : Value) : Prop where
  q0 : w1.cell? ⟨w.heap.size, 0, none⟩ = some vc
  q1 : w1.cell? ⟨w.heap.size, 1, none⟩ = some vp
  q2 : w1.cell? ⟨w.heap.size, 2, none⟩ = some va
  r0 : w1.cell? ⟨w.heap.size + 1, 0, none⟩ = some (.int .i64 0)
  r1 : w1.cell? ⟨w.heap.size + 1, 1, none⟩ = some (.bool false)
  r2 : w1.cell? ⟨w.heap.size + 1, 2, none⟩ = some (.string ⟨#[]⟩)
  r3 : w1.cell? ⟨w.heap.size + 1, 3, none⟩ = some (.slice none 0 0)
  r4 : w1.cell? ⟨w.heap.size + 1, 4, none⟩ = some (.int .i64 0)
  f1 : ∀ j, w1.frozen? ⟨w.heap.size + 1, j, none⟩ = false
  hz : w.heap.size + 1 < w1.heap.size
  hb : Below w.heap.size w w1
theorem RvAt.new (w : World) (vc vp va : Value) : RvAt w ((w.alloc (.cells #[vc, vp, va] 58)).alloc (.cells #[.int .i64 0, .bool false, .string ⟨#[]⟩, .slice none 0 0, .int .i64 0] 27)) vc vp va := by
  obtain ⟨hs, b0, b1, g0, g1⟩ := two_new w #[vc, vp, va] #[.int .i64 0, .bool false, .string ⟨#[]⟩, .slice none 0 0, .int .i64 0] 58 27
  exact ⟨b0 0, b0 1, b0 2, b1 0, b1 1, b1 2, b1 3, b1 4, g1, by omega, ((Below.refl _ _).alloc (Nat.le_refl _) _).alloc (size_le_push_ w _) _⟩
theorem RvAt.up {w w1 w2 : World} {vc vp va : Value} (h : RvAt w w1 vc vp va) {B : Nat} (hB : w.heap.size + 1 < B) (g : Below B w1 w2) : RvAt w w2 vc vp va := by
  have hz := h.hz
  have hc : ∀ b o, b < B → w2.cell? ⟨b, o, none⟩ = w1.cell? ⟨b, o, none⟩ := fun b o hb => g.cell (p := ⟨b, o, none⟩) hb
  have hf : ∀ b o, b < B → w2.frozen? ⟨b, o, none⟩ = w1.frozen? ⟨b, o, none⟩ := fun b o hb => g.frozen (p := ⟨b, o, none⟩) hb
  have h0 : w.heap.size < B := by omega
  exact ⟨(hc _ _ h0).trans h.q0, (hc _ _ h0).trans h.q1, (hc _ _ h0).trans h.q2, (hc _ _ hB).trans h.r0, (hc _ _ hB).trans h.r1, (hc _ _ hB).trans h.r2, (hc _ _ hB).trans h.r3, (hc _ _ hB).trans h.r4, fun j => (hf _ _ hB).trans (h.f1 j), Nat.lt_of_lt_of_le hz g.size, h.hb.trans (g.mono (by omega))⟩
theorem RvAt.below {w w1 w2 : World} {vc vp va : Value} (h : RvAt w w1 vc vp va) (g : Below w1.heap.size w1 w2) : RvAt w w2 vc vp va := h.up h.hz g
set_option maxRecDepth 100000 in
set_option maxHeartbeats 2000000 in
theorem run_bad (p : Prg) (vc vp va : Value) (t : Int) (w : World) (hp : PrgAt w vc vp va p) {a b c : Int} (h : verE p = (a, b, c)) (hc : c ≠ 0) :
    Calls Try.prog 49 #[.agg #[vc, vp, va], .int .i64 t] w fun e w' => e = .returned (.tuple #[.agg #[.int .i64 0, .bool false, .string ⟨#[]⟩, .slice none 0 0, .int .i64 0], .int .i64 0, .int .i64 c]) ∧ Below w.heap.size w w' := by
  have HP := Lib.hid hp
  have HV := Lib.hid h
  have hne : (c != 0) = true := by rw [bne_iff_ne]; exact hc
  have E := RvAt.new w vc vp va
  clear hp h hc
  go_enter Try.func49, Try.ntmps49
  go_wp2_with fail
  refine (verify_any p vc vp va _ (HP.out.mono E.hb) HV.out).mono ?_; rintro e w1 ⟨rfl, hb1⟩
  have E1 := E.below hb1
  obtain ⟨q0, q1, q2, r0, r1, r2, r3, r4, f1, hz, hbw⟩ := E1
  clear E hb1
  go_wp2
  exact bodyPost_ret (v := .tuple #[.agg #[.int .i64 0, .bool false, .string ⟨#[]⟩, .slice none 0 0, .int .i64 0], .int .i64 0, .int .i64 c]) (by simp [results, Try.results49, go_sem, hz, r0, r1, r2, r3, r4]) rfl ⟨rfl, five_below hbw (by omega) _ _ _ _ _⟩
set_option maxRecDepth 100000 in
set_option maxHeartbeats 2000000 in
theorem ranOf_bad (p : Prg) (vc vp va : Value) (t : Int) (w : World) (hp : PrgAt w vc vp va p) {a b c : Int} (h : verE p = (a, b, c)) (hc : c ≠ 0) :
    Calls Try.prog 44 #[.agg #[vc, vp, va], .int .i64 t] w fun e w' => e = .returned (.tuple #[.agg #[.int .i64 0, .bool false, .string ⟨#[]⟩, .slice none 0 0, .int .i64 0], .int .i64 0, .int .i64 c]) ∧ Below w.heap.size w w' := by
  have HP := Lib.hid hp
  have HV := Lib.hid h
  have hne : (c != 0) = true := by rw [bne_iff_ne]; exact hc
  have E := RvAt.new w vc vp va
  clear hp h hc
  go_enter Try.func44, Try.ntmps44
  go_wp2_with fail
  refine (verifyOf_any p vc vp va _ (HP.out.mono E.hb) HV.out).mono ?_; rintro e w1 ⟨rfl, hb1⟩
  have E1 := E.below hb1
  obtain ⟨q0, q1, q2, r0, r1, r2, r3, r4, f1, hz, hbw⟩ := E1
  clear E hb1
  go_wp2
  exact bodyPost_ret (v := .tuple #[.agg #[.int .i64 0, .bool false, .string ⟨#[]⟩, .slice none 0 0, .int .i64 0], .int .i64 0, .int .i64 c]) (by simp [results, Try.results44, go_sem, hz, r0, r1, r2, r3, r4]) rfl ⟨rfl, five_below hbw (by omega) _ _ _ _ _⟩
end Go.Proofs.Ytpnmaopompfalaa
