/-
  Decode and ProgramOf at any slice of bytes.
-/
import Derived.Test.YtpnmaopompfalaaDecN
import Derived.Test.YtpnmaopompfalaaReadModel
namespace Go.Proofs.Ytpnmaopompfalaa
set_option linter.unusedVariables false
set_option linter.unusedSimpArgs false
open Go.ChangeShapes Go.WideShapes Go.ChangeAt Go.RowKit

def RByt (cs : List Value) (x : Int) : Prop := cs = [.int .u8 x] ∧ 0 ≤ x ∧ x < 256
theorem RByt_one : ∀ cs y, RByt cs y → ∀ u ∈ cs, u.oneCell' = true := by
  rintro cs y ⟨rfl, _⟩ u hu
  simp at hu
  subst hu
  rfl
theorem byts_of {w : World} {v : Value} {xs : List Int} (h : SlAt w 1 RByt v xs) : Byt xs := fun c hc => by
  obtain ⟨cs, _, h⟩ := h.all c hc
  exact h
/-- a slice of bytes that is not empty, laid open. -/
theorem byts_open {w : World} {v : Value} {xs : List Int} (h : SlAt w 1 RByt v xs) (h0 : 0 < xs.length) : ∃ g off cap, v = .slice (some ⟨g, off, none⟩) xs.length cap ∧ (xs.length ≤ cap ∧ cap ≤ maxLen) ∧ g < w.heap.size ∧ ∀ i (hi : i < xs.length), w.cell? ⟨g, off + i, none⟩ = some (.int .u8 xs[i]) := by
  rcases h with ⟨a, cap, rfl, rfl⟩ | ⟨g, off, cap, rfl, _, h1, h2, h3, h4⟩
  · simp at h0
  · refine ⟨g, off, cap, rfl, ⟨h1, h2⟩, h3, fun i hi => ?_⟩
    obtain ⟨cs, _, ⟨rfl, _⟩, hc⟩ := h4 i hi
    have := hc 0 (by omega)
    rw [Nat.mul_one, Nat.add_zero] at this
    exact this
theorem decode_any (v : Value) (b : List Int) (w : World) (hv : SlAt w 1 RByt v b) {p : Prg} {e : Int} (hd : decD b = (p, e)) :
    Calls Try.prog 50 #[v] w fun r w' => ∃ vc vp va, r = .returned (.tuple #[.agg #[vc, vp, va], .int .i64 e]) ∧ PrgAt w' vc vp va p ∧ Below w.heap.size w w' := by
  obtain ⟨ad, cap, hve, _⟩ := hv.shape
  by_cases h1 : 200000 < b.length
  · unfold decD at hd
    rw [if_pos h1] at hd
    cases hd
    subst hve
    refine (decode_long ad b.length cap w (by omega)).mono ?_
    rintro r w' ⟨rfl, hb⟩
    exact ⟨_, _, _, rfl, noP_at _, hb⟩
  · by_cases h2 : b.length < 3
    · unfold decD at hd
      rw [if_neg h1, if_pos h2] at hd
      cases hd
      subst hve
      refine (decode_short ad b.length cap w (by omega)).mono ?_
      rintro r w' ⟨rfl, hb⟩
      exact ⟨_, _, _, rfl, noP_at _, hb⟩
    · obtain ⟨g, off, cap', rfl, hcap, hg, hcell⟩ := byts_open hv (by omega)
      exact decode_main b g off cap' w hcell hcap hg (byts_of hv) (by omega) (by omega) hd
theorem programOf_any (v : Value) (b : List Int) (w : World) (hv : SlAt w 1 RByt v b) {p : Prg} {e : Int} (hd : decD b = (p, e)) :
    Calls Try.prog 51 #[v] w fun r w' => ∃ vc vp va, r = .returned (.tuple #[.agg #[vc, vp, va], .int .i64 e]) ∧ PrgAt w' vc vp va p ∧ Below w.heap.size w w' := by
  obtain ⟨ad, cap, hve, _⟩ := hv.shape
  by_cases h1 : 200000 < b.length
  · unfold decD at hd
    rw [if_pos h1] at hd
    cases hd
    subst hve
    refine (programOf_long ad b.length cap w (by omega)).mono ?_
    rintro r w' ⟨rfl, hb⟩
    exact ⟨_, _, _, rfl, noP_at _, hb⟩
  · by_cases h2 : b.length < 3
    · unfold decD at hd
      rw [if_neg h1, if_pos h2] at hd
      cases hd
      subst hve
      refine (programOf_short ad b.length cap w (by omega)).mono ?_
      rintro r w' ⟨rfl, hb⟩
      exact ⟨_, _, _, rfl, noP_at _, hb⟩
    · obtain ⟨g, off, cap', rfl, hcap, hg, hcell⟩ := byts_open hv (by omega)
      by_cases hf : b.take 3 = [115, 100, 49]
      · exact programOf_main b g off cap' w hcell hcap hg (byts_of hv) (by omega) (by omega) hf hd
      · unfold decD at hd
        rw [if_neg h1, if_neg h2, if_neg hf, body_err0 _ (by decide)] at hd
        cases hd
        refine (programOf_form b g off cap' w hcell hcap hg (byts_of hv) (by omega) (by omega) hf).mono ?_
        rintro r w' ⟨rfl, hb⟩
        exact ⟨_, _, _, rfl, noP_at _, hb⟩
set_option maxRecDepth 100000
section
variable {H : Type} {enc : TypeId × Value → H} {w : World} {r : Reach} {b0 b : Nat} {sp : Nat → Bool} {held : Bool} {fuel : Nat}
theorem cByte : Try.prog.cellsOf 5 = 1 := by kernel_rfl
theorem byte_wf {n : Int} (h : (Lit.int .u8 n).wf = true) : 0 ≤ n ∧ n < 256 := by
  simp [Lit.wf, IntKind.min, IntKind.max, IntKind.signed, IntKind.bits] at h
  omega
theorem rdByts {cs : List Value} {y : DataW H × List MemPlace} (h : DataW.trod enc Try.prog w b sp held fuel 66 cs = some y) : ∃ v xs, cs = [v] ∧ SlAt w 1 RByt v xs :=
  slAt_of_trod Try.underlying66 cByte (by omega) (fun m cs' z hz => by
    obtain ⟨n, e, _, hw⟩ := DataW.trod_int Try.underlying5 hz
    exact ⟨n, e, byte_wf hw⟩) h
theorem openBytes {v : Value} {d : DataW H} {p : List MemPlace} (hv : Value.okWide Try.prog w r b0 66 v) (h : DataW.Trod enc Try.prog w b sp held 66 v d p) : ∃ xs, SlAt w 1 RByt v xs := by
  obtain ⟨a, len, cap, rfl⟩ := okWide_slice Try.underlying66 hv
  obtain ⟨fuel, hf⟩ := h
  obtain ⟨v', xs, e, h1⟩ := rdByts hf
  have e' : [Value.slice a len cap] = [v'] := e
  simp only [List.cons.injEq, and_true] at e'
  subst e'
  exact ⟨xs, h1⟩
end
end Go.Proofs.Ytpnmaopompfalaa
