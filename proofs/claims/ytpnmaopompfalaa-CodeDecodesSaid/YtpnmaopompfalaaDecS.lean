/-
  Decode and ProgramOf at any slice of bytes; the law of code.Decode.
-/
import Derived.Test.YtpnmaopompfalaaDecN
import Derived.Test.YtpnmaopompfalaaDecR
import Derived.Test.YtpnmaopompfalaaOwnB
import Derived.Test.YtpnmaopompfalaaSized
namespace Go.Proofs.Ytpnmaopompfalaa
set_option linter.unusedVariables false
set_option linter.unusedSimpArgs false
open Go.ChangeShapes Go.WideShapes Go.ChangeAt Go.RowKit

def RByt (cs : List Value) (x : Int) : Prop := cs = [.int .u8 x] ∧ 0 ≤ x ∧ x < 256
theorem RByt_one : ∀ cs y, RByt cs y → ∀ u ∈ cs, u.oneCell' = true := by
  rintro cs y ⟨rfl, _⟩ u hu
  simp at hu
  subst hu
  rfl
theorem byts_of {w : World} {v : Value} {xs : List Int} (h : SlAt w 1 RByt v xs) : Byt xs := fun c hc => by
  obtain ⟨cs, _, h⟩ := h.all c hc
  exact h
/-- a slice of bytes that is not empty, laid open. -/
theorem byts_open {w : World} {v : Value} {xs : List Int} (h : SlAt w 1 RByt v xs) (h0 : 0 < xs.length) : ∃ g off cap, v = .slice (some ⟨g, off, none⟩) xs.length cap ∧ (xs.length ≤ cap ∧ cap ≤ maxLen) ∧ g < w.heap.size ∧ ∀ i (hi : i < xs.length), w.cell? ⟨g, off + i, none⟩ = some (.int .u8 xs[i]) := by
  rcases h with ⟨a, cap, rfl, rfl⟩ | ⟨g, off, cap, rfl, _, h1, h2, h3, h4⟩
  · simp at h0
  · refine ⟨g, off, cap, rfl, ⟨h1, h2⟩, h3, fun i hi => ?_⟩
    obtain ⟨cs, _, ⟨rfl, _⟩, hc⟩ := h4 i hi
    have := hc 0 (by omega)
    rw [Nat.mul_one, Nat.add_zero] at this
    exact this
theorem decode_any (v : Value) (b : List Int) (w : World) (hv : SlAt w 1 RByt v b) {p : Prg} {e : Int} (hd : decD b = (p, e)) :
    Calls Try.prog 50 #[v] w fun r w' => ∃ vc vp va, r = .returned (.tuple #[.agg #[vc, vp, va], .int .i64 e]) ∧ PrgAt w' vc vp va p ∧ Below w.heap.size w w' := by
  obtain ⟨ad, cap, hve, _⟩ := hv.shape
  by_cases h1 : 200000 < b.length
  · unfold decD at hd
    rw [if_pos h1] at hd
    cases hd
    subst hve
    refine (decode_long ad b.length cap w (by omega)).mono ?_
    rintro r w' ⟨rfl, hb⟩
    exact ⟨_, _, _, rfl, noP_at _, hb⟩
  · by_cases h2 : b.length < 3
    · unfold decD at hd
      rw [if_neg h1, if_pos h2] at hd
      cases hd
      subst hve
      refine (decode_short ad b.length cap w (by omega)).mono ?_
      rintro r w' ⟨rfl, hb⟩
      exact ⟨_, _, _, rfl, noP_at _, hb⟩
    · obtain ⟨g, off, cap', rfl, hcap, hg, hcell⟩ := byts_open hv (by omega)
      exact decode_main b g off cap' w hcell hcap hg (byts_of hv) (by omega) (by omega) hd
theorem programOf_any (v : Value) (b : List Int) (w : World) (hv : SlAt w 1 RByt v b) {p : Prg} {e : Int} (hd : decD b = (p, e)) :
    Calls Try.prog 51 #[v] w fun r w' => ∃ vc vp va, r = .returned (.tuple #[.agg #[vc, vp, va], .int .i64 e]) ∧ PrgAt w' vc vp va p ∧ Below w.heap.size w w' := by
  obtain ⟨ad, cap, hve, _⟩ := hv.shape
  by_cases h1 : 200000 < b.length
  · unfold decD at hd
    rw [if_pos h1] at hd
    cases hd
    subst hve
    refine (programOf_long ad b.length cap w (by omega)).mono ?_
    rintro r w' ⟨rfl, hb⟩
    exact ⟨_, _, _, rfl, noP_at _, hb⟩
  · by_cases h2 : b.length < 3
    · unfold decD at hd
      rw [if_neg h1, if_pos h2] at hd
      cases hd
      subst hve
      refine (programOf_short ad b.length cap w (by omega)).mono ?_
      rintro r w' ⟨rfl, hb⟩
      exact ⟨_, _, _, rfl, noP_at _, hb⟩
    · obtain ⟨g, off, cap', rfl, hcap, hg, hcell⟩ := byts_open hv (by omega)
      by_cases hf : b.take 3 = [115, 100, 49]
      · exact programOf_main b g off cap' w hcell hcap hg (byts_of hv) (by omega) (by omega) hf hd
      · unfold decD at hd
        rw [if_neg h1, if_neg h2, if_neg hf, body_err0 _ (by decide)] at hd
        cases hd
        refine (programOf_form b g off cap' w hcell hcap hg (byts_of hv) (by omega) (by omega) hf).mono ?_
        rintro r w' ⟨rfl, hb⟩
        exact ⟨_, _, _, rfl, noP_at _, hb⟩
set_option maxRecDepth 100000
section
variable {H : Type} {enc : TypeId × Value → H} {w : World} {r : Reach} {b0 b : Nat} {sp : Nat → Bool} {held : Bool} {fuel : Nat}
theorem cByte : Try.prog.cellsOf 5 = 1 := by kernel_rfl
theorem byte_wf {n : Int} (h : (Lit.int .u8 n).wf = true) : 0 ≤ n ∧ n < 256 := by
  simp [Lit.wf, IntKind.min, IntKind.max, IntKind.signed, IntKind.bits] at h
  omega
theorem rdByts {cs : List Value} {y : DataW H × List MemPlace} (h : DataW.trod enc Try.prog w b sp held fuel 66 cs = some y) : ∃ v xs, cs = [v] ∧ SlAt w 1 RByt v xs :=
  slAt_of_trod Try.underlying66 cByte (by omega) (fun m cs' z hz => by
    obtain ⟨n, e, _, hw⟩ := DataW.trod_int Try.underlying5 hz
    exact ⟨n, e, byte_wf hw⟩) h
theorem openBytes {v : Value} {d : DataW H} {p : List MemPlace} (hv : Value.okWide Try.prog w r b0 66 v) (h : DataW.Trod enc Try.prog w b sp held 66 v d p) : ∃ xs, SlAt w 1 RByt v xs := by
  obtain ⟨a, len, cap, rfl⟩ := okWide_slice Try.underlying66 hv
  obtain ⟨fuel, hf⟩ := h
  obtain ⟨v', xs, e, h1⟩ := rdByts hf
  have e' : [Value.slice a len cap] = [v'] := e
  simp only [List.cons.injEq, and_true] at e'
  subst e'
  exact ⟨xs, h1⟩
theorem bytesByte : Try.prog.bytesOf 5 = 1 := by kernel_rfl
theorem byts_sized {v : Value} {xs : List Int} {W : World} {d : DataW H} {p : List MemPlace} (h : DataW.Trod enc Try.prog w b sp held 66 v d p) (hs : SlAt W 1 RByt v xs) (hw : ∀ n ∈ d.weights Try.prog 66, n ≤ reachBytes) : xs.length * 1 ≤ 140737488355328 ∧ ∀ n cap, v = .slice none n cap → cap = 0 := by
  obtain ⟨fuel, hf⟩ := h
  obtain ⟨a, cap, rfl, _⟩ := hs.shape
  have hf' : DataW.trod enc Try.prog w b sp held fuel 66 [.slice a xs.length cap] = some (d, p) := hf
  have hs2 := slice_sized (R := reachBytes) Try.underlying66 hf' hw
  rw [bytesByte] at hs2
  unfold reachBytes at hs2
  refine ⟨by omega, fun n c e => ?_⟩
  simp only [Value.slice.injEq] at e
  obtain ⟨rfl, _, rfl⟩ := e
  rcases Deep.open_slice Try.underlying66 hf' with ⟨hc, _⟩ | ⟨a', len', cap', m, n', D, Pl, hc, _⟩
  · simp only [List.cons.injEq, Value.slice.injEq, and_true] at hc
    exact hc.2.2
  · simp at hc
end
theorem info_byt : (Try.prog.info? 5).map (fun i => (i.zero, i.size, i.bytes)) = some (some (.int .u8 0), 1, 1) := by kernel_rfl
set_option maxHeartbeats 2000000 in
theorem walkCodeDecodes (v : Value) (b : List Int) (w : World) (hv : SlAt w 1 RByt v b) (hz : b.length * 1 ≤ 140737488355328 ∧ ∀ n cap, v = .slice none n cap → cap = 0) :
    Calls Try.prog 16 #[v] w fun e w' => e = .returned (.bool true) ∧ Below w.heap.size w w' := by
  obtain ⟨ib, hib, hbz0, hbz1, hbz2⟩ := info_parts info_byt
  obtain ⟨av, cv, hve, hl⟩ := hv.shape
  obtain ⟨p, e, hd⟩ : ∃ p e, decD b = (p, e) := ⟨_, _, rfl⟩
  have HV := Lib.hid hv
  have HN := Lib.hid hz.2
  have HR := Lib.hid hz.1
  have HL := Lib.hid hl
  have HD := Lib.hid hd
  subst hve
  clear hv hz hl hd
  go_enter Try.func16, Try.ntmps16
  go_wp2_with (at_builtin; refine wpList_append_copy rfl _ _ 66 rfl 5 ib (.int .u8 0) 1 1 Try.underlying66 hib hbz0 hbz1 hbz2 rfl (by decide) rfl _ b RByt rfl HV.out HN.out RByt_one HL.out HR.out ?_; intro v' w1 hv' hb1)
  refine (decode_any v' b _ hv' HD.out).mono ?_; rintro r w2 ⟨vc, vp, va, rfl, hp2, hb2⟩
  obtain ⟨c1, c2, rfl, _⟩ := hp2.1.shape
  obtain ⟨c3, c4, rfl, _⟩ := hp2.2.1.shape
  obtain ⟨c5, c6, rfl, _⟩ := hp2.2.2.shape
  have hw2 := hb1.trans (hb2.mono hb1.size)
  have ba := (Below.refl w2.heap.size w2).alloc (Nat.le_refl _) (.cells #[.slice c1 p.code.length c2, .slice c3 p.pool.length c4, .slice c5 p.answers.length c6] 58)
  have hw3 := hw2.trans (ba.mono hw2.size)
  have hs3 := size_alloc w2 (.cells #[.slice c1 p.code.length c2, .slice c3 p.pool.length c4, .slice c5 p.answers.length c6] 58)
  have e0 : ∀ j, (w2.alloc (.cells #[.slice c1 p.code.length c2, .slice c3 p.pool.length c4, .slice c5 p.answers.length c6] 58)).cell? ⟨w2.heap.size, j, none⟩ = #[.slice c1 p.code.length c2, .slice c3 p.pool.length c4, .slice c5 p.answers.length c6][j]? := fun j => World.cell?_alloc_at (w := w2) _ _ w2.heap.size j rfl
  have HP2 := Lib.hid (hp2.mono ba)
  have E0 := Lib.hid e0
  have HS3 := Lib.hid hs3
  clear hb1 hb2 hv' hp2 e0 hs3 ba
  go_wp2_with fail
  refine (programOf_any _ b _ (HV.out.mono hw3 fun _ _ h => h) HD.out).mono ?_; rintro r w4 ⟨uc, up, ua, rfl, hp4, hb4⟩
  obtain ⟨d1, d2, rfl, _⟩ := hp4.1.shape
  obtain ⟨d3, d4, rfl, _⟩ := hp4.2.1.shape
  obtain ⟨d5, d6, rfl, _⟩ := hp4.2.2.shape
  have hz : w2.heap.size < (w2.alloc (.cells #[.slice c1 p.code.length c2, .slice c3 p.pool.length c4, .slice c5 p.answers.length c6] 58)).heap.size := by rw [HS3.out]; omega
  have q0 := (hb4.cell (p := ⟨w2.heap.size, 0, none⟩) hz).trans (E0.out 0)
  have q1 := (hb4.cell (p := ⟨w2.heap.size, 1, none⟩) hz).trans (E0.out 1)
  have q2 := (hb4.cell (p := ⟨w2.heap.size, 2, none⟩) hz).trans (E0.out 2)
  have z4 := Nat.lt_of_lt_of_le hz hb4.size
  have hw4 := hw3.trans (hb4.mono hw3.size)
  have bb := (Below.refl w4.heap.size w4).alloc (Nat.le_refl _) (.cells #[.slice d1 p.code.length d2, .slice d3 p.pool.length d4, .slice d5 p.answers.length d6] 58)
  have HPa := Lib.hid ((HP2.out.mono hb4).mono bb)
  have HPb := Lib.hid (hp4.mono bb)
  have hw5 := Lib.hid (hw4.trans (bb.mono hw4.size))
  clear hb4 hp4 hz bb hw3 hw4 hw2
  go_wp2_with fail
  refine (sameProgram_same p _ _ _ _ _ _ _ HPa.out HPb.out).mono ?_; rintro r w6 ⟨rfl, hb6⟩
  go_wp2
  go_ret
  exact ⟨ret_bool (by simp), hw5.out.trans (hb6.mono hw5.out.size)⟩
end Go.Proofs.Ytpnmaopompfalaa
