/-
  ForestsGood: an answer that is among a slice's answers is found there; the law's walk.
-/
import Derived.Test.YtpnmaopompfalaaKfB
import Derived.Test.YtpnmaopompfalaaTreeL
import Derived.Test.YtpnmaopompfalaaPick
import Derived.Test.YtpnmaopompfalaaTreeE
namespace Go.Proofs.Ytpnmaopompfalaa
set_option linter.unusedVariables false
set_option linter.unusedSimpArgs false
open Go.ChangeShapes Go.WideShapes Go.ChangeAt Go.RowKit

set_option maxRecDepth 100000 in
set_option maxHeartbeats 4000000 in
theorem idxAns_any (A : Ans) (T : Nat) (v : Value) (xs : List Ans) (w : World) (hv : SlAt w 5 (RAns w) v xs) (hT : AnB w T A) :
    Calls Try.prog 75 #[v, .func (.func 39) #[] #[.pointer (some ⟨T, 0, none⟩)]] w fun e w' => ∃ z : Int, e = .returned (.int .i64 z) ∧ (A ∈ xs → 0 ≤ z) ∧ Below w.heap.size w w' := by
  have eg := enters_of Try.func39 (by kernel_rfl) rfl
  obtain ⟨aa, ca, rfl, la⟩ := hv.shape
  have la' := maxLen_eq _ la
  have HV := Lib.hid hv
  have HT := Lib.hid hT
  clear hv hT la
  go_enter Try.func75, Try.ntmps75
  go_wp2
  go_loopw [8] (fun t wr => ∃ k : Nat, k ≤ xs.length ∧ t = .int .i64 (k : Int) ∧ (∀ i (hi : i < xs.length), i < k → xs[i] ≠ A) ∧ Below w.heap.size w wr) (fun t _ => (xs.length - intOf t).toNat)
  case atStart => exact ⟨0, by omega, rfl, fun i _ h => by omega, Below.refl _ _⟩
  case round =>
    obtain ⟨k, hk, rfl, hn, hb⟩ := hrel
    have HN := Lib.hid hn
    have HB := Lib.hid hb
    clear hn hb
    by_cases hlt : k < xs.length
    · have hkn : (k : Int) < (xs.length : Int) := by omega
      have hX := HV.out.mono HB.out (RAns.mono HB.out)
      obtain ⟨b1, o1, vo, e1, z1, ⟨c0, c1, c2, c3, c4⟩, ho, hnm, i1, i2⟩ := elemAns hX k hlt
      subst e1
      have HC := Lib.hid (fgood1_any A xs[k] vo T wr (HT.out.mono HB.out) ho)
      have HK : Hid (xs[k] ≠ A → ∀ i (hi : i < xs.length), i < k + 1 → xs[i] ≠ A) := fun he i hi h => by
        by_cases e : i = k
        · subst e; exact he
        · exact HN.out i hi (by omega)
      obtain ⟨aoo, cao, rfl, -⟩ := ho.shape
      clear hX ho hnm i1 i2
      generalize xs[k] = x at *
      go_wp2_with fail
      refine HC.out.mono ?_; rintro e w1 ⟨r, rfl, hr, hb1⟩
      cases r
      · have HK2 := Lib.hid (HK.out fun e => by have := hr e.symm; cases this)
        have HB2 := Lib.hid (HB.out.trans (hb1.mono HB.out.size))
        clear hr hb1
        go_wp2
        go_roundw
        case rel => exact ⟨k + 1, by omega, by go_num, HK2.out, HB2.out⟩
        case measure => simp [intOf]; omega
      · have HB2 := Lib.hid (HB.out.trans (hb1.mono HB.out.size))
        clear hr hb1
        go_wp2
        go_ret
        exact ⟨(k : Int), rfl, fun _ => by omega, HB2.out⟩
    · go_wp2
      go_ret
      exact ⟨-1, rfl, fun h => by
        obtain ⟨i, hi, e⟩ := List.mem_iff_getElem.1 h
        exact absurd e (HN.out i hi (by omega)), HB.out⟩
set_option maxRecDepth 100000 in
theorem contAns_any (A : Ans) (T : Nat) (v : Value) (xs : List Ans) (w : World) (hv : SlAt w 5 (RAns w) v xs) (hT : AnB w T A) (hA : A ∈ xs) :
    Calls Try.prog 38 #[v, .func (.func 39) #[] #[.pointer (some ⟨T, 0, none⟩)]] w fun e w' => e = .returned (.bool true) ∧ Below w.heap.size w w' := by
  have HI := Lib.hid (idxAns_any A T v xs w hv hT)
  clear hv hT
  have HA := Lib.hid hA
  clear hA
  go_enter Try.func38, Try.ntmps38
  go_wp2_with fail
  refine HI.out.mono ?_; rintro e w1 ⟨z, rfl, hz, hb⟩
  have hz0 := hz HA.out
  go_wp2
  go_ret
  exact ⟨ret_bool (by simp [hz0]), hb⟩
set_option maxRecDepth 100000 in
set_option maxHeartbeats 4000000 in
theorem walkForestsGood (v : Value) (xs : List Rw) (n : Int) (W : World) (hv : SlAt W 4 RRw v xs) (hn : (Lit.int .i64 n).wf = true) :
    Calls Try.prog 9 #[v, .int .i64 n] W fun e w' => e = .returned (.bool true) ∧ Below W.heap.size W w' := by
  have HF := Lib.hid (forest_any v xs W hv)
  have HP := Lib.hid (fun w => picked_v n 80 w hn (by omega) (by omega))
  obtain ⟨pb0, pb1⟩ := pkv_bd n 80 (by omega)
  obtain ⟨an, cn, rfl, ln⟩ := hv.shape
  clear hv hn ln
  generalize pkv n 80 = q at *
  go_enter Try.func9, Try.ntmps9
  go_wp2_with fail
  refine HF.out.mono ?_; rintro e w1 ⟨vn, va, f, rfl, hf, h0, hb1⟩
  obtain ⟨A, hA, he1, -, hm⟩ := eval_ex f (q - 30)
  rw [h0] at he1
  have hAm := hm h0
  clear hm HF
  obtain ⟨nn, cnn, rfl, -⟩ := hf.1.shape
  obtain ⟨na, cna, rfl, -⟩ := hf.2.shape
  go_wp2_with fail
  refine (HP.out _).mono ?_; rintro e w2 ⟨rfl, rfl⟩
  go_wp2_with fail
  obtain ⟨o1, ho1⟩ : ∃ o1, o1 = Obj.cells #[Value.slice nn f.nodes.length cnn, Value.slice na f.answers.length cna] 34 := ⟨_, rfl⟩
  rw [← ho1]
  have bA : Below w1.heap.size w1 (w1.alloc o1) := (Below.refl _ _).alloc (Nat.le_refl _) _
  have hsA := size_alloc w1 o1
  refine (he1 _ _ _ (hf.mono bA)).mono ?_; rintro e w2 ⟨v', rfl, hv', hb2⟩
  obtain ⟨n', c', rfl, -⟩ := hv'.shape
  have f0 : w2.cell? ⟨w1.heap.size, 0, none⟩ = some (.slice nn f.nodes.length cnn) := by
    rw [hb2.cell (p := ⟨w1.heap.size, 0, none⟩) (by rw [hsA]; exact Nat.lt_succ_self _), ho1, World.cell?_alloc_at _ _ _ _ rfl]; rfl
  have f1 : w2.cell? ⟨w1.heap.size, 1, none⟩ = some (.slice na f.answers.length cna) := by
    rw [hb2.cell (p := ⟨w1.heap.size, 1, none⟩) (by rw [hsA]; exact Nat.lt_succ_self _), ho1, World.cell?_alloc_at _ _ _ _ rfl]; rfl
  have hs2 : w1.heap.size < w2.heap.size := by have := hb2.size; rw [hsA] at this; omega
  have hb12 : Below w1.heap.size w1 w2 := bA.trans (hb2.mono (by rw [hsA]; exact Nat.le_succ _))
  have HB12 := Lib.hid (hb1.trans (hb12.mono hb1.size))
  have HF2 := Lib.hid (hf.mono hb12)
  have HV2 := Lib.hid hv'
  have HAm := Lib.hid hAm
  clear hv' hAm hb12 hb2 hb1 bA hsA hf he1
  go_wp2_with fail
  obtain ⟨o2, ho2⟩ : ∃ o2, o2 = Obj.cells #[Value.int .i64 A.ck.off, .bool A.ck.sav, .string A.ck.nm, .slice n' A.offs.length c', .int .i64 A.jump] 27 := ⟨_, rfl⟩
  rw [← ho2]
  have bA : Below w2.heap.size w2 (w2.alloc o2) := (Below.refl _ _).alloc (Nat.le_refl _) _
  have hsA := size_alloc w2 o2
  have hc := check_any f _ _ (w2.alloc o2) (HF2.out.mono bA)
  rw [h0] at hc
  refine hc.mono ?_; rintro e w3 ⟨rfl, hb3⟩
  clear hc
  have hT : AnB w3 w2.heap.size A := by
    refine AnB.mono ⟨_, HV2.out.mono bA fun _ _ h => h, by rw [hsA]; exact Nat.lt_succ_self _, fun j hj => ?_⟩ hb3
    rw [ho2, World.cell?_alloc_at _ _ _ _ rfl]
    match j, hj with
    | 0, _ => rfl
    | 1, _ => rfl
    | 2, _ => rfl
    | 3, _ => rfl
    | 4, _ => rfl
  have hb23 : Below w2.heap.size w2 w3 := bA.trans (hb3.mono (by rw [hsA]; exact Nat.le_succ _))
  have g1 : w3.cell? ⟨w1.heap.size, 1, none⟩ = some (.slice na f.answers.length cna) := (hb23.cell (p := ⟨w1.heap.size, 1, none⟩) hs2).trans f1
  have HC := Lib.hid (contAns_any A w2.heap.size _ _ w3 (HF2.out.2.mono hb23 (RAns.mono hb23)) hT HAm.out)
  have HB3 := Lib.hid (HB12.out.trans (hb23.mono HB12.out.size))
  clear hT hb23 hb3 bA hsA f0 f1 hs2
  go_wp2_with fail
  refine HC.out.mono ?_; rintro e w4 ⟨rfl, hb4⟩
  go_wp2
  go_ret
  exact ⟨rfl, HB3.out.trans (hb4.mono HB3.out.size)⟩
end Go.Proofs.Ytpnmaopompfalaa
