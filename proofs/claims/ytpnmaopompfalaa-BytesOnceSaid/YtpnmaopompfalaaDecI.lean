/-
  code.Decode: too long, too short; what its state is made of.
-/
import Derived.Test.YtpnmaopompfalaaDecH
import Derived.Test.YtpnmaopompfalaaDecQ
namespace Go.Proofs.Ytpnmaopompfalaa
set_option linter.unusedVariables false
set_option linter.unusedSimpArgs false
open Go.ChangeShapes Go.WideShapes Go.ChangeAt Go.RowKit

/-- a reader with an error. -/
def RdX (w : World) (P : Nat) (e : Int) : Prop := ∃ ad n cap, w.cell? ⟨P, 0, none⟩ = some (.slice ad n cap) ∧ w.cell? ⟨P, 1, none⟩ = some (.int .i64 e) ∧ ∀ j, w.frozen? ⟨P, j, none⟩ = false
theorem dwrong (P : Nat) (e x : Int) (w : World) (h : RdX w P e) (he : e ≠ 0) :
    Calls Try.prog 95 #[.pointer (some ⟨P, 0, none⟩), .int .i64 x] w fun r w' => r = .returned (.tuple #[]) ∧ w = w' := by
  obtain ⟨ad, n, cap, h1, h2, h3⟩ := h
  have hz := cell_lt h2
  have hb : (e == 0) = false := by rw [beq_eq_false_iff_ne]; exact he
  clear he
  go_enter Try.func95, Try.ntmps95
  go_wp2
  go_end0
  exact ⟨rfl, rfl⟩
theorem dtake (P : Nat) (e n : Int) (w : World) (h : RdX w P e) (he : e ≠ 0) :
    Calls Try.prog 94 #[.pointer (some ⟨P, 0, none⟩), .int .i64 n] w fun r w' => r = .returned (.slice none 0 0) ∧ w = w' := by
  have H := Lib.hid h
  have HE := Lib.hid he
  obtain ⟨ad, n0, cap, h1, h2, h3⟩ := h
  have hz := cell_lt h2
  have hb : (e != 0) = true := by rw [bne_iff_ne]; exact he
  clear he
  go_enter Try.func94, Try.ntmps94
  go_wp2_with fail
  refine (dwrong P e 5 w H.out HE.out).mono ?_; rintro r w1 ⟨rfl, rfl⟩
  go_wp2
  go_ret
  exact ⟨rfl, rfl⟩
theorem stake (P : Nat) (n : Int) (ad : Option Addr) (l cap : Nat) (w : World) (h1 : w.cell? ⟨P, 0, none⟩ = some (.slice ad l cap)) (h2 : w.cell? ⟨P, 1, none⟩ = some (.int .i64 0)) (h3 : ∀ j, w.frozen? ⟨P, j, none⟩ = false) (hn : (l : Int) < n) :
    Calls Try.prog 94 #[.pointer (some ⟨P, 0, none⟩), .int .i64 n] w fun r w' => r = .returned (.slice none 0 0) ∧ w' = w.setCell ⟨P, 1, none⟩ (.int .i64 5) := by
  have hz := cell_lt h2
  have K : Calls Try.prog 95 #[.pointer (some ⟨P, 0, none⟩), .int .i64 5] w fun r w' => r = .returned (.tuple #[]) ∧ w' = w.setCell ⟨P, 1, none⟩ (.int .i64 5) := by
    go_enter Try.func95, Try.ntmps95
    go_wp2
    go_end0
    exact ⟨rfl, rfl⟩
  have KK := Lib.hid K
  clear K
  go_enter Try.func94, Try.ntmps94
  go_wp2_with fail
  refine KK.out.mono ?_; rintro r w1 ⟨rfl, rfl⟩
  go_wp2
  go_ret
  exact ⟨rfl, rfl⟩
theorem dnum (P : Nat) (e : Int) (w : World) (h : RdX w P e) (he : e ≠ 0) :
    Calls Try.prog 97 #[.pointer (some ⟨P, 0, none⟩)] w fun r w' => r = .returned (.int .i64 0) ∧ w = w' := by
  have H := Lib.hid h
  have HE := Lib.hid he
  obtain ⟨ad, n, cap, h1, h2, h3⟩ := h
  have hz := cell_lt h2
  have hne : (e != 0) = true := by rw [bne_iff_ne]; exact he
  clear he
  go_enter Try.func97, Try.ntmps97
  go_wp2
  go_loopw [3, 4] (fun u i wr => u = .int .u64 0 ∧ i = .int .i64 0 ∧ wr = w) (fun _ _ _ => 0)
  case atStart => exact ⟨rfl, rfl, rfl⟩
  case round =>
    obtain ⟨rfl, rfl, rfl⟩ := hrel
    go_wp2_with fail
    refine (dtake P e 1 _ H.out HE.out).mono ?_; rintro r w1 ⟨rfl, rfl⟩
    go_wp2
    go_ret
    exact ⟨rfl, rfl⟩
theorem dcount (P : Nat) (e m : Int) (w : World) (h : RdX w P e) (he : e ≠ 0) (hm : 0 ≤ m) :
    Calls Try.prog 96 #[.pointer (some ⟨P, 0, none⟩), .int .i64 m] w fun r w' => r = .returned (.int .i64 0) ∧ w = w' := by
  have H := Lib.hid h
  have HE := Lib.hid he
  clear h he
  go_enter Try.func96, Try.ntmps96
  go_wp2_with fail
  refine (dnum P e _ H.out HE.out).mono ?_; rintro r w1 ⟨rfl, rfl⟩
  go_wp2
  go_ret
  exact ⟨rfl, rfl⟩
theorem noP_at (w : World) : PrgAt w (.slice none 0 0) (.slice none 0 0) (.slice none 0 0) noP := ⟨.inl ⟨none, 0, rfl, rfl⟩, .inl ⟨none, 0, rfl, rfl⟩, .inl ⟨none, 0, rfl, rfl⟩⟩
theorem RdX.keep {w w' : World} {P : Nat} {e : Int} (h : RdX w P e) (h1 : w'.heap[P]? = w.heap[P]?) : RdX w' P e := by
  obtain ⟨ad, n, cap, a1, a2, a3⟩ := h
  exact ⟨ad, n, cap, (cell_blk h1 _).trans a1, (cell_blk h1 _).trans a2, fun j => (froz_blk h1 _).trans (a3 j)⟩
set_option maxHeartbeats 1000000 in
theorem decode_long (ad : Option Addr) (n cap : Nat) (w : World) (hn : (200000 : Int) < (n : Int)) :
    Calls Try.prog 50 #[.slice ad n cap] w fun r w' => r = .returned (.tuple #[.agg #[.slice none 0 0, .slice none 0 0, .slice none 0 0], .int .i64 1]) ∧ Below w.heap.size w w' := by
  have bw : Below w.heap.size w (w.alloc (.cells #[.slice none 0 0, .slice none 0 0, .slice none 0 0] 58)) := (Below.refl _ _).alloc (Nat.le_refl _) _
  go_enter Try.func50, Try.ntmps50
  have e0 : ∀ j, (w.alloc (.cells #[.slice none 0 0, .slice none 0 0, .slice none 0 0] 58)).cell? ⟨w.heap.size, j, none⟩ = _ := fun j => World.cell?_alloc_at (w := w) _ _ w.heap.size j rfl
  have hz : w.heap.size < (w.alloc (.cells #[.slice none 0 0, .slice none 0 0, .slice none 0 0] 58)).heap.size := by rw [size_alloc]; omega
  go_wp2
  refine bodyPost_ret (v := .tuple #[.agg #[.slice none 0 0, .slice none 0 0, .slice none 0 0], .int .i64 1]) (by simp [results, Try.results50, go_sem]) rfl ⟨rfl, ?_⟩
  first
    | exact ((bw.setCell (Nat.le_refl _) _).setCell (Nat.le_refl _) _).setCell (Nat.le_refl _) _
    | exact bw
set_option maxRecDepth 100000 in
set_option maxHeartbeats 4000000 in
theorem decode_short (ad : Option Addr) (n cap : Nat) (w : World) (hn : (n : Int) < 3) :
    Calls Try.prog 50 #[.slice ad n cap] w fun r w' => r = .returned (.tuple #[.agg #[.slice none 0 0, .slice none 0 0, .slice none 0 0], .int .i64 5]) ∧ Below w.heap.size w w' := by
  obtain ⟨hs, d0, d1, g0, g1⟩ := two_new w #[.slice none 0 0, .slice none 0 0, .slice none 0 0] #[.slice ad n cap, .int .i64 0] 58 124
  have bw : Below w.heap.size w ((w.alloc (.cells #[.slice none 0 0, .slice none 0 0, .slice none 0 0] 58)).alloc (.cells #[.slice ad n cap, .int .i64 0] 124)) := ((Below.refl _ _).alloc (Nat.le_refl _) _).alloc (size_le_push_ w _) _
  obtain ⟨W, hW⟩ : ∃ W, W = (w.alloc (.cells #[.slice none 0 0, .slice none 0 0, .slice none 0 0] 58)).alloc (.cells #[.slice ad n cap, .int .i64 0] 124) := ⟨_, rfl⟩
  rw [← hW] at hs d0 d1 g0 g1 bw
  have HW := Lib.hid hW
  have D0 := Lib.hid d0
  have D1 := Lib.hid d1
  have G0 := Lib.hid g0
  have G1 := Lib.hid g1
  have HS := Lib.hid hs
  clear hs d0 d1 g0 g1 hW
  have k0 := fun w : World => run_convert_bytes_nil (P := Try.prog) w 66 5 Try.underlying66 Try.underlying5 0 0 9 Try.underlying9
  go_enter Try.func50, Try.ntmps50
  go_wp2_with fail
  rw [← HW.out]
  refine (stake (w.heap.size + 1) 3 ad n cap W (D1.out 0) (D1.out 1) G1.out hn).mono ?_; rintro r w1 ⟨rfl, hw1⟩
  have hX : RdX w1 (w.heap.size + 1) 5 := by
    subst hw1
    exact ⟨ad, n, cap, by rw [World.cell?_setCell_other (h := by simp)]; exact D1.out 0, World.cell?_setCell_same (h := D1.out 1) .., fun j => by rw [World.frozen?_setCell]; exact G1.out j⟩
  have b0 : w1.heap[w.heap.size]? = W.heap[w.heap.size]? := by subst hw1; exact heap_sx (by omega)
  have r0 : w1.cell? ⟨w.heap.size, 0, none⟩ = some (.slice none 0 0) := (cell_blk b0 0).trans (D0.out 0)
  have r1 : w1.cell? ⟨w.heap.size, 1, none⟩ = some (.slice none 0 0) := (cell_blk b0 1).trans (D0.out 1)
  have r2 : w1.cell? ⟨w.heap.size, 2, none⟩ = some (.slice none 0 0) := (cell_blk b0 2).trans (D0.out 2)
  have rf : ∀ j, w1.frozen? ⟨w.heap.size, j, none⟩ = false := fun j => (froz_blk b0 j).trans (G0.out j)
  have hB1 : Below w.heap.size w w1 := by subst hw1; exact bw.setCell (by show w.heap.size ≤ w.heap.size + 1; omega) _
  have z1 : w.heap.size + 2 ≤ w1.heap.size := by subst hw1; rw [World.size_setCell, HS.out]; exact Nat.le_refl _
  clear hw1 b0
  have HX := Lib.hid hX
  have HB1 := Lib.hid hB1
  clear hX hB1 bw
  go_wp2_with fail
  refine (dwrong (w.heap.size + 1) 5 4 w1 HX.out (by decide)).mono ?_; rintro r w2 ⟨rfl, rfl⟩
  have k1 := heap_nw (w := w1) (b := w.heap.size) (.cells #[.slice none 0 0, .slice none 0 0, .slice none 0 0] 58) (by omega)
  have k2 := heap_nw (w := w1) (b := w.heap.size + 1) (.cells #[.slice none 0 0, .slice none 0 0, .slice none 0 0] 58) (by omega)
  have hB3 : Below w.heap.size w (w1.alloc (.cells #[.slice none 0 0, .slice none 0 0, .slice none 0 0] 58)) := HB1.out.alloc (by omega) _
  have z3 : w.heap.size + 2 ≤ (w1.alloc (.cells #[.slice none 0 0, .slice none 0 0, .slice none 0 0] 58)).heap.size := by rw [size_alloc]; omega
  obtain ⟨w3, hw3⟩ : ∃ w3, w3 = w1.alloc (.cells #[.slice none 0 0, .slice none 0 0, .slice none 0 0] 58) := ⟨_, rfl⟩
  rw [← hw3] at k1 k2 hB3 z3
  have q0 := (cell_blk k1 0).trans r0
  have q1 := (cell_blk k1 1).trans r1
  have q2 := (cell_blk k1 2).trans r2
  have qf : ∀ j, w3.frozen? ⟨w.heap.size, j, none⟩ = false := fun j => (froz_blk k1 j).trans (rf j)
  have HX3 := Lib.hid (HX.out.keep k2)
  have HB3 := Lib.hid hB3
  have HW3 := Lib.hid hw3
  clear hw3 hB3 r0 r1 r2 rf k1 k2 HX HB1 z1
  go_wp2_with fail
  rw [← HW3.out]
  refine (dcount (w.heap.size + 1) 5 8000 _ HX3.out (by decide) (by decide)).mono ?_; rintro r w2 ⟨rfl, rfl⟩
  go_wp2
  go_loopw [27] (fun i wr => i = .int .i64 0 ∧ wr = w3) (fun _ _ => 0)
  case atStart => exact ⟨rfl, rfl⟩
  case round =>
    obtain ⟨rfl, rfl⟩ := hrel
    go_wp2_with fail
    refine (dcount (w.heap.size + 1) 5 2000 _ HX3.out (by decide) (by decide)).mono ?_; rintro r w2 ⟨rfl, rfl⟩
    go_wp2
    go_loopw [85] (fun i wr' => i = .int .i64 0 ∧ wr' = wr) (fun _ _ => 0)
    case atStart => exact ⟨rfl, rfl⟩
    case round =>
      obtain ⟨rfl, rfl⟩ := hrel
      go_wp2_with fail
      refine (dcount (w.heap.size + 1) 5 2000 _ HX3.out (by decide) (by decide)).mono ?_; rintro r w2 ⟨rfl, rfl⟩
      go_wp2
      go_loopw [97] (fun i wr' => i = .int .i64 0 ∧ wr' = wr) (fun _ _ => 0)
      case atStart => exact ⟨rfl, rfl⟩
      case round =>
        obtain ⟨rfl, rfl⟩ := hrel
        obtain ⟨ad3, n3, cap3, x0, x1, x2⟩ := HX3.out
        go_wp2
        go_region
        all_goals
          go_wp2
          refine bodyPost_ret (v := .tuple #[.agg #[.slice none 0 0, .slice none 0 0, .slice none 0 0], .int .i64 5]) (by simp [results, Try.results50, go_sem, q0, q1, q2]) rfl ⟨rfl, ?_⟩
          first
            | exact (((HB3.out.setCell (Nat.le_refl _) _).setCell (Nat.le_refl _) _).setCell (Nat.le_refl _) _).drew
            | exact ((HB3.out.drew.setCell (Nat.le_refl _) _).setCell (Nat.le_refl _) _).setCell (Nat.le_refl _) _
end Go.Proofs.Ytpnmaopompfalaa
