/-
  sundialref.AtOf: the walk; both answer alike.
-/
import Derived.Test.YtdpbedkppomffaaGreatDoorAtF
namespace Go.Proofs.YtdpbedkppomffaaGreatDoor
set_option linter.unusedVariables false
set_option linter.unusedSimpArgs false
open Go.ChangeShapes Go.WideShapes Go.ChangeAt Go.RowKit Civ

set_option maxHeartbeats 8000000 in
set_option maxRecDepth 100000 in
theorem AtOf_any (s : Src) (n : ByteArray) (t : Int) (vr vz vl : Value) (w : World) (hs : SrcAt w vr vz vl s) :
    Calls Tryz.prog 8 #[.agg #[vr, vz, vl], .string n, .int .i64 t] w fun e w' => e = .returned (.tuple #[.agg #[.int .i64 (atC s n t).off, .bool (atC s n t).sav, .string (atC s n t).nm], .int .i64 (atE s n t)]) ∧ Below w.heap.size w w' := by
  have C0 := Lib.hid (ClB.new w vr vz vl)
  obtain ⟨W0, hW0⟩ : ∃ W0, W0 = (w.alloc (.cells #[vr, vz, vl] 26)).alloc (.cells #[.int .i64 0, .bool false, .string ⟨#[]⟩] 28) := ⟨_, rfl⟩
  rw [← hW0] at C0
  have HW := Lib.hid hW0
  have HS := Lib.hid hs
  have HSF := Lib.hid (fun wx (hb : Below w.heap.size w wx) => sourceFault_any s vr vz vl wx (hs.mono hb))
  have HLT := Lib.hid (fun wx (hb : Below w.heap.size w wx) => ledTo_any s vr vz vl 8 (by decide) n wx (hs.mono hb))
  obtain ⟨az, cz, rfl, hlz⟩ := hs.2.1.shape
  clear hs hW0 hlz
  obtain ⟨E, hE⟩ : ∃ E, E = srcE s := ⟨_, rfl⟩
  have HE := Lib.hid hE
  rw [← hE] at HSF
  clear hE
  obtain ⟨q0, q1, q2⟩ := C0.out.s.1
  go_enter Tryz.func8, Tryz.ntmps8
  go_upto_region 1 with fail
  rw [← HW.out]
  clear HW
  go_wp2_with fail
  refine (HSF.out _ C0.out.s.2.1).mono ?_; rintro e w1 ⟨rfl, hb1⟩
  have C1 := Lib.hid (C0.out.next hb1)
  clear hb1 q0 q1 q2 C0 HSF
  by_cases h0 : E = 0
  · subst h0
    obtain ⟨q0, q1, q2⟩ := C1.out.s.1
    have hz1 : w.heap.size < w1.heap.size := Nat.lt_of_succ_lt C1.out.r.lt
    go_wp2_with fail
    refine (HLT.out _ C1.out.s.2.1).mono ?_; rintro e w2 ⟨rfl, hb2⟩
    have C2 := Lib.hid (C1.out.next hb2)
    clear hb2 q0 q1 q2 C1 HLT hz1
    obtain ⟨q0, q1, q2⟩ := C2.out.s.1
    have r0 : w2.cell? ⟨w.heap.size + 1, 0, none⟩ = some (.int .i64 0) := C2.out.r.cell 0
    have r1 : w2.cell? ⟨w.heap.size + 1, 1, none⟩ = some (.bool false) := C2.out.r.cell 1
    have r2 : w2.cell? ⟨w.heap.size + 1, 2, none⟩ = some (.string ⟨#[]⟩) := C2.out.r.cell 2
    have f0 : w2.frozen? ⟨w.heap.size + 1, 0, none⟩ = false := C2.out.r.frozen 0
    have f1 : w2.frozen? ⟨w.heap.size + 1, 1, none⟩ = false := C2.out.r.frozen 1
    have f2 : w2.frozen? ⟨w.heap.size + 1, 2, none⟩ = false := C2.out.r.frozen 2
    have zl : w.heap.size + 1 < w2.heap.size := C2.out.r.lt
    rcases folL_rng s 8 n with h | ⟨i, hi, h⟩
    · have HF : Hid (fndS s n = 6) := by show _ = _; unfold fndS; rw [← HE.out, if_neg (by simp), if_pos h]
      have HD : Hid (atE s n t = 6) := by show _ = _; rw [atE_f (by rw [HF.out]; decide), HF.out]
      have HK : Hid (atC s n t = clk0) := atC_e (by rw [HD.out]; decide)
      generalize folL s 8 n = k at *
      go_wp2
      refine bodyPost_ret (v := .tuple #[.agg #[.int .i64 0, .bool false, .string ⟨#[]⟩], .int .i64 6]) (by simp [results, Tryz.results8, go_sem, r0, r1, r2, zl]) rfl ⟨by rw [HD.out, HK.out]; rfl, C2.out.done _ _ _⟩
    · have HF : Hid (fndS s n = 0) := by show _ = _; unfold fndS; rw [← HE.out, if_neg (by simp), if_neg (by omega)]
      have HI := Lib.hid h
      rw [h]
      clear h
      have hin : ¬ (i : Int) < 0 := by omega
      by_cases hw : t < -2208988800 ∨ 4102444800 ≤ t
      · have HD : Hid (atE s n t = 2) := atE_w HF.out hw
        have HK : Hid (atC s n t = clk0) := atC_e (by rw [HD.out]; decide)
        have HIN := Lib.hid (fun wx => in_lit t (-2208988800) 4102444799 false wx (decide_eq_false (by omega)))
        clear hw
        go_wp2_with fail
        refine (winOf _).mono ?_; rintro e w' ⟨rfl, rfl⟩
        go_wp2_with fail
        refine (HIN.out _).mono ?_; rintro e w' ⟨rfl, rfl⟩
        go_wp2
        refine bodyPost_ret (v := .tuple #[.agg #[.int .i64 0, .bool false, .string ⟨#[]⟩], .int .i64 2]) (by simp [results, Tryz.results8, go_sem, r0, r1, r2, zl]) rfl ⟨by rw [HD.out, HK.out]; rfl, C2.out.done _ _ _⟩
      · have HD : Hid (atE s n t = 0) := atE_z HF.out hw
        have HIN := Lib.hid (fun wx => in_lit t (-2208988800) 4102444799 true wx (decide_eq_true (by omega)))
        clear hw
        have HK0 := Lib.hid (atC_z HD.out hi HI.out)
        have HGZ := Lib.hid (gdZ_of (by rw [← HE.out]) i hi)
        obtain ⟨b, off, v, rfl, hb, ⟨D0, D1⟩, hx, hn⟩ := elemZon HS.out.2.1 i hi
        have d0 := (C2.out.s.2.1.cell (p := ⟨b, off + i * 2, none⟩) hb).trans D0
        have d1 := (C2.out.s.2.1.cell (p := ⟨b, off + i * 2 + 1, none⟩) hb).trans D1
        have hki : (i : Int) < (s.zones.length : Int) := by omega
        have hbn : ¬ b = w.heap.size + 1 := by omega
        have hbn2 : ¬ w.heap.size + 1 = b := by omega
        have HLB : Hid (b < w2.heap.size) := Nat.lt_of_lt_of_le hb (Nat.le_trans (Nat.le_of_lt (Nat.lt_of_succ_lt zl)) (Nat.le_refl _))
        have HCA := Lib.hid (fun wx (h : Below w.heap.size w wx) => clockAt_any s s.zones[i] t vr (.slice (some ⟨b, off, none⟩) s.zones.length cz) vl v wx (HS.out.mono h) (hx.mono h fun _ _ h => h) HGZ.out)
        clear D0 D1 hx hn hb
        generalize s.zones[i] = z at *
        have HK : Hid (atC s n t = clkT s.rules z.eras (untL s.rules z.eras) t) := HK0
        clear HK0
        generalize clkT s.rules z.eras (untL s.rules z.eras) t = ck at *
        obtain ⟨ko, ks, kn⟩ := ck
        dsimp only at HCA
        go_wp2_with fail
        refine (winOf _).mono ?_; rintro e w' ⟨rfl, rfl⟩
        go_wp2_with fail
        refine (HIN.out _).mono ?_; rintro e w' ⟨rfl, rfl⟩
        go_wp2_with fail
        go_region_held3 (fun w' => w'.cell? ⟨w.heap.size, 0, none⟩ = some vr ∧ w'.cell? ⟨w.heap.size, 1, none⟩ = some (.slice (some ⟨b, off, none⟩) s.zones.length cz) ∧ w'.cell? ⟨w.heap.size, 2, none⟩ = some vl ∧ w'.cell? ⟨b, off + i * 2, none⟩ = some (.string z.nm) ∧ w'.cell? ⟨b, off + i * 2 + 1, none⟩ = some v) (first | (with_reducible exact ⟨q0, q1, q2, d0, d1⟩) | (with_reducible exact ⟨a0, a1, a2, s0, s1⟩) | go_keep) ((go_at_call 30; refine (HCA.out _ (by first | exact C2.out.s.2.1 | exact C2.out.s.2.1.drew)).mono ?_; rintro e w9 ⟨rfl, hb9⟩; have HB9 : Hid (Below w2.heap.size w2 w9) := (by first | exact hb9 | exact ((Below.refl _ _).drew).trans hb9); have C9 := Lib.hid (C2.out.next HB9.out); obtain ⟨a0, a1, a2⟩ := C9.out.s.1; have s0 := (HB9.out.cell (p := ⟨b, off + i * 2, none⟩) HLB.out).trans d0; have s1 := (HB9.out.cell (p := ⟨b, off + i * 2 + 1, none⟩) HLB.out).trans d1; have R0 : w9.cell? ⟨w.heap.size + 1, 0, none⟩ = some (.int .i64 0) := C9.out.r.cell 0; have R1 : w9.cell? ⟨w.heap.size + 1, 1, none⟩ = some (.bool false) := C9.out.r.cell 1; have R2 : w9.cell? ⟨w.heap.size + 1, 2, none⟩ = some (.string ⟨#[]⟩) := C9.out.r.cell 2; have F0 : w9.frozen? ⟨w.heap.size + 1, 0, none⟩ = false := C9.out.r.frozen 0; have F1 : w9.frozen? ⟨w.heap.size + 1, 1, none⟩ = false := C9.out.r.frozen 1; have F2 : w9.frozen? ⟨w.heap.size + 1, 2, none⟩ = false := C9.out.r.frozen 2; have ZL : w.heap.size + 1 < w9.heap.size := C9.out.r.lt; clear hb9))
        go_wp2
        refine bodyPost_ret (v := .tuple #[.agg #[.int .i64 ko, .bool ks, .string kn], .int .i64 0]) (by simp [results, Tryz.results8, go_sem, R0, R1, R2, ZL]) rfl ⟨by rw [HD.out, HK.out], C9.out.done _ _ _⟩
  · have hE0 : (E != 0) = true := by rw [bne_iff_ne]; exact h0
    have HF : Hid (fndS s n = E) := by show _ = _; unfold fndS; rw [← HE.out, if_pos h0]
    have HD : Hid (atE s n t = E) := by show _ = _; rw [atE_f (by rw [HF.out]; exact h0), HF.out]
    have HK : Hid (atC s n t = clk0) := atC_e (by rw [HD.out]; exact h0)
    clear h0
    have r0 : w1.cell? ⟨w.heap.size + 1, 0, none⟩ = some (.int .i64 0) := C1.out.r.cell 0
    have r1 : w1.cell? ⟨w.heap.size + 1, 1, none⟩ = some (.bool false) := C1.out.r.cell 1
    have r2 : w1.cell? ⟨w.heap.size + 1, 2, none⟩ = some (.string ⟨#[]⟩) := C1.out.r.cell 2
    have f0 : w1.frozen? ⟨w.heap.size + 1, 0, none⟩ = false := C1.out.r.frozen 0
    have f1 : w1.frozen? ⟨w.heap.size + 1, 1, none⟩ = false := C1.out.r.frozen 1
    have f2 : w1.frozen? ⟨w.heap.size + 1, 2, none⟩ = false := C1.out.r.frozen 2
    have zl : w.heap.size + 1 < w1.heap.size := C1.out.r.lt
    go_wp2
    refine bodyPost_ret (v := .tuple #[.agg #[.int .i64 0, .bool false, .string ⟨#[]⟩], .int .i64 E]) (by simp [results, Tryz.results8, go_sem, r0, r1, r2, zl]) rfl ⟨by rw [HD.out, HK.out]; rfl, C1.out.done _ _ _⟩
end Go.Proofs.YtdpbedkppomffaaGreatDoor
