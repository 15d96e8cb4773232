/-
  The law on instants that move: what the law's own function answers.
-/
import Derived.Test.YtalaejdbmjbocaaDoorKeepC
import Derived.Deep.RegionHeld3
namespace Go.Proofs.YtalaejdbmjbocaaDoor
set_option linter.unusedVariables false
set_option linter.unusedSimpArgs false
open Go.ChangeShapes Go.WideShapes Go.ChangeAt Go.RowKit Civ

def pkv (n many : Int) : Int := (if n < 0 then -(n + 1) else n) % many
theorem pkv_bd (n many : Int) (h : 0 < many) : 0 ≤ pkv n many ∧ pkv n many < many := pick_bd _ _ h
theorem picked_v (n many : Int) (w : World) (hn : (Lit.int .i64 n).wf = true) (h1 : 1 ≤ many) (h2 : many ≤ 9000000000) :
    Calls Tryd.prog 19 #[.int .i64 n, .int .i64 many] w fun e w' => e = .returned (.int .i64 (pkv n many)) ∧ w = w' := by
  obtain ⟨b1, b2⟩ := bounds_i64 hn
  clear hn
  by_cases h : n < 0
  · have hp : -(n + 1).tmod many = pkv n many := by
      unfold pkv; rw [if_pos h, ← Int.tmod_eq_emod_of_nonneg (by omega), Int.neg_tmod]
    have HP := Lib.hid hp
    clear hp
    go_enter Tryd.func19, Tryd.ntmps19
    go_wp2
    go_ret
    exact ⟨ret_int HP.out, rfl⟩
  · have hp : n % many = pkv n many := by unfold pkv; rw [if_neg h]
    have HP := Lib.hid hp
    clear hp
    go_enter Tryd.func19, Tryd.ntmps19
    go_wp2
    go_ret
    exact ⟨ret_int HP.out, rfl⟩
theorem chkM_ok {mo k a n t c : Int} (h : chk k a n = 0) (h1 : 0 ≤ c) (h2 : c ≤ 2) (h3 : 1 ≤ mo) (h4 : mo ≤ 12) (h5 : 0 ≤ t) (h6 : t ≤ 604800) : chkM mo k a n t c = 0 := by
  unfold chkM; rw [if_neg (by omega), if_neg (by omega), if_neg (by omega)]
theorem insE_ok {y mo k a n t c o s : Int} (h : chkM mo k a n t c = 0) (h1 : -86400 ≤ o) (h2 : o ≤ 86400) (h3 : -86400 ≤ s) (h4 : s ≤ 86400) (h5 : fndE y mo k a n = 0) : insE y mo k a n t c o s = 0 := by
  unfold insE; rw [if_neg (by omega), if_neg (by omega)]; exact h5
/-- a block that holds a moment. -/
def MomAt (W : World) (b : Nat) (mo k a n t c : Int) : Prop :=
  (W.cell? ⟨b, 0, none⟩ = some (.int .i64 mo) ∧ W.cell? ⟨b, 1, none⟩ = some (.int .i64 k) ∧ W.cell? ⟨b, 2, none⟩ = some (.int .i64 a) ∧ W.cell? ⟨b, 3, none⟩ = some (.int .i64 n) ∧ W.cell? ⟨b, 4, none⟩ = some (.int .i64 t) ∧ W.cell? ⟨b, 5, none⟩ = some (.int .i64 c)) ∧ W.frozen? ⟨b, 5, none⟩ = false ∧ b < W.heap.size
theorem MomAt.new (w : World) (mo k a n t c : Int) (T : TypeId) : MomAt (w.alloc (.cells #[.int .i64 mo, .int .i64 k, .int .i64 a, .int .i64 n, .int .i64 t, .int .i64 c] T)) w.heap.size mo k a n t c :=
  ⟨⟨(World.cell?_alloc_at (w := w) _ _ w.heap.size 0 rfl).trans rfl, (World.cell?_alloc_at (w := w) _ _ w.heap.size 1 rfl).trans rfl, (World.cell?_alloc_at (w := w) _ _ w.heap.size 2 rfl).trans rfl, (World.cell?_alloc_at (w := w) _ _ w.heap.size 3 rfl).trans rfl, (World.cell?_alloc_at (w := w) _ _ w.heap.size 4 rfl).trans rfl, (World.cell?_alloc_at (w := w) _ _ w.heap.size 5 rfl).trans rfl⟩, World.frozen?_alloc_at _ _ _ _ rfl, by simp⟩
theorem MomAt.drew {W : World} {b : Nat} {mo k a n t c : Int} (h : MomAt W b mo k a n t c) : MomAt W.drew b mo k a n t c := h
theorem MomAt.below {W W' : World} {b : Nat} {mo k a n t c : Int} (h : MomAt W b mo k a n t c) (hb : Below W.heap.size W W') : MomAt W' b mo k a n t c := by
  obtain ⟨⟨h0, h1, h2, h3, h4, h5⟩, hf, hz⟩ := h
  refine ⟨⟨?_, ?_, ?_, ?_, ?_, ?_⟩, ?_, Nat.lt_of_lt_of_le hz hb.size⟩
  · rw [hb.cell (p := ⟨b, 0, none⟩) hz]; exact h0
  · rw [hb.cell (p := ⟨b, 1, none⟩) hz]; exact h1
  · rw [hb.cell (p := ⟨b, 2, none⟩) hz]; exact h2
  · rw [hb.cell (p := ⟨b, 3, none⟩) hz]; exact h3
  · rw [hb.cell (p := ⟨b, 4, none⟩) hz]; exact h4
  · rw [hb.cell (p := ⟨b, 5, none⟩) hz]; exact h5
  · rw [hb.frozen (p := ⟨b, 5, none⟩) hz]; exact hf
theorem MomAt.set {W : World} {b : Nat} {mo k a n t c : Int} (h : MomAt W b mo k a n t c) (v : Int) : MomAt (W.setCell ⟨b, 5, none⟩ (.int .i64 v)) b mo k a n t v := by
  obtain ⟨⟨h0, h1, h2, h3, h4, h5⟩, hf, hz⟩ := h
  refine ⟨⟨?_, ?_, ?_, ?_, ?_, ?_⟩, ?_, by simpa using hz⟩ <;> simp [go_sem, *]
theorem instant_v {y mo n t c o s F T : Int} (w : World) (hT : Tab w) (h : insE y mo 1 0 n t c o s = 0) (hF : fnd y mo 1 0 n = F) (hv : ins y mo 1 0 n t c o s = T) :
    Calls Tryd.prog 27 #[.int .i64 y, .agg #[.int .i64 mo, .int .i64 1, .int .i64 0, .int .i64 n, .int .i64 t, .int .i64 c], .int .i64 o, .int .i64 s] w fun e w' => e = .returned (.tuple #[.int .i64 T, .int .i64 0]) ∧ Below w.heap.size w w' :=
  (instant_ok y mo 1 0 n t c o s w hT h).mono fun e w' ⟨he, hb⟩ => ⟨by rw [he, hv], hb⟩
set_option maxHeartbeats 3200000 in
set_option maxRecDepth 100000 in
theorem walkInstantsMove (a0 k a b c a2 a3 : Int) (w : World) (w0 : (Lit.int .i64 a0).wf = true) (w1 : (Lit.int .i64 k).wf = true) (w2 : (Lit.int .i64 a).wf = true) (w3 : (Lit.int .i64 b).wf = true) (w4 : (Lit.int .i64 c).wf = true) (w5 : (Lit.int .i64 a2).wf = true) (w6 : (Lit.int .i64 a3).wf = true) (hT : Tab w) :
    Calls Tryd.prog 12 #[.int .i64 a0, .agg #[.int .i64 k, .int .i64 a, .int .i64 b, .int .i64 c], .int .i64 a2, .int .i64 a3] w fun e w' => e = .returned (.bool true) ∧ Below w.heap.size w w' := by
  have V0 := Lib.hid w0
  have V2 := Lib.hid w2
  have V3 := Lib.hid w3
  have V4 := Lib.hid w4
  have V5 := Lib.hid w5
  have V6 := Lib.hid w6
  clear w0 w1 w2 w3 w4 w5 w6
  go_enter Tryd.func12, Tryd.ntmps12
  go_wp2
  have hT1 : Tab (w.alloc (.cells #[.int .i64 k, .int .i64 a, .int .i64 b, .int .i64 c] 50)) := hT.alloc _
  have r1 : (w.alloc (.cells #[.int .i64 k, .int .i64 a, .int .i64 b, .int .i64 c] 50)).cell? ⟨w.heap.size, 1, none⟩ = some (.int .i64 a) := (World.cell?_alloc_at (w := w) _ _ w.heap.size 1 rfl).trans rfl
  have r2 : (w.alloc (.cells #[.int .i64 k, .int .i64 a, .int .i64 b, .int .i64 c] 50)).cell? ⟨w.heap.size, 2, none⟩ = some (.int .i64 b) := (World.cell?_alloc_at (w := w) _ _ w.heap.size 2 rfl).trans rfl
  have r3 : (w.alloc (.cells #[.int .i64 k, .int .i64 a, .int .i64 b, .int .i64 c] 50)).cell? ⟨w.heap.size, 3, none⟩ = some (.int .i64 c) := (World.cell?_alloc_at (w := w) _ _ w.heap.size 3 rfl).trans rfl
  have hbw : Below w.heap.size w (w.alloc (.cells #[.int .i64 k, .int .i64 a, .int .i64 b, .int .i64 c] 50)) := (Below.refl _ _).alloc (Nat.le_refl _) _
  have hz : w.heap.size < (w.alloc (.cells #[.int .i64 k, .int .i64 a, .int .i64 b, .int .i64 c] 50)).heap.size := by simp
  generalize w.alloc (.cells #[.int .i64 k, .int .i64 a, .int .i64 b, .int .i64 c] 50) = w1 at *
  have p1 := pkv_bd a 12 (by omega)
  have p2 := pkv_bd b 28 (by omega)
  have p3 := pkv_bd c 86400 (by omega)
  have p4 := pkv_bd a0 200 (by omega)
  have p5 := pkv_bd a2 86400 (by omega)
  have p6 := pkv_bd a3 7200 (by omega)
  have hdd := dim_bd (1900 + pkv a0 200) (1 + pkv a 12) (by omega) (by omega)
  have ok : numOk (1900 + pkv a0 200) (1 + pkv a 12) (1 + pkv b 28) := ⟨by omega, by omega, by omega, by omega, by omega, by omega⟩
  have OK := Lib.hid ok
  have hnb := num_bd _ _ _ ok
  have hk : chk 1 0 (1 + pkv b 28) = 0 := chk_ok (by omega) (by omega) (by omega) (by omega) (by omega) (by omega) (by omega) (by omega)
  have hF : fndE (1900 + pkv a0 200) (1 + pkv a 12) 1 0 (1 + pkv b 28) = 0 := fndE_ok (by omega) (by omega) (by omega) (by omega) (by omega) hk
  have I0 := Lib.hid (insE_ok (chkM_ok (t := pkv c 86400) (c := 0) hk (by omega) (by omega) (by omega) (by omega) (by omega) (by omega)) (o := pkv a2 86400) (s := pkv a3 7200) (by omega) (by omega) (by omega) (by omega) hF)
  have I1 := Lib.hid (insE_ok (chkM_ok (t := pkv c 86400) (c := 1) hk (by omega) (by omega) (by omega) (by omega) (by omega) (by omega)) (o := pkv a2 86400) (s := pkv a3 7200) (by omega) (by omega) (by omega) (by omega) hF)
  have I2 := Lib.hid (insE_ok (chkM_ok (t := pkv c 86400) (c := 2) hk (by omega) (by omega) (by omega) (by omega) (by omega) (by omega)) (o := pkv a2 86400) (s := pkv a3 7200) (by omega) (by omega) (by omega) (by omega) hF)
  have J0 : Hid (ins (1900 + pkv a0 200) (1 + pkv a 12) 1 0 (1 + pkv b 28) (pkv c 86400) 0 (pkv a2 86400) (pkv a3 7200) = num (1900 + pkv a0 200) (1 + pkv a 12) (1 + pkv b 28) * 86400 + pkv c 86400 - (pkv a2 86400 + pkv a3 7200)) := by show ins _ _ _ _ _ _ _ _ _ = _; unfold ins; rw [if_pos rfl, fnd_on]
  have J1 : Hid (ins (1900 + pkv a0 200) (1 + pkv a 12) 1 0 (1 + pkv b 28) (pkv c 86400) 1 (pkv a2 86400) (pkv a3 7200) = num (1900 + pkv a0 200) (1 + pkv a 12) (1 + pkv b 28) * 86400 + pkv c 86400 - pkv a2 86400) := by show ins _ _ _ _ _ _ _ _ _ = _; unfold ins; rw [if_neg (by omega), if_pos rfl, fnd_on]
  have J2 : Hid (ins (1900 + pkv a0 200) (1 + pkv a 12) 1 0 (1 + pkv b 28) (pkv c 86400) 2 (pkv a2 86400) (pkv a3 7200) = num (1900 + pkv a0 200) (1 + pkv a 12) (1 + pkv b 28) * 86400 + pkv c 86400) := by show ins _ _ _ _ _ _ _ _ _ = _; unfold ins; rw [if_neg (by omega), if_neg (by omega), fnd_on]
  clear ok hdd hk hF
  go_region_held3 (fun w' => w'.cell? ⟨w.heap.size, 1, none⟩ = some (.int .i64 a) ∧ w'.cell? ⟨w.heap.size, 2, none⟩ = some (.int .i64 b) ∧ w'.cell? ⟨w.heap.size, 3, none⟩ = some (.int .i64 c))
    (first | exact ⟨r1, r2, r3⟩ | go_keep)
    (first | (go_at_call_of 19 (Value.int .i64 a); refine (picked_v _ _ _ V2.out (by omega) (by omega)).mono ?_; rintro e w' ⟨rfl, rfl⟩) | (go_at_call_of 19 (Value.int .i64 b); refine (picked_v _ _ _ V3.out (by omega) (by omega)).mono ?_; rintro e w' ⟨rfl, rfl⟩) | (go_at_call_of 19 (Value.int .i64 c); refine (picked_v _ _ _ V4.out (by omega) (by omega)).mono ?_; rintro e w' ⟨rfl, rfl⟩))
  clear r1 r2 r3
  all_goals
    have hm1 : MomAt (w1.alloc (.cells #[.int .i64 (1 + pkv a 12), .int .i64 1, .int .i64 0, .int .i64 (1 + pkv b 28), .int .i64 (pkv c 86400), .int .i64 0] 46)).drew w1.heap.size (1 + pkv a 12) 1 0 (1 + pkv b 28) (pkv c 86400) 0 := MomAt.new w1 _ _ _ _ _ _ _
    have hb1 : Below w.heap.size w (w1.alloc (.cells #[.int .i64 (1 + pkv a 12), .int .i64 1, .int .i64 0, .int .i64 (1 + pkv b 28), .int .i64 (pkv c 86400), .int .i64 0] 46)).drew := (hbw.alloc (by omega) _).drew
    go_wp2_with fail
    generalize (w1.alloc (.cells #[.int .i64 (1 + pkv a 12), .int .i64 1, .int .i64 0, .int .i64 (1 + pkv b 28), .int .i64 (pkv c 86400), .int .i64 0] 46)).drew = W2 at hm1 hb1 ⊢
    refine (picked_v _ _ _ V0.out (by omega) (by omega)).mono ?_; rintro e w' ⟨rfl, rfl⟩
    go_wp2_with fail
    refine (picked_v _ _ _ V5.out (by omega) (by omega)).mono ?_; rintro e w' ⟨rfl, rfl⟩
    go_wp2_with fail
    refine (picked_v _ _ _ V6.out (by omega) (by omega)).mono ?_; rintro e w' ⟨rfl, rfl⟩
    have hm1' := hm1
    obtain ⟨⟨m0, m1, m2, m3, m4, m5⟩, mf, mz⟩ := hm1'
    go_wp2_with fail
    refine (instant_ok _ _ _ _ _ _ _ _ _ _ (hT.below hb1) I0.out).mono ?_; rintro e u1 ⟨rfl, hc1⟩
    have hm2 := hm1.below hc1
    have hb2 := below_next hb1 hc1
    clear m0 m1 m2 m3 m4 m5 mf mz hm1 hb1 hc1
    have hm2' := hm2
    obtain ⟨⟨m0, m1, m2, m3, m4, m5⟩, mf, mz⟩ := hm2'
    have hm3 := hm2.set 1
    have hb3 := hb2.setCell (p := ⟨w1.heap.size, 5, none⟩) (Nat.le_of_lt hz) (.int .i64 1)
    go_wp2_with fail
    clear m0 m1 m2 m3 m4 m5 mf mz hm2 hb2
    generalize u1.setCell ⟨w1.heap.size, 5, none⟩ (.int .i64 1) = W3 at hm3 hb3 ⊢
    refine (instant_ok _ _ _ _ _ _ _ _ _ _ (hT.below hb3) I1.out).mono ?_; rintro e u2 ⟨rfl, hc2⟩
    have hm4 := hm3.below hc2
    have hb4 := below_next hb3 hc2
    clear hm3 hb3 hc2
    have hm4' := hm4
    obtain ⟨⟨m0, m1, m2, m3, m4, m5⟩, mf, mz⟩ := hm4'
    have hm5 := hm4.set 2
    have hb5 := hb4.setCell (p := ⟨w1.heap.size, 5, none⟩) (Nat.le_of_lt hz) (.int .i64 2)
    go_wp2_with fail
    clear m0 m1 m2 m3 m4 m5 mf mz hm4 hb4
    generalize u2.setCell ⟨w1.heap.size, 5, none⟩ (.int .i64 2) = W4 at hm5 hb5 ⊢
    refine (instant_ok _ _ _ _ _ _ _ _ _ _ (hT.below hb5) I2.out).mono ?_; rintro e u3 ⟨rfl, hc3⟩
    have hm6 := hm5.below hc3
    have hb6 := below_next hb5 hc3
    clear hm5 hb5 hc3
    have hm6' := hm6
    obtain ⟨⟨m0, m1, m2, m3, m4, m5⟩, mf, mz⟩ := hm6'
    go_wp2_with fail
    refine (number_ok _ _ _ _ (hT.below hb6) OK.out).mono ?_; rintro e w' ⟨rfl, n1, rfl⟩
    rw [J0.out, J1.out, J2.out]
    go_wp2
    go_ret
    exact ⟨ret_bool (by simp), below_draws hb6 _⟩
end Go.Proofs.YtalaejdbmjbocaaDoor
