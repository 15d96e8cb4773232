/-
  slices.SortStableFunc over turns: the row is put in order.
-/
import Derived.Test.YtdpbedkppomffaaDoorStbG
namespace Go.Proofs.YtdpbedkppomffaaDoor
set_option linter.unusedVariables false
set_option linter.unusedSimpArgs false
open Go.ChangeShapes Go.WideShapes Go.ChangeAt Go.RowKit

theorem sym_any (D off n cap : Nat) : ∀ N, SymC D off n cap N
  | 0 => fun _ _ _ _ _ _ _ _ h => absurd h (by omega)
  | N + 1 => fun P U V S a m b w hN ho h => by
    by_cases hU1 : U.length = 1
    · obtain ⟨u, rfl⟩ := List.length_eq_one_iff.1 hU1
      have hb := ho.hb
      have hm := ho.hm
      simp only [List.length_singleton] at hb hm
      exact sym_left D off n cap P V S u a m b w h ho.hn ho.ha (by omega) (by omega) ho.sv (fun y hy => ho.ah u (by simp) y hy) ho.nb ho.n8
    · by_cases hV1 : V.length = 1
      · obtain ⟨v, rfl⟩ := List.length_eq_one_iff.1 hV1
        have hb := ho.hb
        simp only [List.length_singleton] at hb
        exact sym_right D off n cap P U S v a m b w h ho.hn ho.ha ho.hm (by omega) hU1 ho.su (fun x hx => ho.ah x hx v (by simp)) ho.nb ho.n8
      · exact sym_gen D off n cap N (sym_any D off n cap N) P U V S a m b w hN ho hU1 hV1 h
theorem Tg.sub {l m : List Trn} (h : Tg l) (s : m.Sublist l) : Tg m := List.Pairwise.sublist s h
theorem NoB.sub {l m : List Trn} (h : NoB l) (s : ∀ x ∈ m, x ∈ l) : NoB m := fun x hx => h x (s x hx)
theorem so_mem {l : List Trn} {x : Trn} (h : x ∈ so l) : x ∈ l := (so_perm l).subset h
/-- two blocks beside each other, as symMerge wants them. -/
theorem sym_of {P X Y S : List Trn} {n : Nat} {a m b : Int} (hT : Tg (X ++ Y)) (hB : NoB (X ++ Y)) (hn : n = (P ++ ((X ++ Y) ++ S)).length) (ha : a = (P.length : Int)) (hm : m = (P.length : Int) + X.length) (hb : b = (P.length : Int) + X.length + Y.length) (hx : 0 < X.length) (hy : 0 < Y.length) (h8 : n ≤ 100000) : SymO P (so X) (so Y) S n a m b := by
  obtain ⟨t1, t2, t3⟩ := List.pairwise_append.1 hT
  exact ⟨by simp only [List.length_append, so_len] at hn ⊢; exact hn, ha, by rw [so_len]; exact hm, by rw [so_len, so_len]; exact hb, by rw [so_len]; exact hx, by rw [so_len]; exact hy, so_sd (Tg.td t1), so_sd (Tg.td t2), (Tg.td t1).perm (so_perm _).symm, (Tg.td t2).perm (so_perm _).symm, fun x hx y hy => t3 x (so_mem hx) y (so_mem hy),
    fun x hx => hB x (by rcases List.mem_append.1 hx with h | h; exact List.mem_append_left _ (so_mem h); exact List.mem_append_right _ (so_mem h)), h8⟩
set_option maxHeartbeats 8000000 in
set_option maxRecDepth 100000 in
theorem stable_any (D off n cap : Nat) (l : List Trn) (w : World) (h : RowC w D off l) (hn : n = l.length) (hT : Tg l) (hB : NoB l) (hn8 : n ≤ 50000) :
    Calls Tryd.prog 113 #[.slice (some ⟨D, off, none⟩) n cap, .int .i64 n, .func (.func 78) #[] #[]] w fun e w' => e = .returned (.tuple #[]) ∧ RowC w' D off (so l) ∧ GW D w w' := by
  have HR := Lib.hid h
  have HN := Lib.hid hn
  have HT := Lib.hid hT
  have HB := Lib.hid hB
  clear h hn hT hB
  go_enter Tryd.func113, Tryd.ntmps113
  go_wp2
  go_loopw [7, 8] (fun a b wr => ∃ (ka : Nat) (A : List Trn), ka ≤ n ∧ a = .int .i64 ka ∧ b = .int .i64 ((ka : Int) + 20) ∧ Hid (A.length = ka ∧ bsL 20 l = A ++ bsL 20 (l.drop ka) ∧ RowC wr D off (A ++ l.drop ka)) ∧ Hid (GW D w wr)) (fun a _ _ => (n - intOf a).toNat)
  case atStart => exact ⟨0, [], Nat.zero_le _, rfl, rfl, ⟨rfl, rfl, HR.out⟩, GW.refl D w⟩
  case round =>
    obtain ⟨ka, A, hka, rfl, rfl, HA, HG⟩ := hrel
    obtain ⟨a1, a2, a3⟩ := HA.out
    obtain ⟨X, hX⟩ : ∃ X, X = l.drop ka := ⟨_, rfl⟩
    rw [← hX] at a2 a3
    have hXl : X.length = n - ka := by rw [hX, List.length_drop, HN.out]
    have hTX : Tg X := by rw [hX]; exact HT.out.sub (List.drop_sublist _ _)
    have hBX : NoB X := by rw [hX]; exact HB.out.sub fun x hx => List.mem_of_mem_drop hx
    by_cases hlt : ka + 20 ≤ n
    · have hlti : (ka : Int) + 20 ≤ (n : Int) := by omega
      have A1 := Lib.hid a1
      have A2 := Lib.hid a2
      have HXD := Lib.hid hX
      have HXL := Lib.hid hXl
      have A3 : Hid (RowC wr D off (A ++ (X.take 20 ++ X.drop 20))) := by show RowC _ _ _ _; rw [List.take_append_drop]; exact a3
      have hT2 := Lib.hid (hTX.sub (List.take_sublist 20 X))
      have hB2 : Hid (NoB (X.take 20)) := hBX.sub fun x hx => List.mem_of_mem_take hx
      clear a1 a2 a3 hX hXl hTX hBX HA
      go_wp2_with fail
      refine (insSort_any D off n cap A (X.take 20) (X.drop 20) _ _ wr A3.out (by have h1 := A1.out; have h2 := HXL.out; simp only [List.length_append, List.length_take, List.length_drop]; omega) (by have := A1.out; omega) (by have h1 := A1.out; have h2 := HXL.out; rw [List.length_take]; omega) hT2.out hB2.out (by omega)).mono ?_
      rintro r w1 ⟨rfl, hr, hg⟩
      have R1 := Lib.hid hr
      have G1 := Lib.hid (HG.out.trans hg)
      clear hr hg
      go_wp2
      go_roundw
      case rel =>
        refine ⟨ka + 20, A ++ so (X.take 20), hlt, by go_num, by first | rfl | (congr 1; omega) | go_num, ⟨?_, ?_, ?_⟩, G1⟩
        · have h1 := A1.out; have h2 := HXL.out; rw [List.length_append, so_len, List.length_take]; omega
        · rw [A2.out, bsL_step (k := 20) (l := X) (by have h2 := HXL.out; omega) (by omega), HXD.out, List.drop_drop, List.append_assoc]
        · have := R1.out
          rw [HXD.out, List.drop_drop, ← List.append_assoc] at this
          rw [HXD.out]
          exact this
      case measure => simp [intOf]; omega
    · have hlti : ¬ (ka : Int) + 20 ≤ (n : Int) := by omega
      have A1 := Lib.hid a1
      have A2 : Hid (bsL 20 l = A ++ so X) := by show _ = _; rw [a2, bsL_low (by omega)]
      have HXL := Lib.hid hXl
      have A3 : Hid (RowC wr D off (A ++ (X ++ []))) := by show RowC _ _ _ _; rw [List.append_nil]; exact a3
      have hT2 := Lib.hid hTX
      have hB2 := Lib.hid hBX
      clear a1 a2 a3 hX hXl hTX hBX HA
      go_wp2_with fail
      refine (insSort_any D off n cap A X [] _ _ wr A3.out (by have h1 := A1.out; have h2 := HXL.out; simp only [List.length_append, List.length_nil]; omega) (by have := A1.out; omega) (by have h1 := A1.out; have h2 := HXL.out; omega) hT2.out hB2.out (by omega)).mono ?_
      rintro r w1 ⟨rfl, hr, hg⟩
      have R1 : Hid (RowC w1 D off (bsL 20 l)) := by show RowC _ _ _ _; rw [A2.out]; rw [List.append_nil] at hr; exact hr
      have G1 := Lib.hid (HG.out.trans hg)
      clear hr hg A1 A2 A3 HXL hT2 hB2 HG hlti hlt hka
      go_wp2
      go_loopw [6, 7, 8, 9] (fun k _ _ _ wr => ∃ (kk : Nat), 20 ≤ kk ∧ kk ≤ 100000 ∧ k = .int .i64 kk ∧ Hid (RowC wr D off (bsL kk l)) ∧ Hid (GW D w wr)) (fun k _ _ _ _ => (n - intOf k).toNat)
      case atStart => exact ⟨20, Nat.le_refl _, by omega, rfl, R1, G1⟩
      case round =>
        obtain ⟨kk, hk1, hk2, rfl, HRk, HGk⟩ := hrel
        clear R1 G1
        by_cases hlt : kk < n
        · have hlti : (kk : Int) < (n : Int) := by omega
          obtain ⟨wo, rfl⟩ : ∃ wo : World, wo = wr := ⟨_, rfl⟩
          go_wp2
          go_loopw [7, 8] (fun a b wr => ∃ (ka : Nat) (A : List Trn), ka ≤ n ∧ a = .int .i64 ka ∧ b = .int .i64 ((ka : Int) + 2 * (kk : Int)) ∧ Hid (A.length = ka ∧ bsL (2 * kk) l = A ++ bsL (2 * kk) (l.drop ka) ∧ RowC wr D off (A ++ bsL kk (l.drop ka))) ∧ Hid (GW D w wr)) (fun a _ _ => (n - intOf a).toNat)
          case atStart => exact ⟨0, [], Nat.zero_le _, rfl, by first | rfl | (rw [Int.natCast_zero, Int.zero_add]) | (simp; done), ⟨rfl, rfl, HRk.out⟩, HGk⟩
          case round =>
            obtain ⟨ka, A, hka, rfl, rfl, HA, HG⟩ := hrel
            obtain ⟨a1, a2, a3⟩ := HA.out
            obtain ⟨X, hX⟩ : ∃ X, X = l.drop ka := ⟨_, rfl⟩
            rw [← hX] at a2 a3
            have hXl : X.length = n - ka := by rw [hX, List.length_drop, HN.out]
            have hTX : Tg X := by rw [hX]; exact HT.out.sub (List.drop_sublist _ _)
            have hBX : NoB X := by rw [hX]; exact HB.out.sub fun x hx => List.mem_of_mem_drop hx
            by_cases hle : ka + 2 * kk ≤ n
            · have hlei : (ka : Int) + 2 * (kk : Int) ≤ (n : Int) := by omega
              have A1 := Lib.hid a1
              have A2 := Lib.hid a2
              have HXD := Lib.hid hX
              have HXL := Lib.hid hXl
              have A3 : Hid (RowC wr D off (A ++ ((so (X.take kk) ++ so ((X.drop kk).take kk)) ++ bsL kk (X.drop (2 * kk))))) := by
                show RowC _ _ _ _
                rw [bs_pair (by omega) (by omega)] at a3
                rw [List.append_assoc]
                exact a3
              have hTT : Tg (X.take kk ++ (X.drop kk).take kk) := by rw [take_two]; exact hTX.sub (List.take_sublist _ _)
              have hBB : NoB (X.take kk ++ (X.drop kk).take kk) := by rw [take_two]; exact hBX.sub fun x hx => List.mem_of_mem_take hx
              have HO : Hid (SymO A (so (X.take kk)) (so ((X.drop kk).take kk)) (bsL kk (X.drop (2 * kk))) n (ka : Int) ((ka : Int) + (kk : Int)) ((ka : Int) + 2 * (kk : Int))) := by
                refine sym_of hTT hBB ?_ (by omega) ?_ ?_ ?_ ?_ (by omega)
                · simp only [List.length_append, bsL_len, List.length_take, List.length_drop]; omega
                · rw [List.length_take]; omega
                · rw [List.length_take, List.length_take, List.length_drop]; omega
                · rw [List.length_take]; omega
                · rw [List.length_take, List.length_drop]; omega
              have HSO : Hid (so (so (X.take kk) ++ so ((X.drop kk).take kk)) = so (X.take (2 * kk))) := by
                show _ = _
                rw [so_two (Tg.td hTT), take_two]
              clear a1 a2 a3 hX hXl hTX hBX HA hTT hBB
              go_wp2_with fail
              refine (sym_any D off n cap _ A _ _ _ _ _ _ wr (Nat.lt_succ_self _) HO.out A3.out).mono ?_
              rintro r w1 ⟨rfl, hr, hg⟩
              have R1 := Lib.hid hr
              have G1 := Lib.hid (HG.out.trans hg)
              clear hr hg
              go_wp2
              go_roundw
              case rel =>
                refine ⟨ka + 2 * kk, A ++ so (X.take (2 * kk)), hle, by go_num, by first | rfl | (congr 1; omega) | go_num, ⟨?_, ?_, ?_⟩, G1⟩
                · have h1 := A1.out; have h2 := HXL.out; rw [List.length_append, so_len, List.length_take]; omega
                · rw [A2.out, bsL_step (k := 2 * kk) (l := X) (by have h2 := HXL.out; omega) (by omega), HXD.out, List.drop_drop, List.append_assoc]
                · have := R1.out
                  rw [HSO.out, HXD.out, List.drop_drop, ← List.append_assoc] at this
                  rw [HXD.out]
                  exact this
              case measure => simp [intOf]; omega
            · have hlei : ¬ (ka : Int) + 2 * (kk : Int) ≤ (n : Int) := by omega
              have A1 := Lib.hid a1
              have A2 : Hid (bsL (2 * kk) l = A ++ so X) := by show _ = _; rw [a2, bsL_low (by omega)]
              have HXL := Lib.hid hXl
              by_cases hm : ka + kk < n
              · have hmi : (ka : Int) + (kk : Int) < (n : Int) := by omega
                have A3 : Hid (RowC wr D off (A ++ ((so (X.take kk) ++ so (X.drop kk)) ++ []))) := by
                  show RowC _ _ _ _
                  rw [bs_rest (by omega) (by omega)] at a3
                  rw [List.append_nil]
                  exact a3
                have hTT : Tg (X.take kk ++ X.drop kk) := by rw [List.take_append_drop]; exact hTX
                have hBB : NoB (X.take kk ++ X.drop kk) := by rw [List.take_append_drop]; exact hBX
                have HO : Hid (SymO A (so (X.take kk)) (so (X.drop kk)) [] n (ka : Int) ((ka : Int) + (kk : Int)) (n : Int)) := by
                  refine sym_of hTT hBB ?_ (by omega) ?_ ?_ ?_ ?_ (by omega)
                  · simp only [List.length_append, List.length_take, List.length_drop, List.length_nil]; omega
                  · rw [List.length_take]; omega
                  · rw [List.length_take, List.length_drop]; omega
                  · rw [List.length_take]; omega
                  · rw [List.length_drop]; omega
                have HSO : Hid (so (so (X.take kk) ++ so (X.drop kk)) = so X) := by
                  show _ = _
                  rw [so_two (Tg.td hTT), List.take_append_drop]
                clear a1 a2 a3 hX hXl hTX hBX HA hTT hBB
                go_wp2_with fail
                refine (sym_any D off n cap _ A _ _ _ _ _ _ wr (Nat.lt_succ_self _) HO.out A3.out).mono ?_
                rintro r w1 ⟨rfl, hr, hg⟩
                have R1 : Hid (RowC w1 D off (bsL (2 * kk) l)) := by show RowC _ _ _ _; rw [A2.out]; rw [HSO.out, List.append_nil] at hr; exact hr
                have G1 := Lib.hid (HG.out.trans hg)
                clear hr hg
                go_wp2
                go_roundw
                case rel => exact ⟨2 * kk, by omega, by omega, by first | go_num | (congr 1; omega), R1, G1⟩
                case measure => simp [intOf]; omega
              · have hmi : ¬ (ka : Int) + (kk : Int) < (n : Int) := by omega
                have R1 : Hid (RowC wr D off (bsL (2 * kk) l)) := by show RowC _ _ _ _; rw [A2.out]; rw [bsL_low (by omega)] at a3; exact a3
                clear a1 a2 a3 hX hXl hTX hBX HA
                go_wp2
                go_roundw
                case rel => exact ⟨2 * kk, by omega, by omega, by first | go_num | (congr 1; omega), R1, HG⟩
                case measure => simp [intOf]; omega
        · have hlti : ¬ (kk : Int) < (n : Int) := by omega
          have HF : Hid (RowC wr D off (so l)) := by
            have := HRk.out
            rw [bsL_low (by have := HN.out; omega)] at this
            exact this
          go_wp2
          go_end0
          exact ⟨rfl, HF.out, HGk.out⟩
set_option maxHeartbeats 1000000 in
theorem sortStable_any (D off n cap : Nat) (l : List Trn) (w : World) (h : RowC w D off l) (hn : n = l.length) (hT : Tg l) (hB : NoB l) (hn8 : n ≤ 50000) :
    Calls Tryd.prog 77 #[.slice (some ⟨D, off, none⟩) n cap, .func (.func 78) #[] #[]] w fun e w' => e = .returned (.tuple #[]) ∧ RowC w' D off (so l) ∧ GW D w w' := by
  have H := Lib.hid (stable_any D off n cap l w h hn hT hB hn8)
  clear h hn hT hB
  go_enter Tryd.func77, Tryd.ntmps77
  go_wp2_with fail
  refine H.out.mono ?_
  rintro r w1 ⟨rfl, hr, hg⟩
  have R1 := Lib.hid hr
  have G1 := Lib.hid hg
  clear hr hg
  go_wp2
  go_end0
  exact ⟨rfl, R1.out, G1.out⟩
set_option maxHeartbeats 2000000 in
theorem sortStable_nil (cap : Nat) (w : World) :
    Calls Tryd.prog 77 #[.slice none 0 cap, .func (.func 78) #[] #[]] w fun e w' => e = .returned (.tuple #[]) ∧ w = w' := by
  have HI : Hid (∀ w, Calls Tryd.prog 145 #[.slice none 0 cap, .int .i64 0, .int .i64 0, .func (.func 78) #[] #[]] w fun e w' => e = .returned (.tuple #[]) ∧ w = w') := by
    show ∀ w, _
    intro w
    go_enter Tryd.func145, Tryd.ntmps145
    go_wp2
    refine wp_loop_rounds 1 ?_
    rw [rounds_succ]
    go_wp2
    go_end0
    exact ⟨rfl, rfl⟩
  have HS : Hid (∀ w, Calls Tryd.prog 113 #[.slice none 0 cap, .int .i64 0, .func (.func 78) #[] #[]] w fun e w' => e = .returned (.tuple #[]) ∧ w = w') := by
    show ∀ w, _
    intro w
    go_enter Tryd.func113, Tryd.ntmps113
    go_wp2
    refine wp_loop_rounds 1 ?_
    rw [rounds_succ]
    go_wp2_with fail
    refine (HI.out _).mono ?_
    rintro r w1 ⟨rfl, rfl⟩
    go_wp2
    refine wp_loop_rounds 1 ?_
    rw [rounds_succ]
    go_wp2
    go_end0
    exact ⟨rfl, rfl⟩
  go_enter Tryd.func77, Tryd.ntmps77
  go_wp2_with fail
  refine (HS.out _).mono ?_
  rintro r w1 ⟨rfl, rfl⟩
  go_wp2
  go_end0
  exact ⟨rfl, rfl⟩
end Go.Proofs.YtdpbedkppomffaaDoor
