/-
  sundialref.clockOf: the walk.
-/
import Derived.BigRegion
import Derived.Test.YtdpbedkppomffaaGreatDoorAtB
namespace Go.Proofs.YtdpbedkppomffaaGreatDoor
set_option linter.unusedVariables false
set_option linter.unusedSimpArgs false
open Go.ChangeShapes Go.WideShapes Go.ChangeAt Go.RowKit Civ

theorem get_at (s : ByteArray) (k : Nat) (h : k < s.size) : s.data.toList[k]? = some s[k] := by simp [h]; rfl
theorem ext_to (s : ByteArray) (k : Nat) : s.extract 0 k = ⟨(s.data.toList.take k).toArray⟩ := bytes_eq (by rw [ext_take])
theorem ext_from (s : ByteArray) (k : Nat) : s.extract k s.size = ⟨(s.data.toList.drop k).toArray⟩ := bytes_eq (by rw [ext_drop])
set_option maxHeartbeats 4000000 in
set_option maxRecDepth 100000 in
theorem clockOf_any (x : Ero) (sv : Int) (lt : ByteArray) (w : World) (hc : COk x sv lt) :
    Calls Tryz.prog 43 #[.agg #[.int .i64 x.off, .string x.rl, .int .i64 x.sv, .string x.fm, .bool x.en, .int .i64 x.yr, .int .i64 x.un.mo, .int .i64 x.un.k, .int .i64 x.un.a, .int .i64 x.un.n, .int .i64 x.un.t, .int .i64 x.un.c], .int .i64 sv, .string lt] w fun e w' => e = .returned (.agg #[.int .i64 (clkE x (sv, lt)).off, .bool (clkE x (sv, lt)).sav, .string (clkE x (sv, lt)).nm]) ∧ Below w.heap.size w w' := by
  obtain ⟨hf, ho, hs, hl⟩ := hc
  have h12 : x.fm.size ≤ 12 := by have := (fmt_len hf).2; simp at this; omega
  obtain ⟨S, hS⟩ : ∃ S, (sv != 0) = S := ⟨_, rfl⟩
  have HS : Hid ((!decide (sv = 0)) = S) := by show _ = _; rw [← hS]; by_cases e : sv = 0 <;> simp [e]
  obtain ⟨W1, hW1⟩ : ∃ W1, W1 = ((w.alloc (.cells #[.int .i64 x.off, .string x.rl, .int .i64 x.sv, .string x.fm, .bool x.en, .int .i64 x.yr, .int .i64 x.un.mo, .int .i64 x.un.k, .int .i64 x.un.a, .int .i64 x.un.n, .int .i64 x.un.t, .int .i64 x.un.c] 62)).alloc (.cells #[.int .i64 0, .bool false, .string ⟨#[]⟩] 28)).alloc (.cells #[.int .i64 (x.off + sv), .bool S, .string ⟨#[]⟩] 28) := ⟨_, rfl⟩
  have HC : Hid (CkB w W1 x (w.heap.size + 2) (x.off + sv) S ⟨#[]⟩) := by
    show CkB _ _ _ _ _ _ _
    rw [hW1]
    have h0 := (BxO.new w #[.int .i64 x.off, .string x.rl, .int .i64 x.sv, .string x.fm, .bool x.en, .int .i64 x.yr, .int .i64 x.un.mo, .int .i64 x.un.k, .int .i64 x.un.a, .int .i64 x.un.n, .int .i64 x.un.t, .int .i64 x.un.c] 62).alloc (.cells #[.int .i64 0, .bool false, .string ⟨#[]⟩] 28)
    have h1 := BxO.new (w.alloc (.cells #[.int .i64 x.off, .string x.rl, .int .i64 x.sv, .string x.fm, .bool x.en, .int .i64 x.yr, .int .i64 x.un.mo, .int .i64 x.un.k, .int .i64 x.un.a, .int .i64 x.un.n, .int .i64 x.un.t, .int .i64 x.un.c] 62)) #[.int .i64 0, .bool false, .string ⟨#[]⟩] 28
    rw [size_alloc] at h1
    have h2 := CkB.made (w := w) (x := x) (O := x.off + sv) (S := S) (N := ⟨#[]⟩) (h0.cell 3) h1 (below_alloc2 (Nat.le_refl _) _ _)
    rw [size_alloc, size_alloc] at h2
    exact h2
  have HW := Lib.hid hW1
  have HF := Lib.hid hf
  have HL := Lib.hid hl
  have HG : Hid (∀ (k : Nat) (h : k < x.fm.size), x.fm.data.toList[k]? = some x.fm[k]) := fun k h => get_at x.fm k h
  have HN : Hid (∀ k : Nat, x.fm.size ≤ k → x.fm.data.toList[k]? = none) := fun k h => by simp [h]
  have tw : IntKind.i64.wrap (x.off + sv) = x.off + sv := IntWalk.i64_in _ (by omega)
  have k3 : W1.cell? ⟨w.heap.size, 3, none⟩ = some (.string x.fm) := HC.out.f
  obtain ⟨c0, c1, c2, d0, d1, d2, f0, f1, f2, z1, zl, z2, z3⟩ := HC.out.facts
  clear hW1 hf hl
  go_enter Tryz.func43, Tryz.ntmps43
  go_upto_region 2 with fail
  rw [← HW.out]
  clear HW
  go_wp2_with fail
  go_loopw [8] (fun t wr => ∃ k : Nat, k ≤ x.fm.size ∧ t = .int .i64 k ∧ W1 = wr ∧ Hid (∀ i, i < k → x.fm.data.toList[i]? ≠ some 47)) (fun t _ => (x.fm.size - intOf t).toNat)
  case atStart => exact ⟨0, by omega, rfl, rfl, fun i h => by omega⟩
  case round =>
    obtain ⟨k, hk, rfl, rfl, hn⟩ := hrel
    by_cases hlt : k < x.fm.size
    · have hlt' : (k : Int) < (x.fm.size : Int) := by omega
      have hnx := HG.out k hlt
      by_cases h47 : x.fm[k] = 47
      · have hx : x.fm.data.toList[k]? = some 47 := by rw [hnx, h47]
        have HD : Hid (clkE x (sv, lt) = ⟨x.off + sv, S, if S then x.fm.extract (k + 1) x.fm.size else x.fm.extract 0 k⟩) := by
          show _ = _
          unfold clkE
          rw [fmtN_slash (ix1_at hx fun i hi => hn.out i hi), HS.out, ext_to, ext_from]
          cases S <;> rfl
        clear hx hnx hn
        cases S with
        | false =>
          go_wp2
          refine bodyPost_ret (v := .agg #[.int .i64 (x.off + sv), .bool false, .string (x.fm.extract 0 k)]) (by simp [results, Tryz.results43, go_sem, c0, c1, c2, d0, d1, d2, zl, z2, z3]) rfl ⟨by rw [HD.out]; rfl, (HC.out.nm _).done _ _ _⟩
        | true =>
          go_wp2
          refine bodyPost_ret (v := .agg #[.int .i64 (x.off + sv), .bool true, .string (x.fm.extract (k + 1) x.fm.size)]) (by simp [results, Tryz.results43, go_sem, c0, c1, c2, d0, d1, d2, zl, z2, z3]) rfl ⟨by rw [HD.out]; rfl, (HC.out.nm _).done _ _ _⟩
      · have hn' : Hid (∀ i, i < k + 1 → x.fm.data.toList[i]? ≠ some 47) := fun i hi => by
          by_cases e : i = k
          · subst e; rw [hnx]; simpa using h47
          · exact hn.out i (by omega)
        have h48 := byte_ne 47 h47 rfl
        clear hnx
        go_wp2_with fail
        go_roundw
        case rel => exact ⟨k + 1, by omega, by go_num, trivial, hn'⟩
        case measure => simp [intOf]; omega
    · have HX : Hid (Lib.index x.fm.data.toList [47] = -1) := ix1_none fun i => by
        by_cases e : i < x.fm.size
        · exact hn.out i (by omega)
        · rw [HN.out i (by omega)]; simp
      clear hn
      go_wp2_with fail
      go_loopw [9] (fun t wr => ∃ q : Nat, q ≤ x.fm.size ∧ t = .int .i64 q ∧ W1 = wr ∧ Hid (∀ i, i < q → x.fm.data.toList[i]? ≠ some 37)) (fun t _ => (x.fm.size - intOf t).toNat)
      case atStart => exact ⟨0, by omega, rfl, rfl, fun i h => by omega⟩
      case round =>
        obtain ⟨q, hq, rfl, rfl, hm⟩ := hrel
        by_cases hlq : q < x.fm.size
        · have hlq' : (q : Int) < (x.fm.size : Int) := by omega
          have hnx := HG.out q hlq
          by_cases h37 : x.fm[q] = 37
          · have hx : x.fm.data.toList[q]? = some 37 := by rw [hnx, h37]
            obtain ⟨hq2, HD⟩ : q + 2 ≤ x.fm.size ∧ Hid (clkE x (sv, lt) = ⟨x.off + sv, S, (x.fm.extract 0 q ++ lt) ++ x.fm.extract (q + 2) x.fm.size⟩) := by
              rcases fmt_cases HF.out with ⟨k, e, -⟩ | ⟨-, -, k, e, hk2, hk3, hk4⟩ | ⟨-, -, -, e2⟩
              · rw [HX.out] at e; cases e
              · have hkq : k = q := by
                  rcases Nat.lt_trichotomy k q with h | h | h
                  · exact absurd hk3 (hm.out k h)
                  · exact h
                  · exact absurd hx (hk4 q h)
                subst hkq
                refine ⟨by simpa using hk2, ?_⟩
                show _ = _
                unfold clkE
                rw [fmtN_mark HX.out e, HS.out]
                refine congrArg _ (bytes_eq ?_).symm
                rw [ByteArray.data_append, Array.toList_append, ByteArray.data_append, Array.toList_append, ext_take, ext_drop, List.append_assoc]
              · exact absurd hx (e2 q)
            clear hx hnx hm
            have hq3 : (q : Int) + 2 ≤ (x.fm.size : Int) := by omega
            have he1 : (x.fm.extract 0 q).size = q := by simp; omega
            have he2 : (x.fm.extract (q + 2) x.fm.size).size ≤ 12 := by simp; omega
            have ca := fun w1 : World => run_string_add_sum (P := Tryz.prog) w1 (x.fm.extract 0 q) lt (by have := HL.out; omega)
            have cb := fun w1 : World => run_string_add_sum (P := Tryz.prog) w1 (x.fm.extract 0 q ++ lt) (x.fm.extract (q + 2) x.fm.size) (by have := HL.out; rw [ByteArray.size_append]; omega)
            clear he1 he2
            obtain ⟨A, hA⟩ : ∃ A, x.fm.extract 0 q = A := ⟨_, rfl⟩
            obtain ⟨B, hB⟩ : ∃ B, x.fm.extract (q + 2) x.fm.size = B := ⟨_, rfl⟩
            rw [hA, hB] at HD cb
            rw [hA] at ca
            obtain ⟨C, hC⟩ : ∃ C, A ++ lt = C := ⟨_, rfl⟩
            rw [hC] at HD ca cb
            obtain ⟨D, hD⟩ : ∃ D, C ++ B = D := ⟨_, rfl⟩
            rw [hD] at HD cb
            go_upto_region 14 with fail
            go_cut [] (fun wx => Hid (CkB w wx x (w.heap.size + 2) (x.off + sv) S D))
            case first =>
              go_region
              all_goals
                go_wp2_with fail
                go_meet
                exact (HC.out.nm _).low (below_draws (Below.refl _ _) _)
            case rest =>
              clear c0 c1 c2 d0 d1 d2 f0 f1 f2 z1 zl z2 z3 k3 ca cb
              have HC2 := hcut
              obtain ⟨c0, c1, c2, d0, d1, d2, f0, f1, f2, z1, zl, z2, z3⟩ := HC2.out.facts
              go_wp2
              refine bodyPost_ret (v := .agg #[.int .i64 (x.off + sv), .bool S, .string D]) (by simp [results, Tryz.results43, go_sem, c0, c1, c2, d0, d1, d2, zl, z2, z3]) rfl ⟨by rw [HD.out], HC2.out.done _ _ _⟩
          · have hm' : Hid (∀ i, i < q + 1 → x.fm.data.toList[i]? ≠ some 37) := fun i hi => by
              by_cases e : i = q
              · subst e; rw [hnx]; simpa using h37
              · exact hm.out i (by omega)
            have h48 := byte_ne 37 h37 rfl
            clear hnx
            go_wp2_with fail
            go_roundw
            case rel => exact ⟨q + 1, by omega, by go_num, trivial, hm'⟩
            case measure => simp [intOf]; omega
        · have HD : Hid (clkE x (sv, lt) = ⟨x.off + sv, S, x.fm⟩) := by
            show _ = _
            unfold clkE
            have hp : ∀ i : Nat, x.fm.data.toList[i]? ≠ some 37 := fun i => by
              by_cases e : i < x.fm.size
              · exact hm.out i (by omega)
              · rw [HN.out i (by omega)]; simp
            rcases fmt_cases HF.out with ⟨k, e, -⟩ | ⟨-, -, k, e, -, h, -⟩ | ⟨e, -, e2, -⟩
            · rw [HX.out] at e; cases e
            · exact absurd h (hp k)
            · rw [fmtN_plain e e2, HS.out]
          clear hm
          go_wp2
          refine bodyPost_ret (v := .agg #[.int .i64 (x.off + sv), .bool S, .string x.fm]) (by simp [results, Tryz.results43, go_sem, c0, c1, c2, d0, d1, d2, zl, z2, z3]) rfl ⟨by rw [HD.out], (HC.out.nm _).done _ _ _⟩
end Go.Proofs.YtdpbedkppomffaaGreatDoor
