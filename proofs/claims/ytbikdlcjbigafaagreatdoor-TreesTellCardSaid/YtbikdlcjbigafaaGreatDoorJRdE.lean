/-
  source: a text that is split; clocks, offsets.
-/
import Derived.RegionCalls
import Derived.Test.YtbikdlcjbigafaaGreatDoorJRdC
import Derived.Test.YtbikdlcjbigafaaGreatDoorJRdA
namespace Go.Proofs.YtbikdlcjbigafaaGreatDoor
set_option linter.unusedVariables false
set_option linter.unusedSimpArgs false
open Go.ChangeShapes Go.WideShapes Go.ChangeAt Go.RowKit Civ

/-- a text, cut at each c. -/
theorem splitK_spl (c : UInt8) : ∀ (n : Nat) (l : List UInt8), l.length ≤ n → Lib.splitK [c] 0 (Lib.count l [c]) l = splB c [] l
  | n, l, hn => by
    rw [spl_cut, ← cut_one]
    rcases ix_cases l [c] with e | ⟨k, e, hk⟩
    · rw [Lib.count_miss e, cut_none e]
      rfl
    · have hk' : k + 1 ≤ l.length := by simpa using hk
      rw [Lib.count_hit (by simp) e, cut_at e, Nat.add_comm]
      show (if Lib.index l [c] == -1 then _ else _) = _
      rw [if_neg (by rw [e]; simp), e]
      cases n with
      | zero => omega
      | succ n =>
        have ih := splitK_spl c n (l.drop (k + [c].length)) (by rw [List.length_drop, List.length_singleton]; omega)
        simp only [Int.toNat_natCast, Nat.add_zero, List.nil_append, if_true] at ih ⊢
        rw [ih]
theorem split_spl (s : ByteArray) (c : UInt8) : Lib.splitB ⟨#[c]⟩ 0 (Lib.countB s ⟨#[c]⟩) s = (splB c [] s.data.toList).map bx := by
  have h := Lib.splitB_data ⟨#[c]⟩ 0 (Lib.countB s ⟨#[c]⟩) s
  have h2 : Lib.splitK [c] 0 (Lib.count s.data.toList [c]) s.data.toList = splB c [] s.data.toList := splitK_spl c _ _ (Nat.le_refl _)
  have h3 : (Lib.splitB ⟨#[c]⟩ 0 (Lib.countB s ⟨#[c]⟩) s).map (fun x => x.data.toList) = splB c [] s.data.toList := h.trans h2
  rw [← h3, List.map_map]
  have : (bx ∘ fun x : ByteArray => x.data.toList) = id := funext fun x => bx_data x
  rw [this, List.map_id]
theorem split_any (s : ByteArray) (c : UInt8) (w : World) (hM : MxL w) (hs : s.size ≤ 1000000) :
    Calls Tryz.prog 45 #[.string s, .string ⟨#[c]⟩] w fun e w' => e = .returned (.slice (some ⟨w.heap.size, 0, none⟩) ((splB c [] s.data.toList).map bx).length ((splB c [] s.data.toList).map bx).length) ∧ w' = w.alloc (.cells (((splB c [] s.data.toList).map bx).map Value.string).toArray 9) := by
  obtain ⟨m, hm⟩ := hM.1
  refine (Sh.strings_Split s ⟨#[c]⟩ m w (by omega) hm (Nat.le_refl 1)).mono ?_
  rintro e w' ⟨rfl, rfl⟩
  have h1 := Lib.splitB_all ⟨#[c]⟩ (Nat.le_refl 1) 0 (Lib.countB s ⟨#[c]⟩) s rfl
  rw [split_spl] at h1 ⊢
  rw [← h1]
  exact ⟨rfl, rfl⟩
theorem colS_len (s : ByteArray) : 1 ≤ (colS s).length := by
  have := spl_ne 58 [] s.data.toList
  unfold colS
  rw [List.length_map]
  rcases h : splB 58 [] s.data.toList with _ | ⟨x, l⟩
  · exact absurd h this
  · simp
theorem spl_le (c : UInt8) : ∀ (l cur : List UInt8), ∀ x ∈ splB c cur l, x.length ≤ cur.length + l.length
  | [], cur, x, h => by
    obtain rfl := List.mem_singleton.1 h
    simp
  | a :: l, cur, x, h => by
    have e : splB c cur (a :: l) = if a = c then cur :: splB c [] l else splB c (cur ++ [a]) l := rfl
    rw [e] at h
    split at h
    · rcases List.mem_cons.1 h with rfl | h
      · simp
      · have := spl_le c l [] x h
        simp at this ⊢
        omega
    · have := spl_le c l (cur ++ [a]) x h
      simp at this ⊢
      omega
theorem colS_size (s : ByteArray) : ∀ x ∈ colS s, x.size ≤ s.size := by
  intro x hx
  obtain ⟨l, hl, rfl⟩ := List.mem_map.1 hx
  have := spl_le 58 _ _ l hl
  rw [bx_size]
  simpa using this
theorem hrsS_a {s : ByteArray} {most : Int} (h : 3 < (colS s).length) : hrsS s most = (0, 4) := by unfold hrsS; rw [if_pos h]
theorem hrsS_b {s a : ByteArray} {R : List ByteArray} {most : Int} (h : colS s = a :: R) (h3 : ¬ 3 < (colS s).length) (hE : (dcm (bl a) 999).2 ≠ 0) : hrsS s most = (0, (dcm (bl a) 999).2) := by
  unfold hrsS; rw [if_neg h3, h]; exact if_pos hE
theorem hrsS_c {s a : ByteArray} {R : List ByteArray} {most : Int} (h : colS s = a :: R) (h3 : ¬ 3 < (colS s).length) (hE : (dcm (bl a) 999).2 = 0) (hm : (minT R 60 (3600 * (dcm (bl a) 999).1)).2 = false) : hrsS s most = (0, 4) := by
  unfold hrsS; rw [if_neg h3, h]; show (if (dcm (bl a) 999).2 ≠ 0 then _ else _) = _; rw [if_neg (by simpa using hE)]; exact if_pos hm
theorem hrsS_d {s a : ByteArray} {R : List ByteArray} {most N : Int} (h : colS s = a :: R) (h3 : ¬ 3 < (colS s).length) (hE : (dcm (bl a) 999).2 = 0) (hm : minT R 60 (3600 * (dcm (bl a) 999).1) = (N, true)) : hrsS s most = if most < N then (0, 2) else (N, 0) := by
  unfold hrsS; rw [if_neg h3, h]; show (if (dcm (bl a) 999).2 ≠ 0 then _ else if (minT R 60 (3600 * (dcm (bl a) 999).1)).2 = false then _ else if most < (minT R 60 (3600 * (dcm (bl a) 999).1)).1 then (0, 2) else ((minT R 60 (3600 * (dcm (bl a) 999).1)).1, 0)) = _; rw [if_neg (by simpa using hE), hm]; rfl
theorem dcm_rng (s : ByteArray) (most : Int) (hm : 0 ≤ most) : 0 ≤ (dcm (bl s) most).1 ∧ (dcm (bl s) most).1 ≤ most := by
  rcases hb : dcmBad (bl s) with _ | _
  · by_cases h : most < dval (bl s)
    · rw [dcm_big hb h]; exact ⟨by decide, hm⟩
    · rw [dcm_val hb h]; exact ⟨(dcm_ok (l := s.data.toList) (most := 0) hb).2.1, by show dval (bl s) ≤ most; omega⟩
  · rw [dcm_bad hb]; exact ⟨by decide, hm⟩
/-- the cells of a row of texts. -/
theorem StrB_cell {wx : World} {B : Nat} {cs : List ByteArray} (h : BxO wx B (cs.map Value.string).toArray 9) (k : Nat) (hk : k < cs.length) : wx.cell? ⟨B, k, none⟩ = some (.string cs[k]) := by
  rw [h.cell]
  simp [hk]
theorem twoV_bd {s : ByteArray} (h : twoB s = true) : 0 ≤ twoV s ∧ twoV s ≤ 59 := by
  unfold twoB at h
  simp only [Bool.and_eq_true, decide_eq_true_iff] at h
  obtain ⟨⟨-, h1, h2⟩, h3⟩ := h
  have := digB_bd h3
  unfold twoV
  omega
set_option maxRecDepth 100000 in
set_option maxHeartbeats 2000000 in
theorem sclock_any (s : ByteArray) (most : Int) (w : World) (hV : SrV w) (hs : s.size ≤ 1000000) :
    Calls Tryz.prog 164 #[.string s, .int .i64 most] w fun e w' => e = PnE (hrsS s most).2 (.int .i64 (hrsS s most).1) ∧ Below w.heap.size w w' := by
  have HSP := Lib.hid (split_any s 58 w hV.mx hs)
  rw [show (splB 58 [] s.data.toList).map bx = colS s from rfl] at HSP
  have hl1 := colS_len s
  have HSZ := Lib.hid (colS_size s)
  have HS := Lib.hid hs
  obtain ⟨W1, hW1⟩ : ∃ W1, W1 = w.alloc (.cells ((colS s).map Value.string).toArray 9) := ⟨_, rfl⟩
  have HB1 : Hid (Below w.heap.size w W1) := by show Below _ _ _; rw [hW1]; exact (Below.refl _ _).alloc (Nat.le_refl _) _
  have HX1 : Hid (BxO W1 w.heap.size ((colS s).map Value.string).toArray 9) := by show BxO _ _ _ _; rw [hW1]; exact BxO.new _ _ _
  rw [← hW1] at HSP
  clear hW1 hV hs
  have hz1 : w.heap.size < W1.heap.size := HX1.out.lt
  by_cases h3 : 3 < (colS s).length
  · have HD : Hid (hrsS s most = (0, 4)) := hrsS_a h3
    have h3' : decide (((colS s).length : Int) ≤ 3) = false := decide_eq_false (by omega)
    clear h3
    go_enter Tryz.func164, Tryz.ntmps164
    go_wp2_with fail
    refine HSP.out.mono ?_; rintro e w' ⟨rfl, rfl⟩
    go_wp2_with fail
    refine (need_no _ _).mono ?_; rintro e w' ⟨rfl, rfl⟩
    go_wp2
    exact ⟨rfl, by rw [HD.out]; rfl, HB1.out⟩
  · have h3' : decide (((colS s).length : Int) ≤ 3) = true := decide_eq_true (by omega)
    have h3n : (colS s).length ≤ 3 := by omega
    have H3 := Lib.hid h3
    obtain ⟨a, R, hc⟩ : ∃ a R, colS s = a :: R := by
      rcases h : colS s with _ | ⟨a, R⟩
      · rw [h] at hl1; simp at hl1
      · exact ⟨a, R, rfl⟩
    have HC := Lib.hid hc
    have hRl : (colS s).length = R.length + 1 := by rw [hc]; rfl
    have ca : W1.cell? ⟨w.heap.size, 0, none⟩ = some (.string a) := by
      have := StrB_cell HX1.out 0 (by omega)
      rw [this]
      simp [hc]
    have HR : Hid (∀ k (h : k < R.length), W1.cell? ⟨w.heap.size, 1 + k, none⟩ = some (.string R[k])) := fun k h => by
      have := StrB_cell HX1.out (1 + k) (by omega)
      rw [this]
      simp [hc, Nat.add_comm 1 k]
    have HRZ : Hid (∀ x ∈ R, x.size ≤ maxLen) := fun x hx => by have := HSZ.out x (by rw [hc]; exact List.mem_cons_of_mem _ hx); have := HS.out; unfold maxLen; omega
    have HNM := Lib.hid (fun wx => number_any a 999 wx (by have := HSZ.out a (by rw [hc]; simp); have := HS.out; unfold maxLen; omega))
    obtain ⟨r0, r1⟩ := dcm_rng a 999 (by decide)
    have HHB : Hid ((dcm (bl a) 999).2 ≠ 0 → hrsS s most = (0, (dcm (bl a) 999).2)) := fun hE => hrsS_b HC.out H3.out hE
    have HHC : Hid ((dcm (bl a) 999).2 = 0 → (minT R 60 (3600 * (dcm (bl a) 999).1)).2 = false → hrsS s most = (0, 4)) := fun hE hm => hrsS_c HC.out H3.out hE hm
    have HHD : Hid (∀ N, (dcm (bl a) 999).2 = 0 → minT R 60 (3600 * (dcm (bl a) 999).1) = (N, true) → hrsS s most = if most < N then (0, 2) else (N, 0)) := fun N hE hm => hrsS_d HC.out H3.out hE hm
    clear h3 hc
    obtain ⟨n, hn⟩ : ∃ n, n = (colS s).length := ⟨_, rfl⟩
    rw [← hn] at HSP hRl hl1 h3' h3n
    clear hn
    generalize dcm (bl a) 999 = D at *
    obtain ⟨v, E⟩ := D
    dsimp only at HNM r0 r1 HHB HHC HHD
    by_cases hE : E = 0
    · subst hE
      have tw3 : IntKind.i64.wrap (v * 3600) = v * 3600 := IntWalk.i64_in _ (by omega)
      rcases R with _ | ⟨b, R⟩
      · obtain rfl : n = 1 := hRl
        have HD := Lib.hid (HHD.out (3600 * v) rfl rfl)
        clear HHB HHC HHD HR HRZ
        go_enter Tryz.func164, Tryz.ntmps164
        go_wp2_with fail
        refine HSP.out.mono ?_; rintro e w' ⟨rfl, rfl⟩
        go_wp2_with fail
        refine (need_yes _ _).mono ?_; rintro e w' ⟨rfl, rfl⟩
        go_wp2_with fail
        refine (HNM.out _).mono ?_; rintro e w2 ⟨he, hb2⟩
        rw [PnE_ok rfl] at he
        subst he
        go_wp2_with fail
        go_loopw [6, 23] (fun t i wr => t = .int .i64 (v * 3600) ∧ i = .int .i64 0 ∧ wr = w2) (fun _ _ _ => 0)
        case atStart => exact ⟨rfl, rfl, rfl⟩
        case round =>
          obtain ⟨rfl, rfl, rfl⟩ := hrel
          by_cases hm : most < 3600 * v
          · have HD2 : Hid (hrsS s most = (0, 2)) := HD.out.trans (if_pos hm)
            have hmd : decide (v * 3600 ≤ most) = false := decide_eq_false (by omega)
            clear hm HD
            go_wp2_with fail
            refine (need_no _ _).mono ?_; rintro e w' ⟨rfl, rfl⟩
            go_wp2
            exact ⟨rfl, by rw [HD2.out]; rfl, HB1.out.trans (hb2.mono HB1.out.size)⟩
          · have HD2 : Hid (hrsS s most = (3600 * v, 0)) := HD.out.trans (if_neg hm)
            have hmd : decide (v * 3600 ≤ most) = true := decide_eq_true (by omega)
            clear hm HD
            go_wp2_with fail
            refine (need_yes _ _).mono ?_; rintro e w' ⟨rfl, rfl⟩
            go_wp2
            go_ret
            exact ⟨by rw [HD2.out, PnE_ok rfl]; exact ret_int (by omega), HB1.out.trans (hb2.mono HB1.out.size)⟩
      · obtain ⟨L, hL⟩ : ∃ L, L = b :: R := ⟨_, rfl⟩
        rw [← hL] at hRl HR HRZ HHC HHD
        have hLl : n = 2 ∧ L.length ≤ 1 ∧ 1 ≤ L.length ∨ n = 3 ∧ L.length ≤ 2 ∧ 2 ≤ L.length := by
          rw [hL] at hRl ⊢
          simp only [List.length_cons] at hRl ⊢
          omega
        clear hL hRl hl1 h3n h3' HHB
        rcases hLl with ⟨rfl, l1, l2⟩ | ⟨rfl, l1, l2⟩
        all_goals
          go_enter Tryz.func164, Tryz.ntmps164
          go_wp2_with fail
          refine HSP.out.mono ?_; rintro e w' ⟨rfl, rfl⟩
          go_wp2_with fail
          refine (need_yes _ _).mono ?_; rintro e w' ⟨rfl, rfl⟩
          go_wp2_with fail
          refine (HNM.out _).mono ?_; rintro e w2 ⟨he, hb2⟩
          rw [PnE_ok rfl] at he
          subst he
          have HB2 := Lib.hid hb2
          clear hb2 ca HNM HSP
          go_wp2_with fail
          clear hz1
          go_loopw [6, 23] (fun t i wr => ∃ (k : Nat) (N : Int), k ≤ L.length ∧ i = .int .i64 k ∧ t = .int .i64 N ∧ 0 ≤ N ∧ N ≤ 4000000 + 4000 * (k : Int) ∧ Hid (minT (L.drop k) (if k = 0 then 60 else 1) N = minT L 60 (3600 * v)) ∧ Hid (Below w'.heap.size w' wr)) (fun _ i _ => (L.length - intOf i).toNat)
          case atStart => exact ⟨0, v * 3600, by omega, rfl, rfl, by omega, by omega, by show minT L 60 (v * 3600) = _; rw [Int.mul_comm], HB2⟩
          case round =>
            obtain ⟨k, N, hk, rfl, rfl, hN0, hN1, HMT, HBR⟩ := hrel
            by_cases hlt : k < L.length
            · have cx : wr.cell? ⟨w.heap.size, 1 + k, none⟩ = some (.string L[k]) := (HBR.out.cell (p := ⟨w.heap.size, 1 + k, none⟩) HX1.out.lt).trans (HR.out k hlt)
              have hx := HRZ.out L[k] (List.getElem_mem hlt)
              have HTW := Lib.hid (fun wx => two_any L[k] wx hx)
              have HDR : Hid (L.drop k = L[k] :: L.drop (k + 1)) := List.drop_eq_getElem_cons hlt
              generalize L[k] = x at *
              clear hx
              rcases htb : twoB x with _ | _
              · have HTE : Hid (twoE x = 4) := twoE_no htb
                have HD : Hid (hrsS s most = (0, 4)) := by
                  refine HHC.out trivial ?_
                  rw [← HMT.out, HDR.out]
                  show (if twoB x = true then _ else ((0 : Int), false)).2 = false
                  rw [htb]
                  rfl
                have HTP : Hid (∀ wx, Calls Tryz.prog 187 #[.string x] wx fun e w' => e = .panicked (fltC 4) ∧ Below wx.heap.size wx w') := fun wx => (HTW.out wx).mono fun e w' ⟨h1, h2⟩ => ⟨by rw [h1, HTE.out, PnE_no (by decide)], h2⟩
                have HBW : Hid (Below w.heap.size w wr) := HB1.out.trans (HBR.out.mono HB1.out.size)
                clear htb HTW HMT HDR HHC HHD
                rcases (show k = 0 ∨ k = 1 by omega) with rfl | rfl
                · skip
                  go_wp2_with fail
                  go_region_with ((go_at_call 187; refine calls_fake (.int .i64 0) (HTP.out _) (fun w9 hb9 => ?_) (fun hF => ?_); exact ⟨rfl, by rw [HD.out]; rfl, by first | exact HBW.out.drew.trans (hb9.mono HBW.out.size) | exact (HBW.out.alloc HBW.out.size _).drew.trans (hb9.mono (HBW.out.alloc HBW.out.size _).size)⟩))
                  all_goals exact (‹Hid False› : Hid False).out.elim
                · try (exact absurd hlt (by omega))
                  all_goals
                    go_wp2_with fail
                    go_region_with ((go_at_call 187; refine calls_fake (.int .i64 0) (HTP.out _) (fun w9 hb9 => ?_) (fun hF => ?_); exact ⟨rfl, by rw [HD.out]; rfl, by first | exact HBW.out.drew.trans (hb9.mono HBW.out.size) | exact (HBW.out.alloc HBW.out.size _).drew.trans (hb9.mono (HBW.out.alloc HBW.out.size _).size)⟩))
                    all_goals exact (‹Hid False› : Hid False).out.elim
              · have HTE : Hid (twoE x = 0) := twoE_yes htb
                have HTB := Lib.hid htb
                obtain ⟨V, hV⟩ : ∃ V, twoV x = V := ⟨_, rfl⟩
                have hVB : 0 ≤ V ∧ V ≤ 59 := by
                  rw [← hV]
                  exact twoV_bd htb
                obtain ⟨hV0, hV1⟩ := hVB
                have HVV := Lib.hid hV
                have HTO : Hid (∀ wx, Calls Tryz.prog 187 #[.string x] wx fun e w' => e = .returned (.int .i64 V) ∧ Below wx.heap.size wx w') := fun wx => (HTW.out wx).mono fun e w' ⟨h1, h2⟩ => ⟨by rw [h1, HTE.out, PnE_ok rfl, HVV.out], h2⟩
                clear htb HTW HHC hV
                rcases (show k = 0 ∨ k = 1 by omega) with rfl | rfl
                · skip
                  have HMT2 : Hid (minT (L.drop (0 + 1)) (if 0 + 1 = 0 then 60 else 1) (N + V * 60) = minT L 60 (3600 * v)) := by
                    have h := HMT.out
                    rw [HDR.out] at h
                    show _ = _
                    rw [← h]
                    show _ = if twoB x = true then minT (L.drop (0 + 1)) 1 (N + 60 * twoV x) else (0, false)
                    rw [HTB.out, if_pos rfl, HVV.out, Int.mul_comm 60 V]
                    rfl
                  have tw1 : IntKind.i64.wrap (V * 60) = V * 60 := IntWalk.i64_in _ (by omega)
                  have tw2 : IntKind.i64.wrap (N + V * 60) = N + V * 60 := IntWalk.i64_in _ (by omega)
                  go_wp2_with fail
                  go_region_with ((go_at_call 187; refine (HTO.out _).mono ?_; rintro e w9 ⟨rfl, hb9⟩; have HB9 : Hid (Below w'.heap.size w' w9) := (by first | exact HBR.out.drew.trans (hb9.mono HBR.out.size) | exact (HBR.out.alloc HBR.out.size _).drew.trans (hb9.mono (HBR.out.alloc HBR.out.size _).size)); (try (have OG : BxO w9 wr.heap.size #[.int .i64 60, .int .i64 1] 3 := (hb9.block _ (BxO.new wr #[.int .i64 60, .int .i64 1] 3).lt).trans (BxO.new wr #[.int .i64 60, .int .i64 1] 3); have y0 : w9.cell? ⟨wr.heap.size, 0, none⟩ = some (.int .i64 60) := OG.cell 0; have y1 : w9.cell? ⟨wr.heap.size, 1, none⟩ = some (.int .i64 1) := OG.cell 1; clear OG)); clear hb9))
                  all_goals
                    go_wp2
                    go_roundw
                    case rel => exact ⟨0 + 1, N + V * 60, by omega, by go_num, rfl, by omega, by omega, HMT2, by first | exact HB9 | exact HB9.out.alloc HB9.out.size _⟩
                    case measure => simp [intOf]; omega
                · try (exact absurd hlt (by omega))
                  all_goals
                    have HMT2 : Hid (minT (L.drop (1 + 1)) (if 1 + 1 = 0 then 60 else 1) (N + V) = minT L 60 (3600 * v)) := by
                      have h := HMT.out
                      rw [HDR.out] at h
                      show _ = _
                      rw [← h]
                      show _ = if twoB x = true then minT (L.drop (1 + 1)) 1 (N + 1 * twoV x) else (0, false)
                      rw [HTB.out, if_pos rfl, HVV.out, Int.one_mul]
                      rfl
                    have tw2 : IntKind.i64.wrap (N + V) = N + V := IntWalk.i64_in _ (by omega)
                    have tw1 : IntKind.i64.wrap V = V := IntWalk.i64_in _ (by omega)
                    go_wp2_with fail
                    go_region_with ((go_at_call 187; refine (HTO.out _).mono ?_; rintro e w9 ⟨rfl, hb9⟩; have HB9 : Hid (Below w'.heap.size w' w9) := (by first | exact HBR.out.drew.trans (hb9.mono HBR.out.size) | exact (HBR.out.alloc HBR.out.size _).drew.trans (hb9.mono (HBR.out.alloc HBR.out.size _).size)); (try (have OG : BxO w9 wr.heap.size #[.int .i64 60, .int .i64 1] 3 := (hb9.block _ (BxO.new wr #[.int .i64 60, .int .i64 1] 3).lt).trans (BxO.new wr #[.int .i64 60, .int .i64 1] 3); have y0 : w9.cell? ⟨wr.heap.size, 0, none⟩ = some (.int .i64 60) := OG.cell 0; have y1 : w9.cell? ⟨wr.heap.size, 1, none⟩ = some (.int .i64 1) := OG.cell 1; clear OG)); clear hb9))
                    all_goals
                      go_wp2
                      go_roundw
                      case rel => exact ⟨1 + 1, N + V, by omega, by go_num, rfl, by omega, by omega, HMT2, by first | exact HB9 | exact HB9.out.alloc HB9.out.size _⟩
                      case measure => simp [intOf]; omega
            · obtain rfl : k = L.length := by omega
              have HDD : Hid (minT L 60 (3600 * v) = (N, true)) := by
                show _ = _
                rw [← HMT.out, List.drop_length]
                rfl
              have HD := Lib.hid (HHD.out N trivial HDD.out)
              have hnl : ¬ ((L.length : Int) < 1) ∧ True := ⟨by omega, trivial⟩
              by_cases hm : most < N
              · have HD2 : Hid (hrsS s most = (0, 2)) := HD.out.trans (if_pos hm)
                have hmd : decide (N ≤ most) = false := decide_eq_false (by omega)
                clear hm HD
                go_wp2_with fail
                refine (need_no _ _).mono ?_; rintro e w' ⟨rfl, rfl⟩
                go_wp2
                exact ⟨rfl, by rw [HD2.out]; rfl, HB1.out.trans (HBR.out.mono HB1.out.size)⟩
              · have HD2 : Hid (hrsS s most = (N, 0)) := HD.out.trans (if_neg hm)
                have hmd : decide (N ≤ most) = true := decide_eq_true (by omega)
                clear hm HD
                go_wp2_with fail
                refine (need_yes _ _).mono ?_; rintro e w' ⟨rfl, rfl⟩
                go_wp2
                go_ret
                exact ⟨by rw [HD2.out]; rfl, HB1.out.trans (HBR.out.mono HB1.out.size)⟩
    · have HD := Lib.hid (HHB.out hE)
      clear hRl
      clear HHB HHC HHD
      go_enter Tryz.func164, Tryz.ntmps164
      go_wp2_with fail
      refine HSP.out.mono ?_; rintro e w' ⟨rfl, rfl⟩
      go_wp2_with fail
      refine (need_yes _ _).mono ?_; rintro e w' ⟨rfl, rfl⟩
      go_wp2_with fail
      refine (HNM.out _).mono ?_; rintro e w2 ⟨he, hb2⟩
      rw [PnE_no hE] at he
      subst he
      go_wp2
      exact ⟨rfl, by rw [HD.out, PnE_no hE], HB1.out.trans (hb2.mono HB1.out.size)⟩
end Go.Proofs.YtbikdlcjbigafaaGreatDoor
