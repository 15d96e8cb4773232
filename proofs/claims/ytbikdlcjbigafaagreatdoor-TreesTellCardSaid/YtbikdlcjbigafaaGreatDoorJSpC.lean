/-
  zones.spans: the walk.
-/
import Derived.Test.YtbikdlcjbigafaaGreatDoorJSpB
import Derived.Test.YtbikdlcjbigafaaGreatDoorJSrtZ
namespace Go.Proofs.YtbikdlcjbigafaaGreatDoor
set_option linter.unusedVariables false
set_option linter.unusedSimpArgs false
open Go.ChangeShapes Go.WideShapes Go.ChangeAt Go.RowKit Civ

/-- boxes of other types are as they were. -/
def KpN (w w' : World) : Prop := ∀ (b : Nat) (cs : Array Value) (t : TypeId), BxO w b cs t → t ≠ 39 → BxO w' b cs t
theorem spnI_fold {rules : List Rul} {x : Ero} {lo hi : Int} (h : lo < hi) (l : List Spn) : spnI rules x lo hi l = (lo :: chgI rules x lo hi).foldl (addP (clkI rules x)) l := by
  unfold spnI ptsI
  rw [if_pos h]
theorem foldP_len (C : Int → Clk) : ∀ (P : List Int) (l : List Spn), (P.foldl (addP C) l).length ≤ l.length + P.length
  | [], l => by simp
  | t :: P, l => by
    have h1 := foldP_len C P (addP C l t)
    have h2 := addQ_len l t (C t)
    rw [← addP_q] at h2
    rw [List.foldl_cons, List.length_cons]
    omega
/-- the turns within the window, of the first so many. -/
def atK (lo hi : Int) (T : List Trn) (k : Nat) : List Int := ((T.take k).map Trn.ins).filter (fun t => decide (lo < t) && decide (t < hi))
theorem atK_succ {lo hi : Int} {T : List Trn} {k : Nat} (h : k < T.length) : atK lo hi T (k + 1) = if lo < T[k].ins ∧ T[k].ins < hi then atK lo hi T k ++ [T[k].ins] else atK lo hi T k := by
  unfold atK
  rw [List.take_succ_eq_append_getElem h, List.map_append, List.filter_append]
  by_cases h1 : lo < T[k].ins ∧ T[k].ins < hi
  · rw [if_pos h1]
    simp [h1]
  · rw [if_neg h1]
    have : (decide (lo < T[k].ins) && decide (T[k].ins < hi)) = false := by
      rw [Bool.and_eq_false_iff, decide_eq_false_iff_not, decide_eq_false_iff_not]
      by_cases h2 : lo < T[k].ins
      · exact .inr fun h3 => h1 ⟨h2, h3⟩
      · exact .inl h2
    simp [this]
theorem atK_len (lo hi : Int) (T : List Trn) (k : Nat) : (atK lo hi T k).length ≤ T.length := by
  unfold atK
  refine Nat.le_trans (List.length_filter_le _ _) ?_
  rw [List.length_map, List.length_take]
  omega
/-- what zones.spans begins with. -/
structure SpS (w wx : World) (vr vz vl vo : Value) (x : Ero) (D : Nat) (l : List Spn) : Prop where
  o : BxO wx w.heap.size #[vo] 31
  s : BxO wx (w.heap.size + 1) #[vr, vz, vl] 28
  e : BxO wx (w.heap.size + 1 + 1) #[.int .i64 x.off, .string x.rl, .int .i64 x.sv, .string x.fm, .bool x.en, .int .i64 x.yr, .int .i64 x.un.mo, .int .i64 x.un.k, .int .i64 x.un.a, .int .i64 x.un.n, .int .i64 x.un.t, .int .i64 x.un.c] 68
  r : wx.ownsRow D 39 4 vo l.length (l.flatMap encQ)
  b : Below w.heap.size w wx
theorem SpS.next {w wx w' : World} {vr vz vl vo : Value} {x : Ero} {D : Nat} {l : List Spn} (h : SpS w wx vr vz vl vo x D l) (hb : Below wx.heap.size wx w') : SpS w w' vr vz vl vo x D l :=
  ⟨(hb.block _ h.o.lt).trans h.o, (hb.block _ h.s.lt).trans h.s, (hb.block _ h.e.lt).trans h.e, ownsRow_below h.r hb (Nat.le_refl _), h.b.trans (hb.mono h.b.size)⟩
theorem SpS.new {w : World} {vr vz vl vo : Value} {x : Ero} {D : Nat} {l : List Spn} (h : w.ownsRow D 39 4 vo l.length (l.flatMap encQ)) :
    SpS w (((w.alloc (.cells #[vo] 31)).alloc (.cells #[vr, vz, vl] 28)).alloc (.cells #[.int .i64 x.off, .string x.rl, .int .i64 x.sv, .string x.fm, .bool x.en, .int .i64 x.yr, .int .i64 x.un.mo, .int .i64 x.un.k, .int .i64 x.un.a, .int .i64 x.un.n, .int .i64 x.un.t, .int .i64 x.un.c] 68)) vr vz vl vo x D l := by
  have h1 := size_alloc w (.cells #[vo] 31)
  have h2 := size_alloc (w.alloc (.cells #[vo] 31)) (.cells #[vr, vz, vl] 28)
  refine ⟨((BxO.new w _ _).alloc _).alloc _, ?_, ?_, ((h.alloc _).alloc _).alloc _, ((Below.refl _ _).alloc (Nat.le_refl _) _).alloc (by omega) _ |>.alloc (by omega) _⟩
  · refine BxO.alloc ?_ _
    have h := BxO.new (w.alloc (.cells #[vo] 31)) #[vr, vz, vl] 28
    rw [h1] at h
    exact h
  · have h := BxO.new ((w.alloc (.cells #[vo] 31)).alloc (.cells #[vr, vz, vl] 28)) #[.int .i64 x.off, .string x.rl, .int .i64 x.sv, .string x.fm, .bool x.en, .int .i64 x.yr, .int .i64 x.un.mo, .int .i64 x.un.k, .int .i64 x.un.a, .int .i64 x.un.n, .int .i64 x.un.t, .int .i64 x.un.c] 68
    rw [h2, h1] at h
    exact h
set_option maxHeartbeats 4000000 in
set_option maxRecDepth 100000 in
theorem spans_any (s : Src) (x : Ero) (lo hi : Int) (l : List Spn) (vr vz vl vo : Value) (D : Nat) (w0 w : World) (hs : SrcAt w0 vr vz vl s) (hb : Below w0.heap.size w0 w) (ho : w.ownsRow D 39 4 vo l.length (l.flatMap encQ))
    (d0 : w0.heap.size ≤ D) (d1 : D ≤ w.heap.size) (hT : Tab w) (hM : MxL w0) (hr : ROk s x) (hc : ∀ t, COk x (stL s.rules x (trE s.rules x) t).1 (stL s.rules x (trE s.rules x) t).2) (hl : l.length ≤ 900000) (hlh : lo < hi) :
    Calls Tryz.prog 33 #[vo, .agg #[vr, vz, vl], .agg #[.int .i64 x.off, .string x.rl, .int .i64 x.sv, .string x.fm, .bool x.en, .int .i64 x.yr, .int .i64 x.un.mo, .int .i64 x.un.k, .int .i64 x.un.a, .int .i64 x.un.n, .int .i64 x.un.t, .int .i64 x.un.c], .int .i64 lo, .int .i64 hi] w
      fun e w' => ∃ vo', e = .returned vo' ∧ w'.ownsRow D 39 4 vo' (spnI s.rules x lo hi l).length ((spnI s.rules x lo hi l).flatMap encQ) ∧ KpN w w' ∧ Below D w w' := by
  have Q0 := Lib.hid (SpS.new (vr := vr) (vz := vz) (vl := vl) (x := x) ho)
  obtain ⟨W0, hW0⟩ : ∃ W0, W0 = ((w.alloc (.cells #[vo] 31)).alloc (.cells #[vr, vz, vl] 28)).alloc (.cells #[.int .i64 x.off, .string x.rl, .int .i64 x.sv, .string x.fm, .bool x.en, .int .i64 x.yr, .int .i64 x.un.mo, .int .i64 x.un.k, .int .i64 x.un.a, .int .i64 x.un.n, .int .i64 x.un.t, .int .i64 x.un.c] 68) := ⟨_, rfl⟩
  rw [← hW0] at Q0
  have HW := Lib.hid hW0
  have HCH := Lib.hid (fun wx (h : Below w.heap.size w wx) => changes_own s x vr vz vl wx (hs.mono (hb.trans (h.mono hb.size))) (hT.below h) hr)
  have HTL0 : Hid ((trE s.rules x).length ≤ 40000) := by
    show _ ≤ _
    unfold trE
    rw [trns_len]
    have := (trn0_all s.rules x.rl hr.ok).2
    have := hr.n
    omega
  have HS := Lib.hid hs
  have HBW := Lib.hid hb
  have HM := Lib.hid hM
  have HC := Lib.hid hc
  have HD0 := Lib.hid d0
  have HD1 := Lib.hid d1
  have HLH := Lib.hid hlh
  have HL := Lib.hid hl
  obtain ⟨av, cv, rfl⟩ := own_shape ho
  have HOW := Lib.hid ho
  clear hs hb ho d0 d1 hT hM hr hc hl hlh hW0
  have hmf : ∀ (fn : Fn) (first cap : Array Value) (w : World), (Instr.makeFunc fn first cap).run Tryz.prog w = .ok (.func fn first cap) w := fun _ _ _ _ => rfl
  have s0 : W0.cell? ⟨w.heap.size + 1, 0, none⟩ = some vr := Q0.out.s.cell 0
  have s1 : W0.cell? ⟨w.heap.size + 1, 1, none⟩ = some vz := Q0.out.s.cell 1
  have s2 : W0.cell? ⟨w.heap.size + 1, 2, none⟩ = some vl := Q0.out.s.cell 2
  obtain ⟨e0, e1, e2, e3, e4, e5, e6, e7, e8, e9, e10, e11, -, -, -, -, -, -, -, -, -, -, -, -, -⟩ := Q0.out.e.twelve
  go_enter Tryz.func33, Tryz.ntmps33
  go_upto_region 1 with fail
  rw [← HW.out]
  clear HW
  go_wp2_with fail
  refine (HCH.out _ Q0.out.b).mono ?_; rintro e w1 ⟨vT, rfl, ⟨hT1, hF1⟩, hb1⟩
  have Q1 := Lib.hid (Q0.out.next hb1)
  obtain ⟨aT, cT, rfl, -⟩ := hT1.shape
  obtain ⟨T, hTT⟩ : ∃ T, trE s.rules x = T := ⟨_, rfl⟩
  rw [hTT] at hT1 hF1
  clear s0 s1 s2 e0 e1 e2 e3 e4 e5 e6 e7 e8 e9 e10 e11
  have HG : Hid (∀ g, (Value.slice av l.length cv).ownBlock = some g → D ≤ g ∧ g < w.heap.size) := fun g hg => HOW.out.lt g hg
  obtain ⟨V1, hV1⟩ : ∃ V1, V1 = w1.alloc (.cells #[.slice aT T.length cT] 94) := ⟨_, rfl⟩
  have hz0 : w.heap.size + 1 + 1 < W0.heap.size := Q0.out.e.lt
  have hz1 : W0.heap.size ≤ w1.heap.size := hb1.size
  have A1 : Hid (AdB w0 V1 (w.heap.size + 1) (w.heap.size + 1 + 1) w1.heap.size w.heap.size D vr vz vl (.slice aT T.length cT) (.slice av l.length cv) x T l) := by
    show AdB _ _ _ _ _ _ _ _ _ _ _ _ _ _ _
    rw [hV1]
    refine ⟨Q1.out.s.alloc _, Q1.out.e.alloc _, BxO.new _ _ _, Q1.out.o.alloc _, Q1.out.r.alloc _, hT1.mono ((Below.refl _ _).alloc (Nat.le_refl _) _) fun _ _ h => h, ?_, (HBW.out.trans (Q1.out.b.mono HBW.out.size)).alloc (by have := HBW.out.size; have := Q1.out.b.size; omega) _, HD0.out, by rw [size_alloc]; have := HD1.out; omega, by omega, by omega, by omega, HD1.out⟩
    intro hn b o n c e
    have h1 := hF1 b o n c e
    refine ⟨fun e' => ?_, by omega, ?_⟩
    · have := HG.out b e'
      omega
    · rcases hT1 with ⟨_, _, _, h⟩ | ⟨d, off, cap, hv, -, -, -, hd, -⟩
      · exact absurd h hn
      · rw [e] at hv
        simp only [Value.slice.injEq, Option.some.injEq, Addr.mk.injEq] at hv
        rw [size_alloc]
        omega
  have HB1 : Hid (Below w.heap.size w V1) := by show Below _ _ _; rw [hV1]; exact Q1.out.b.alloc Q1.out.b.size _
  have HV1 := Lib.hid hV1
  clear hV1 hT1 hF1 hb1 Q0 Q1 HCH
  have HAD := Lib.hid (fun wx (h : AdB w0 wx (w.heap.size + 1) (w.heap.size + 1 + 1) w1.heap.size w.heap.size D vr vz vl (.slice aT T.length cT) (.slice av l.length cv) x T l) (hm : MxL wx) => add_any s lo w0 wx _ _ _ _ D vr vz vl _ _ x T l h HS.out (by rw [← hTT]; exact HC.out lo) hm (by have := HL.out; omega))
  go_upto_region 2 with fail
  rw [← HV1.out]
  go_wp2_with fail
  refine (HAD.out _ A1.out (HM.out.below A1.out.b)).mono ?_; rintro e w2 ⟨rfl, vo2, hA2, hK2, hD2⟩
  have A2 := Lib.hid hA2
  have HK2 := Lib.hid hK2
  have HD2 := Lib.hid hD2
  have HMT : Hid (T = trE s.rules x) := hTT.symm
  have HTL : Hid (T.length ≤ 40000) := by show _ ≤ _; rw [← hTT]; exact HTL0.out
  obtain ⟨l1, hl1⟩ : ∃ l1, addQ l lo (clkE x (stL s.rules x T lo)) = l1 := ⟨_, rfl⟩
  rw [hl1] at A2
  have HL1 := Lib.hid hl1
  obtain ⟨av2, cv2, rfl⟩ := own_shape A2.out.r
  clear hA2 hK2 hD2 hTT hl1 HAD HV1
  have e1 : w2.cell? ⟨w.heap.size + 1 + 1, 1, none⟩ = some (.string x.rl) := A2.out.e.cell 1
  have c0 : w2.cell? ⟨w1.heap.size, 0, none⟩ = some (.slice aT T.length cT) := A2.out.c.cell 0
  obtain ⟨pb, hpb⟩ : ∃ pb, (x.rl.toList == []) = pb := ⟨_, rfl⟩
  have HPB := Lib.hid hpb
  obtain ⟨A, hA⟩ : ∃ A, A = if pb = true then [] else (T.map Trn.ins).filter (fun t => decide (lo < t) && decide (t < hi)) := ⟨_, rfl⟩
  have HA := Lib.hid hA
  obtain ⟨ij, hij, hj0, hj1, hj2⟩ := info_parts info_intz
  clear hA
  go_upto_if 27 with fail
  go_cut [13] (fun v13 wx => ∃ (a : Option Addr) (c : Nat), v13 = .slice a A.length c ∧ Hid (wx.ownsRow w2.heap.size 3 1 (.slice a A.length c) A.length (A.flatMap encI)) ∧ Hid (Below w2.heap.size w2 wx))
  case first =>
    cases pb with
    | true =>
      have hA : A = [] := by rw [HA.out]; rfl
      subst hA
      go_wp2_with fail
      go_meet
      exact ⟨none, 0, rfl, World.ownsRow_nil _ _ _ _, Below.refl _ _⟩
    | false =>
      have hA : A = atK lo hi T T.length := by rw [HA.out]; unfold atK; rw [List.take_length]; rfl
      subst hA
      go_wp2_with fail
      go_loopw [13, 30] (fun v i wx => ∃ (k : Nat) (a : Option Addr) (c : Nat), k ≤ T.length ∧ i = .int .i64 k ∧ v = .slice a (atK lo hi T k).length c ∧ Hid (wx.ownsRow w2.heap.size 3 1 (.slice a (atK lo hi T k).length c) (atK lo hi T k).length ((atK lo hi T k).flatMap encI)) ∧ Hid (Below w2.heap.size w2 wx)) (fun _ i _ => (T.length - intOf i).toNat)
      case atStart => exact ⟨0, none, 0, Nat.zero_le _, rfl, rfl, World.ownsRow_nil _ _ _ _, Below.refl _ _⟩
      case round =>
        obtain ⟨k, a, c, hk, rfl, rfl, RK, BK⟩ := hrel
        by_cases hlt : k < T.length
        · have hki : (k : Int) < (T.length : Int) := by omega
          have ht := A2.out.t.mono BK.out fun _ _ h => h
          obtain ⟨bt, ot, rfl, hbt, d0, d1, d2, d3⟩ := elemChg ht k hlt
          have HN := Lib.hid (atK_succ (lo := lo) (hi := hi) hlt)
          obtain ⟨ti, hti⟩ : ∃ ti, T[k].ins = ti := ⟨_, rfl⟩
          rw [hti] at HN d1
          have hLl : (atK lo hi T k).length ≤ T.length := atK_len lo hi T k
          have hTl : T.length ≤ 40000 := HTL.out
          generalize atK lo hi T k = L at *
          generalize T[k].no = n0 at *
          generalize T[k].r.sv = n2 at *
          generalize T[k].r.lt = n3 at *
          obtain ⟨W5, hW5⟩ : ∃ W5, W5 = wr.alloc (.cells #[.int .i64 n0, .int .i64 ti, .int .i64 n2, .string n3] 133) := ⟨_, rfl⟩
          have X5 : Hid (BxO W5 wr.heap.size #[.int .i64 n0, .int .i64 ti, .int .i64 n2, .string n3] 133) := by show BxO _ _ _ _; rw [hW5]; exact BxO.new _ _ _
          have R5 : Hid (W5.ownsRow w2.heap.size 3 1 (.slice a L.length c) L.length (L.flatMap encI)) := by show World.ownsRow _ _ _ _ _ _ _; rw [hW5]; exact RK.out.alloc _
          have B5 : Hid (Below w2.heap.size w2 W5) := by show Below _ _ _; rw [hW5]; exact BK.out.alloc BK.out.size _
          have HW5 := Lib.hid hW5
          clear hW5 hti ht
          go_upto_region 9 with fail
          rw [← HW5.out]
          clear HW5 d0 d1 d2 d3
          have x1 : W5.cell? ⟨wr.heap.size, 1, none⟩ = some (.int .i64 ti) := X5.out.cell 1
          have xz : wr.heap.size < W5.heap.size := X5.out.lt
          by_cases h1 : lo < ti
          · by_cases h2 : ti < hi
            · have HN2 : Hid (atK lo hi T (k + 1) = L ++ [ti]) := HN.out.trans (if_pos ⟨h1, h2⟩)
              clear HN
              go_wp2_with (at_builtin; refine wpList_append_own _ rfl (.tmp 44) (.tmp 47) 77 rfl w2.heap.size 3 ij (.int .i64 0) 1 8 Tryz.underlying77 hij hj0 hj1 hj2 rfl (by decide) _ _ _ rfl (R5.out.alloc _) ⟨W5.heap.size, 0, none⟩ 1 1 (encI ti) rfl rfl (cells_at _ _ _ _ _ rfl rfl) (by intro u hu; simp [encI] at hu; subst hu; rfl) (by unfold maxLen; omega) (by omega) (by rw [size_alloc]; exact Nat.le_succ_of_le B5.out.size) ?_; intro v6 w6 hown hgrow _; have B6 := Lib.hid (append_keep R5.out ((Below.refl _ _).alloc B5.out.size _) B5.out.size hgrow); obtain ⟨a6, c6, rfl⟩ := own_shape hown; have R6 := Lib.hid (own_snocG hown); clear hown hgrow)
              refine ⟨?_, ?measure⟩
              iterate 22 apply Exists.intro
              refine ⟨?rel, rfl⟩
              case rel => exact ⟨k + 1, a6, c6, by omega, by go_num, by rw [HN2.out]; simp, by rw [HN2.out]; show World.ownsRow _ _ _ _ _ _ _; simpa using R6.out, B5.out.trans B6.out⟩
              case measure => simp [intOf]; omega
            · have HN2 : Hid (atK lo hi T (k + 1) = L) := HN.out.trans (if_neg fun h => h2 h.2)
              clear HN
              go_wp2_with fail
              go_roundw
              case rel => exact ⟨k + 1, a, c, by omega, by go_num, by rw [HN2.out], by rw [HN2.out]; exact R5, B5⟩
              case measure => simp [intOf]; omega
          · have HN2 : Hid (atK lo hi T (k + 1) = L) := HN.out.trans (if_neg fun h => h1 h.1)
            clear HN
            go_wp2_with fail
            go_roundw
            case rel => exact ⟨k + 1, a, c, by omega, by go_num, by rw [HN2.out], by rw [HN2.out]; exact R5, B5⟩
            case measure => simp [intOf]; omega
        · obtain rfl : k = T.length := by omega
          have hnl : ¬ (T.length : Int) < (T.length : Int) := by omega
          go_wp2_with fail
          go_meet
          exact ⟨a, c, rfl, RK, BK⟩
  case rest =>
    obtain ⟨a, c, rfl, RA, BA⟩ := hcut
    have A3 := Lib.hid (A2.out.next BA.out)
    have hAl : A.length ≤ 40000 := by
      rw [HA.out]
      split
      · exact Nat.zero_le _
      · refine Nat.le_trans (List.length_filter_le _ _) ?_
        rw [List.length_map]
        exact HTL.out
    have HSO := Lib.hid (sort_own (.slice a A.length c) A w2.heap.size wc RA.out (by omega))
    clear e1 c0
    go_wp2_with fail
    refine HSO.out.mono ?_; rintro e w3 ⟨rfl, hr3, hg3⟩
    have B3 : Hid (Below w2.heap.size w2 w3) := BA.out.trans ((Below.refl _ _).grown hg3 BA.out.size fun g hg => (RA.out.lt g hg).1)
    have R3 := Lib.hid hr3
    have hsl : (srt A).length = A.length := srt_len A
    have HCO := Lib.hid (compact_own (.slice a A.length c) (srt A) w2.heap.size w3 (by rw [hsl]; rw [hsl] at hr3; exact hr3))
    clear hr3 hg3 HSO
    go_wp2_with fail
    refine HCO.out.mono ?_; rintro e w4 ⟨v4, rfl, hr4, hg4, hb4⟩
    have B4 : Hid (Below w2.heap.size w2 w4) := B3.out.trans ((Below.refl _ _).grown hg4 B3.out.size fun g hg => (R3.out.lt g hg).1)
    have A4 := Lib.hid (A2.out.next B4.out)
    obtain ⟨P, hP⟩ : ∃ P, P = Lib.compact (srt A) := ⟨_, rfl⟩
    rw [← hP] at hr4
    have HP := Lib.hid hP
    obtain ⟨a4, c4, rfl⟩ := own_shape hr4
    have R4 := Lib.hid hr4
    clear hr4 hg4 hb4 HCO hP A3 RA BA R3 B3
    have HHD : Hid (∀ k (h : k < P.length), (P.take (k + 1)).foldl (addP fun t => clkE x (stL s.rules x T t)) l1 = addQ ((P.take k).foldl (addP fun t => clkE x (stL s.rules x T t)) l1) P[k] (clkE x (stL s.rules x T P[k]))) := fun k h => by
      rw [List.take_succ_eq_append_getElem h, List.foldl_append]
      rfl
    have hPl : P.length ≤ 40000 := by
      rw [HP.out]
      have := srtC_len A
      unfold srtC at this
      omega
    have HPL := Lib.hid hPl
    have HLL : Hid (∀ k, k ≤ P.length → ((P.take k).foldl (addP fun t => clkE x (stL s.rules x T t)) l1).length ≤ 900001 + k) := fun k h => by
      have h1 : l1.length ≤ 900001 := by
        have := addQ_len l lo (clkE x (stL s.rules x T lo))
        rw [HL1.out] at this
        have := HL.out
        omega
      have h2 := foldP_len (fun t => clkE x (stL s.rules x T t)) (P.take k) l1
      rw [List.length_take] at h2
      omega
    have HFI : Hid (spnI s.rules x lo hi l = (P.take P.length).foldl (addP fun t => clkE x (stL s.rules x T t)) l1) := by
      show _ = _
      rw [spnI_fold HLH.out, List.take_length, List.foldl_cons, HP.out, ← HL1.out, HMT.out]
      have e : chgI s.rules x lo hi = srtC A := by
        unfold chgI
        rw [HA.out, ← HPB.out, HMT.out]
        congr 1
        by_cases h : x.rl = ByteArray.empty
        · have r1 : x.rl.toList = [] := by rw [h]; exact (toList_nil_iff_emptyBytes _).2 rfl
          rw [if_pos h, r1]
          rfl
        · have r1 := (rl_ne h).1
          rw [if_neg h, if_neg (by simpa using fun e => h ((toList_nil_iff_emptyBytes _).1 e))]
      rw [e]
      rfl
    have HKO : Hid (∀ wx, KpS w.heap.size w4 wx → Below D w4 wx → wx.ownsRow w2.heap.size 3 1 (.slice a4 P.length c4) P.length (P.flatMap encJ)) := fun wx h _ => h.own R4.out (by decide) (fun e => by
      have h1 := (R4.out.lt _ e).1
      have h2 := A2.out.o.lt
      omega)
    clear hPl HPB HLH
    go_wp2_with fail
    go_loopw [17, 55] (fun u i wr => ∃ (k : Nat) (vo' : Value), k ≤ P.length ∧ i = .int .i64 k ∧ Hid (AdB w0 wr (w.heap.size + 1) (w.heap.size + 1 + 1) w1.heap.size w.heap.size D vr vz vl (.slice aT T.length cT) vo' x T ((P.take k).foldl (addP fun t => clkE x (stL s.rules x T t)) l1)) ∧ Hid (KpS w.heap.size w4 wr) ∧ Hid (Below D w4 wr)) (fun _ i _ => (P.length - intOf i).toNat)
    case atStart => exact ⟨0, _, Nat.zero_le _, rfl, A4, KpS.refl _ _, Below.refl _ _⟩
    case round =>
      obtain ⟨k, vo', hk, rfl, AK, KK, DK⟩ := hrel
      by_cases hlt : k < P.length
      · have hki : (k : Int) < (P.length : Int) := by omega
        obtain ⟨bp, rfl, hbp, cp⟩ := ent_of_own (HKO.out _ KK.out DK.out) k hlt
        have HN := Lib.hid (HHD.out k hlt)
        have hll := HLL.out k hk
        have hPl := HPL.out
        generalize P[k] = ti at *
        generalize (P.take k).foldl (addP fun t => clkE x (stL s.rules x T t)) l1 = lk at *
        have HAD := Lib.hid (add_any s ti w0 wr _ _ _ _ D vr vz vl _ _ x T lk AK.out HS.out (by rw [HMT.out]; exact HC.out ti) (HM.out.below AK.out.b) (by omega))
        clear hll hPl
        go_wp2_with fail
        refine HAD.out.mono ?_; rintro e w5 ⟨rfl, vo5, hA5, hK5, hD5⟩
        have A5 := Lib.hid hA5
        have K5 := Lib.hid (KK.out.trans hK5)
        have D5 := Lib.hid (DK.out.trans hD5)
        clear hA5 hK5 hD5 cp HAD
        have hPl := HPL.out
        go_wp2_with fail
        go_roundw
        case rel => exact ⟨k + 1, vo5, by omega, by go_num, by rw [HN.out]; exact A5, K5, D5⟩
        case measure => simp [intOf]; omega
      · obtain rfl : k = P.length := by omega
        have hnl : ¬ (P.length : Int) < (P.length : Int) := by omega
        have o0 : wr.cell? ⟨w.heap.size, 0, none⟩ = some vo' := AK.out.o.cell 0
        go_wp2_with fail
        go_ret
        refine ⟨vo', rfl, by rw [HFI.out]; exact AK.out.r, ?_, ?_⟩
        · intro b cs t hb ht
          have hbO : b ≠ w.heap.size := Nat.ne_of_lt hb.lt
          exact KK.out b cs t ((B4.out.block _ (HK2.out b cs t ((HB1.out.block _ hb.lt).trans hb) ht hbO).lt).trans (HK2.out b cs t ((HB1.out.block _ hb.lt).trans hb) ht hbO)) ht hbO
        · exact (HB1.out.mono HD1.out).trans (HD2.out.trans ((B4.out.mono A2.out.d1).trans DK.out))
end Go.Proofs.YtbikdlcjbigafaaGreatDoor
