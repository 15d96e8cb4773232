/-
  zones.Spans: the walk.
-/
import Derived.Test.YtbikdlcjbigafaaGreatDoorJSpC
namespace Go.Proofs.YtbikdlcjbigafaaGreatDoor
set_option linter.unusedVariables false
set_option linter.unusedSimpArgs false
open Go.ChangeShapes Go.WideShapes Go.ChangeAt Go.RowKit Civ

theorem spnI_len (rules : List Rul) (x : Ero) (lo hi : Int) (l : List Spn) : (spnI rules x lo hi l).length ≤ l.length + (1 + (trE rules x).length) := by
  unfold spnI
  refine Nat.le_trans (foldP_len _ _ _) ?_
  unfold ptsI
  split
  · have h1 := srtC_len (if x.rl = ByteArray.empty then [] else ((trE rules x).map Trn.ins).filter fun t => decide (lo < t) && decide (t < hi))
    have h2 : (if x.rl = ByteArray.empty then [] else ((trE rules x).map Trn.ins).filter fun t => decide (lo < t) && decide (t < hi)).length ≤ (trE rules x).length := by
      split
      · simp
      · refine Nat.le_trans (List.length_filter_le _ _) ?_
        rw [List.length_map]
        exact Nat.le_refl _
    rw [List.length_cons]
    unfold chgI
    omega
  · simp
theorem spnK_succ (rules : List Rul) (eras : List Ero) (ends : List Int) (k : Nat) (h : k < eras.length) : spnK rules eras ends (k + 1) = spnI rules eras[k] (lowI ends k) (highI ends k) (spnK rules eras ends k) := by
  have e : eras[k]? = some eras[k] := List.getElem?_eq_getElem h
  show (match eras[k]? with | some x => _ | none => _) = _
  rw [e]
theorem spnK_len (rules : List Rul) (eras : List Ero) (ends : List Int) (h : ∀ x ∈ eras, (trE rules x).length ≤ 40000) : ∀ k, k ≤ eras.length → (spnK rules eras ends k).length ≤ 40001 * k
  | 0, _ => Nat.le_refl _
  | k + 1, hk => by
    have ih := spnK_len rules eras ends h k (by omega)
    have h1 := h (eras[k]'(by omega)) (List.getElem_mem _)
    have h2 := spnI_len rules (eras[k]'(by omega)) (lowI ends k) (highI ends k) (spnK rules eras ends k)
    rw [spnK_succ rules eras ends k (by omega)]
    omega
theorem trE_len {s : Src} {x : Ero} (h : ROk s x) : (trE s.rules x).length ≤ 40000 := by
  unfold trE
  rw [trns_len]
  have := (trn0_all s.rules x.rl h.ok).2
  have := h.n
  omega
theorem spnI_none {rules : List Rul} {x : Ero} {lo hi : Int} (h : ¬ lo < hi) (l : List Spn) : spnI rules x lo hi l = l := by
  unfold spnI ptsI
  rw [if_neg h]
  rfl
/-- what spans of a name are; what is wrong. -/
def spS (s : Src) (n : ByteArray) : List Spn := match s.zones[(folL s 8 n).toNat]? with
  | some z => spnZ s.rules z.eras
  | none => []
def spE (s : Src) (n : ByteArray) : Int := if fndS s n ≠ 0 then fndS s n else if 1000 < (spS s n).length then 1 else 0
def spV (s : Src) (n : ByteArray) : List Spn := if spE s n = 0 then spS s n else []
theorem spE_f {s : Src} {n : ByteArray} (h : fndS s n ≠ 0) : spE s n = fndS s n := by unfold spE; rw [if_pos h]
theorem spE_l {s : Src} {n : ByteArray} (h : fndS s n = 0) (h2 : 1000 < (spS s n).length) : spE s n = 1 := by unfold spE; rw [if_neg (by simp [h]), if_pos h2]
theorem spE_z {s : Src} {n : ByteArray} (h : fndS s n = 0) (h2 : ¬ 1000 < (spS s n).length) : spE s n = 0 := by unfold spE; rw [if_neg (by simp [h]), if_neg h2]
theorem spV_n {s : Src} {n : ByteArray} (h : spE s n ≠ 0) : spV s n = [] := by unfold spV; rw [if_neg h]
theorem spV_z {s : Src} {n : ByteArray} (h : spE s n = 0) : spV s n = spS s n := by unfold spV; rw [if_pos h]
set_option maxHeartbeats 8000000 in
set_option maxRecDepth 100000 in
theorem Spans_any (s : Src) (n : ByteArray) (vr vz vl : Value) (w : World) (hs : SrcAt w vr vz vl s) (hV : Tab w ∧ MxL w) :
    Calls Tryz.prog 9 #[.agg #[vr, vz, vl], .string n] w fun e w' => ∃ v, e = .returned (.tuple #[v, .int .i64 (spE s n)]) ∧ w'.ownsRow w.heap.size 39 4 v (spV s n).length ((spV s n).flatMap encQ) ∧ Below w.heap.size w w' := by
  have C0 := Lib.hid (SrB.new w vr vz vl)
  obtain ⟨W0, hW0⟩ : ∃ W0, W0 = w.alloc (.cells #[vr, vz, vl] 28) := ⟨_, rfl⟩
  rw [← hW0] at C0
  have HW := Lib.hid hW0
  have HS := Lib.hid hs
  have HV := Lib.hid hV
  have HFI := Lib.hid (fun wx (hb : Below w.heap.size w wx) => find_any s n vr vz vl wx (hs.mono hb) ⟨hV.1.below hb, hV.2.below hb⟩)
  clear hs hV hW0
  obtain ⟨E, hE⟩ : ∃ E, E = fndS s n := ⟨_, rfl⟩
  have HE := Lib.hid hE
  rw [← hE] at HFI
  clear hE
  obtain ⟨q0, q1, q2⟩ := C0.out.1
  go_enter Tryz.func9, Tryz.ntmps9
  go_upto_region 1 with fail
  rw [← HW.out]
  clear HW
  go_wp2_with fail
  refine (HFI.out _ C0.out.2.1).mono ?_; rintro e w1 ⟨nm, a, m, c, rfl, hz, hb1⟩
  have C1 := Lib.hid (C0.out.next hb1)
  have HZ := Lib.hid hz
  clear hb1 q0 q1 q2 C0 HFI hz
  by_cases h0 : E = 0
  · subst h0
    obtain ⟨i, hi, hfol, rfl, hx⟩ := HZ.out rfl
    have HGZ := Lib.hid (gdZ_of (by have := HE.out; unfold fndS at this; split at this; · exact absurd this.symm (by assumption)
                                    · rename_i h; simpa using h) i hi)
    have HSP : Hid (spS s n = spnZ s.rules s.zones[i].eras) := by
      show _ = _
      unfold spS
      rw [hfol, Int.toNat_natCast, List.getElem?_eq_getElem hi]
    clear hfol HZ
    generalize s.zones[i] = z at *
    clear hi
    obtain ⟨a', c', he, hlc⟩ := hx.shape
    simp only [Value.slice.injEq] at he
    obtain ⟨rfl, rfl, rfl⟩ := he
    obtain ⟨W2, hW2⟩ : ∃ W2, W2 = w1.alloc (.cells #[.string z.nm, .slice a z.eras.length c] 65) := ⟨_, rfl⟩
    have C2 : Hid (SrB w W2 vr vz vl) := by show SrB _ _ _ _ _; rw [hW2]; exact C1.out.next ((Below.refl _ _).alloc (Nat.le_refl _) _)
    have HW2 := Lib.hid hW2
    have G : Hid (BxO W2 w1.heap.size #[.string z.nm, .slice a z.eras.length c] 65) := by show BxO _ _ _ _; rw [hW2]; exact BxO.new _ _ _
    have HB2 : Hid (Below w1.heap.size w1 W2) := by show Below _ _ _; rw [hW2]; exact (Below.refl _ _).alloc (Nat.le_refl _) _
    have HX2 := Lib.hid (hx.mono HB2.out fun _ _ h => h)
    have HUN := Lib.hid (untils_any s z.nm z.eras vr vz vl (.slice a z.eras.length c) W2 (HS.out.mono C2.out.2.1) (HV.out.1.below C2.out.2.1) HX2.out HGZ.out.n1 HGZ.out.n20 HGZ.out.k)
    have HN20 := Lib.hid HGZ.out.n20
    have HUL := Lib.hid HGZ.out.len
    have HROK : Hid (∀ x ∈ z.eras, ROk s x) := fun x hx => HGZ.out.rok hx
    have HTLE : Hid (∀ k, k ≤ z.eras.length → (spnK s.rules z.eras (untL s.rules z.eras) k).length ≤ 800020) := fun k hk => by
      have h1 := spnK_len s.rules z.eras (untL s.rules z.eras) (fun x hx => trE_len (HROK.out x hx)) k hk
      have h2 := HN20.out
      omega
    obtain ⟨q0, q1, q2⟩ := C2.out.1
    have g0 : W2.cell? ⟨w1.heap.size, 0, none⟩ = some (.string z.nm) := G.out.cell 0
    have g1 : W2.cell? ⟨w1.heap.size, 1, none⟩ = some (.slice a z.eras.length c) := G.out.cell 1
    clear hx hW2
    go_upto_region 2 with fail
    rw [← HW2.out]
    clear HW2 C1
    go_wp2_with (go_at_call 11; refine (winIn _).mono ?_; rintro e w' ⟨rfl, rfl⟩)
    refine HUN.out.mono ?_; rintro e w3 ⟨vn, rfl, hr3, hb3⟩
    have C3 := Lib.hid (C2.out.next hb3)
    have G3 : Hid (BxO w3 w1.heap.size #[.string z.nm, .slice a z.eras.length c] 65) := (hb3.block _ G.out.lt).trans G.out
    have HX3 := Lib.hid (HX2.out.mono hb3 fun _ _ h => h)
    have hml := maxLen_eq _ hlc
    obtain ⟨N, hN⟩ : ∃ N, untL s.rules z.eras = N := ⟨_, rfl⟩
    rw [hN] at hr3 HUL HTLE
    obtain ⟨m, hm⟩ : ∃ m, N.length = m := ⟨_, rfl⟩
    have hNl : N.length + 1 = z.eras.length := HUL.out
    rw [hm] at hr3 hNl
    have R3 := Lib.hid hr3
    obtain ⟨an, cn, rfl⟩ := own_shape hr3
    have HUNN := Lib.hid hN
    have HM := Lib.hid hm
    clear hr3 hb3 q0 q1 q2 g0 g1 HUN C2 G HX2 HB2 hN hm
    have HB3 : Hid (Below w.heap.size w w3) := C3.out.2.1
    have g1 : w3.cell? ⟨w1.heap.size, 1, none⟩ = some (.slice a z.eras.length c) := G3.out.cell 1
    have hn20 : z.eras.length ≤ 20 := HN20.out
    obtain ⟨nn, hn⟩ : ∃ nn, z.eras.length = nn := ⟨_, rfl⟩
    have HNE := Lib.hid hn
    rw [hn] at hn20 hNl g1
    clear hlc hn hml
    go_wp2_with fail
    go_loopw [11, 35] (fun vo i wr => ∃ k : Nat, k ≤ nn ∧ i = .int .i64 k ∧ Hid (wr.ownsRow w3.heap.size 39 4 vo (spnK s.rules z.eras N k).length ((spnK s.rules z.eras N k).flatMap encQ)) ∧ Hid (Below w3.heap.size w3 wr)) (fun _ i _ => (nn - intOf i).toNat)
    case atStart => exact ⟨0, Nat.zero_le _, rfl, World.ownsRow_nil _ _ _ _, Below.refl _ _⟩
    case round =>
      obtain ⟨k, hk, rfl, OK, BK⟩ := hrel
      by_cases hlt : k < nn
      · have hki : (k : Int) < (nn : Int) := by omega
        have hkx : k < z.eras.length := by rw [HNE.out]; exact hlt
        obtain ⟨b, off, rfl, hb, ⟨d0, d1, d2, d3, d4, d5, d6, d7, d8, d9, d10, d11⟩, -⟩ := elemEro (HX3.out.mono BK.out fun _ _ h => h) k hkx
        have hmem : z.eras[k] ∈ z.eras := List.getElem_mem hkx
        have HSN := Lib.hid (spnK_succ s.rules z.eras N k hkx)
        have hln := HTLE.out k (by rw [HNE.out]; exact hk)
        have HRK := Lib.hid (HROK.out _ hmem)
        have HCK := Lib.hid (fun t => HGZ.out.cok hmem t)
        generalize spnK s.rules z.eras N k = l at *
        generalize z.eras[k] = x at *
        obtain ⟨ao, co, rfl⟩ := own_shape OK.out
        obtain ⟨W5, hW5⟩ : ∃ W5, W5 = wr.alloc (.cells #[.int .i64 x.off, .string x.rl, .int .i64 x.sv, .string x.fm, .bool x.en, .int .i64 x.yr, .int .i64 x.un.mo, .int .i64 x.un.k, .int .i64 x.un.a, .int .i64 x.un.n, .int .i64 x.un.t, .int .i64 x.un.c] 68) := ⟨_, rfl⟩
        have X5 : Hid (BxO W5 wr.heap.size #[.int .i64 x.off, .string x.rl, .int .i64 x.sv, .string x.fm, .bool x.en, .int .i64 x.yr, .int .i64 x.un.mo, .int .i64 x.un.k, .int .i64 x.un.a, .int .i64 x.un.n, .int .i64 x.un.t, .int .i64 x.un.c] 68) := by show BxO _ _ _ _; rw [hW5]; exact BxO.new _ _ _
        have O5 : Hid (W5.ownsRow w3.heap.size 39 4 (.slice ao l.length co) l.length (l.flatMap encQ)) := by show World.ownsRow _ _ _ _ _ _ _; rw [hW5]; exact OK.out.alloc _
        have B5 : Hid (Below w3.heap.size w3 W5) := by show Below _ _ _; rw [hW5]; exact BK.out.alloc BK.out.size _
        have HW5 := Lib.hid hW5
        have HBW : Hid (Below w.heap.size w W5) := HB3.out.trans (B5.out.mono HB3.out.size)
        have C5 : Hid (SrB w W5 vr vz vl) := C3.out.next B5.out
        have R5 := Lib.hid (ownsRow_below R3.out B5.out (Nat.le_refl _))
        have HSA := Lib.hid (fun lo hi (h : lo < hi) => spans_any s x lo hi l vr vz vl (.slice ao l.length co) w3.heap.size w W5 HS.out HBW.out O5.out HB3.out.size B5.out.size (HV.out.1.below HBW.out) HV.out.2 HRK.out HCK.out (by omega) h)
        clear hW5 hmem hln
        go_upto_region 10 with fail
        rw [← HW5.out]
        clear HW5 d0 d1 d2 d3 d4 d5 d6 d7 d8 d9 d10 d11
        obtain ⟨e0, e1, e2, e3, e4, e5, e6, e7, e8, e9, e10, e11, -, -, -, -, -, -, -, -, -, -, -, -, -⟩ := X5.out.twelve
        obtain ⟨q0, q1, q2⟩ := C5.out.1
        have hkm0 : k ≤ m := by omega
        by_cases hk0 : k = 0
        · subst hk0
          have HLO : Hid (lowI N 0 = -2208988800) := rfl
          by_cases hkm : 0 < m
          · have hkmi : (0 : Int) < (m : Int) := by omega
            have hkN : 0 < N.length := by rw [HM.out]; exact hkm
            obtain ⟨bn, rfl, hbn, cb⟩ := ent_of_own (show W5.ownsRow _ 3 1 (.slice an N.length cn) N.length (N.flatMap encJ) from by rw [HM.out]; exact R5.out) 0 hkN
            have HHI : Hid (highI N 0 = min (4102444800 : Int) N[0]) := by show _ = _; unfold highI; rw [if_pos hkN, getD_atI hkN]
            generalize N[0] = eB at *
            by_cases hlh : (-2208988800) < (min 4102444800 eB)
            · have hlo : ¬ (min 4102444800 eB) ≤ (-2208988800) := by omega
              have HS2 : Hid (spnK s.rules z.eras N (0 + 1) = spnI s.rules x (-2208988800) (min 4102444800 eB) l) := by show _ = _; rw [HSN.out, HLO.out, HHI.out]
              have HS3 := Lib.hid (HSA.out _ _ hlh)
              clear hlh HSN HLO HHI HSA
              go_wp2_with fail
              refine HS3.out.mono ?_; rintro e w6 ⟨vo6, rfl, ho6, -, hb6⟩
              have O6 := Lib.hid ho6
              have B6 := Lib.hid (B5.out.trans hb6)
              clear ho6 hb6 e0 e1 e2 e3 e4 e5 e6 e7 e8 e9 e10 e11 q0 q1 q2 HS3
              go_wp2_with fail
              go_roundw
              case rel => exact ⟨0 + 1, by omega, by go_num, by rw [HS2.out]; exact O6, B6⟩
              case measure => simp [intOf]; omega
            · have hlo : (min 4102444800 eB) ≤ (-2208988800) := by omega
              have HS2 : Hid (spnK s.rules z.eras N (0 + 1) = l) := by show _ = _; rw [HSN.out, HLO.out, HHI.out, spnI_none hlh]
              clear hlh HSN HLO HHI HSA
              go_wp2_with fail
              go_roundw
              case rel => exact ⟨0 + 1, by omega, by go_num, by rw [HS2.out]; exact O5, B5⟩
              case measure => simp [intOf]; omega
          · have hkmi : ¬ (0 : Int) < (m : Int) := by omega
            have HHI : Hid (highI N 0 = 4102444800) := by show _ = _; unfold highI; rw [if_neg (by rw [HM.out]; exact hkm)]
            by_cases hlh : (-2208988800) < 4102444800
            · have hlo : ¬ 4102444800 ≤ (-2208988800) := by omega
              have HS2 : Hid (spnK s.rules z.eras N (0 + 1) = spnI s.rules x (-2208988800) 4102444800 l) := by show _ = _; rw [HSN.out, HLO.out, HHI.out]
              have HS3 := Lib.hid (HSA.out _ _ hlh)
              clear hlh HSN HLO HHI HSA
              go_wp2_with fail
              refine HS3.out.mono ?_; rintro e w6 ⟨vo6, rfl, ho6, -, hb6⟩
              have O6 := Lib.hid ho6
              have B6 := Lib.hid (B5.out.trans hb6)
              clear ho6 hb6 e0 e1 e2 e3 e4 e5 e6 e7 e8 e9 e10 e11 q0 q1 q2 HS3
              go_wp2_with fail
              go_roundw
              case rel => exact ⟨0 + 1, by omega, by go_num, by rw [HS2.out]; exact O6, B6⟩
              case measure => simp [intOf]; omega
            · have hlo : 4102444800 ≤ (-2208988800) := by omega
              have HS2 : Hid (spnK s.rules z.eras N (0 + 1) = l) := by show _ = _; rw [HSN.out, HLO.out, HHI.out, spnI_none hlh]
              clear hlh HSN HLO HHI HSA
              go_wp2_with fail
              go_roundw
              case rel => exact ⟨0 + 1, by omega, by go_num, by rw [HS2.out]; exact O5, B5⟩
              case measure => simp [intOf]; omega
        · obtain ⟨j, hj⟩ : ∃ j, k = j + 1 := ⟨k - 1, by omega⟩
          have hk1 : (0 : Int) < (k : Int) := by omega
          have hjk : (k : Int) - 1 = (j : Int) := by omega
          have hjm : j < m := by omega
          have hjmi : (j : Int) < (m : Int) := by omega
          have hjN : j < N.length := by rw [HM.out]; exact hjm
          obtain ⟨bn, rfl, hbn, ca⟩ := ent_of_own (show W5.ownsRow _ 3 1 (.slice an N.length cn) N.length (N.flatMap encJ) from by rw [HM.out]; exact R5.out) j hjN
          have HLO : Hid (lowI N k = max (-2208988800 : Int) N[j]) := by show _ = _; unfold lowI; rw [if_neg hk0, show k - 1 = j by omega, getD_atI hjN]
          generalize hA : N[j] = eA at *
          clear hk0 hA
          by_cases hkm : k < m
          · have hkmi : (k : Int) < (m : Int) := by omega
            have hkN : k < N.length := by rw [HM.out]; exact hkm
            obtain ⟨bn', e, hbn', cb⟩ := ent_of_own (show W5.ownsRow _ 3 1 (.slice (some ⟨bn, 0, none⟩) N.length cn) N.length (N.flatMap encJ) from by rw [HM.out]; exact R5.out) k hkN
            simp only [Option.some.injEq, Addr.mk.injEq, and_true] at e
            subst e
            have HHI : Hid (highI N k = min (4102444800 : Int) N[k]) := by show _ = _; unfold highI; rw [if_pos hkN, getD_atI hkN]
            generalize hB : N[k] = eB at *
            clear hB hj
            by_cases hlh : (max (-2208988800) eA) < (min 4102444800 eB)
            · have hlo : ¬ (min 4102444800 eB) ≤ (max (-2208988800) eA) := by omega
              have HS2 : Hid (spnK s.rules z.eras N (k + 1) = spnI s.rules x (max (-2208988800) eA) (min 4102444800 eB) l) := by show _ = _; rw [HSN.out, HLO.out, HHI.out]
              have HS3 := Lib.hid (HSA.out _ _ hlh)
              clear hlh HSN HLO HHI HSA
              go_wp2_with fail
              refine HS3.out.mono ?_; rintro e w6 ⟨vo6, rfl, ho6, -, hb6⟩
              have O6 := Lib.hid ho6
              have B6 := Lib.hid (B5.out.trans hb6)
              clear ho6 hb6 e0 e1 e2 e3 e4 e5 e6 e7 e8 e9 e10 e11 q0 q1 q2 HS3
              go_wp2_with fail
              go_roundw
              case rel => exact ⟨k + 1, by omega, by go_num, by rw [HS2.out]; exact O6, B6⟩
              case measure => simp [intOf]; omega
            · have hlo : (min 4102444800 eB) ≤ (max (-2208988800) eA) := by omega
              have HS2 : Hid (spnK s.rules z.eras N (k + 1) = l) := by show _ = _; rw [HSN.out, HLO.out, HHI.out, spnI_none hlh]
              clear hlh HSN HLO HHI HSA
              go_wp2_with fail
              go_roundw
              case rel => exact ⟨k + 1, by omega, by go_num, by rw [HS2.out]; exact O5, B5⟩
              case measure => simp [intOf]; omega
          · have hkmi : ¬ (k : Int) < (m : Int) := by omega
            have HHI : Hid (highI N k = 4102444800) := by show _ = _; unfold highI; rw [if_neg (by rw [HM.out]; exact hkm)]
            clear hj
            by_cases hlh : (max (-2208988800) eA) < 4102444800
            · have hlo : ¬ 4102444800 ≤ (max (-2208988800) eA) := by omega
              have HS2 : Hid (spnK s.rules z.eras N (k + 1) = spnI s.rules x (max (-2208988800) eA) 4102444800 l) := by show _ = _; rw [HSN.out, HLO.out, HHI.out]
              have HS3 := Lib.hid (HSA.out _ _ hlh)
              clear hlh HSN HLO HHI HSA
              go_wp2_with fail
              refine HS3.out.mono ?_; rintro e w6 ⟨vo6, rfl, ho6, -, hb6⟩
              have O6 := Lib.hid ho6
              have B6 := Lib.hid (B5.out.trans hb6)
              clear ho6 hb6 e0 e1 e2 e3 e4 e5 e6 e7 e8 e9 e10 e11 q0 q1 q2 HS3
              go_wp2_with fail
              go_roundw
              case rel => exact ⟨k + 1, by omega, by go_num, by rw [HS2.out]; exact O6, B6⟩
              case measure => simp [intOf]; omega
            · have hlo : 4102444800 ≤ (max (-2208988800) eA) := by omega
              have HS2 : Hid (spnK s.rules z.eras N (k + 1) = l) := by show _ = _; rw [HSN.out, HLO.out, HHI.out, spnI_none hlh]
              clear hlh HSN HLO HHI HSA
              go_wp2_with fail
              go_roundw
              case rel => exact ⟨k + 1, by omega, by go_num, by rw [HS2.out]; exact O5, B5⟩
              case measure => simp [intOf]; omega
      · obtain rfl : k = nn := by omega
        have hnl : ¬ (k : Int) < (k : Int) := by omega
        have HFI : Hid (spS s n = spnK s.rules z.eras N k) := by show _ = _; rw [HSP.out]; unfold spnZ; rw [HUNN.out, HNE.out]
        have hln := HTLE.out k (by rw [HNE.out]; exact Nat.le_refl _)
        generalize spnK s.rules z.eras N k = l at *
        obtain ⟨ao, co, rfl⟩ := own_shape OK.out
        have HBF : Hid (Below w.heap.size w wr) := HB3.out.trans (BK.out.mono HB3.out.size)
        by_cases hbig : 1000 < l.length
        · have hbi : (1000 : Int) < (l.length : Int) := by omega
          have HD : Hid (spE s n = 1) := by show _ = _; exact spE_l HE.out.symm (by rw [HFI.out]; exact hbig)
          have HK : Hid (spV s n = []) := spV_n (by rw [HD.out]; decide)
          clear hbig
          go_wp2_with fail
          go_ret2
          exact ⟨_, by rw [HD.out]; rfl, by rw [HK.out]; exact World.ownsRow_nil _ _ _ _, HBF.out⟩
        · have hbi : ¬ (1000 : Int) < (l.length : Int) := by omega
          have HD : Hid (spE s n = 0) := by show _ = _; exact spE_z HE.out.symm (by rw [HFI.out]; exact hbig)
          have HK : Hid (spV s n = l) := (spV_z HD.out).trans HFI.out
          clear hbig
          go_wp2_with fail
          go_ret2
          exact ⟨_, by rw [HD.out]; rfl, by rw [HK.out]; exact ownsRow_base HB3.out.size OK.out, HBF.out⟩
  · have hE0 : (E != 0) = true := by rw [bne_iff_ne]; exact h0
    have HD : Hid (spE s n = E) := by show _ = _; rw [spE_f (by rw [← HE.out]; exact h0), HE.out]
    have HK : Hid (spV s n = []) := spV_n (by rw [HD.out]; exact h0)
    clear h0
    go_wp2
    go_ret2
    exact ⟨_, by rw [HD.out]; rfl, by rw [HK.out]; exact World.ownsRow_nil _ _ _ _, C1.out.2.1.alloc (by have := C1.out.2.1.size; omega) _⟩
end Go.Proofs.YtbikdlcjbigafaaGreatDoor
