/-
  zones.Spans: the walk. · A zone of one era, read: hours as seconds (plain). · The library tells: civil and zones (the walks of CivilTells and ZonesTells). · LinksLead, plain: what a link leads to has the same spans. · slices.Equal over spans that are the same; a source's box.
-/
import Derived.BigQuiet
import Derived.Test.YtbikdlcjbigafaaGreatDoorJSpC
import Derived.Test.YtbikdlcjbigafaaGreatDoorJSoC
import Derived.Test.YtbikdlcjbigafaaGreatDoorJRdE
import Derived.Test.YtbikdlcjbigafaaGreatDoorJLnT
import Derived.Test.YtbikdlcjbigafaaGreatDoorJSbd
namespace Go.Proofs.YtbikdlcjbigafaaGreatDoor
set_option linter.unusedVariables false
set_option linter.unusedSimpArgs false
open Go.ChangeShapes Go.WideShapes Go.ChangeAt Go.RowKit Civ

theorem spnI_len (rules : List Rul) (x : Ero) (lo hi : Int) (l : List Spn) : (spnI rules x lo hi l).length ≤ l.length + (1 + (trE rules x).length) := by
  unfold spnI
  refine Nat.le_trans (foldP_len _ _ _) ?_
  unfold ptsI
  split
  · have h1 := srtC_len (if x.rl = ByteArray.empty then [] else ((trE rules x).map Trn.ins).filter fun t => decide (lo < t) && decide (t < hi))
    have h2 : (if x.rl = ByteArray.empty then [] else ((trE rules x).map Trn.ins).filter fun t => decide (lo < t) && decide (t < hi)).length ≤ (trE rules x).length := by
      split
      · simp
      · refine Nat.le_trans (List.length_filter_le _ _) ?_
        rw [List.length_map]
        exact Nat.le_refl _
    rw [List.length_cons]
    unfold chgI
    omega
  · simp
theorem spnK_succ (rules : List Rul) (eras : List Ero) (ends : List Int) (k : Nat) (h : k < eras.length) : spnK rules eras ends (k + 1) = spnI rules eras[k] (lowI ends k) (highI ends k) (spnK rules eras ends k) := by
  have e : eras[k]? = some eras[k] := List.getElem?_eq_getElem h
  show (match eras[k]? with | some x => _ | none => _) = _
  rw [e]
theorem spnK_len (rules : List Rul) (eras : List Ero) (ends : List Int) (h : ∀ x ∈ eras, (trE rules x).length ≤ 40000) : ∀ k, k ≤ eras.length → (spnK rules eras ends k).length ≤ 40001 * k
  | 0, _ => Nat.le_refl _
  | k + 1, hk => by
    have ih := spnK_len rules eras ends h k (by omega)
    have h1 := h (eras[k]'(by omega)) (List.getElem_mem _)
    have h2 := spnI_len rules (eras[k]'(by omega)) (lowI ends k) (highI ends k) (spnK rules eras ends k)
    rw [spnK_succ rules eras ends k (by omega)]
    omega
theorem trE_len {s : Src} {x : Ero} (h : ROk s x) : (trE s.rules x).length ≤ 40000 := by
  unfold trE
  rw [trns_len]
  have := (trn0_all s.rules x.rl h.ok).2
  have := h.n
  omega
theorem spnI_none {rules : List Rul} {x : Ero} {lo hi : Int} (h : ¬ lo < hi) (l : List Spn) : spnI rules x lo hi l = l := by
  unfold spnI ptsI
  rw [if_neg h]
  rfl
/-- what spans of a name are; what is wrong. -/
def spS (s : Src) (n : ByteArray) : List Spn := match s.zones[(folL s 8 n).toNat]? with
  | some z => spnZ s.rules z.eras
  | none => []
def spE (s : Src) (n : ByteArray) : Int := if fndS s n ≠ 0 then fndS s n else if 1000 < (spS s n).length then 1 else 0
def spV (s : Src) (n : ByteArray) : List Spn := if spE s n = 0 then spS s n else []
theorem spE_f {s : Src} {n : ByteArray} (h : fndS s n ≠ 0) : spE s n = fndS s n := by unfold spE; rw [if_pos h]
theorem spE_l {s : Src} {n : ByteArray} (h : fndS s n = 0) (h2 : 1000 < (spS s n).length) : spE s n = 1 := by unfold spE; rw [if_neg (by simp [h]), if_pos h2]
theorem spE_z {s : Src} {n : ByteArray} (h : fndS s n = 0) (h2 : ¬ 1000 < (spS s n).length) : spE s n = 0 := by unfold spE; rw [if_neg (by simp [h]), if_neg h2]
theorem spV_n {s : Src} {n : ByteArray} (h : spE s n ≠ 0) : spV s n = [] := by unfold spV; rw [if_neg h]
theorem spV_z {s : Src} {n : ByteArray} (h : spE s n = 0) : spV s n = spS s n := by unfold spV; rw [if_pos h]
set_option maxHeartbeats 8000000 in
set_option maxRecDepth 100000 in
theorem Spans_any (s : Src) (n : ByteArray) (vr vz vl : Value) (w : World) (hs : SrcAt w vr vz vl s) (hV : Tab w ∧ MxL w) :
    Calls Tryz.prog 9 #[.agg #[vr, vz, vl], .string n] w fun e w' => ∃ v, e = .returned (.tuple #[v, .int .i64 (spE s n)]) ∧ w'.ownsRow w.heap.size 39 4 v (spV s n).length ((spV s n).flatMap encQ) ∧ Below w.heap.size w w' := by
  have C0 := Lib.hid (SrB.new w vr vz vl)
  obtain ⟨W0, hW0⟩ : ∃ W0, W0 = w.alloc (.cells #[vr, vz, vl] 28) := ⟨_, rfl⟩
  rw [← hW0] at C0
  have HW := Lib.hid hW0
  have HS := Lib.hid hs
  have HV := Lib.hid hV
  have HFI := Lib.hid (fun wx (hb : Below w.heap.size w wx) => find_any s n vr vz vl wx (hs.mono hb) ⟨hV.1.below hb, hV.2.below hb⟩)
  clear hs hV hW0
  obtain ⟨E, hE⟩ : ∃ E, E = fndS s n := ⟨_, rfl⟩
  have HE := Lib.hid hE
  rw [← hE] at HFI
  clear hE
  obtain ⟨q0, q1, q2⟩ := C0.out.1
  go_enter Tryz.func9, Tryz.ntmps9
  go_upto_region 1 with fail
  rw [← HW.out]
  clear HW
  go_wp2_with fail
  refine (HFI.out _ C0.out.2.1).mono ?_; rintro e w1 ⟨nm, a, m, c, rfl, hz, hb1⟩
  have C1 := Lib.hid (C0.out.next hb1)
  have HZ := Lib.hid hz
  clear hb1 q0 q1 q2 C0 HFI hz
  by_cases h0 : E = 0
  · subst h0
    obtain ⟨i, hi, hfol, rfl, hx⟩ := HZ.out rfl
    have HGZ := Lib.hid (gdZ_of (by have := HE.out; unfold fndS at this; split at this; · exact absurd this.symm (by assumption)
                                    · rename_i h; simpa using h) i hi)
    have HSP : Hid (spS s n = spnZ s.rules s.zones[i].eras) := by
      show _ = _
      unfold spS
      rw [hfol, Int.toNat_natCast, List.getElem?_eq_getElem hi]
    clear hfol HZ
    generalize s.zones[i] = z at *
    clear hi
    obtain ⟨a', c', he, hlc⟩ := hx.shape
    simp only [Value.slice.injEq] at he
    obtain ⟨rfl, rfl, rfl⟩ := he
    obtain ⟨W2, hW2⟩ : ∃ W2, W2 = w1.alloc (.cells #[.string z.nm, .slice a z.eras.length c] 65) := ⟨_, rfl⟩
    have C2 : Hid (SrB w W2 vr vz vl) := by show SrB _ _ _ _ _; rw [hW2]; exact C1.out.next ((Below.refl _ _).alloc (Nat.le_refl _) _)
    have HW2 := Lib.hid hW2
    have G : Hid (BxO W2 w1.heap.size #[.string z.nm, .slice a z.eras.length c] 65) := by show BxO _ _ _ _; rw [hW2]; exact BxO.new _ _ _
    have HB2 : Hid (Below w1.heap.size w1 W2) := by show Below _ _ _; rw [hW2]; exact (Below.refl _ _).alloc (Nat.le_refl _) _
    have HX2 := Lib.hid (hx.mono HB2.out fun _ _ h => h)
    have HUN := Lib.hid (untils_any s z.nm z.eras vr vz vl (.slice a z.eras.length c) W2 (HS.out.mono C2.out.2.1) (HV.out.1.below C2.out.2.1) HX2.out HGZ.out.n1 HGZ.out.n20 HGZ.out.k)
    have HN20 := Lib.hid HGZ.out.n20
    have HUL := Lib.hid HGZ.out.len
    have HROK : Hid (∀ x ∈ z.eras, ROk s x) := fun x hx => HGZ.out.rok hx
    have HTLE : Hid (∀ k, k ≤ z.eras.length → (spnK s.rules z.eras (untL s.rules z.eras) k).length ≤ 800020) := fun k hk => by
      have h1 := spnK_len s.rules z.eras (untL s.rules z.eras) (fun x hx => trE_len (HROK.out x hx)) k hk
      have h2 := HN20.out
      omega
    obtain ⟨q0, q1, q2⟩ := C2.out.1
    have g0 : W2.cell? ⟨w1.heap.size, 0, none⟩ = some (.string z.nm) := G.out.cell 0
    have g1 : W2.cell? ⟨w1.heap.size, 1, none⟩ = some (.slice a z.eras.length c) := G.out.cell 1
    clear hx hW2
    go_upto_region 2 with fail
    rw [← HW2.out]
    clear HW2 C1
    go_wp2_with (go_at_call 11; refine (winIn _).mono ?_; rintro e w' ⟨rfl, rfl⟩)
    refine HUN.out.mono ?_; rintro e w3 ⟨vn, rfl, hr3, hb3⟩
    have C3 := Lib.hid (C2.out.next hb3)
    have G3 : Hid (BxO w3 w1.heap.size #[.string z.nm, .slice a z.eras.length c] 65) := (hb3.block _ G.out.lt).trans G.out
    have HX3 := Lib.hid (HX2.out.mono hb3 fun _ _ h => h)
    have hml := maxLen_eq _ hlc
    obtain ⟨N, hN⟩ : ∃ N, untL s.rules z.eras = N := ⟨_, rfl⟩
    rw [hN] at hr3 HUL HTLE
    obtain ⟨m, hm⟩ : ∃ m, N.length = m := ⟨_, rfl⟩
    have hNl : N.length + 1 = z.eras.length := HUL.out
    rw [hm] at hr3 hNl
    have R3 := Lib.hid hr3
    obtain ⟨an, cn, rfl⟩ := own_shape hr3
    have HUNN := Lib.hid hN
    have HM := Lib.hid hm
    clear hr3 hb3 q0 q1 q2 g0 g1 HUN C2 G HX2 HB2 hN hm
    have HB3 : Hid (Below w.heap.size w w3) := C3.out.2.1
    have g1 : w3.cell? ⟨w1.heap.size, 1, none⟩ = some (.slice a z.eras.length c) := G3.out.cell 1
    have hn20 : z.eras.length ≤ 20 := HN20.out
    obtain ⟨nn, hn⟩ : ∃ nn, z.eras.length = nn := ⟨_, rfl⟩
    have HNE := Lib.hid hn
    rw [hn] at hn20 hNl g1
    clear hlc hn hml
    go_wp2_with fail
    go_loopw [11, 35] (fun vo i wr => ∃ k : Nat, k ≤ nn ∧ i = .int .i64 k ∧ Hid (wr.ownsRow w3.heap.size 39 4 vo (spnK s.rules z.eras N k).length ((spnK s.rules z.eras N k).flatMap encQ)) ∧ Hid (Below w3.heap.size w3 wr)) (fun _ i _ => (nn - intOf i).toNat)
    case atStart => exact ⟨0, Nat.zero_le _, rfl, World.ownsRow_nil _ _ _ _, Below.refl _ _⟩
    case round =>
      obtain ⟨k, hk, rfl, OK, BK⟩ := hrel
      by_cases hlt : k < nn
      · have hki : (k : Int) < (nn : Int) := by omega
        have hkx : k < z.eras.length := by rw [HNE.out]; exact hlt
        obtain ⟨b, off, rfl, hb, ⟨d0, d1, d2, d3, d4, d5, d6, d7, d8, d9, d10, d11⟩, -⟩ := elemEro (HX3.out.mono BK.out fun _ _ h => h) k hkx
        have hmem : z.eras[k] ∈ z.eras := List.getElem_mem hkx
        have HSN := Lib.hid (spnK_succ s.rules z.eras N k hkx)
        have hln := HTLE.out k (by rw [HNE.out]; exact hk)
        have HRK := Lib.hid (HROK.out _ hmem)
        have HCK := Lib.hid (fun t => HGZ.out.cok hmem t)
        generalize spnK s.rules z.eras N k = l at *
        generalize z.eras[k] = x at *
        obtain ⟨ao, co, rfl⟩ := own_shape OK.out
        obtain ⟨W5, hW5⟩ : ∃ W5, W5 = wr.alloc (.cells #[.int .i64 x.off, .string x.rl, .int .i64 x.sv, .string x.fm, .bool x.en, .int .i64 x.yr, .int .i64 x.un.mo, .int .i64 x.un.k, .int .i64 x.un.a, .int .i64 x.un.n, .int .i64 x.un.t, .int .i64 x.un.c] 68) := ⟨_, rfl⟩
        have X5 : Hid (BxO W5 wr.heap.size #[.int .i64 x.off, .string x.rl, .int .i64 x.sv, .string x.fm, .bool x.en, .int .i64 x.yr, .int .i64 x.un.mo, .int .i64 x.un.k, .int .i64 x.un.a, .int .i64 x.un.n, .int .i64 x.un.t, .int .i64 x.un.c] 68) := by show BxO _ _ _ _; rw [hW5]; exact BxO.new _ _ _
        have O5 : Hid (W5.ownsRow w3.heap.size 39 4 (.slice ao l.length co) l.length (l.flatMap encQ)) := by show World.ownsRow _ _ _ _ _ _ _; rw [hW5]; exact OK.out.alloc _
        have B5 : Hid (Below w3.heap.size w3 W5) := by show Below _ _ _; rw [hW5]; exact BK.out.alloc BK.out.size _
        have HW5 := Lib.hid hW5
        have HBW : Hid (Below w.heap.size w W5) := HB3.out.trans (B5.out.mono HB3.out.size)
        have C5 : Hid (SrB w W5 vr vz vl) := C3.out.next B5.out
        have R5 := Lib.hid (ownsRow_below R3.out B5.out (Nat.le_refl _))
        have HSA := Lib.hid (fun lo hi (h : lo < hi) => spans_any s x lo hi l vr vz vl (.slice ao l.length co) w3.heap.size w W5 HS.out HBW.out O5.out HB3.out.size B5.out.size (HV.out.1.below HBW.out) HV.out.2 HRK.out HCK.out (by omega) h)
        clear hW5 hmem hln
        go_upto_region 10 with fail
        rw [← HW5.out]
        clear HW5 d0 d1 d2 d3 d4 d5 d6 d7 d8 d9 d10 d11
        obtain ⟨e0, e1, e2, e3, e4, e5, e6, e7, e8, e9, e10, e11, -, -, -, -, -, -, -, -, -, -, -, -, -⟩ := X5.out.twelve
        obtain ⟨q0, q1, q2⟩ := C5.out.1
        have hkm0 : k ≤ m := by omega
        by_cases hk0 : k = 0
        · subst hk0
          have HLO : Hid (lowI N 0 = -2208988800) := rfl
          by_cases hkm : 0 < m
          · have hkmi : (0 : Int) < (m : Int) := by omega
            have hkN : 0 < N.length := by rw [HM.out]; exact hkm
            obtain ⟨bn, rfl, hbn, cb⟩ := ent_of_own (show W5.ownsRow _ 3 1 (.slice an N.length cn) N.length (N.flatMap encJ) from by rw [HM.out]; exact R5.out) 0 hkN
            have HHI : Hid (highI N 0 = min (4102444800 : Int) N[0]) := by show _ = _; unfold highI; rw [if_pos hkN, getD_atI hkN]
            generalize N[0] = eB at *
            by_cases hlh : (-2208988800) < (min 4102444800 eB)
            · have hlo : ¬ (min 4102444800 eB) ≤ (-2208988800) := by omega
              have HS2 : Hid (spnK s.rules z.eras N (0 + 1) = spnI s.rules x (-2208988800) (min 4102444800 eB) l) := by show _ = _; rw [HSN.out, HLO.out, HHI.out]
              have HS3 := Lib.hid (HSA.out _ _ hlh)
              clear hlh HSN HLO HHI HSA
              go_wp2_with fail
              refine HS3.out.mono ?_; rintro e w6 ⟨vo6, rfl, ho6, -, hb6⟩
              have O6 := Lib.hid ho6
              have B6 := Lib.hid (B5.out.trans hb6)
              clear ho6 hb6 e0 e1 e2 e3 e4 e5 e6 e7 e8 e9 e10 e11 q0 q1 q2 HS3
              go_wp2_with fail
              go_roundw
              case rel => exact ⟨0 + 1, by omega, by go_num, by rw [HS2.out]; exact O6, B6⟩
              case measure => simp [intOf]; omega
            · have hlo : (min 4102444800 eB) ≤ (-2208988800) := by omega
              have HS2 : Hid (spnK s.rules z.eras N (0 + 1) = l) := by show _ = _; rw [HSN.out, HLO.out, HHI.out, spnI_none hlh]
              clear hlh HSN HLO HHI HSA
              go_wp2_with fail
              go_roundw
              case rel => exact ⟨0 + 1, by omega, by go_num, by rw [HS2.out]; exact O5, B5⟩
              case measure => simp [intOf]; omega
          · have hkmi : ¬ (0 : Int) < (m : Int) := by omega
            have HHI : Hid (highI N 0 = 4102444800) := by show _ = _; unfold highI; rw [if_neg (by rw [HM.out]; exact hkm)]
            by_cases hlh : (-2208988800) < 4102444800
            · have hlo : ¬ 4102444800 ≤ (-2208988800) := by omega
              have HS2 : Hid (spnK s.rules z.eras N (0 + 1) = spnI s.rules x (-2208988800) 4102444800 l) := by show _ = _; rw [HSN.out, HLO.out, HHI.out]
              have HS3 := Lib.hid (HSA.out _ _ hlh)
              clear hlh HSN HLO HHI HSA
              go_wp2_with fail
              refine HS3.out.mono ?_; rintro e w6 ⟨vo6, rfl, ho6, -, hb6⟩
              have O6 := Lib.hid ho6
              have B6 := Lib.hid (B5.out.trans hb6)
              clear ho6 hb6 e0 e1 e2 e3 e4 e5 e6 e7 e8 e9 e10 e11 q0 q1 q2 HS3
              go_wp2_with fail
              go_roundw
              case rel => exact ⟨0 + 1, by omega, by go_num, by rw [HS2.out]; exact O6, B6⟩
              case measure => simp [intOf]; omega
            · have hlo : 4102444800 ≤ (-2208988800) := by omega
              have HS2 : Hid (spnK s.rules z.eras N (0 + 1) = l) := by show _ = _; rw [HSN.out, HLO.out, HHI.out, spnI_none hlh]
              clear hlh HSN HLO HHI HSA
              go_wp2_with fail
              go_roundw
              case rel => exact ⟨0 + 1, by omega, by go_num, by rw [HS2.out]; exact O5, B5⟩
              case measure => simp [intOf]; omega
        · obtain ⟨j, hj⟩ : ∃ j, k = j + 1 := ⟨k - 1, by omega⟩
          have hk1 : (0 : Int) < (k : Int) := by omega
          have hjk : (k : Int) - 1 = (j : Int) := by omega
          have hjm : j < m := by omega
          have hjmi : (j : Int) < (m : Int) := by omega
          have hjN : j < N.length := by rw [HM.out]; exact hjm
          obtain ⟨bn, rfl, hbn, ca⟩ := ent_of_own (show W5.ownsRow _ 3 1 (.slice an N.length cn) N.length (N.flatMap encJ) from by rw [HM.out]; exact R5.out) j hjN
          have HLO : Hid (lowI N k = max (-2208988800 : Int) N[j]) := by show _ = _; unfold lowI; rw [if_neg hk0, show k - 1 = j by omega, getD_atI hjN]
          generalize hA : N[j] = eA at *
          clear hk0 hA
          by_cases hkm : k < m
          · have hkmi : (k : Int) < (m : Int) := by omega
            have hkN : k < N.length := by rw [HM.out]; exact hkm
            obtain ⟨bn', e, hbn', cb⟩ := ent_of_own (show W5.ownsRow _ 3 1 (.slice (some ⟨bn, 0, none⟩) N.length cn) N.length (N.flatMap encJ) from by rw [HM.out]; exact R5.out) k hkN
            simp only [Option.some.injEq, Addr.mk.injEq, and_true] at e
            subst e
            have HHI : Hid (highI N k = min (4102444800 : Int) N[k]) := by show _ = _; unfold highI; rw [if_pos hkN, getD_atI hkN]
            generalize hB : N[k] = eB at *
            clear hB hj
            by_cases hlh : (max (-2208988800) eA) < (min 4102444800 eB)
            · have hlo : ¬ (min 4102444800 eB) ≤ (max (-2208988800) eA) := by omega
              have HS2 : Hid (spnK s.rules z.eras N (k + 1) = spnI s.rules x (max (-2208988800) eA) (min 4102444800 eB) l) := by show _ = _; rw [HSN.out, HLO.out, HHI.out]
              have HS3 := Lib.hid (HSA.out _ _ hlh)
              clear hlh HSN HLO HHI HSA
              go_wp2_with fail
              refine HS3.out.mono ?_; rintro e w6 ⟨vo6, rfl, ho6, -, hb6⟩
              have O6 := Lib.hid ho6
              have B6 := Lib.hid (B5.out.trans hb6)
              clear ho6 hb6 e0 e1 e2 e3 e4 e5 e6 e7 e8 e9 e10 e11 q0 q1 q2 HS3
              go_wp2_with fail
              go_roundw
              case rel => exact ⟨k + 1, by omega, by go_num, by rw [HS2.out]; exact O6, B6⟩
              case measure => simp [intOf]; omega
            · have hlo : (min 4102444800 eB) ≤ (max (-2208988800) eA) := by omega
              have HS2 : Hid (spnK s.rules z.eras N (k + 1) = l) := by show _ = _; rw [HSN.out, HLO.out, HHI.out, spnI_none hlh]
              clear hlh HSN HLO HHI HSA
              go_wp2_with fail
              go_roundw
              case rel => exact ⟨k + 1, by omega, by go_num, by rw [HS2.out]; exact O5, B5⟩
              case measure => simp [intOf]; omega
          · have hkmi : ¬ (k : Int) < (m : Int) := by omega
            have HHI : Hid (highI N k = 4102444800) := by show _ = _; unfold highI; rw [if_neg (by rw [HM.out]; exact hkm)]
            clear hj
            by_cases hlh : (max (-2208988800) eA) < 4102444800
            · have hlo : ¬ 4102444800 ≤ (max (-2208988800) eA) := by omega
              have HS2 : Hid (spnK s.rules z.eras N (k + 1) = spnI s.rules x (max (-2208988800) eA) 4102444800 l) := by show _ = _; rw [HSN.out, HLO.out, HHI.out]
              have HS3 := Lib.hid (HSA.out _ _ hlh)
              clear hlh HSN HLO HHI HSA
              go_wp2_with fail
              refine HS3.out.mono ?_; rintro e w6 ⟨vo6, rfl, ho6, -, hb6⟩
              have O6 := Lib.hid ho6
              have B6 := Lib.hid (B5.out.trans hb6)
              clear ho6 hb6 e0 e1 e2 e3 e4 e5 e6 e7 e8 e9 e10 e11 q0 q1 q2 HS3
              go_wp2_with fail
              go_roundw
              case rel => exact ⟨k + 1, by omega, by go_num, by rw [HS2.out]; exact O6, B6⟩
              case measure => simp [intOf]; omega
            · have hlo : 4102444800 ≤ (max (-2208988800) eA) := by omega
              have HS2 : Hid (spnK s.rules z.eras N (k + 1) = l) := by show _ = _; rw [HSN.out, HLO.out, HHI.out, spnI_none hlh]
              clear hlh HSN HLO HHI HSA
              go_wp2_with fail
              go_roundw
              case rel => exact ⟨k + 1, by omega, by go_num, by rw [HS2.out]; exact O5, B5⟩
              case measure => simp [intOf]; omega
      · obtain rfl : k = nn := by omega
        have hnl : ¬ (k : Int) < (k : Int) := by omega
        have HFI : Hid (spS s n = spnK s.rules z.eras N k) := by show _ = _; rw [HSP.out]; unfold spnZ; rw [HUNN.out, HNE.out]
        have hln := HTLE.out k (by rw [HNE.out]; exact Nat.le_refl _)
        generalize spnK s.rules z.eras N k = l at *
        obtain ⟨ao, co, rfl⟩ := own_shape OK.out
        have HBF : Hid (Below w.heap.size w wr) := HB3.out.trans (BK.out.mono HB3.out.size)
        by_cases hbig : 1000 < l.length
        · have hbi : (1000 : Int) < (l.length : Int) := by omega
          have HD : Hid (spE s n = 1) := by show _ = _; exact spE_l HE.out.symm (by rw [HFI.out]; exact hbig)
          have HK : Hid (spV s n = []) := spV_n (by rw [HD.out]; decide)
          clear hbig
          go_wp2_with fail
          go_ret2
          exact ⟨_, by rw [HD.out]; rfl, by rw [HK.out]; exact World.ownsRow_nil _ _ _ _, HBF.out⟩
        · have hbi : ¬ (1000 : Int) < (l.length : Int) := by omega
          have HD : Hid (spE s n = 0) := by show _ = _; exact spE_z HE.out.symm (by rw [HFI.out]; exact hbig)
          have HK : Hid (spV s n = l) := (spV_z HD.out).trans HFI.out
          clear hbig
          go_wp2_with fail
          go_ret2
          exact ⟨_, by rw [HD.out]; rfl, by rw [HK.out]; exact ownsRow_base HB3.out.size OK.out, HBF.out⟩
  · have hE0 : (E != 0) = true := by rw [bne_iff_ne]; exact h0
    have HD : Hid (spE s n = E) := by show _ = _; rw [spE_f (by rw [← HE.out]; exact h0), HE.out]
    have HK : Hid (spV s n = []) := spV_n (by rw [HD.out]; exact h0)
    clear h0
    go_wp2
    go_ret2
    exact ⟨_, by rw [HD.out]; rfl, by rw [HK.out]; exact World.ownsRow_nil _ _ _ _, C1.out.2.1.alloc (by have := C1.out.2.1.size; omega) _⟩
end Go.Proofs.YtbikdlcjbigafaaGreatDoor

namespace Go.Proofs.YtbikdlcjbigafaaGreatDoor
set_option linter.unusedVariables false
set_option linter.unusedSimpArgs false
open Go.ChangeShapes Go.WideShapes Go.ChangeAt Go.RowKit Civ

/-- 'Zone A T - X'. -/
def zoT (T : Wd) : Wd := [90, 111, 110, 101, 32, 65, 32] ++ (T ++ [32, 45, 32, 88])
def zoS (K : Int) : Src := ⟨[], [⟨bx [65], [⟨K, ByteArray.empty, 0, bx [88], false, 0, ⟨0, 0, 0, 0, 0, 0⟩⟩]⟩], []⟩
theorem zo_read (T : Wd) (K : Int) (hT : wok T = true) (hO : offS (bx T) = (K, 0)) : srcX (bx (zoT T)) = 0 ∧ srcL (bx (zoT T)) = 0 ∧ srcV (bx (zoT T)) = zoS K := by
  have hw : ([zonWd, [65], T, [45], [88]] : List Wd).all wok = true := by
    simp only [List.all_cons, List.all_nil, hT, Bool.true_and, Bool.and_true]
    decide +kernel
  have hj : joinT [zonWd, [65], T, [45], [88]] = zoT T := rfl
  have hlen : (zoT T).length ≤ 40 := by
    have := ((wok_iff T).1 hT).2.1
    unfold zoT
    simp only [List.length_append, List.length_cons, List.length_nil]
    omega
  have hl : linesS (bx (zoT T)) = [zoT T] := by
    show splB 10 [] (zoT T) = [zoT T]
    have hn := join_nl _ hw
    rw [hj] at hn
    have h : ∀ (w cur : Wd), (10 : UInt8) ∉ w → splB 10 cur w = [cur ++ w] := by
      intro w
      induction w with
      | nil => intro cur _; simp [splB]
      | cons c w ih =>
        intro cur h
        show (if c = 10 then cur :: splB 10 [] w else splB 10 (cur ++ [c]) w) = _
        rw [if_neg (fun e => h (by simp [e])), ih _ (fun e => h (by simp [e]))]
        simp
    simpa using h _ [] hn
  have hb : ([zonWd, [65], T, [45], [88]] : List Wd).map bx = [zoneW, bx [65], bx T, dashS, bx [88]] := rfl
  have he : erE ([zoneW, bx [65], bx T, dashS, bx [88]].drop 2) = 0 := by
    show erE [bx T, dashS, bx [88]] = 0
    unfold erE
    have e1 : er1S [bx T, dashS, bx [88]] = 0 := if_pos rfl
    have e2 : fmtL (wAt [bx T, dashS, bx [88]] 2).data.toList = true := by show fmtL [88] = true; decide +kernel
    have e3 : wAt [bx T, dashS, bx [88]] 0 = bx T := rfl
    rw [e1, e2, e3, hO]
    rfl
  have hv : erV ([zoneW, bx [65], bx T, dashS, bx [88]].drop 2) = ⟨K, ByteArray.empty, 0, bx [88], false, 0, ⟨0, 0, 0, 0, 0, 0⟩⟩ := by
    show erV [bx T, dashS, bx [88]] = _
    have e1 : erRl [bx T, dashS, bx [88]] = ByteArray.empty := if_pos rfl
    have e2 : erSv [bx T, dashS, bx [88]] = 0 := if_pos rfl
    have e3 : wAt [bx T, dashS, bx [88]] 0 = bx T := rfl
    have e4 : erUn [bx T, dashS, bx [88]] = ⟨0, 0, 0, 0, 0, 0⟩ := if_pos rfl
    unfold erV
    rw [e1, e2, e3, e4, hO]
    rfl
  have hE : linE rd0 (zoT T) = 0 := by
    rw [← hj, linE_join hw, hb]
    have hn : nameS (bx [65]) = true := by decide +kernel
    have hr : ¬ wAt [zoneW, bx [65], bx T, dashS, bx [88]] 0 = ruleW := by show ¬ zoneW = ruleW; intro h; exact absurd (bx_inj h) (by decide)
    unfold lnE
    have hz0 : wAt [zoneW, bx [65], bx T, dashS, bx [88]] 0 = zoneW := rfl
    rw [if_neg (by simp), if_neg (by simp [rd0]), if_neg hr, if_pos hz0, if_neg (by show ¬ (_ ∨ nameS (bx [65]) = false); rw [hn]; simp)]
    exact he
  have hV : linV rd0 (zoT T) = ⟨zoS K, false⟩ := by
    rw [← hj, linV_join hw, hb]
    have hr : ¬ wAt [zoneW, bx [65], bx T, dashS, bx [88]] 0 = ruleW := by show ¬ zoneW = ruleW; intro h; exact absurd (bx_inj h) (by decide)
    unfold lnV
    have hz0 : wAt [zoneW, bx [65], bx T, dashS, bx [88]] 0 = zoneW := rfl
    rw [if_neg (by simp), if_neg (by simp [rd0]), if_neg hr, if_pos hz0, hv]
    rfl
  have hF : linsF rd0 0 (linesS (bx (zoT T))) = ((⟨zoS K, false⟩, 1), 0) := by
    rw [hl]
    show (if linE rd0 (zoT T) ≠ 0 then _ else linsF (linV rd0 (zoT T)) (0 + 1) []) = _
    rw [if_neg (by simp [hE]), hV]
    rfl
  have hz : ¬ 8000 < (bx (zoT T)).size := by rw [bx_size]; omega
  have hn2 : ¬ 200 < (linesS (bx (zoT T))).length := by rw [hl]; show ¬ 200 < 1; decide
  have hbig : ¬ (8000 < (bx (zoT T)).size ∨ 200 < (linesS (bx (zoT T))).length) := by rintro (h | h); exact hz h; exact hn2 h
  refine ⟨?_, ?_, ?_⟩
  · unfold srcX; rw [if_neg hbig, hF]; rfl
  · unfold srcL; rw [if_neg hbig, hF]; rfl
  · unfold srcV; rw [hF, if_neg (by rintro (h | h | h | h); exact hz h; exact hn2 h; exact h rfl; cases h)]
end Go.Proofs.YtbikdlcjbigafaaGreatDoor

namespace Go.Proofs.YtbikdlcjbigafaaGreatDoor
set_option linter.unusedVariables false
set_option linter.unusedSimpArgs false
open Go.ChangeShapes Go.WideShapes Go.ChangeAt Go.RowKit Civ

theorem telE : spE (zoS 3600) (bx [65]) = 0 := by decide +kernel
theorem telV : spV (zoS 3600) (bx [65]) = [⟨-2208988800, ⟨3600, false, bx [88]⟩⟩] := by kernel_rfl
theorem civil_tells (w : World) (hT : Tab w) : Calls Tryz.prog 29 #[] w fun e w' => e = .returned (.bool true) ∧ Below w.heap.size w w' := by
  have HD := Lib.hid (days_ok 2000 2 w hT (by omega) (by omega) (by omega) (by omega))
  rw [show dim 2000 2 = 29 from by decide] at HD
  clear hT
  go_enter Tryz.func29, Tryz.ntmps29
  go_wp2_with fail
  refine (winIn _).mono ?_; rintro e w' ⟨rfl, rfl⟩
  go_wp2_with fail
  refine HD.out.mono ?_; rintro e w1 ⟨rfl, n, rfl⟩
  go_wp2
  go_ret
  exact ⟨ret_bool (by simp), below_draws (Below.refl _ _) n⟩
set_option maxRecDepth 100000 in
set_option maxHeartbeats 4000000 in
theorem zones_tells (w : World) (hV : SrV w) (hT : Tab w) : Calls Tryz.prog 7 #[] w fun e w' => e = .returned (.bool true) ∧ Below w.heap.size w w' := by
  obtain ⟨r1, r2, r3⟩ := zo_read [49, 58, 48, 48] 3600 (by decide +kernel) (by decide +kernel)
  have HR := Lib.hid (Read_any (bx (zoT [49, 58, 48, 48])) w hV (by rw [bx_size]; decide))
  rw [r1, r2, r3, show bx (zoT [49, 58, 48, 48]) = ⟨#[90, 111, 110, 101, 32, 65, 32, 49, 58, 48, 48, 32, 45, 32, 88]⟩ from rfl] at HR
  have sb := srcV_bd (bx (zoT [49, 58, 48, 48])) (by rw [bx_size]; decide)
  rw [r3] at sb
  have HZ : Hid ((zoS 3600).zones.length = 1) := (show (zoS 3600).zones.length = 1 from rfl)
  have HRL : Hid ((zoS 3600).rules.length = 0) := (show (zoS 3600).rules.length = 0 from rfl)
  have HSP := Lib.hid (fun wx vr vz vl h hv => Spans_any (zoS 3600) (bx [65]) vr vz vl wx h hv)
  rw [telE, telV, show bx [65] = ⟨#[65]⟩ from rfl] at HSP
  have HCT := Lib.hid (fun wx (hb : Below w.heap.size w wx) => civil_tells wx (hT.below hb))
  have HTM := Lib.hid (fun wx (hb : Below w.heap.size w wx) => And.intro (hT.below hb) (hV.mx.below hb))
  obtain ⟨O, hO⟩ : ∃ o, zoS 3600 = o := ⟨_, rfl⟩
  rw [hO] at HR HSP HZ HRL sb
  clear hV hT r1 r2 r3 hO
  go_enter Tryz.func7, Tryz.ntmps7
  go_wp2_with fail
  refine HR.out.mono ?_; rintro e w1 ⟨vr, vz, vl, rfl, hx, b1⟩
  obtain ⟨W1, hW1⟩ : ∃ W1, W1 = w1.alloc (.cells #[vr, vz, vl] 28) := ⟨_, rfl⟩
  have B1 : Hid (Below w.heap.size w W1) := by show Below _ _ _; rw [hW1]; exact b1.alloc b1.size _
  have X1 : Hid (BxO W1 w1.heap.size #[vr, vz, vl] 28) := by show BxO _ _ _ _; rw [hW1]; exact BxO.new _ _ _
  have S1 : Hid (SrcAt W1 vr vz vl O) := by show SrcAt _ _ _ _ _; rw [hW1]; exact srcAt_of (hx.mono ((Below.refl _ _).alloc (Nat.le_refl _) _)) sb
  have H1 := Lib.hid hW1
  obtain ⟨a0, c0, rfl, -⟩ := hx.1.shape
  obtain ⟨a1, c1, rfl, -⟩ := hx.2.1.shape
  obtain ⟨a2, c2, rfl, -⟩ := hx.2.2.shape
  clear hW1 hx b1 HR sb
  go_upto_region 2 with fail
  rw [← H1.out]
  clear H1
  have x0 : W1.cell? ⟨w1.heap.size, 0, none⟩ = some (.slice a0 O.rules.length c0) := X1.out.cell 0
  have x1 : W1.cell? ⟨w1.heap.size, 1, none⟩ = some (.slice a1 1 c1) := by
    have := X1.out.cell 1
    rw [HZ.out] at this
    exact this
  have x2 : W1.cell? ⟨w1.heap.size, 2, none⟩ = some (.slice a2 O.links.length c2) := X1.out.cell 2
  have xl := X1.out.lt
  rw [HZ.out] at S1
  go_wp2_with fail
  refine (HSP.out _ _ _ _ S1.out (HTM.out _ B1.out)).mono ?_; rintro e w2 ⟨v, rfl, ho, b2⟩
  have B2 : Hid (Below w.heap.size w w2) := B1.out.trans (b2.mono B1.out.size)
  have ho : w2.ownsRow W1.heap.size 39 4 v 1 [.int .i64 (-2208988800), .int .i64 3600, .bool false, .string (bx [88])] := ho
  obtain ⟨g, cap, rfl⟩ : ∃ g cap, v = .slice (some ⟨g, 0, none⟩) 1 cap := by
    rcases ho.2 with ⟨_, h0⟩ | ⟨g, cap, _, rfl, _⟩
    · exact absurd h0 (by decide)
    · exact ⟨g, cap, rfl⟩
  have hg := ho.lt g rfl
  have k0 : w2.cell? ⟨g, 1, none⟩ = some (.int .i64 3600) := ho.cellAt 1 (by decide)
  have y1 := (b2.cell (p := ⟨w1.heap.size, 1, none⟩) xl).trans x1
  have yl := Nat.lt_of_lt_of_le xl b2.size
  clear x0 x1 x2 xl ho b2 HSP HTM S1 X1
  go_wp2_with fail
  refine (HCT.out _ B2.out).mono ?_; rintro e w3 ⟨rfl, b3⟩
  have B3 : Hid (Below w.heap.size w w3) := B2.out.trans (b3.mono B2.out.size)
  have z1 := (b3.cell (p := ⟨w1.heap.size, 1, none⟩) yl).trans y1
  have z0 := (b3.cell (p := ⟨g, 1, none⟩) hg.2).trans k0
  clear y1 yl k0 b3 HCT
  go_wp2
  go_ret
  exact ⟨ret_bool (by simp), B3.out⟩
end Go.Proofs.YtbikdlcjbigafaaGreatDoor

namespace Go.Proofs.YtbikdlcjbigafaaGreatDoor
set_option linter.unusedVariables false
set_option linter.unusedSimpArgs false
open Go.ChangeShapes Go.WideShapes Go.ChangeAt Go.RowKit Civ

theorem fidx_hd {α : Type} {p : α → Bool} {x : α} {xs : List α} (h : p x = true) : fidx p (x :: xs) = 0 := if_pos h
theorem fidx_tl {α : Type} {p : α → Bool} {x : α} {xs : List α} (h : p x = false) : fidx p (x :: xs) = if fidx p xs < 0 then -1 else fidx p xs + 1 := if_neg (by rw [h]; decide)
theorem folL_hit {s : Src} {k : Nat} {n : ByteArray} (h : 0 ≤ zIdx s n) : folL s (k + 1) n = zIdx s n := if_pos h
theorem folL_miss {s : Src} {k : Nat} {n m : ByteArray} {l : Lnk} (h : ¬ 0 ≤ zIdx s n) {i : Nat} (h2 : lIdx s n = (i : Int)) (h3 : s.links[i]? = some l) (h4 : l.of = m) : folL s (k + 1) n = folL s k m := by
  have e : folL s (k + 1) n = if lIdx s n < 0 then -1 else folL s k ((s.links[(lIdx s n).toNat]?).elim ByteArray.empty Lnk.of) := if_neg h
  rw [e, h2, if_neg (by omega), Int.toNat_natCast, h3, ← h4]
  rfl
theorem bx_nef {a b : Wd} (h : a ≠ b) : decide (bx a = bx b) = false := by rw [decide_eq_false_iff_not]; exact fun e => h (bx_inj e)
theorem bx_eqt (a : Wd) : decide (bx a = bx a) = true := by simp
theorem zIdx_one (xs : List Rz) : zIdx (srcO xs) (bx oneWd) = 0 := fidx_hd (bx_eqt oneWd)
theorem fol_one (xs : List Rz) (k : Nat) : folL (srcO xs) k (bx oneWd) = 0 := by
  cases k with
  | zero => exact zIdx_one xs
  | succ k => rw [folL_hit (by rw [zIdx_one]; exact Int.le_refl _), zIdx_one]
theorem zIdx_other (xs : List Rz) {n : Wd} (h1 : oneWd ≠ n) (h2 : twoWd ≠ n) : zIdx (srcO xs) (bx n) = -1 := by
  have e2 : fidx (fun z : Zon => decide (z.nm = bx n)) [⟨bx twoWd, (ersOf xs 1).map erO⟩] = -1 := (fidx_tl (p := fun z : Zon => decide (z.nm = bx n)) (x := ⟨bx twoWd, (ersOf xs 1).map erO⟩) (xs := []) (bx_nef h2)).trans rfl
  exact (fidx_tl (p := fun z : Zon => decide (z.nm = bx n)) (x := ⟨bx oneWd, (ersOf xs 0).map erO⟩) (xs := [⟨bx twoWd, (ersOf xs 1).map erO⟩]) (bx_nef h1)).trans (by rw [e2]; rfl)
theorem lIdx_three (xs : List Rz) : lIdx (srcO xs) (bx threeWd) = 0 := fidx_hd (bx_eqt threeWd)
theorem lIdx_four (xs : List Rz) : lIdx (srcO xs) (bx fourWd) = 1 := by
  have e2 : fidx (fun l : Lnk => decide (l.nm = bx fourWd)) [⟨bx threeWd, bx fourWd⟩] = 0 := fidx_hd (p := fun l : Lnk => decide (l.nm = bx fourWd)) (x := ⟨bx threeWd, bx fourWd⟩) (xs := []) (bx_eqt fourWd)
  exact (fidx_tl (p := fun l : Lnk => decide (l.nm = bx fourWd)) (x := ⟨bx oneWd, bx threeWd⟩) (xs := [⟨bx threeWd, bx fourWd⟩]) (bx_nef (by decide))).trans (by rw [e2]; rfl)
theorem fol_three (xs : List Rz) (k : Nat) : folL (srcO xs) (k + 1) (bx threeWd) = 0 := by
  rw [folL_miss (i := 0) (l := ⟨bx oneWd, bx threeWd⟩) (m := bx oneWd) (by rw [zIdx_other xs (by decide) (by decide)]; decide) (lIdx_three xs) rfl rfl]
  exact fol_one xs k
theorem fol_four (xs : List Rz) (k : Nat) : folL (srcO xs) (k + 2) (bx fourWd) = 0 := by
  rw [folL_miss (i := 1) (l := ⟨bx threeWd, bx fourWd⟩) (m := bx threeWd) (by rw [zIdx_other xs (by decide) (by decide)]; decide) (lIdx_four xs) rfl rfl]
  exact fol_three xs k
/-- names that lead to one zone have one row of spans. -/
theorem sp_same {s : Src} {n m : ByteArray} (h : folL s 8 n = folL s 8 m) : spE s n = spE s m ∧ spV s n = spV s m := by
  have h1 : fndS s n = fndS s m := by unfold fndS; rw [h]
  have h2 : spS s n = spS s m := by unfold spS; rw [h]
  have h3 : spE s n = spE s m := by unfold spE; rw [h1, h2]
  exact ⟨h3, by unfold spV; rw [h3, h2]⟩
theorem sp_three (xs : List Rz) : spE (srcO xs) (bx threeWd) = spE (srcO xs) (bx oneWd) ∧ spV (srcO xs) (bx threeWd) = spV (srcO xs) (bx oneWd) := sp_same (by rw [fol_three xs 7, fol_one])
theorem sp_four (xs : List Rz) : spE (srcO xs) (bx fourWd) = spE (srcO xs) (bx oneWd) ∧ spV (srcO xs) (bx fourWd) = spV (srcO xs) (bx oneWd) := sp_same (by rw [fol_four xs 6, fol_one])
end Go.Proofs.YtbikdlcjbigafaaGreatDoor

namespace Go.Proofs.YtbikdlcjbigafaaGreatDoor
set_option linter.unusedVariables false
set_option linter.unusedSimpArgs false
open Go.ChangeShapes Go.WideShapes Go.ChangeAt Go.RowKit Civ

set_option maxHeartbeats 1000000 in
set_option maxRecDepth 100000 in
theorem eqSpn_same (v u : Value) (D D' : Nat) (xs : List Spn) (w : World) (hv : w.ownsRow D 39 4 v xs.length (xs.flatMap encQ)) (hu : w.ownsRow D' 39 4 u xs.length (xs.flatMap encQ)) (hl : xs.length ≤ 1000) :
    Calls Tryz.prog 10 #[v, u] w fun e w' => e = .returned (.bool true) ∧ ∃ q, w' = w.drewN q := by
  obtain ⟨av, cv, rfl⟩ := own_shape hv
  obtain ⟨au, cu, rfl⟩ := own_shape hu
  have HV := Lib.hid hv
  have HU := Lib.hid hu
  clear hv hu
  go_enter Tryz.func10, Tryz.ntmps10
  go_wp2
  go_loopw [13] (fun i wr => ∃ k q : Nat, k ≤ xs.length ∧ i = .int .i64 k ∧ wr = w.drewN q) (fun i _ => (xs.length - intOf i).toNat)
  case atStart => exact ⟨0, 0, Nat.zero_le _, rfl, rfl⟩
  case round =>
    obtain ⟨k, q, hk, rfl, rfl⟩ := hrel
    by_cases hlt : k < xs.length
    · obtain ⟨b, rfl, hb, c0, c1, c2, c3⟩ := spn_of_own HV.out k hlt
      obtain ⟨b2, rfl, hb2, d0, d1, d2, d3⟩ := spn_of_own HU.out k hlt
      generalize xs[k] = x at *
      obtain ⟨xf, ⟨xo, xv, xn⟩⟩ := x
      dsimp only at c0 c1 c2 c3 d0 d1 d2 d3
      have hlti : (k : Int) < (xs.length : Int) := by omega
      go_wp2
      go_quiet (fail)
      go_wp2
      go_roundw
      case rel => exact ⟨k + 1, _, by omega, by go_num, rfl⟩
      case measure => simp [intOf]; omega
    · obtain rfl : k = xs.length := by omega
      have hnl : ¬ (xs.length : Int) < (xs.length : Int) := by omega
      go_wp2
      go_ret
      exact ⟨rfl, q, rfl⟩
theorem spV_le (s : Src) (n : ByteArray) : (spV s n).length ≤ 1000 := by
  by_cases h : spE s n = 0
  · rw [spV_z h]
    by_cases h2 : 1000 < (spS s n).length
    · exfalso
      by_cases h3 : fndS s n = 0
      · rw [spE_l h3 h2] at h; cases h
      · rw [spE_f h3] at h; exact h3 h
    · omega
  · rw [spV_n h]; exact Nat.zero_le _
/-- a source that is read, in a box of its own. -/
structure LkS (W wx : World) (B : Nat) (vr vz vl : Value) (s : Src) : Prop where
  b : Below W.heap.size W wx
  x : BxO wx B #[vr, vz, vl] 28
  s : SrcAt wx vr vz vl s
theorem LkS.next {W wx w' : World} {B : Nat} {vr vz vl : Value} {s : Src} (h : LkS W wx B vr vz vl s) (hb : Below wx.heap.size wx w') : LkS W w' B vr vz vl s :=
  ⟨h.b.trans (hb.mono h.b.size), (hb.block _ h.x.lt).trans h.x, h.s.mono hb⟩
theorem LkS.new {W w1 : World} {vr vz vl : Value} {s : Src} (hb : Below W.heap.size W w1) (hx : SrcAt w1 vr vz vl s) : LkS W (w1.alloc (.cells #[vr, vz, vl] 28)) w1.heap.size vr vz vl s :=
  ⟨hb.alloc hb.size _, BxO.new _ _ _, hx.mono ((Below.refl _ _).alloc (Nat.le_refl _) _)⟩
theorem LkS.cells {W wx : World} {B : Nat} {vr vz vl : Value} {s : Src} (h : LkS W wx B vr vz vl s) : wx.cell? ⟨B, 0, none⟩ = some vr ∧ wx.cell? ⟨B, 1, none⟩ = some vz ∧ wx.cell? ⟨B, 2, none⟩ = some vl ∧ B < wx.heap.size := ⟨h.x.cell 0, h.x.cell 1, h.x.cell 2, h.x.lt⟩
theorem own_next {w w' : World} {D : Nat} {e : TypeId} {sz n : Nat} {v : Value} {l : List Value} (h : w.ownsRow D e sz v n l) (hb : Below w.heap.size w w') : w'.ownsRow D e sz v n l := ownsRow_below h hb (Nat.le_refl _)
end Go.Proofs.YtbikdlcjbigafaaGreatDoor
