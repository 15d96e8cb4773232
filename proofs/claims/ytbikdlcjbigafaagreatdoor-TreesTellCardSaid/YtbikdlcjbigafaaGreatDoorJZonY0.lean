/-
  sundialref.SourceFault: the walk (under way). zones.Check: the walk. A map of names that is the call's own.
-/
import Derived.Deep.RegionHeld3
import Derived.Test.YtbikdlcjbigafaaGreatDoorJZonW0
namespace Go.Proofs.YtbikdlcjbigafaaGreatDoor
set_option linter.unusedVariables false
set_option linter.unusedSimpArgs false
open Go.ChangeShapes Go.WideShapes Go.ChangeAt Go.RowKit Civ

/-- a source's box, and that of a link. -/
def LkB (w wx : World) (vr vz vl : Value) (B : Nat) (l : Lnk) : Prop := SrB w wx vr vz vl ∧ (wx.cell? ⟨B, 0, none⟩ = some (.string l.of) ∧ wx.cell? ⟨B, 1, none⟩ = some (.string l.nm)) ∧ B < wx.heap.size
theorem LkB.next {w wx w' : World} {vr vz vl : Value} {B : Nat} {l : Lnk} (h : LkB w wx vr vz vl B l) (hb : Below wx.heap.size wx w') : LkB w w' vr vz vl B l :=
  ⟨h.1.next hb, ⟨(hb.cell (p := ⟨B, 0, none⟩) h.2.2).trans h.2.1.1, (hb.cell (p := ⟨B, 1, none⟩) h.2.2).trans h.2.1.2⟩, Nat.lt_of_lt_of_le h.2.2 hb.size⟩
theorem LkB.new {w wx : World} {vr vz vl : Value} (h : SrB w wx vr vz vl) (l : Lnk) : LkB w (wx.alloc (.cells #[.string l.of, .string l.nm] 61)) vr vz vl wx.heap.size l :=
  ⟨h.next ((Below.refl _ _).alloc (Nat.le_refl _) _), LnkAt.new wx l _, by rw [size_alloc]; omega⟩
end Go.Proofs.YtbikdlcjbigafaaGreatDoor
namespace Go.Proofs.YtbikdlcjbigafaaGreatDoor
set_option linter.unusedVariables false
set_option linter.unusedSimpArgs false
open Go.ChangeShapes Go.WideShapes Go.ChangeAt Go.RowKit Go.WideMaps Civ

theorem slaw : Maps.Keyed Tryz.prog 9 := Maps.Keyed.of_law (string_law Tryz.underlying9)
theorem uboolZ : Tryz.prog.underlying 4 = some .bool := by kernel_rfl
theorem zboolY (w : World) : (zeroValue 4).run Tryz.prog w = .ok (.bool false) w := by kernel_rfl
theorem boolY_inv {v : Value} {z : DataW Unit × List MemPlace} (h : plainElem Tryz.prog 4 v = some z) : ∃ b, v = .bool b ∧ z = (.lit (.bool b), []) := by
  unfold plainElem at h
  rw [uboolZ] at h
  cases v <;> simp at h
  exact ⟨_, rfl, h.symm⟩
def kS (s : ByteArray) : Lit := .string s.data.toList
theorem kS_eq {s : ByteArray} (h : s.size ≤ maxLen) : keyOf Tryz.prog 9 (.string s) = some (kS s) := keyOf_string_mk Tryz.underlying9 h
theorem kS_inj {a b : ByteArray} (e : kS a = kS b) : a = b := by
  unfold kS at e
  injection e with e
  obtain ⟨⟨a⟩⟩ := a
  obtain ⟨⟨b⟩⟩ := b
  exact congrArg (fun l => (⟨⟨l⟩⟩ : ByteArray)) e
theorem kS_key {s : ByteArray} (h : s.size ≤ maxLen) : WideAt.IsKeyLit (kS s) := Maps.Keyed.key slaw (kS_eq h)
/-- the names of ns are told true, no others. -/
def SnS (D : DataW Unit) (ns : List ByteArray) : Prop := Maps.IsMap D ∧ ∀ n : ByteArray, n.size ≤ maxLen → ∃ b, D.atKey (kS n) (.lit (.bool false)) = .lit (.bool b) ∧ (b = true ↔ n ∈ ns)
theorem SnS.zero : SnS (.map []) [] := ⟨⟨[], rfl⟩, fun n hn => ⟨false, by simp [DataW.atKey], by simp⟩⟩
theorem SnS.put {D : DataW Unit} {ns : List ByteArray} (h : SnS D ns) {y : ByteArray} (hy : y.size ≤ maxLen) : SnS (D.put (kS y) (.lit (.bool true))) (ns ++ [y]) := by
  refine ⟨h.1.put _ _, fun c hc => ?_⟩
  by_cases e : c = y
  · subst e
    exact ⟨true, by rw [Maps.atKey_put_same h.1 (kS_key hc)], by simp⟩
  · have hk : kS c ≠ kS y := fun e' => e (kS_inj e')
    obtain ⟨b, h1, h2⟩ := h.2 c hc
    exact ⟨b, by rw [Maps.atKey_put_other hk, h1], by rw [h2]; simp [e]⟩
def MpS (w : World) (b n : Nat) (D : DataW Unit) : Prop := w.ownsMap Tryz.prog 9 (plainElem Tryz.prog 4) b n D
theorem MpS.block {w w' : World} {b n : Nat} {D : DataW Unit} (h : MpS w b n D) (hb : w'.heap[b]? = w.heap[b]?) : MpS w' b n D := by
  obtain ⟨es, clock, h1, h2⟩ := h
  exact ⟨es, clock, hb.trans h1, h2⟩
set_option maxRecDepth 100000 in
theorem wpList_lookup_strB (w : World) {ops : Array Oper} {rest : List Oper} {o : Oper} {a : Act} {Q : Exit → Act → World → Prop}
    (hg : o.guard = none) (m x : Operand) (hop : o.op = Op.lookup 125 m x false) (b n : Nat) (D : DataW Unit) (ns : List ByteArray)
    (hm : a.eval m = .map (some b)) (hown : MpS w b n D) (hD : SnS D ns) (y : ByteArray) (hy : y.size ≤ maxLen) (hx : a.eval x = .string y)
    (hK : ∀ c : Bool, (c = true ↔ y ∈ ns) → wpList Tryz.prog ops Q rest (a.put o.dst (.bool c)) w) :
    wpList Tryz.prog ops Q (o :: rest) a w := by
  refine wpList_plain hg fun K' hK' => ?_
  obtain ⟨v, ps, hrun, hat⟩ := World.ownsMap.lookup hown slaw (t := 125) Tryz.underlying125 (zboolY w) (plainElem_bool uboolZ false) (kS_eq hy)
  obtain ⟨c, rfl, hc⟩ := boolY_inv hat
  obtain ⟨b', h1, h2⟩ := hD.2 y hy
  have e : c = b' := by
    have h3 := congrArg Prod.fst hc
    dsimp only at h3
    rw [h1] at h3
    injection h3 with h4
    injection h4 with h5
    exact h5.symm
  subst e
  unfold Oper.wp
  simp [execOp, hop, hm, hx, hrun, Result.andThen]
  exact hK' _ _ (hK c h2)
theorem SrB.low {w wx w' : World} {vr vz vl : Value} (h : SrB w wx vr vz vl) (hb : Below (w.heap.size + 1) wx w') : SrB w w' vr vz vl := by
  obtain ⟨⟨h1, h2, h3⟩, h4, h5⟩ := h
  refine ⟨⟨?_, ?_, ?_⟩, h4.trans (hb.mono (by omega)), by have := hb.size; omega⟩
  · exact (hb.cell (p := ⟨w.heap.size, 0, none⟩) (by show w.heap.size < w.heap.size + 1; omega)).trans h1
  · exact (hb.cell (p := ⟨w.heap.size, 1, none⟩) (by show w.heap.size < w.heap.size + 1; omega)).trans h2
  · exact (hb.cell (p := ⟨w.heap.size, 2, none⟩) (by show w.heap.size < w.heap.size + 1; omega)).trans h3
/-- a source's box, and the map of names. -/
structure KnB (w wx : World) (vr vz vl : Value) (B n : Nat) (D : DataW Unit) (ns : List ByteArray) : Prop where
  s : SrB w wx vr vz vl
  m : MpS wx B n D
  d : SnS D ns
  b : w.heap.size < B
  z : B < wx.heap.size
theorem KnB.next {w wx w' : World} {vr vz vl : Value} {B n : Nat} {D : DataW Unit} {ns : List ByteArray} (h : KnB w wx vr vz vl B n D ns) (hb : Below wx.heap.size wx w') : KnB w w' vr vz vl B n D ns :=
  ⟨h.s.next hb, h.m.block (hb.block B h.z), h.d, h.b, Nat.lt_of_lt_of_le h.z hb.size⟩
theorem KnB.new {w wx : World} {vr vz vl : Value} (h : SrB w wx vr vz vl) : KnB w (wx.alloc (.map #[] 0)) vr vz vl wx.heap.size 0 (.map []) [] :=
  ⟨h.next ((Below.refl _ _).alloc (Nat.le_refl _) _), World.ownsMap_made (H := Unit) wx Tryz.prog 9 (plainElem Tryz.prog 4), SnS.zero, h.2.2, by rw [size_alloc]; omega⟩
theorem KnB.put {w wx w' : World} {vr vz vl : Value} {B n : Nat} {D : DataW Unit} {ns : List ByteArray} (h : KnB w wx vr vz vl B n D ns) {y : ByteArray} (hy : y.size ≤ maxLen) (hm : MpS w' B (n + 1) (D.put (kS y) (.lit (.bool true)))) (hg : wx.grownBy w' (some B)) : KnB w w' vr vz vl B (n + 1) (D.put (kS y) (.lit (.bool true))) (ns ++ [y]) := by
  have hb : Below (w.heap.size + 1) wx w' := (Below.refl _ _).grown hg h.s.2.2 (fun g e => by have := h.b; obtain rfl := Option.some.inj e; omega)
  exact ⟨h.s.low hb, hm, h.d.put hy, h.b, Nat.lt_of_lt_of_le h.z hb.size⟩
theorem mem_zHas (l : List Zon) (n : ByteArray) : n ∈ l.map Zon.nm ↔ zHas l n = true := by
  unfold zHas
  rw [List.mem_map, List.any_eq_true]
  constructor
  · rintro ⟨z, h, rfl⟩; exact ⟨z, h, by simp⟩
  · rintro ⟨z, h, e⟩; exact ⟨z, h, by simpa using e⟩
theorem mem_lHas (l : List Lnk) (n : ByteArray) : n ∈ l.map Lnk.nm ↔ lHas l n = true := by
  unfold lHas
  rw [List.mem_map, List.any_eq_true]
  constructor
  · rintro ⟨z, h, rfl⟩; exact ⟨z, h, by simp⟩
  · rintro ⟨z, h, e⟩; exact ⟨z, h, by simpa using e⟩
theorem mem_zl (zs : List Zon) (ls : List Lnk) (n : ByteArray) : n ∈ zs.map Zon.nm ++ ls.map Lnk.nm ↔ zHas zs n = true ∨ lHas ls n = true := by
  rw [List.mem_append, mem_zHas, mem_lHas]
set_option maxHeartbeats 8000000 in
set_option maxRecDepth 100000 in
theorem zcheck_any (s : Src) (vr vz vl : Value) (w : World) (hs : SrcAt w vr vz vl s) (hV : Tab w ∧ MxL w) :
    Calls Tryz.prog 30 #[.agg #[vr, vz, vl]] w fun e w' => e = .returned (.int .i64 (srcE s)) ∧ Below w.heap.size w w' := by
  have B0 := Lib.hid (SrB.new w vr vz vl)
  have HS := Lib.hid hs
  have HV := Lib.hid hV
  obtain ⟨W0, hW0⟩ : ∃ W0, W0 = w.alloc (.cells #[vr, vz, vl] 28) := ⟨_, rfl⟩
  rw [← hW0] at B0
  have HW := Lib.hid hW0
  obtain ⟨ar, cr, rfl, hlr⟩ := hs.1.shape
  obtain ⟨az, cz, rfl, hlz⟩ := hs.2.1.shape
  obtain ⟨al, cl, rfl, hll⟩ := hs.2.2.shape
  have hmr := maxLen_eq _ hlr
  have hmz := maxLen_eq _ hlz
  have hml := maxLen_eq _ hll
  clear hs hV hlr hlz hll hW0
  by_cases hsz : SzOk s
  · have HZ := Lib.hid hsz
    obtain ⟨h1, h2, h3⟩ := hsz
    have n1 : ¬ (200 : Int) < (s.rules.length : Int) := by omega
    have n2 : ¬ (200 : Int) < (s.zones.length : Int) := by omega
    have n3 : ¬ (200 : Int) < (s.links.length : Int) := by omega
    go_enter Tryz.func30, Tryz.ntmps30
    go_upto_region 1 with fail
    rw [← HW.out]
    obtain ⟨q0, q1, q2⟩ := B0.out.1
    have hz0 : w.heap.size < W0.heap.size := B0.out.2.2
    go_wp2
    clear q0 q1 q2 hz0 HW
    go_loopw [37] (fun i wr => ∃ k : Nat, k ≤ s.rules.length ∧ i = .int .i64 k ∧ Hid (NoE (fun _ r => rulE r) s.rules k) ∧ Hid (SrB w wr (.slice ar s.rules.length cr) (.slice az s.zones.length cz) (.slice al s.links.length cl))) (fun i _ => (s.rules.length - intOf i).toNat)
    case atStart => exact ⟨0, Nat.zero_le _, rfl, NoE.zero _ _, B0⟩
    case round =>
      obtain ⟨k, hk, rfl, HN, BK⟩ := hrel
      by_cases hlt : k < s.rules.length
      · have hki : (k : Int) < (s.rules.length : Int) := by omega
        obtain ⟨b, off, rfl, hb, ⟨d0, d1, d2, d3, d4, d5, d6, d7, d8, d9, d10⟩, hR⟩ := elemRul (HS.out.mono BK.out.2.1).1 k hlt
        have HA := Lib.hid (fun h => HN.out.at hlt h)
        have HX := Lib.hid (fun h => HN.out.succ hlt h)
        have HC := Lib.hid (fun wx => checkRule_any s.rules[k] wx hR)
        generalize s.rules[k] = r at *
        obtain ⟨E, hE⟩ : ∃ E, E = rulE r := ⟨_, rfl⟩
        rw [← hE] at HC
        have HEE := Lib.hid hE
        clear hE hR
        have B1 := Lib.hid (BK.out.next ((Below.refl _ _).alloc (Nat.le_refl _) (.cells #[.string r.nm, .int .i64 r.fr, .int .i64 r.to, .int .i64 r.at'.mo, .int .i64 r.at'.k, .int .i64 r.at'.a, .int .i64 r.at'.n, .int .i64 r.at'.t, .int .i64 r.at'.c, .int .i64 r.sv, .string r.lt] 58)))
        go_wp2_with fail
        refine (HC.out _).mono ?_; rintro e w1 ⟨rfl, hb1⟩
        have B2 := Lib.hid (B1.out.next hb1)
        clear hb1 d0 d1 d2 d3 d4 d5 d6 d7 d8 d9 d10 HC B1
        by_cases h0 : E = 0
        · subst h0
          have HX2 := Lib.hid (HX.out HEE.out.symm)
          clear HA HX HEE
          go_wp2
          go_roundw
          case rel => exact ⟨k + 1, by omega, by go_num, HX2, B2⟩
          case measure => simp [intOf]; omega
        · have hq : (E != 0) = true := by rw [bne_iff_ne]; exact h0
          have HA2 : Hid (srcE s = E) := by
            have h := HA.out (by rw [← HEE.out]; exact h0)
            show _ = _
            rw [srcE_r HZ.out (by show ferr _ 0 s.rules ≠ 0; rw [h, ← HEE.out]; exact h0), HEE.out]
            exact h
          clear h0 HA HX
          go_wp2
          go_ret
          exact ⟨ret_int HA2.out.symm, B2.out.2.1⟩
      · obtain rfl : k = s.rules.length := by omega
        have hnl : ¬ (s.rules.length : Int) < (s.rules.length : Int) := by omega
        have HRE : Hid (rulsE s = 0) := HN.out.all
        have HRO := Lib.hid (rsOk_of HZ.out HRE.out)
        have hmm := @run_makeMap Tryz.prog
        have KB := Lib.hid (KnB.new BK.out)
        clear hlt hk HN
        obtain ⟨W1, hW1⟩ : ∃ W1, W1 = wr.alloc (.map #[] 0) := ⟨_, rfl⟩
        obtain ⟨B, hB⟩ : ∃ B, B = wr.heap.size := ⟨_, rfl⟩
        rw [← hW1, ← hB] at KB
        have HW1 := Lib.hid hW1
        have HB := Lib.hid hB
        clear hW1 hB
        go_upto_region 11 with fail
        rw [← HW1.out, ← HB.out]
        clear hmm HW1 HB
        obtain ⟨q0, q1, q2⟩ := KB.out.s.1
        have hz0 : w.heap.size < W1.heap.size := KB.out.s.2.2
        go_wp2
        clear q0 q1 q2 hz0
        go_loopw [51] (fun i wr => ∃ (k : Nat) (D : DataW Unit), k ≤ s.zones.length ∧ i = .int .i64 k ∧ Hid (NoE (zonF s) s.zones k) ∧ Hid (KnB w wr (.slice ar s.rules.length cr) (.slice az s.zones.length cz) (.slice al s.links.length cl) B k D ((s.zones.take k).map Zon.nm))) (fun i _ => (s.zones.length - intOf i).toNat)
        case atStart => exact ⟨0, _, Nat.zero_le _, rfl, NoE.zero _ _, KB⟩
        case round =>
          obtain ⟨k, D, hk, rfl, HN, KK⟩ := hrel
          obtain ⟨q0, q1, q2⟩ := KK.out.s.1
          have hz0 : w.heap.size < wr.heap.size := KK.out.s.2.2
          by_cases hlt : k < s.zones.length
          · have hki : (k : Int) < (s.zones.length : Int) := by omega
            obtain ⟨b, off, v, rfl, hb, ⟨d0, d1⟩, hE, hn⟩ := elemZon (HS.out.mono KK.out.s.2.1).2.1 k hlt
            obtain ⟨av, cv, rfl, -⟩ := hE.shape
            have HA := Lib.hid (fun h => HN.out.at hlt h)
            have HX := Lib.hid (fun h => HN.out.succ hlt h)
            have HMT : Hid ((s.zones.take (k + 1)).map Zon.nm = (s.zones.take k).map Zon.nm ++ [s.zones[k].nm]) := by
              show _ = _
              rw [List.take_succ_eq_append_getElem hlt, List.map_append]
              rfl
            have HC := Lib.hid (fun wx (hbx : Below wr.heap.size wr wx) => checkZone_any s s.zones[k] (.slice ar s.rules.length cr) (.slice (some ⟨b, off, none⟩) s.zones.length cz) (.slice al s.links.length cl) (.slice av _ cv) wx (HS.out.mono (KK.out.s.2.1.trans (hbx.mono (by omega)))) ⟨HV.out.1.below (KK.out.s.2.1.trans (hbx.mono (by omega))), HV.out.2.below (KK.out.s.2.1.trans (hbx.mono (by omega)))⟩ (hE.mono hbx fun _ _ h => h) hn HRO.out)
            generalize s.zones[k] = z at *
            have HZF : Hid (zonF s k z = if zonE s.rules z ≠ 0 then zonE s.rules z else if zHas (s.zones.take k) z.nm = true then 7 else 0) := rfl
            have HMM := Lib.hid (mem_zHas (s.zones.take k) z.nm)
            have HNN := Lib.hid hn
            obtain ⟨E, hE'⟩ : ∃ E, E = zonE s.rules z := ⟨_, rfl⟩
            rw [← hE'] at HC HZF
            have hba : Below wr.heap.size wr (wr.alloc (.cells #[.string z.nm, .slice av z.eras.length cv] 65)) := (Below.refl _ _).alloc (Nat.le_refl _) _
            have K1 := Lib.hid (KK.out.next hba)
            have HBA := Lib.hid hba
            obtain ⟨W2, hW2⟩ : ∃ W2, W2 = wr.alloc (.cells #[.string z.nm, .slice av z.eras.length cv] 65) := ⟨_, rfl⟩
            obtain ⟨A, hAA⟩ : ∃ A, A = wr.heap.size := ⟨_, rfl⟩
            have c0 : W2.cell? ⟨A, 0, none⟩ = some (.string z.nm) := by rw [hW2, hAA]; exact World.cell?_alloc_new ..
            have c1 : W2.cell? ⟨A, 1, none⟩ = some (.slice av z.eras.length cv) := by rw [hW2, hAA]; exact World.cell?_alloc_new ..
            have hAz : A < W2.heap.size := by rw [hW2, hAA, size_alloc]; omega
            rw [← hW2] at K1 HBA
            have HW2 := Lib.hid hW2
            have HAA := Lib.hid hAA
            clear hE' hE hn hba hW2 hAA
            go_upto_region 14 with fail
            rw [← HW2.out, ← HAA.out]
            clear q0 q1 q2 d0 d1 hz0
            obtain ⟨q0, q1, q2⟩ := K1.out.s.1
            have hz0 : w.heap.size < W2.heap.size := K1.out.s.2.2
            go_wp2_with fail
            refine (HC.out _ HBA.out).mono ?_; rintro e w3 ⟨rfl, hb3⟩
            have K3 := Lib.hid (K1.out.next hb3)
            have c2 : w3.cell? ⟨A, 0, none⟩ = some (.string z.nm) := (hb3.cell (p := ⟨A, 0, none⟩) hAz).trans c0
            have hAz3 : A < w3.heap.size := Nat.lt_of_lt_of_le hAz hb3.size
            clear hb3 q0 q1 q2 c0 c1 hz0 HC HBA hAz
            by_cases h0 : E = 0
            · subst h0
              by_cases hin : zHas (s.zones.take k) z.nm = true
              · have hzf : zonF s k z = 7 := by rw [HZF.out, if_neg (by simp), if_pos hin]
                have HIN : Hid (z.nm ∈ (s.zones.take k).map Zon.nm) := HMM.out.2 hin
                have HA2 : Hid (srcE s = 7) := by
                  have h := HA.out (by rw [hzf]; decide)
                  rw [hzf] at h
                  show _ = _
                  rw [srcE_z HZ.out HRE.out (by show ferr _ 0 s.zones ≠ 0; rw [h]; decide)]
                  exact h
                clear hin hzf HA HX HZF HMM
                go_wp2_with (at_lookup; refine wpList_lookup_strB _ rfl _ _ rfl B k D _ rfl K3.out.m K3.out.d z.nm HNN.out rfl ?_; intro c hc; obtain rfl : c = true := hc.2 HIN.out)
                go_wp2
                go_ret
                exact ⟨ret_int HA2.out.symm, K3.out.s.2.1⟩
              · have hzf : zonF s k z = 0 := by rw [HZF.out, if_neg (by simp), if_neg hin]
                have HIN : Hid (¬ z.nm ∈ (s.zones.take k).map Zon.nm) := fun h => hin (HMM.out.1 h)
                have HX2 := Lib.hid (HX.out hzf)
                have HKK := Lib.hid (kS_eq HNN.out)
                clear hin hzf HA HX HZF HMM
                go_wp2_with (first | (at_lookup; refine wpList_lookup_strB _ rfl _ _ rfl B k D _ rfl K3.out.m K3.out.d z.nm HNN.out rfl ?_; intro c hc; obtain rfl : c = false := by { cases c with | false => rfl | true => exact absurd (hc.1 rfl) HIN.out }) | (at_mapUpdate; refine wpList_mapUpdate_own (H := Unit) _ rfl _ _ _ 125 rfl 9 4 slaw Tryz.underlying125 (plainElem Tryz.prog 4) B k D rfl K3.out.m (by unfold maxLen; omega) (.string z.nm) (.bool true) (kS z.nm) rfl rfl HKK.out (.lit (.bool true)) [] (plainElem_bool uboolZ true) ?_; intro w8 hom hgm))
                have K4 := Lib.hid (K3.out.put HNN.out hom hgm)
                rw [← HMT.out] at K4
                clear hom hgm c2 hAz3
                go_wp2
                go_roundw
                case rel => exact ⟨k + 1, _, by omega, by go_num, HX2, K4⟩
                case measure => simp [intOf]; omega
            · have hq : (E != 0) = true := by rw [bne_iff_ne]; exact h0
              have HA2 : Hid (srcE s = E) := by
                have hzf : zonF s k z = E := by rw [HZF.out, if_pos h0]
                have h := HA.out (by rw [hzf]; exact h0)
                rw [hzf] at h
                show _ = _
                rw [srcE_z HZ.out HRE.out (by show ferr _ 0 s.zones ≠ 0; rw [h]; exact h0)]
                exact h
              clear h0 HA HX HZF HMM c2
              go_wp2
              go_ret
              exact ⟨ret_int HA2.out.symm, K3.out.s.2.1⟩
          · obtain rfl : k = s.zones.length := by omega
            have hnl2 : ¬ (s.zones.length : Int) < (s.zones.length : Int) := by omega
            have HZE : Hid (zonsE s = 0) := HN.out.all
            have KZ := KK.out
            rw [List.take_length] at KZ
            have KL := Lib.hid KZ
            clear hlt hk HN KZ KK
            go_wp2
            clear q0 q1 q2 hz0
            go_loopw [72] (fun i wr => ∃ (k : Nat) (D : DataW Unit), k ≤ s.links.length ∧ i = .int .i64 k ∧ Hid (NoE (lnkF s) s.links k) ∧ Hid (KnB w wr (.slice ar s.rules.length cr) (.slice az s.zones.length cz) (.slice al s.links.length cl) B (s.zones.length + k) D (s.zones.map Zon.nm ++ (s.links.take k).map Lnk.nm))) (fun i _ => (s.links.length - intOf i).toNat)
            case atStart => exact ⟨0, D, Nat.zero_le _, rfl, NoE.zero _ _, by show KnB _ _ _ _ _ _ _ _ _; simpa using KL.out⟩
            case round =>
              obtain ⟨k, D2, hk, rfl, HN, KK⟩ := hrel
              obtain ⟨q0, q1, q2⟩ := KK.out.s.1
              have hz0 : w.heap.size < wr.heap.size := KK.out.s.2.2
              by_cases hlt : k < s.links.length
              · have hki : (k : Int) < (s.links.length : Int) := by omega
                obtain ⟨b, off, rfl, hb, ⟨d0, d1⟩, hs1, hs2⟩ := elemLnk (HS.out.mono KK.out.s.2.1).2.2 k hlt
                have HA := Lib.hid (fun h => HN.out.at hlt h)
                have HX := Lib.hid (fun h => HN.out.succ hlt h)
                have HMT : Hid (s.zones.map Zon.nm ++ (s.links.take (k + 1)).map Lnk.nm = (s.zones.map Zon.nm ++ (s.links.take k).map Lnk.nm) ++ [s.links[k].nm]) := by
                  show _ = _
                  rw [List.take_succ_eq_append_getElem hlt, List.map_append, ← List.append_assoc]
                  rfl
                generalize s.links[k] = l at *
                have HLF : Hid (lnkF s k l = if nameS l.nm = false ∨ nameS l.of = false then 4 else if zHas s.zones l.nm = true ∨ lHas (s.links.take k) l.nm = true then 7 else 0) := rfl
                have HNM := Lib.hid (fun wx => name_lit l.nm wx hs2)
                have HNO := Lib.hid (fun wx => name_lit l.of wx hs1)
                have HMM := Lib.hid (mem_zl s.zones (s.links.take k) l.nm)
                have HNN := Lib.hid hs2
                have hba : Below wr.heap.size wr (wr.alloc (.cells #[.string l.of, .string l.nm] 61)) := (Below.refl _ _).alloc (Nat.le_refl _) _
                have K1 := Lib.hid (KK.out.next hba)
                obtain ⟨W2, hW2⟩ : ∃ W2, W2 = wr.alloc (.cells #[.string l.of, .string l.nm] 61) := ⟨_, rfl⟩
                obtain ⟨A, hAA⟩ : ∃ A, A = wr.heap.size := ⟨_, rfl⟩
                have c0 : W2.cell? ⟨A, 0, none⟩ = some (.string l.of) := by rw [hW2, hAA]; exact World.cell?_alloc_new ..
                have c1 : W2.cell? ⟨A, 1, none⟩ = some (.string l.nm) := by rw [hW2, hAA]; exact World.cell?_alloc_new ..
                have hAz : A < W2.heap.size := by rw [hW2, hAA, size_alloc]; omega
                rw [← hW2] at K1
                have HW2 := Lib.hid hW2
                have HAA := Lib.hid hAA
                clear hs1 hs2 hba hW2 hAA
                go_upto_region 24 with fail
                rw [← HW2.out, ← HAA.out]
                clear q0 q1 q2 d0 d1 hz0
                go_wp2_with fail
                refine (HNM.out _).mono ?_; rintro e w3 ⟨rfl, hb3⟩
                have K3 := Lib.hid (K1.out.next hb3)
                have c2 : w3.cell? ⟨A, 0, none⟩ = some (.string l.of) := (hb3.cell (p := ⟨A, 0, none⟩) hAz).trans c0
                have c3 : w3.cell? ⟨A, 1, none⟩ = some (.string l.nm) := (hb3.cell (p := ⟨A, 1, none⟩) hAz).trans c1
                have hAz3 : A < w3.heap.size := Nat.lt_of_lt_of_le hAz hb3.size
                clear hb3 c0 c1 HNM hAz K1
                rcases hn1 : nameS l.nm with _ | _
                · have HA2 : Hid (srcE s = 4) := by
                    have hzf : lnkF s k l = 4 := by rw [HLF.out, if_pos (.inl hn1)]
                    have h := HA.out (by rw [hzf]; decide)
                    rw [hzf] at h
                    show _ = _
                    rw [srcE_1 HZ.out HRE.out HZE.out (by show ferr _ 0 s.links ≠ 0; rw [h]; decide)]
                    exact h
                  clear hn1 HA HX HLF HMM
                  go_wp2
                  go_ret
                  exact ⟨ret_int HA2.out.symm, K3.out.s.2.1⟩
                · have HN1 := Lib.hid hn1
                  clear hn1
                  go_wp2_with fail
                  refine (HNO.out _).mono ?_; rintro e w4 ⟨rfl, hb4⟩
                  have K4 := Lib.hid (K3.out.next hb4)
                  have c4 : w4.cell? ⟨A, 0, none⟩ = some (.string l.of) := (hb4.cell (p := ⟨A, 0, none⟩) hAz3).trans c2
                  have c5 : w4.cell? ⟨A, 1, none⟩ = some (.string l.nm) := (hb4.cell (p := ⟨A, 1, none⟩) hAz3).trans c3
                  have hAz4 : A < w4.heap.size := Nat.lt_of_lt_of_le hAz3 hb4.size
                  clear hb4 c2 c3 HNO hAz3 K3
                  rcases hn2 : nameS l.of with _ | _
                  · have HA2 : Hid (srcE s = 4) := by
                      have hzf : lnkF s k l = 4 := by rw [HLF.out, if_pos (.inr hn2)]
                      have h := HA.out (by rw [hzf]; decide)
                      rw [hzf] at h
                      show _ = _
                      rw [srcE_1 HZ.out HRE.out HZE.out (by show ferr _ 0 s.links ≠ 0; rw [h]; decide)]
                      exact h
                    clear hn2 HA HX HLF HMM
                    go_wp2
                    go_ret
                    exact ⟨ret_int HA2.out.symm, K4.out.s.2.1⟩
                  · have HL2 : Hid (lnkF s k l = if zHas s.zones l.nm = true ∨ lHas (s.links.take k) l.nm = true then 7 else 0) := by
                      show _ = _
                      rw [HLF.out, if_neg (by rw [HN1.out, hn2]; simp)]
                    clear hn2 HLF
                    by_cases hin : zHas s.zones l.nm = true ∨ lHas (s.links.take k) l.nm = true
                    · have hzf : lnkF s k l = 7 := by rw [HL2.out, if_pos hin]
                      have HIN : Hid (l.nm ∈ s.zones.map Zon.nm ++ (s.links.take k).map Lnk.nm) := HMM.out.2 hin
                      have HA2 : Hid (srcE s = 7) := by
                        have h := HA.out (by rw [hzf]; decide)
                        rw [hzf] at h
                        show _ = _
                        rw [srcE_1 HZ.out HRE.out HZE.out (by show ferr _ 0 s.links ≠ 0; rw [h]; decide)]
                        exact h
                      clear hin hzf HA HX HL2 HMM
                      go_wp2_with (at_lookup; refine wpList_lookup_strB _ rfl _ _ rfl B (s.zones.length + k) D2 _ rfl K4.out.m K4.out.d l.nm HNN.out rfl ?_; intro c hc; obtain rfl : c = true := hc.2 HIN.out)
                      go_wp2
                      go_ret
                      exact ⟨ret_int HA2.out.symm, K4.out.s.2.1⟩
                    · have hzf : lnkF s k l = 0 := by rw [HL2.out, if_neg hin]
                      have HIN : Hid (¬ l.nm ∈ s.zones.map Zon.nm ++ (s.links.take k).map Lnk.nm) := fun h => hin (HMM.out.1 h)
                      have HX2 := Lib.hid (HX.out hzf)
                      have HKK := Lib.hid (kS_eq HNN.out)
                      clear hin hzf HA HX HL2 HMM
                      go_wp2_with (first | (at_lookup; refine wpList_lookup_strB _ rfl _ _ rfl B (s.zones.length + k) D2 _ rfl K4.out.m K4.out.d l.nm HNN.out rfl ?_; intro c hc; obtain rfl : c = false := by { cases c with | false => rfl | true => exact absurd (hc.1 rfl) HIN.out }) | (at_mapUpdate; refine wpList_mapUpdate_own (H := Unit) _ rfl _ _ _ 125 rfl 9 4 slaw Tryz.underlying125 (plainElem Tryz.prog 4) B (s.zones.length + k) D2 rfl K4.out.m (by unfold maxLen; omega) (.string l.nm) (.bool true) (kS l.nm) rfl rfl HKK.out (.lit (.bool true)) [] (plainElem_bool uboolZ true) ?_; intro w8 hom hgm))
                      have K5 := Lib.hid (K4.out.put HNN.out hom hgm)
                      rw [← HMT.out] at K5
                      clear hom hgm c4 c5 hAz4
                      go_wp2
                      go_roundw
                      case rel => exact ⟨k + 1, _, by omega, by go_num, HX2, K5⟩
                      case measure => simp [intOf]; omega
              · obtain rfl : k = s.links.length := by omega
                have hnl3 : ¬ (s.links.length : Int) < (s.links.length : Int) := by omega
                have HL1 : Hid (lnk1 s = 0) := HN.out.all
                have KZ := KK.out
                rw [List.take_length] at KZ
                have KM := Lib.hid KZ
                clear hlt hk HN KZ KK
                go_wp2
                clear q0 q1 q2 hz0
                go_loopw [97] (fun i wr => ∃ k : Nat, k ≤ s.links.length ∧ i = .int .i64 k ∧ Hid (NoE (fun _ l => lnkG s l) s.links k) ∧ Hid (KnB w wr (.slice ar s.rules.length cr) (.slice az s.zones.length cz) (.slice al s.links.length cl) B (s.zones.length + s.links.length) D2 (s.zones.map Zon.nm ++ s.links.map Lnk.nm))) (fun i _ => (s.links.length - intOf i).toNat)
                case atStart => exact ⟨0, Nat.zero_le _, rfl, NoE.zero _ _, KM⟩
                case round =>
                  obtain ⟨k, hk, rfl, HN, KK⟩ := hrel
                  obtain ⟨q0, q1, q2⟩ := KK.out.s.1
                  have hz0 : w.heap.size < wr.heap.size := KK.out.s.2.2
                  by_cases hlt : k < s.links.length
                  · have hki : (k : Int) < (s.links.length : Int) := by omega
                    obtain ⟨b, off, rfl, hb, ⟨d0, d1⟩, hs1, hs2⟩ := elemLnk (HS.out.mono KK.out.s.2.1).2.2 k hlt
                    have HA := Lib.hid (fun h => HN.out.at hlt h)
                    have HX := Lib.hid (fun h => HN.out.succ hlt h)
                    generalize s.links[k] = l at *
                    have HLG : Hid (lnkG s l = if zHas s.zones l.of = true ∨ lHas s.links l.of = true then 0 else 6) := rfl
                    have HMM := Lib.hid (mem_zl s.zones s.links l.of)
                    have HNN := Lib.hid hs1
                    have K1 := Lib.hid (KK.out.next ((Below.refl _ _).alloc (Nat.le_refl _) (.cells #[.string l.of, .string l.nm] 61)))
                    clear hs1 hs2
                    by_cases hin : zHas s.zones l.of = true ∨ lHas s.links l.of = true
                    · have HIN : Hid (l.of ∈ s.zones.map Zon.nm ++ s.links.map Lnk.nm) := HMM.out.2 hin
                      have HX2 := Lib.hid (HX.out (by show lnkG s l = 0; rw [HLG.out, if_pos hin]))
                      clear hin HA HX HLG HMM
                      go_wp2_with (at_lookup; refine wpList_lookup_strB _ rfl _ _ rfl B (s.zones.length + s.links.length) D2 _ rfl K1.out.m K1.out.d l.of HNN.out rfl ?_; intro c hc; obtain rfl : c = true := hc.2 HIN.out)
                      go_wp2
                      go_roundw
                      case rel => exact ⟨k + 1, by omega, by go_num, HX2, K1⟩
                      case measure => simp [intOf]; omega
                    · have HIN : Hid (¬ l.of ∈ s.zones.map Zon.nm ++ s.links.map Lnk.nm) := fun h => hin (HMM.out.1 h)
                      have hzf : lnkG s l = 6 := by rw [HLG.out, if_neg hin]
                      have HA2 : Hid (srcE s = 6) := by
                        have h := HA.out (by show lnkG s l ≠ 0; rw [hzf]; decide)
                        have h' : lnk2 s = lnkG s l := h
                        show _ = _
                        rw [srcE_2 HZ.out HRE.out HZE.out HL1.out (by rw [h', hzf]; decide), h', hzf]
                      clear hin hzf HA HX HLG HMM
                      go_wp2_with (at_lookup; refine wpList_lookup_strB _ rfl _ _ rfl B (s.zones.length + s.links.length) D2 _ rfl K1.out.m K1.out.d l.of HNN.out rfl ?_; intro c hc; obtain rfl : c = false := by { cases c with | false => rfl | true => exact absurd (hc.1 rfl) HIN.out })
                      go_wp2
                      go_ret
                      exact ⟨ret_int HA2.out.symm, K1.out.s.2.1⟩
                  · obtain rfl : k = s.links.length := by omega
                    have HL2 : Hid (lnk2 s = 0) := HN.out.all
                    have BK := Lib.hid KK.out.s
                    clear hlt hk HN KK
                    go_wp2
                    clear q0 q1 q2 hz0
                    go_loopw [110] (fun i wr => ∃ k : Nat, k ≤ s.links.length ∧ i = .int .i64 k ∧ Hid (NoE (fun _ l => lnkH s l) s.links k) ∧ Hid (SrB w wr (.slice ar s.rules.length cr) (.slice az s.zones.length cz) (.slice al s.links.length cl))) (fun i _ => (s.links.length - intOf i).toNat)
                    case atStart => exact ⟨0, Nat.zero_le _, rfl, NoE.zero _ _, BK⟩
                    case round =>
                      obtain ⟨k, hk, rfl, HN, BK⟩ := hrel
                      obtain ⟨q0, q1, q2⟩ := BK.out.1
                      have hz0 : w.heap.size < wr.heap.size := BK.out.2.2
                      by_cases hlt : k < s.links.length
                      · have hki : (k : Int) < (s.links.length : Int) := by omega
                        obtain ⟨b, off, rfl, hb, ⟨d0, d1⟩, -, -⟩ := elemLnk (HS.out.mono BK.out.2.1).2.2 k hlt
                        have HA := Lib.hid (fun h => HN.out.at hlt h)
                        have HX := Lib.hid (fun h => HN.out.succ hlt h)
                        generalize s.links[k] = l at *
                        have HLG : Hid (lnkH s l = if 0 ≤ folL s 8 l.nm then 0 else 9) := rfl
                        have HLD := Lib.hid (fun wx (hbx : Below w.heap.size w wx) => follow_any s l.nm (.slice ar s.rules.length cr) (.slice az s.zones.length cz) (.slice (some ⟨b, off, none⟩) s.links.length cl) wx (HS.out.mono hbx))
                        have L1 := Lib.hid (LkB.new BK.out l)
                        obtain ⟨W2, hW2⟩ : ∃ W2, W2 = wr.alloc (.cells #[.string l.of, .string l.nm] 61) := ⟨_, rfl⟩
                        obtain ⟨A, hAA⟩ : ∃ A, A = wr.heap.size := ⟨_, rfl⟩
                        rw [← hW2, ← hAA] at L1
                        have HW2 := Lib.hid hW2
                        have HAA := Lib.hid hAA
                        clear hW2 hAA
                        generalize folL s 8 l.nm = J at *
                        go_upto_region 39 with fail
                        rw [← HW2.out, ← HAA.out]
                        clear q0 q1 q2 d0 d1 hz0
                        obtain ⟨q0, q1, q2⟩ := L1.out.1.1
                        obtain ⟨c0, c1⟩ := L1.out.2.1
                        have hz0 : w.heap.size < W2.heap.size := L1.out.1.2.2
                        go_wp2_with fail
                        refine (HLD.out _ L1.out.1.2.1).mono ?_; rintro e w3 ⟨rfl, hb3⟩
                        have Z9 := Lib.hid (L1.out.1.next hb3)
                        clear hb3 q0 q1 q2 c0 c1 hz0 HLD
                        by_cases hJ : J < 0
                        · have hzf : lnkH s l = 9 := by rw [HLG.out, if_neg (by omega)]
                          have HA2 : Hid (srcE s = 9) := by
                            have h := HA.out (by show lnkH s l ≠ 0; rw [hzf]; decide)
                            have h' : lnk3 s = lnkH s l := h
                            show _ = _
                            rw [srcE_3 HZ.out HRE.out HZE.out HL1.out HL2.out, h', hzf]
                          have hj : (!decide (J < 0)) = false := by rw [decide_eq_true hJ]; rfl
                          rw [hj]
                          clear HA HX HLG hzf hj
                          go_wp2
                          go_ret
                          exact ⟨ret_int HA2.out.symm, Z9.out.2.1⟩
                        · have HX2 := Lib.hid (HX.out (by show lnkH s l = 0; rw [HLG.out, if_pos (by omega)]))
                          have hj : (!decide (J < 0)) = true := by rw [decide_eq_false hJ]; rfl
                          rw [hj]
                          clear HA HX HLG hj
                          go_wp2
                          go_roundw
                          case rel => exact ⟨k + 1, by omega, by go_num, HX2, Z9⟩
                          case measure => simp [intOf]; omega
                      · obtain rfl : k = s.links.length := by omega
                        have HA2 : Hid (srcE s = 0) := by
                          have h : lnk3 s = 0 := HN.out.all
                          show _ = _
                          rw [srcE_3 HZ.out HRE.out HZE.out HL1.out HL2.out, h]
                        clear hlt hk HN
                        go_wp2
                        go_ret
                        exact ⟨ret_int HA2.out.symm, BK.out.2.1⟩
  · have HE := Lib.hid (srcE_sz hsz)
    by_cases n1 : 200 < s.rules.length
    · have n1' : (200 : Int) < (s.rules.length : Int) := by omega
      clear hsz n1
      go_enter Tryz.func30, Tryz.ntmps30
      go_upto_region 1 with fail
      rw [← HW.out]
      obtain ⟨q0, q1, q2⟩ := B0.out.1
      go_wp2
      go_ret
      exact ⟨ret_int HE.out.symm, B0.out.2.1⟩
    · have n1' : ¬ (200 : Int) < (s.rules.length : Int) := by omega
      by_cases n2 : 200 < s.zones.length
      · have n2' : (200 : Int) < (s.zones.length : Int) := by omega
        clear hsz n1 n2
        go_enter Tryz.func30, Tryz.ntmps30
        go_upto_region 1 with fail
        rw [← HW.out]
        obtain ⟨q0, q1, q2⟩ := B0.out.1
        go_wp2
        go_ret
        exact ⟨ret_int HE.out.symm, B0.out.2.1⟩
      · have n2' : ¬ (200 : Int) < (s.zones.length : Int) := by omega
        have n3' : (200 : Int) < (s.links.length : Int) := by unfold SzOk at hsz; omega
        clear hsz n1 n2
        go_enter Tryz.func30, Tryz.ntmps30
        go_upto_region 1 with fail
        rw [← HW.out]
        obtain ⟨q0, q1, q2⟩ := B0.out.1
        go_wp2
        go_ret
        exact ⟨ret_int HE.out.symm, B0.out.2.1⟩
end Go.Proofs.YtbikdlcjbigafaaGreatDoor
