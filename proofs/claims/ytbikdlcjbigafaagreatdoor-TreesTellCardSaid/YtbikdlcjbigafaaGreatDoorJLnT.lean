/-
  source: an era more of the last zone, by the program's reader. source: a line by the program's reader: its ends. source: a line by the program's reader: what lies behind it. source: a line by the program's reader: what is no line, an empty one. source: a line by the program's reader: an era more. source: a line by the program's reader: a rule. source: a line by the program's reader: a link. source: a line by the program's reader: a zone. source: a line by the program's reader. source.Read: the walk.
-/
import Derived.BigQuiet
import Derived.Deep.WholeRow
import Derived.Test.YtbikdlcjbigafaaGreatDoorJRdI
import Derived.Test.YtbikdlcjbigafaaGreatDoorJOrdB
namespace Go.Proofs.YtbikdlcjbigafaaGreatDoor
set_option linter.unusedVariables false
set_option linter.unusedSimpArgs false
open Go.ChangeShapes Go.WideShapes Go.ChangeAt Go.RowKit Civ

/-- the program's reader: its box, its rows. -/
structure RdM (w : World) (R : Nat) (vr vz vl : Value) (st : RdS) : Prop where
  x : BxO w R #[vr, vz, vl, .bool st.op] 104
  s : SrS w (R + 1) vr vz vl st.s
theorem RdM.next {w w' : World} {R : Nat} {vr vz vl : Value} {st : RdS} (h : RdM w R vr vz vl st) (hb : Below w.heap.size w w') : RdM w' R vr vz vl st :=
  ⟨(hb.block _ h.x.lt).trans h.x, h.s.next hb⟩
theorem BxO.set4 {W : World} {b : Nat} {u0 u1 u2 u3 : Value} {t : TypeId} (h : BxO W b #[u0, u1, u2, u3] t) (v : Value) : BxO (W.setCell ⟨b, 3, none⟩ v) b #[u0, u1, u2, v] t := by
  simp [BxO, World.setCell, Array.getElem?_modify, show W.heap[b]? = _ from h]
theorem SrS.boxed {w : World} {D : Nat} {vr vz vl : Value} {s : Src} {b i : Nat} {cs : Array Value} {t : TypeId} (h : SrS w D vr vz vl s) (hb : BxO w b cs t) (h1 : t ≠ 58) (h2 : t ≠ 65) (h3 : t ≠ 61) (h4 : t ≠ 68) (u : Value) : SrS (w.setCell ⟨b, i, none⟩ u) D vr vz vl s := by
  obtain ⟨zs, e, h⟩ := h
  exact ⟨zs, e, h.box hb h1 h2 h3 h4 u⟩
/-- the mark 'an era more' is set. -/
theorem RdM.mark {w : World} {R : Nat} {vr vz vl : Value} {s : Src} {q : Bool} (hx : BxO w R #[vr, vz, vl, .bool q] 104) (hs : SrS w (R + 1) vr vz vl s) (p : Bool) : RdM (w.setCell ⟨R, 3, none⟩ (.bool p)) R vr vz vl ⟨s, p⟩ :=
  ⟨hx.set4 _, hs.boxed hx (by decide) (by decide) (by decide) (by decide) _⟩
/-- the last zone has an era more. -/
theorem rdm_putE {wr w' : World} {R G cap : Nat} {vr vl v' : Value} {q : Bool} {s : Src} {ob : Obj} {pre : List (Zon × Value)} {nm : ByteArray} {es : List Ero} {ve : Value} {y : Ero}
    (hx : BxO wr R #[vr, .slice (some ⟨G, 0, none⟩) (pre.length + 1) cap, vl, .bool q] 104) (ez : (pre ++ [((⟨nm, es⟩ : Zon), ve)]).map Prod.fst = s.zones)
    (hs : SrR wr (R + 1) vr (.slice (some ⟨G, 0, none⟩) (pre.length + 1) cap) vl s.rules (pre ++ [((⟨nm, es⟩ : Zon), ve)]) s.links)
    (ho : w'.ownsRow (R + 1) 68 12 v' (es.length + 1) (es.flatMap EroV ++ EroV y)) (hg : (wr.alloc ob).grownBy w' ve.ownBlock) (hf : v'.ownBlock = ve.ownBlock ∨ v'.ownBlock = some (wr.alloc ob).heap.size) :
    BxO (w'.setCell ⟨G, pre.length * 2 + 1, none⟩ v') R #[vr, .slice (some ⟨G, 0, none⟩) (pre.length + 1) cap, vl, .bool q] 104 ∧ SrS (w'.setCell ⟨G, pre.length * 2 + 1, none⟩ v') (R + 1) vr (.slice (some ⟨G, 0, none⟩) (pre.length + 1) cap) vl ⟨s.rules, addE s.zones y, s.links⟩ ∧ Below R wr (w'.setCell ⟨G, pre.length * 2 + 1, none⟩ v') := by
  have hx0 : wr.ownsRow (R + 1) 68 12 ve es.length (es.flatMap EroV) := hs.x (⟨nm, es⟩, ve) (by simp)
  have hk := own_keepD hx0 (by have := hx.lt; omega) hg
  have hG := (hs.z.lt G rfl).1
  have hez : addE s.zones y = (pre ++ [((⟨nm, es ++ [y]⟩ : Zon), v')]).map Prod.fst := by
    rw [← ez, List.map_append, List.map_append]
    exact addE_last _ _ _
  exact ⟨BxO.other (hx.sideV hx0 (by decide) hg) (by omega) _ _, ⟨_, hez.symm, hs.era ho hg hf⟩, (hk.mono (Nat.le_succ _)).setCell (p := ⟨G, pre.length * 2 + 1, none⟩) (by show R ≤ G; omega) _⟩
/-- a box of another type is kept. -/
theorem BxO.neRow {w : World} {b g D n m sz cap : Nat} {cs : Array Value} {t e : TypeId} {xs : List Value} (h : BxO w b cs t) (ho : w.ownsRow D e sz (.slice (some ⟨g, 0, none⟩) n cap) m xs) (hne : t ≠ e) : b ≠ g := by
  rcases ho.2 with ⟨e', -⟩ | ⟨g', c, cur, e', -, hh, -⟩
  · cases e'
  · simp only [Value.slice.injEq, Option.some.injEq, Addr.mk.injEq, and_true] at e'
    obtain ⟨rfl, -⟩ := e'
    rintro rfl
    have h2 : w.heap[b]? = some (.cells cs t (0, 0)) := h
    rw [hh] at h2
    simp only [Option.some.injEq, Obj.cells.injEq] at h2
    exact hne h2.2.1.symm
theorem BxO.neBox {w : World} {b g : Nat} {cs ds : Array Value} {t e : TypeId} (h : BxO w b cs t) (ho : BxO w g ds e) (hne : t ≠ e) : b ≠ g := by
  rintro rfl
  have h1 : w.heap[b]? = some (.cells cs t (0, 0)) := h
  have h2 : w.heap[b]? = some (.cells ds e (0, 0)) := ho
  rw [h1] at h2
  simp only [Option.some.injEq, Obj.cells.injEq] at h2
  exact hne h2.2.1
def erM (st : RdS) (ws : List ByteArray) : Int := if erE ws ≠ 0 then erE ws else if 20 ≤ lastN st.s.zones then 1 else 0
def lnO (st : RdS) (ws : List ByteArray) : RdS := ⟨⟨st.s.rules, addE st.s.zones (erV ws), st.s.links⟩, (erV ws).en⟩
set_option maxRecDepth 100000 in
set_option maxHeartbeats 4000000 in
theorem rdEra_any (ws : List ByteArray) (v : Value) (w : World) (R : Nat) (vr vz vl : Value) (st : RdS) (hV : SrV w) (hv : SlAt w 1 RSt v ws) (hz : ∀ x ∈ ws, 0 < x.size ∧ x.size ≤ 1000000) (M : RdM w R vr vz vl st) (hne : st.s.zones ≠ []) (hB : ersB st.s 200) (hc : st.s.zones.length ≤ 200) :
    Calls Tryz.prog 78 #[.pointer (some ⟨R, 0, none⟩), v] w fun e w' => e = PnE (erM st ws) (.tuple #[]) ∧ Below R w w' ∧ (∀ b cs, BxO w b cs 32 → BxO w' b cs 32) ∧ (erM st ws = 0 → RdM w' R vr vz vl (lnO st ws)) := by
  obtain ⟨zs, ez, hs⟩ := M.s
  obtain ⟨pre, z0, rfl⟩ : ∃ pre z0, zs = pre ++ [z0] := by
    have hz : zs ≠ [] := by rintro rfl; exact hne ez.symm
    exact ⟨_, _, (List.dropLast_concat_getLast hz).symm⟩
  obtain ⟨⟨nm, es⟩, ve⟩ := z0
  obtain ⟨G, cz, rfl, hG, hGl⟩ := own_pos hs.z (by simp)
  have hzl : pre.length + 1 ≤ 200 := by have h := congrArg List.length ez; simp at h; omega
  rw [List.length_append, List.length_singleton] at *
  have HV := Lib.hid hV
  have HER := Lib.hid (fun wx (hb : Below w.heap.size w wx) => era_any_s ws v wx (hV.below hb) (hv.mono hb fun _ _ h => h) hz)
  have HEM : Hid (erM st ws = if erE ws ≠ 0 then erE ws else if 20 ≤ es.length then 1 else 0) := by
    show _ = _
    unfold erM
    rw [← ez, List.map_append]
    show (if erE ws ≠ 0 then erE ws else if 20 ≤ lastN (_ ++ [(⟨nm, es⟩ : Zon)]) then _ else _) = _
    rw [lastN_last]
  have HLO : Hid (lnO st ws = ⟨⟨st.s.rules, addE st.s.zones (erV ws), st.s.links⟩, (erV ws).en⟩) := rfl
  have HEL : Hid (es.length ≤ 200) := hB ⟨nm, es⟩ (by rw [← ez]; simp)
  obtain ⟨nz, hnz⟩ : ∃ nz, pre.length + 1 = nz := ⟨_, rfl⟩
  have HNZ := Lib.hid hnz
  have tz : IntKind.i64.wrap ((nz : Int) - 1) = (pre.length : Int) := by rw [IntWalk.i64_in _ (by omega)]; omega
  have hiz2 : (pre.length : Int) < (nz : Int) := by omega
  have hiz0 : (0 : Int) ≤ (pre.length : Int) := by omega
  have MX := Lib.hid M.x
  have HEZ := Lib.hid ez
  have HSR := Lib.hid hs
  obtain ⟨ae, ce, hve⟩ := own_shape (hs.x (⟨nm, es⟩, ve) (by simp))
  have hve2 : ve = .slice ae es.length ce := hve
  clear hve
  subst hve2
  have o1 : w.cell? ⟨R, 1, none⟩ = some (.slice (some ⟨G, 0, none⟩) nz cz) := by rw [← hnz]; exact M.x.cell 1
  have oz : R < w.heap.size := M.x.lt
  have HRW : Hid (R ≤ w.heap.size) := Nat.le_of_lt oz
  clear hne hB hc ez hs hV hv hz M hnz
  generalize erM st ws = EM at *
  obtain ⟨ie, hie, he0, he1, he2⟩ := info_parts info_ero
  go_enter Tryz.func78, Tryz.ntmps78
  go_wp2_with fail
  go_quiet (fail)
  go_upto_region 1 with fail
  obtain ⟨wq, hwq⟩ : ∃ wq, w.drewN nq = wq := ⟨_, rfl⟩
  have BQ : Hid (Below w.heap.size w wq) := by show Below _ _ _; rw [← hwq]; exact below_draws (Below.refl _ _) nq
  rw [hwq]
  clear hwq o1 tz hiz2 hiz0
  by_cases hE : erE ws = 0
  · have HEM2 : Hid (EM = if 20 ≤ es.length then 1 else 0) := HEM.out.trans (if_neg (by simp [hE]))
    obtain ⟨x, hx⟩ : ∃ x, erV ws = x := ⟨_, rfl⟩
    rw [hx] at HLO
    go_wp2_with fail
    refine (HER.out _ BQ.out).mono ?_; rintro e w3 ⟨he, hb3⟩
    rw [PnE_ok hE, hx] at he
    subst he
    have B3 : Hid (Below w.heap.size w w3) := BQ.out.trans (hb3.mono BQ.out.size)
    obtain ⟨W4, hW4⟩ : ∃ W4, W4 = w3.alloc (.cells #[.int .i64 x.off, .string x.rl, .int .i64 x.sv, .string x.fm, .bool x.en, .int .i64 x.yr, .int .i64 x.un.mo, .int .i64 x.un.k, .int .i64 x.un.a, .int .i64 x.un.n, .int .i64 x.un.t, .int .i64 x.un.c] 68) := ⟨_, rfl⟩
    have B4 : Hid (Below w.heap.size w W4) := by show Below _ _ _; rw [hW4]; exact B3.out.alloc B3.out.size _
    have X4 : Hid (BxO W4 w3.heap.size (eaA x.off x.rl x.sv x.fm x.en x.yr x.un.mo x.un.k x.un.a x.un.n x.un.t x.un.c) 68) := by show BxO _ _ _ _; rw [hW4]; exact BxO.new _ _ _
    have HW4 := Lib.hid hW4
    have HGE : Hid (∀ g, (Value.slice ae es.length ce).ownBlock = some g → g ≠ w3.heap.size) := by
      show ∀ g, _
      intro g hg e
      have h1 := ((HSR.out.x (⟨nm, es⟩, .slice ae es.length ce) (by simp)).lt g hg).2
      have h2 := B3.out.size
      omega
    clear hW4 hx HER HEM hb3 BQ B3 oz
    go_upto_region 2 with (refine wpList_store_row rfl 68 _ _ rfl w3.heap.size #[.int .i64 x.off, .string x.rl, .int .i64 x.sv, .string x.fm, .bool x.en, .int .i64 x.yr, .int .i64 x.un.mo, .int .i64 x.un.k, .int .i64 x.un.a, .int .i64 x.un.n, .int .i64 x.un.t, .int .i64 x.un.c] rfl rfl 68 _ (World.alloc_heap_new w3 _) (by kernel_rfl) rfl (by simp [Value.oneCell']) ?_; rw [World.setRow_alloc_new])
    rw [← HW4.out]
    clear HW4
    have S4 := Lib.hid (HSR.out.next B4.out)
    have M4 : Hid (BxO W4 R #[vr, .slice (some ⟨G, 0, none⟩) (pre.length + 1) cz, vl, .bool st.op] 104) := (B4.out.block _ MX.out.lt).trans MX.out
    obtain ⟨zc, zf, zg⟩ := zon_own S4.out.z
    clear HSR MX
    by_cases h20 : 20 ≤ es.length
    · have hd : decide ((es.length : Int) < 20) = false := decide_eq_false (by omega)
      have HQ : Hid (EM = 1) := HEM2.out.trans (if_pos h20)
      clear h20
      go_wp2_with (go_at_call 80; refine (need_no _ _).mono ?_; rintro e w' ⟨rfl, rfl⟩)
      go_wp2
      exact ⟨rfl, by rw [HQ.out]; rfl, B4.out.mono HRW.out, fun b cs h => (B4.out.block _ h.lt).trans h, fun h => by rw [HQ.out] at h; cases h⟩
    · have hd : decide ((es.length : Int) < 20) = true := decide_eq_true (by omega)
      have HQ : Hid (EM = 0) := HEM2.out.trans (if_neg h20)
      have HEL2 : Hid (es.length ≤ 20) := by show _ ≤ _; omega
      clear h20
      go_upto_region 3 with (go_at_call 80; refine (need_yes _ _).mono ?_; rintro e w' ⟨rfl, rfl⟩)
      clear hd
      refine wp_region_B (fun w' => w'.cell? ⟨G, pre.length * 2 + 1, none⟩ = some (.slice ae es.length ce) ∧ w'.heap[w3.heap.size]? = some (.cells (eaA x.off x.rl x.sv x.fm x.en x.yr x.un.mo x.un.k x.un.a x.un.n x.un.t x.un.c) 68 (0, 0))) [5, 6] (by kernel_rfl) ?_
      have DD : Below W4.heap.size W4 W4.drew := (Below.refl _ _).drew
      obtain ⟨W5, hW5⟩ : ∃ W5, W4.drew = W5 := ⟨_, rfl⟩
      rw [hW5] at DD ⊢
      have B5 : Hid (Below w.heap.size w W5) := B4.out.trans (DD.mono B4.out.size)
      have S5 := Lib.hid (S4.out.next DD)
      have X5 : Hid (BxO W5 w3.heap.size (eaA x.off x.rl x.sv x.fm x.en x.yr x.un.mo x.un.k x.un.a x.un.n x.un.t x.un.c) 68) := (DD.block _ X4.out.lt).trans X4.out
      have M5 : Hid (BxO W5 R #[vr, .slice (some ⟨G, 0, none⟩) (pre.length + 1) cz, vl, .bool st.op] 104) := (DD.block _ M4.out.lt).trans M4.out
      clear DD hW5 zc zf zg S4 X4 M4 B4
      obtain ⟨zc, zf, zg⟩ := zon_own S5.out.z
      refine wpAnyB_takeW (i := 0) (v := (.pointer (some ⟨G, pre.length * 2, none⟩))) rfl (by kernel_rfl) (by kernel_rfl) (by kernel_rfl) (by rfl) (fun _ _ _ h => h) (by rfl) (fun _ => by go_simp) ?_
      try simp only [Act.put, List.setIfInBounds_toArray, List.set_cons_zero, List.set_cons_succ]
      refine wpAnyB_takeW (i := 1) (v := (.pointer (some ⟨G, pre.length * 2, none⟩))) rfl (by kernel_rfl) (by kernel_rfl) (by kernel_rfl) (by rfl) (fun _ _ _ h => h) (by rfl) (fun _ => by go_simp) ?_
      try simp only [Act.put, List.setIfInBounds_toArray, List.set_cons_zero, List.set_cons_succ]
      refine wpAnyB_takeW (i := 2) (v := (.pointer (some ⟨G, pre.length * 2, none⟩))) rfl (by kernel_rfl) (by kernel_rfl) (by kernel_rfl) (by rfl) (fun _ _ _ h => h) (by rfl) (fun _ => by go_simp) ?_
      try simp only [Act.put, List.setIfInBounds_toArray, List.set_cons_zero, List.set_cons_succ]
      refine wpAnyB_takeW (i := 3) (v := (.pointer (some ⟨G, pre.length * 2 + 1, none⟩))) rfl (by kernel_rfl) (by kernel_rfl) (by kernel_rfl) (by rfl) (fun _ _ _ h => h) (by rfl) (fun _ => by go_simp) ?_
      try simp only [Act.put, List.setIfInBounds_toArray, List.set_cons_zero, List.set_cons_succ]
      have HS0 : Hid (W5.cell? ⟨G, pre.length * 2 + 1, none⟩ = some (.slice ae es.length ce) ∧ W5.heap[w3.heap.size]? = some (.cells (eaA x.off x.rl x.sv x.fm x.en x.yr x.un.mo x.un.k x.un.a x.un.n x.un.t x.un.c) 68 (0, 0))) := ⟨zc, X5.out⟩
      have HS1 : Hid ((W5.alloc (.cells #[.int .i64 x.off, .string x.rl, .int .i64 x.sv, .string x.fm, .bool x.en, .int .i64 x.yr, .int .i64 x.un.mo, .int .i64 x.un.k, .int .i64 x.un.a, .int .i64 x.un.n, .int .i64 x.un.t, .int .i64 x.un.c] 68)).cell? ⟨G, pre.length * 2 + 1, none⟩ = some (.slice ae es.length ce) ∧ (W5.alloc (.cells #[.int .i64 x.off, .string x.rl, .int .i64 x.sv, .string x.fm, .bool x.en, .int .i64 x.yr, .int .i64 x.un.mo, .int .i64 x.un.k, .int .i64 x.un.a, .int .i64 x.un.n, .int .i64 x.un.t, .int .i64 x.un.c] 68)).heap[w3.heap.size]? = some (.cells (eaA x.off x.rl x.sv x.fm x.en x.yr x.un.mo x.un.k x.un.a x.un.n x.un.t x.un.c) 68 (0, 0))) := ⟨(((Below.refl _ _).alloc (Nat.le_refl _) _).cell (p := ⟨G, pre.length * 2 + 1, none⟩) zg).trans zc, X5.out.alloc _⟩
      refine wpAnyB_take (i := 4) [7, 8, 9, 10] (v := (.slice ae es.length ce)) rfl (by kernel_rfl) (by kernel_rfl) (by kernel_rfl) (by kernel_rfl) (by kernel_rfl) (by kernel_rfl) (fun _ _ _ h => h) (.inl ⟨by rfl, fun w' hS => by have h1 := hS.1; go_simp⟩) HS0.out ?_
      try simp only [Act.put, List.setIfInBounds_toArray, List.set_cons_zero, List.set_cons_succ]
      refine wpAnyB_take (i := 5) [6, 7, 8, 9, 10] (v := (.agg #[.int .i64 x.off, .string x.rl, .int .i64 x.sv, .string x.fm, .bool x.en, .int .i64 x.yr, .int .i64 x.un.mo, .int .i64 x.un.k, .int .i64 x.un.a, .int .i64 x.un.n, .int .i64 x.un.t, .int .i64 x.un.c])) rfl (by kernel_rfl) (by kernel_rfl) (by kernel_rfl) (by kernel_rfl) (by kernel_rfl) (by kernel_rfl) (fun _ _ _ h => h) (yieldsIf_row (by rfl) 68 (.tmp 5) rfl w3.heap.size rfl 68 #[.int .i64 x.off, .string x.rl, .int .i64 x.sv, .string x.fm, .bool x.en, .int .i64 x.yr, .int .i64 x.un.mo, .int .i64 x.un.k, .int .i64 x.un.a, .int .i64 x.un.n, .int .i64 x.un.t, .int .i64 x.un.c] (0, 0) _ (fun w' hS => hS.2) Tryz.underlying68 rfl (by kernel_rfl)) HS0.out ?_
      try simp only [Act.put, List.setIfInBounds_toArray, List.set_cons_zero, List.set_cons_succ]
      clear zc zf zg
      have hel2 : es.length ≤ 20 := HEL2.out
      refine wpAnyB_one (i := 6) rfl (by kernel_rfl) (fun K hK => ?_)
      refine step_wp rfl (wp_build1 63 68 (.tmp 33) rfl #[.int .i64 x.off, .string x.rl, .int .i64 x.sv, .string x.fm, .bool x.en, .int .i64 x.yr, .int .i64 x.un.mo, .int .i64 x.un.k, .int .i64 x.un.a, .int .i64 x.un.n, .int .i64 x.un.t, .int .i64 x.un.c] rfl ie _ Tryz.underlying63 hie he0 (by rw [he1]; decide) (by rw [he1]; decide) (by rw [he1]; exact fill_ero _ _ _ _ _ _ _ _ _ _ _ _) ?_)
      refine hK _ _ (fun _ => HS1.out) ?_
      try simp only [Act.put, List.setIfInBounds_toArray, List.set_cons_zero, List.set_cons_succ]
      refine wpAnyB_tail _ 7 _ _ _ _ (by kernel_rfl) rfl rfl (by rfl) ?_
      simp only [List.drop_succ_cons, List.drop_zero]
      clear hK K
      refine wpList_append_lies _ rfl (.tmp 32) (.tmp 34) 63 rfl (R + 1) 68 ie (.agg #[.int .i64 0, .string ⟨#[]⟩, .int .i64 0, .string ⟨#[]⟩, .bool false, .int .i64 0, .int .i64 0, .int .i64 0, .int .i64 0, .int .i64 0, .int .i64 0, .int .i64 0]) 12 112 Tryz.underlying63 hie he0 he1 he2 rfl (by decide) (.slice ae es.length ce) es.length (es.flatMap EroV) rfl ((S5.out.x (⟨nm, es⟩, .slice ae es.length ce) (by simp)).alloc _) ⟨W5.heap.size, 0, none⟩ 1 1 (EroV x) rfl rfl (cells_at _ _ _ _ _ rfl rfl) (eroV_one _) (by omega) (by unfold maxLen; omega) (by omega) (by rw [size_alloc]; have := M5.out.lt; omega) (W5.heap.size + 1) (size_alloc _ _) ?_
      intro gg cap6 w6 hown1 hgrow hat hltg
      have P6 := Lib.hid (rdm_putE M5.out HEZ.out S5.out hown1 hgrow (by rcases hat with h | h; exact .inl h.symm; exact .inr (by rw [size_alloc]; exact congrArg some h)))
      have X6 := Lib.hid (ero_kept X5.out S5.out.z HGE.out hgrow)
      obtain ⟨y1, y2, y3⟩ := zon_kept S5.out.z (S5.out.x (⟨nm, es⟩, .slice ae es.length ce) (by simp)) hgrow
      have KE : Hid (∀ b cs, BxO w b cs 32 → BxO (w6.setCell ⟨G, pre.length * 2 + 1, none⟩ (.slice (some ⟨gg, 0, none⟩) (es.length + 1) cap6)) b cs 32) := by
        show ∀ b cs, _
        intro b cs h
        have h5 : BxO W5 b cs 32 := (B5.out.block _ h.lt).trans h
        exact BxO.other (h5.sideV (S5.out.x (⟨nm, es⟩, .slice ae es.length ce) (by simp)) (by decide) hgrow) (h5.neRow S5.out.z (by decide)) _ _
      clear hown1 hgrow hat
      go_upto_region 4 with fail
      clear y1 y2 y3
      obtain ⟨W9, hW9⟩ : ∃ W9, W9 = w6.setCell ⟨G, pre.length * 2 + 1, none⟩ (.slice (some ⟨gg, 0, none⟩) (es.length + 1) cap6) := ⟨_, rfl⟩
      have X9 : Hid (BxO W9 w3.heap.size (eaA x.off x.rl x.sv x.fm x.en x.yr x.un.mo x.un.k x.un.a x.un.n x.un.t x.un.c) 68) := by show BxO _ _ _ _; rw [hW9]; exact BxO.other X6.out.1 X6.out.2 _ _
      rw [← hW9] at P6 KE ⊢
      have x4 : W9.cell? ⟨w3.heap.size, 4, none⟩ = some (.bool x.en) := X9.out.cell 4
      have xz : w3.heap.size < W9.heap.size := X9.out.lt
      have r3 : W9.cell? ⟨R, 3, none⟩ = some (.bool st.op) := P6.out.1.cell 3
      have rf : W9.frozen? ⟨R, 3, none⟩ = false := P6.out.1.frozen 3
      have rl : R < W9.heap.size := P6.out.1.lt
      clear hW9 X6
      go_wp2_with fail
      go_end0
      exact ⟨by rw [HQ.out]; rfl, ((B5.out.mono HRW.out).trans P6.out.2.2).setCell (p := ⟨R, 3, none⟩) (Nat.le_refl _) _, fun b cs h => BxO.other (KE.out b cs h) ((KE.out b cs h).neBox P6.out.1 (by decide)) _ _, fun _ => by rw [HLO.out]; exact RdM.mark P6.out.1 P6.out.2.1 _⟩
  · have HQ : Hid (EM = erE ws) := HEM.out.trans (if_pos hE)
    go_wp2_with fail
    refine (HER.out _ BQ.out).mono ?_; rintro e w3 ⟨he, hb3⟩
    rw [PnE_no hE] at he
    subst he
    have B3 : Hid (Below w.heap.size w w3) := BQ.out.trans (hb3.mono BQ.out.size)
    go_wp2
    exact ⟨rfl, by rw [HQ.out, PnE_no hE], B3.out.mono HRW.out, fun b cs h => (B3.out.block _ h.lt).trans h, fun h => absurd (HQ.out.symm.trans h) hE⟩
end Go.Proofs.YtbikdlcjbigafaaGreatDoor
namespace Go.Proofs.YtbikdlcjbigafaaGreatDoor
set_option linter.unusedVariables false
set_option linter.unusedSimpArgs false
open Go.ChangeShapes Go.WideShapes Go.ChangeAt Go.RowKit Civ

theorem leaves_same {P : Program} {fn : Func} {R : Ending → World → Prop} {t t' : Array Value} (h : ∀ w v, (results fn t).run P w = .ok v w → (results fn t').run P w = .ok v w) :
    ∀ (ds : List Deferred) (u : FrameMode) (w : World), Leaves P fn t R ds u w → Leaves P fn t' R ds u w := by
  intro ds
  induction ds with
  | nil =>
    intro u w hl
    cases u with
    | run => exact hl
    | returning => obtain ⟨v, h1, h2⟩ := hl; exact ⟨v, h _ _ h1, h2⟩
    | panicking c => exact hl
  | cons d ds ih =>
    intro u w hl
    obtain ⟨h1, fv, cap, f, args, h2, h3, h4⟩ := hl
    refine ⟨h1, fv, cap, f, args, h2, h3, h4.mono fun e u' w' h5 => ?_⟩
    cases e with
    | returned v => exact ih _ _ h5
    | panicked c => exact ih _ _ h5
    | outgrown => exact h5
theorem res_line (t : Array Value) : results Tryz.f46 t = results Tryz.f46 #[undef, undef, undef, undef, t.getD 4 undef] := by
  simp [results, Tryz.results46]
/-- what a slot holds (but for the result's) is of no account where the call panics. -/
theorem put_back {R : Ending → World → Prop} (d : Nat) (hd : d ≠ 4) (v : Value) (c : List PanicEntry) (a : Act) (w : World)
    (h : bodyPostD Tryz.prog Tryz.f46 R (.panic c) (a.put (some d) v) w) : bodyPostD Tryz.prog Tryz.f46 R (.panic c) a w := by
  refine leaves_same (fun w v => ?_) _ _ _ h
  have e : ∀ v, (a.put (some d) v).tmps.getD 4 undef = a.tmps.getD 4 undef := fun v => by
    simp [Act.put, Array.getElem?_setIfInBounds, hd]
  rw [res_line, e, ← res_line]
  exact id
theorem line_pan {R : Ending → World → Prop} {t : Array Value} {p : Addr} {x E : Int} {w : World} (ht : t.getD 4 undef = .pointer (some p)) (hp : p.spot = none) (hc : w.cell? p = some (.int .i64 x)) (hz : w.frozen? p = false)
    (h : R (.returned (.int .i64 E)) ((w.setCell p (.int .i64 E)).alloc (.cells #[.int .i64 E] 146))) :
    bodyPostD Tryz.prog Tryz.f46 R (.panic (fltC E)) { tmps := t, defers := [{ target := .fn (.func 76) #[.pointer (some p)], args := #[] }] } w := by
  refine leaves_cons (f := 76) (args := #[.pointer (some p)]) (by simp) (by simp [go_sem]) ?_
  refine (catch_pan p x E [] w hc hz hp).mono ?_
  rintro e u' w'' ⟨rfl, rfl, rfl⟩
  have hlt : p.block < w.heap.size := World.block_lt_of_cell? w p hc
  have hc2 : (((w.setCell p (.int .i64 E)).alloc (.cells #[.int .i64 E] 146))).cell? p = some (.int .i64 E) := by
    simp [go_sem, hc, hlt]
  show Leaves _ _ t R [] .returning _
  refine ⟨_, ?_, h⟩
  rw [res_line, ht]
  obtain ⟨pb, po, ps⟩ := p
  dsimp only at hp
  subst hp
  simp [results, Tryz.results46, go_sem, hc2]
theorem line_ret {R : Ending → World → Prop} {t : Array Value} {p : Addr} {E : Int} {w : World} (ht : t.getD 4 undef = .pointer (some p)) (hp : p.spot = none) (hc : w.cell? p = some (.int .i64 E))
    (h : R (.returned (.int .i64 E)) w) :
    bodyPostD Tryz.prog Tryz.f46 R .ret { tmps := t, defers := [{ target := .fn (.func 76) #[.pointer (some p)], args := #[] }] } w := by
  refine leaves_cons (f := 76) (args := #[.pointer (some p)]) (by simp) (by simp [go_sem]) ?_
  refine (catch_idle p w).mono ?_
  rintro e u' w'' ⟨rfl, rfl, rfl⟩
  have hlt : p.block < w''.heap.size := World.block_lt_of_cell? w'' p hc
  show Leaves _ _ t R [] .returning _
  refine ⟨_, ?_, h⟩
  rw [res_line, ht]
  obtain ⟨pb, po, ps⟩ := p
  dsimp only at hp
  subst hp
  simp [results, Tryz.results46, go_sem, hc]
end Go.Proofs.YtbikdlcjbigafaaGreatDoor
namespace Go.Proofs.YtbikdlcjbigafaaGreatDoor
set_option linter.unusedVariables false
set_option linter.unusedSimpArgs false
open Go.ChangeShapes Go.WideShapes Go.ChangeAt Go.RowKit Civ

/-- behind a line. -/
def LnP (w w' : World) (R : Nat) (e : Ending) (E : Int) (st : RdS) : Prop := e = .returned (.int .i64 E) ∧ Below R w w' ∧ (E = 0 → ∃ vr vz vl, RdM w' R vr vz vl st)
theorem LnP.bad {w w' : World} {R : Nat} {E F : Int} {st : RdS} (hR : R < w.heap.size) (hb : Below R w w') (h : E = F ∧ F ≠ 0) :
    LnP w ((w'.setCell ⟨w.heap.size, 0, none⟩ (.int .i64 F)).alloc (.cells #[.int .i64 F] 146)) R (.returned (.int .i64 F)) E st := by
  obtain ⟨rfl, h0⟩ := h
  exact ⟨rfl, (hb.setCell (p := ⟨w.heap.size, 0, none⟩) (Nat.le_of_lt hR) _).alloc (Nat.le_trans (Nat.le_of_lt hR) (by rw [World.size_setCell]; exact hb.size)) _, fun h => absurd h h0⟩
theorem LnP.good {w w' : World} {R : Nat} {vr vz vl : Value} {E : Int} {st st' : RdS} (hR : R < w.heap.size) (hb : Below R w w') (hE : BxO w' w.heap.size #[.int .i64 0] 32) (hM : RdM w' R vr vz vl st') (h : E = 0 ∧ st' = st) :
    LnP w (w'.setCell ⟨w.heap.size, 0, none⟩ (.int .i64 0)) R (.returned (.int .i64 0)) E st := by
  obtain ⟨rfl, rfl⟩ := h
  exact ⟨rfl, hb.setCell (p := ⟨w.heap.size, 0, none⟩) (Nat.le_of_lt hR) _, fun _ => ⟨_, _, _, BxO.other hM.x (Nat.ne_of_lt hR) _ _, hM.s.boxed hE (by decide) (by decide) (by decide) (by decide) _⟩⟩
theorem box_zero {w : World} {b : Nat} {t : TypeId} (h : BxO w b #[.int .i64 0] t) : w.cell? ⟨b, 0, none⟩ = some (.int .i64 0) ∧ w.frozen? ⟨b, 0, none⟩ = false ∧ b < w.heap.size := ⟨h.cell 0, h.frozen 0, h.lt⟩
section
variable {wr w' : World} {R : Nat} {vr vz vl v' : Value} {q : Bool} {s : Src} {ob : Obj} {zs : List (Zon × Value)}
theorem rdm_putR {y : Rul} (hx : BxO wr R #[vr, vz, vl, .bool q] 104) (ez : zs.map Prod.fst = s.zones) (hs : SrR wr (R + 1) vr vz vl s.rules zs s.links)
    (ho : w'.ownsRow (R + 1) 58 11 v' (s.rules.length + 1) (s.rules.flatMap RulV ++ RulV y)) (hg : (wr.alloc ob).grownBy w' vr.ownBlock) :
    RdM (w'.setCell ⟨R, 0, none⟩ v') R v' vz vl ⟨⟨s.rules ++ [y], s.zones, s.links⟩, q⟩ ∧ Below R wr (w'.setCell ⟨R, 0, none⟩ v') := by
  have hk := own_keepD hs.r (by have := hx.lt; omega) hg
  have hO := hx.sideV hs.r (by decide) hg
  refine ⟨⟨?_, ⟨zs, ez, (hs.rule ho hg).box hO (by decide) (by decide) (by decide) (by decide) _⟩⟩, (hk.mono (Nat.le_succ _)).setCell (p := ⟨R, 0, none⟩) (Nat.le_refl _) _⟩
  simp [BxO, World.setCell, Array.getElem?_modify, show w'.heap[R]? = _ from hO]
theorem rdm_putL {y : Lnk} (hx : BxO wr R #[vr, vz, vl, .bool q] 104) (ez : zs.map Prod.fst = s.zones) (hs : SrR wr (R + 1) vr vz vl s.rules zs s.links)
    (ho : w'.ownsRow (R + 1) 61 2 v' (s.links.length + 1) (s.links.flatMap encK ++ encK y)) (hg : (wr.alloc ob).grownBy w' vl.ownBlock) :
    RdM (w'.setCell ⟨R, 2, none⟩ v') R vr vz v' ⟨⟨s.rules, s.zones, s.links ++ [y]⟩, q⟩ ∧ Below R wr (w'.setCell ⟨R, 2, none⟩ v') := by
  have hk := own_keepD hs.l (by have := hx.lt; omega) hg
  have hO := hx.sideV hs.l (by decide) hg
  refine ⟨⟨?_, ⟨zs, ez, (hs.link ho hg).box hO (by decide) (by decide) (by decide) (by decide) _⟩⟩, (hk.mono (Nat.le_succ _)).setCell (p := ⟨R, 2, none⟩) (Nat.le_refl _) _⟩
  simp [BxO, World.setCell, Array.getElem?_modify, show w'.heap[R]? = _ from hO]
theorem rdm_putZ {y : Zon × Value} (hx : BxO wr R #[vr, vz, vl, .bool q] 104) (ez : zs.map Prod.fst = s.zones) (hs : SrR wr (R + 1) vr vz vl s.rules zs s.links)
    (hy : wr.ownsRow (R + 1) 68 12 y.2 y.1.eras.length (y.1.eras.flatMap EroV)) (hd : ∀ a ∈ zs, ∀ g, a.2.ownBlock = some g → y.2.ownBlock ≠ some g)
    (ho : w'.ownsRow (R + 1) 65 2 v' (zs.length + 1) (zs.flatMap encZ ++ encZ y)) (hg : (wr.alloc ob).grownBy w' vz.ownBlock) :
    BxO (w'.setCell ⟨R, 1, none⟩ v') R #[vr, v', vl, .bool q] 104 ∧ SrS (w'.setCell ⟨R, 1, none⟩ v') (R + 1) vr v' vl ⟨s.rules, s.zones ++ [y.1], s.links⟩ ∧ Below R wr (w'.setCell ⟨R, 1, none⟩ v') := by
  have hk := own_keepD hs.z (by have := hx.lt; omega) hg
  have hO := hx.sideV hs.z (by decide) hg
  refine ⟨?_, ⟨zs ++ [y], by rw [List.map_append, ez]; rfl, (hs.zone hy hd ho hg).box hO (by decide) (by decide) (by decide) (by decide) _⟩, (hk.mono (Nat.le_succ _)).setCell (p := ⟨R, 1, none⟩) (Nat.le_refl _) _⟩
  simp [BxO, World.setCell, Array.getElem?_modify, show w'.heap[R]? = _ from hO]
/-- a row that a literal makes. -/
theorem own_lit {w : World} {D : Nat} {cs : Array Value} {t : TypeId} {n sz : Nat} (hD : D ≤ w.heap.size) (hn : cs.size = n * sz) (hm : n ≤ maxLen) : (w.alloc (.cells cs t)).ownsRow D t sz (.slice (some ⟨w.heap.size, 0, none⟩) n n) n cs.toList :=
  ⟨by simpa using hn, .inr ⟨w.heap.size, n, cs, rfl, hD, World.alloc_heap_new w _, Nat.le_refl _, hm, hn, by rw [← hn]; exact List.take_of_length_le (by simp)⟩⟩
end
set_option maxRecDepth 10000 in
theorem fill_lnk (c0 c1 : Value) : Instr.fill (fun i => some (i * 2, 2)) ((Array.range (1 * 2)).map ((Value.agg #[.string ⟨#[]⟩, .string ⟨#[]⟩]).cells[· % (Value.agg #[.string ⟨#[]⟩, .string ⟨#[]⟩]).cells.size]!)) [(0, .agg #[c0, c1])] = some #[c0, c1] := by kernel_rfl
set_option maxRecDepth 10000 in
theorem fill_zon (c0 c1 : Value) : Instr.fill (fun i => some (i * 2, 2)) ((Array.range (1 * 2)).map ((Value.agg #[.string ⟨#[]⟩, .slice none 0 0]).cells[· % (Value.agg #[.string ⟨#[]⟩, .slice none 0 0]).cells.size]!)) [(0, .agg #[c0, c1])] = some #[c0, c1] := by kernel_rfl
theorem slAt_cap {w : World} {ws : List ByteArray} {a : Option Addr} {cw : Nat} (h : SlAt w 1 RSt (.slice a ws.length cw) ws) : ws.length ≤ cw := by
  rcases h with ⟨a', c', e, rfl⟩ | ⟨b, o, c', e, h0, h1, -⟩
  · simp
  · simp only [Value.slice.injEq] at e
    omega
/-- a link's words: what is wrong. -/
def lkE (ws : List ByteArray) : Int := if nmE (wAt ws 1) ≠ 0 then 4 else if nmE (wAt ws 2) ≠ 0 then 4 else 0
/-- a zone's words: what is wrong. -/
def znE (ws : List ByteArray) : Int := if nmE (wAt ws 1) ≠ 0 then 4 else erE (ws.drop 2)
theorem nmE_four {s : ByteArray} (h : nmE s ≠ 0) : nmE s = 4 := by
  cases hn : nameS s with
  | false => exact nmE_no hn
  | true => exact absurd (nmE_yes hn) h
/-- what the words of a line are compared with. -/
theorem pick_facts (s0 : ByteArray) : ∃ pR pZ pL : Bool, (s0.toList == [82, 117, 108, 101]) = pR ∧ (s0.toList == [90, 111, 110, 101]) = pZ ∧ (s0.toList == [76, 105, 110, 107]) = pL ∧ (pR = true ↔ s0 = ruleW) ∧ (pZ = true ↔ s0 = zoneW) ∧ (pL = true ↔ s0 = linkW) := by
  have l1 : (bx [82, 117, 108, 101]).toList = [82, 117, 108, 101] := by rw [ByteArray.toList_eq]; rfl
  have l2 : (bx [90, 111, 110, 101]).toList = [90, 111, 110, 101] := by rw [ByteArray.toList_eq]; rfl
  have l3 : (bx [76, 105, 110, 107]).toList = [76, 105, 110, 107] := by rw [ByteArray.toList_eq]; rfl
  have g1 := streqS s0 (bx [82, 117, 108, 101])
  have g2 := streqS s0 (bx [90, 111, 110, 101])
  have g3 := streqS s0 (bx [76, 105, 110, 107])
  rw [l1] at g1
  rw [l2] at g2
  rw [l3] at g3
  exact ⟨_, _, _, rfl, rfl, rfl, by rw [g1, decide_eq_true_iff]; rfl, by rw [g2, decide_eq_true_iff]; rfl, by rw [g3, decide_eq_true_iff]; rfl⟩
/-- the words lie where they lay. -/
theorem words_at {ws : List ByteArray} {b off cw : Nat} {w2 : World} (h : SlAt w2 1 RSt (.slice (some ⟨b, off, none⟩) ws.length cw) ws) (hb : b < w2.heap.size) (wx : World) (hx : Below w2.heap.size w2 wx) (j : Nat) (hj : j < ws.length) : wx.cell? ⟨b, off + j, none⟩ = some (.string (wAt ws j)) := by
  obtain ⟨b', o', e, -, q⟩ := entS h j hj
  simp only [Option.some.injEq, Addr.mk.injEq, and_true] at e
  obtain ⟨rfl, rfl⟩ := e
  rw [wAt_get hj]
  exact (hx.cell (p := ⟨b, off + j, none⟩) hb).trans q
end Go.Proofs.YtbikdlcjbigafaaGreatDoor
namespace Go.Proofs.YtbikdlcjbigafaaGreatDoor
set_option linter.unusedVariables false
set_option linter.unusedSimpArgs false
open Go.ChangeShapes Go.WideShapes Go.ChangeAt Go.RowKit Civ

set_option maxRecDepth 100000 in
set_option maxHeartbeats 4000000 in
theorem line_long (s : ByteArray) (w : World) (R : Nat) (vr vz vl : Value) (sx : Src) (op : Bool) (ws : List ByteArray) (hws : wdsS s.data.toList = ws) (hV : SrV w) (hs : s.size ≤ 1000000) (M : RdM w R vr vz vl ⟨sx, op⟩) (hL : lngE ws ≠ 0) :
    Calls Tryz.prog 46 #[.pointer (some ⟨R, 0, none⟩), .string s] w fun e w' => LnP w w' R e (lngE ws) (⟨sx, op⟩) := by
  obtain ⟨W1, hW1⟩ : ∃ W1, W1 = w.alloc (.cells #[.int .i64 0] 32) := ⟨_, rfl⟩
  have B1 : Hid (Below w.heap.size w W1) := by show Below _ _ _; rw [hW1]; exact (Below.refl _ _).alloc (Nat.le_refl _) _
  have E1 : Hid (BxO W1 w.heap.size #[.int .i64 0] 32) := by show BxO _ _ _ _; rw [hW1]; exact BxO.new _ _ _
  have HW1 := Lib.hid hW1
  have HWD := Lib.hid (words_any_s s W1 (hV.below B1.out) hs)
  rw [hws] at HWD
  have HZ : Hid (∀ x ∈ ws, 0 < x.size ∧ x.size ≤ 1000000) := by
    show ∀ x ∈ ws, _
    intro x hx
    rw [← hws] at hx
    have h1 := wdsS_size s.data.toList x hx
    have h2 : s.data.toList.length = s.size := by simp
    exact ⟨wdsS_pos _ x hx, by omega⟩
  have MM := Lib.hid M
  have HV := Lib.hid hV
  have hRw : Hid (R < w.heap.size) := M.x.lt
  clear hW1 hws hs M hV
  have hmf : ∀ (fn : Fn) (first cap : Array Value) (w : World), (Instr.makeFunc fn first cap).run Tryz.prog w = .ok (.func fn first cap) w := fun _ _ _ _ => rfl
  go_enter_defers Tryz.func46, Tryz.ntmps46
  go_upto_region 2 with fail
  rw [← HW1.out]
  clear HW1 hmf
  go_wp2_with fail
  refine HWD.out.mono ?_; rintro e w2 ⟨v, he, hv, hb2⟩
  have B2 : Hid (Below w.heap.size w w2) := B1.out.trans (hb2.mono B1.out.size)
  have E2 : Hid (BxO w2 w.heap.size #[.int .i64 0] 32) := (hb2.block _ E1.out.lt).trans E1.out
  have M2 := Lib.hid (MM.out.next B2.out)
  have V2 := Lib.hid (HV.out.below B2.out)
  have HWS := Lib.hid hv
  clear B1 E1 HWD MM HV hv hb2
  rw [PnE_no hL] at he
  subst he
  go_wp2
  refine line_pan (x := 0) (p := ⟨w.heap.size, 0, none⟩) (by rfl) rfl (E2.out.cell 0) (E2.out.frozen 0) ?_
  exact LnP.bad hRw.out (B2.out.mono (Nat.le_of_lt hRw.out)) ⟨rfl, hL⟩
set_option maxRecDepth 100000 in
set_option maxHeartbeats 4000000 in
theorem line_empty (s : ByteArray) (w : World) (R : Nat) (vr vz vl : Value) (sx : Src) (op : Bool) (ws : List ByteArray) (hws : wdsS s.data.toList = ws) (hV : SrV w) (hs : s.size ≤ 1000000) (M : RdM w R vr vz vl ⟨sx, op⟩) (hL : lngE ws = 0) (h0 : ws.length = 0) :
    Calls Tryz.prog 46 #[.pointer (some ⟨R, 0, none⟩), .string s] w fun e w' => LnP w w' R e (0) (⟨sx, op⟩) := by
  obtain ⟨W1, hW1⟩ : ∃ W1, W1 = w.alloc (.cells #[.int .i64 0] 32) := ⟨_, rfl⟩
  have B1 : Hid (Below w.heap.size w W1) := by show Below _ _ _; rw [hW1]; exact (Below.refl _ _).alloc (Nat.le_refl _) _
  have E1 : Hid (BxO W1 w.heap.size #[.int .i64 0] 32) := by show BxO _ _ _ _; rw [hW1]; exact BxO.new _ _ _
  have HW1 := Lib.hid hW1
  have HWD := Lib.hid (words_any_s s W1 (hV.below B1.out) hs)
  rw [hws] at HWD
  have HZ : Hid (∀ x ∈ ws, 0 < x.size ∧ x.size ≤ 1000000) := by
    show ∀ x ∈ ws, _
    intro x hx
    rw [← hws] at hx
    have h1 := wdsS_size s.data.toList x hx
    have h2 : s.data.toList.length = s.size := by simp
    exact ⟨wdsS_pos _ x hx, by omega⟩
  have MM := Lib.hid M
  have HV := Lib.hid hV
  have hRw : Hid (R < w.heap.size) := M.x.lt
  clear hW1 hws hs M hV
  have hmf : ∀ (fn : Fn) (first cap : Array Value) (w : World), (Instr.makeFunc fn first cap).run Tryz.prog w = .ok (.func fn first cap) w := fun _ _ _ _ => rfl
  go_enter_defers Tryz.func46, Tryz.ntmps46
  go_upto_region 2 with fail
  rw [← HW1.out]
  clear HW1 hmf
  go_wp2_with fail
  refine HWD.out.mono ?_; rintro e w2 ⟨v, he, hv, hb2⟩
  have B2 : Hid (Below w.heap.size w w2) := B1.out.trans (hb2.mono B1.out.size)
  have E2 : Hid (BxO w2 w.heap.size #[.int .i64 0] 32) := (hb2.block _ E1.out.lt).trans E1.out
  have M2 := Lib.hid (MM.out.next B2.out)
  have V2 := Lib.hid (HV.out.below B2.out)
  have HWS := Lib.hid hv
  clear B1 E1 HWD MM HV hv hb2
  rw [PnE_ok hL] at he
  subst he
  obtain ⟨aw, cw, rfl, hwl⟩ := HWS.out.shape
  have HCW : Hid (ws.length ≤ cw) := slAt_cap HWS.out
  clear hL
  have hnb : ((ws.length : Int) == 0) = true := by rw [h0]; rfl
  obtain ⟨e0, ef, el⟩ := box_zero E2.out
  clear h0
  go_wp2
  exact line_ret (p := ⟨w.heap.size, 0, none⟩) (by rfl) rfl (by simp [go_sem, e0]) (LnP.good hRw.out (B2.out.mono (Nat.le_of_lt hRw.out)) E2.out M2.out ⟨rfl, rfl⟩)
set_option maxRecDepth 100000 in
set_option maxHeartbeats 4000000 in
theorem line_else (s : ByteArray) (w : World) (R : Nat) (vr vz vl : Value) (sx : Src) (op : Bool) (ws : List ByteArray) (hws : wdsS s.data.toList = ws) (hV : SrV w) (hs : s.size ≤ 1000000) (M : RdM w R vr vz vl ⟨sx, op⟩) (hL : lngE ws = 0) (hop : op = false) (hn0 : ws.length ≠ 0) (hR : wAt ws 0 ≠ ruleW) (hZ : wAt ws 0 ≠ zoneW) (hK : wAt ws 0 ≠ linkW) :
    Calls Tryz.prog 46 #[.pointer (some ⟨R, 0, none⟩), .string s] w fun e w' => LnP w w' R e (4) (⟨sx, op⟩) := by
  subst hop
  obtain ⟨W1, hW1⟩ : ∃ W1, W1 = w.alloc (.cells #[.int .i64 0] 32) := ⟨_, rfl⟩
  have B1 : Hid (Below w.heap.size w W1) := by show Below _ _ _; rw [hW1]; exact (Below.refl _ _).alloc (Nat.le_refl _) _
  have E1 : Hid (BxO W1 w.heap.size #[.int .i64 0] 32) := by show BxO _ _ _ _; rw [hW1]; exact BxO.new _ _ _
  have HW1 := Lib.hid hW1
  have HWD := Lib.hid (words_any_s s W1 (hV.below B1.out) hs)
  rw [hws] at HWD
  have HZ : Hid (∀ x ∈ ws, 0 < x.size ∧ x.size ≤ 1000000) := by
    show ∀ x ∈ ws, _
    intro x hx
    rw [← hws] at hx
    have h1 := wdsS_size s.data.toList x hx
    have h2 : s.data.toList.length = s.size := by simp
    exact ⟨wdsS_pos _ x hx, by omega⟩
  have MM := Lib.hid M
  have HV := Lib.hid hV
  have hRw : Hid (R < w.heap.size) := M.x.lt
  clear hW1 hws hs M hV
  have hmf : ∀ (fn : Fn) (first cap : Array Value) (w : World), (Instr.makeFunc fn first cap).run Tryz.prog w = .ok (.func fn first cap) w := fun _ _ _ _ => rfl
  go_enter_defers Tryz.func46, Tryz.ntmps46
  go_upto_region 2 with fail
  rw [← HW1.out]
  clear HW1 hmf
  go_wp2_with fail
  refine HWD.out.mono ?_; rintro e w2 ⟨v, he, hv, hb2⟩
  have B2 : Hid (Below w.heap.size w w2) := B1.out.trans (hb2.mono B1.out.size)
  have E2 : Hid (BxO w2 w.heap.size #[.int .i64 0] 32) := (hb2.block _ E1.out.lt).trans E1.out
  have M2 := Lib.hid (MM.out.next B2.out)
  have V2 := Lib.hid (HV.out.below B2.out)
  have HWS := Lib.hid hv
  clear B1 E1 HWD MM HV hv hb2
  rw [PnE_ok hL] at he
  subst he
  obtain ⟨aw, cw, rfl, hwl⟩ := HWS.out.shape
  have HCW : Hid (ws.length ≤ cw) := slAt_cap HWS.out
  clear hL
  have hnb : ((ws.length : Int) == 0) = false := by rw [beq_eq_false_iff_ne]; omega
  have hi0 : (0 : Int) < (ws.length : Int) := by omega
  obtain ⟨b, off, rfl, hbw, -⟩ := entS HWS.out 0 (by omega)
  have HWC := Lib.hid (words_at HWS.out hbw)
  have k0 := HWC.out w2 (Below.refl _ _) 0 (by omega)
  rw [Nat.add_zero] at k0
  obtain ⟨r0, r1, r2, r3⟩ : w2.cell? ⟨R, 0, none⟩ = some vr ∧ w2.cell? ⟨R, 1, none⟩ = some vz ∧ w2.cell? ⟨R, 2, none⟩ = some vl ∧ w2.cell? ⟨R, 3, none⟩ = some (.bool false) := ⟨M2.out.x.cell 0, M2.out.x.cell 1, M2.out.x.cell 2, M2.out.x.cell 3⟩
  obtain ⟨pR, pZ, pL, hpR, hpZ, hpL, PR, PZ, PL⟩ := pick_facts (wAt ws 0)
  have e1 : pR = false := by cases pR with | false => rfl | true => exact absurd (PR.1 rfl) hR
  have e2 : pZ = false := by cases pZ with | false => rfl | true => exact absurd (PZ.1 rfl) hZ
  have e3 : pL = false := by cases pL with | false => rfl | true => exact absurd (PL.1 rfl) hK
  subst e1 e2 e3
  clear PR PZ PL hR hZ hK
  go_wp2_with (go_at_call 83; refine (bad_any _ _).mono ?_; rintro e w' ⟨rfl, rfl⟩)
  go_wp2
  refine line_pan (x := 0) (p := ⟨w.heap.size, 0, none⟩) (by rfl) rfl (E2.out.cell 0) (E2.out.frozen 0) ?_
  exact LnP.bad hRw.out (B2.out.mono (Nat.le_of_lt hRw.out)) ⟨rfl, by decide⟩
end Go.Proofs.YtbikdlcjbigafaaGreatDoor
namespace Go.Proofs.YtbikdlcjbigafaaGreatDoor
set_option linter.unusedVariables false
set_option linter.unusedSimpArgs false
open Go.ChangeShapes Go.WideShapes Go.ChangeAt Go.RowKit Civ

set_option maxRecDepth 100000 in
set_option maxHeartbeats 4000000 in
theorem line_open (s : ByteArray) (w : World) (R : Nat) (vr vz vl : Value) (sx : Src) (op : Bool) (ws : List ByteArray) (hws : wdsS s.data.toList = ws) (hV : SrV w) (hs : s.size ≤ 1000000) (M : RdM w R vr vz vl ⟨sx, op⟩) (hL : lngE ws = 0) (hop : op = true) (hn0 : ws.length ≠ 0) (hne : sx.zones ≠ []) (hB : ersB sx 200) (hc : sx.zones.length ≤ 200) :
    Calls Tryz.prog 46 #[.pointer (some ⟨R, 0, none⟩), .string s] w fun e w' => LnP w w' R e (erM ⟨sx, true⟩ ws) (lnO ⟨sx, true⟩ ws) := by
  subst hop
  obtain ⟨W1, hW1⟩ : ∃ W1, W1 = w.alloc (.cells #[.int .i64 0] 32) := ⟨_, rfl⟩
  have B1 : Hid (Below w.heap.size w W1) := by show Below _ _ _; rw [hW1]; exact (Below.refl _ _).alloc (Nat.le_refl _) _
  have E1 : Hid (BxO W1 w.heap.size #[.int .i64 0] 32) := by show BxO _ _ _ _; rw [hW1]; exact BxO.new _ _ _
  have HW1 := Lib.hid hW1
  have HWD := Lib.hid (words_any_s s W1 (hV.below B1.out) hs)
  rw [hws] at HWD
  have HZ : Hid (∀ x ∈ ws, 0 < x.size ∧ x.size ≤ 1000000) := by
    show ∀ x ∈ ws, _
    intro x hx
    rw [← hws] at hx
    have h1 := wdsS_size s.data.toList x hx
    have h2 : s.data.toList.length = s.size := by simp
    exact ⟨wdsS_pos _ x hx, by omega⟩
  have MM := Lib.hid M
  have HV := Lib.hid hV
  have hRw : Hid (R < w.heap.size) := M.x.lt
  clear hW1 hws hs M hV
  have hmf : ∀ (fn : Fn) (first cap : Array Value) (w : World), (Instr.makeFunc fn first cap).run Tryz.prog w = .ok (.func fn first cap) w := fun _ _ _ _ => rfl
  go_enter_defers Tryz.func46, Tryz.ntmps46
  go_upto_region 2 with fail
  rw [← HW1.out]
  clear HW1 hmf
  go_wp2_with fail
  refine HWD.out.mono ?_; rintro e w2 ⟨v, he, hv, hb2⟩
  have B2 : Hid (Below w.heap.size w w2) := B1.out.trans (hb2.mono B1.out.size)
  have E2 : Hid (BxO w2 w.heap.size #[.int .i64 0] 32) := (hb2.block _ E1.out.lt).trans E1.out
  have M2 := Lib.hid (MM.out.next B2.out)
  have V2 := Lib.hid (HV.out.below B2.out)
  have HWS := Lib.hid hv
  clear B1 E1 HWD MM HV hv hb2
  rw [PnE_ok hL] at he
  subst he
  obtain ⟨aw, cw, rfl, hwl⟩ := HWS.out.shape
  have HCW : Hid (ws.length ≤ cw) := slAt_cap HWS.out
  clear hL
  have hnb : ((ws.length : Int) == 0) = false := by rw [beq_eq_false_iff_ne]; omega
  have hi0 : (0 : Int) < (ws.length : Int) := by omega
  obtain ⟨b, off, rfl, hbw, -⟩ := entS HWS.out 0 (by omega)
  have HWC := Lib.hid (words_at HWS.out hbw)
  have k0 := HWC.out w2 (Below.refl _ _) 0 (by omega)
  rw [Nat.add_zero] at k0
  obtain ⟨r0, r1, r2, r3⟩ : w2.cell? ⟨R, 0, none⟩ = some vr ∧ w2.cell? ⟨R, 1, none⟩ = some vz ∧ w2.cell? ⟨R, 2, none⟩ = some vl ∧ w2.cell? ⟨R, 3, none⟩ = some (.bool true) := ⟨M2.out.x.cell 0, M2.out.x.cell 1, M2.out.x.cell 2, M2.out.x.cell 3⟩
  obtain ⟨pR, pZ, pL, hpR, hpZ, hpL, PR, PZ, PL⟩ := pick_facts (wAt ws 0)
  have HEC := Lib.hid (rdEra_any ws (.slice (some ⟨b, off, none⟩) ws.length cw) w2 R vr vz vl ⟨sx, true⟩ V2.out HWS.out HZ.out M2.out hne hB hc)
  clear PR PZ PL hne hB hc
  go_wp2_with fail
  refine HEC.out.mono ?_; rintro e w3 ⟨he, hb3, hk3, hm3⟩
  have B3 : Hid (Below R w w3) := (B2.out.mono (Nat.le_of_lt hRw.out)).trans hb3
  have HM3 := Lib.hid hm3
  have E3 := Lib.hid (hk3 _ _ E2.out)
  clear hm3 hb3 hk3 HEC
  by_cases hE : erM ⟨sx, true⟩ ws = 0
  · rw [PnE_ok hE] at he
    subst he
    have M3 := Lib.hid (HM3.out hE)
    clear r0 r1 r2 r3 k0 hpR hpZ hpL
    obtain ⟨e0, ef, el⟩ := box_zero E3.out
    go_wp2
    exact line_ret (p := ⟨w.heap.size, 0, none⟩) (by rfl) rfl (by simp [go_sem, e0]) (LnP.good hRw.out B3.out E3.out M3.out ⟨hE, rfl⟩)
  · rw [PnE_no hE] at he
    subst he
    go_wp2
    refine line_pan (x := 0) (p := ⟨w.heap.size, 0, none⟩) (by rfl) rfl (E3.out.cell 0) (E3.out.frozen 0) ?_
    exact LnP.bad hRw.out B3.out ⟨rfl, hE⟩
end Go.Proofs.YtbikdlcjbigafaaGreatDoor
namespace Go.Proofs.YtbikdlcjbigafaaGreatDoor
set_option linter.unusedVariables false
set_option linter.unusedSimpArgs false
open Go.ChangeShapes Go.WideShapes Go.ChangeAt Go.RowKit Civ

set_option maxRecDepth 100000 in
set_option maxHeartbeats 4000000 in
theorem line_rule (s : ByteArray) (w : World) (R : Nat) (vr vz vl : Value) (sx : Src) (op : Bool) (ws : List ByteArray) (hws : wdsS s.data.toList = ws) (hV : SrV w) (hs : s.size ≤ 1000000) (M : RdM w R vr vz vl ⟨sx, op⟩) (hL : lngE ws = 0) (hop : op = false) (hn0 : ws.length ≠ 0) (hR : wAt ws 0 = ruleW) (hc : sx.rules.length ≤ 200) :
    Calls Tryz.prog 46 #[.pointer (some ⟨R, 0, none⟩), .string s] w fun e w' => LnP w w' R e (rulS ws) (⟨⟨sx.rules ++ [rulV ws], sx.zones, sx.links⟩, false⟩) := by
  subst hop
  obtain ⟨W1, hW1⟩ : ∃ W1, W1 = w.alloc (.cells #[.int .i64 0] 32) := ⟨_, rfl⟩
  have B1 : Hid (Below w.heap.size w W1) := by show Below _ _ _; rw [hW1]; exact (Below.refl _ _).alloc (Nat.le_refl _) _
  have E1 : Hid (BxO W1 w.heap.size #[.int .i64 0] 32) := by show BxO _ _ _ _; rw [hW1]; exact BxO.new _ _ _
  have HW1 := Lib.hid hW1
  have HWD := Lib.hid (words_any_s s W1 (hV.below B1.out) hs)
  rw [hws] at HWD
  have HZ : Hid (∀ x ∈ ws, 0 < x.size ∧ x.size ≤ 1000000) := by
    show ∀ x ∈ ws, _
    intro x hx
    rw [← hws] at hx
    have h1 := wdsS_size s.data.toList x hx
    have h2 : s.data.toList.length = s.size := by simp
    exact ⟨wdsS_pos _ x hx, by omega⟩
  have MM := Lib.hid M
  have HV := Lib.hid hV
  have hRw : Hid (R < w.heap.size) := M.x.lt
  clear hW1 hws hs M hV
  have hmf : ∀ (fn : Fn) (first cap : Array Value) (w : World), (Instr.makeFunc fn first cap).run Tryz.prog w = .ok (.func fn first cap) w := fun _ _ _ _ => rfl
  go_enter_defers Tryz.func46, Tryz.ntmps46
  go_upto_region 2 with fail
  rw [← HW1.out]
  clear HW1 hmf
  go_wp2_with fail
  refine HWD.out.mono ?_; rintro e w2 ⟨v, he, hv, hb2⟩
  have B2 : Hid (Below w.heap.size w w2) := B1.out.trans (hb2.mono B1.out.size)
  have E2 : Hid (BxO w2 w.heap.size #[.int .i64 0] 32) := (hb2.block _ E1.out.lt).trans E1.out
  have M2 := Lib.hid (MM.out.next B2.out)
  have V2 := Lib.hid (HV.out.below B2.out)
  have HWS := Lib.hid hv
  clear B1 E1 HWD MM HV hv hb2
  rw [PnE_ok hL] at he
  subst he
  obtain ⟨aw, cw, rfl, hwl⟩ := HWS.out.shape
  have HCW : Hid (ws.length ≤ cw) := slAt_cap HWS.out
  clear hL
  have hnb : ((ws.length : Int) == 0) = false := by rw [beq_eq_false_iff_ne]; omega
  have hi0 : (0 : Int) < (ws.length : Int) := by omega
  obtain ⟨b, off, rfl, hbw, -⟩ := entS HWS.out 0 (by omega)
  have HWC := Lib.hid (words_at HWS.out hbw)
  have k0 := HWC.out w2 (Below.refl _ _) 0 (by omega)
  rw [Nat.add_zero] at k0
  obtain ⟨r0, r1, r2, r3⟩ : w2.cell? ⟨R, 0, none⟩ = some vr ∧ w2.cell? ⟨R, 1, none⟩ = some vz ∧ w2.cell? ⟨R, 2, none⟩ = some vl ∧ w2.cell? ⟨R, 3, none⟩ = some (.bool false) := ⟨M2.out.x.cell 0, M2.out.x.cell 1, M2.out.x.cell 2, M2.out.x.cell 3⟩
  obtain ⟨pR, pZ, pL, hpR, hpZ, hpL, PR, PZ, PL⟩ := pick_facts (wAt ws 0)
  have e1 : pR = true := PR.2 hR
  subst e1
  clear PR PZ PL hR
  have HRU := Lib.hid (rule_any_s ws (.slice (some ⟨b, off, none⟩) ws.length cw) w2.drew (V2.out.below (Below.refl _ _).drew) (HWS.out.mono (Below.refl _ _).drew fun _ _ h => h) (fun x hx => (HZ.out x hx).2))
  obtain ⟨x, hx⟩ : ∃ x, rulV ws = x := ⟨_, rfl⟩
  rw [hx] at HRU
  have HX := Lib.hid hx
  clear hx
  obtain ⟨iu, hiu, hu0, hu1, hu2⟩ := info_parts info_rlz
  go_upto_region 8 with fail
  clear k0 hpR hpZ hpL hnb hi0
  have DD : Below w2.heap.size w2 w2.drew := (Below.refl _ _).drew
  refine wp_region_B (fun w' => w'.cell? ⟨R, 0, none⟩ = some vr) [7, 8] (by kernel_rfl) ?_
  obtain ⟨W5, hW5⟩ : ∃ W5, w2.drew = W5 := ⟨_, rfl⟩
  rw [hW5] at DD HRU ⊢
  have B5 : Hid (Below w.heap.size w W5) := B2.out.trans (DD.mono B2.out.size)
  have M5 := Lib.hid (M2.out.next DD)
  have E5 : Hid (BxO W5 w.heap.size #[.int .i64 0] 32) := (DD.block _ E2.out.lt).trans E2.out
  clear DD hW5 B2 M2 E2 V2 HWS HZ HWC r0 r1 r2 r3
  have HS0 : Hid (W5.cell? ⟨R, 0, none⟩ = some vr) := M5.out.x.cell 0
  refine wpAnyB_takeW (i := 0) (v := (.pointer (some ⟨R, 0, none⟩))) rfl (by kernel_rfl) (by kernel_rfl) (by kernel_rfl) (by rfl) (fun c a w h => put_back 29 (by decide) _ c a w h) (by rfl) (fun _ => by go_simp) ?_
  try simp only [Act.put, List.setIfInBounds_toArray, List.set_cons_zero, List.set_cons_succ]
  refine wpAnyB_takeW (i := 1) (v := (.pointer (some ⟨R, 0, none⟩))) rfl (by kernel_rfl) (by kernel_rfl) (by kernel_rfl) (by rfl) (fun c a w h => put_back 30 (by decide) _ c a w h) (by rfl) (fun _ => by go_simp) ?_
  try simp only [Act.put, List.setIfInBounds_toArray, List.set_cons_zero, List.set_cons_succ]
  refine wpAnyB_takeW (i := 2) (v := (.pointer (some ⟨R, 0, none⟩))) rfl (by kernel_rfl) (by kernel_rfl) (by kernel_rfl) (by rfl) (fun c a w h => put_back 31 (by decide) _ c a w h) (by rfl) (fun _ => by go_simp) ?_
  try simp only [Act.put, List.setIfInBounds_toArray, List.set_cons_zero, List.set_cons_succ]
  refine wpAnyB_takeW (i := 3) (v := (.pointer (some ⟨R, 0, none⟩))) rfl (by kernel_rfl) (by kernel_rfl) (by kernel_rfl) (by rfl) (fun c a w h => put_back 32 (by decide) _ c a w h) (by rfl) (fun _ => by go_simp) ?_
  try simp only [Act.put, List.setIfInBounds_toArray, List.set_cons_zero, List.set_cons_succ]
  refine wpAnyB_takeW (i := 4) (v := (.pointer (some ⟨R, 0, none⟩))) rfl (by kernel_rfl) (by kernel_rfl) (by kernel_rfl) (by rfl) (fun c a w h => put_back 33 (by decide) _ c a w h) (by rfl) (fun _ => by go_simp) ?_
  try simp only [Act.put, List.setIfInBounds_toArray, List.set_cons_zero, List.set_cons_succ]
  refine wpAnyB_takeW (i := 6) (v := (.slice (some ⟨b, off, none⟩) ws.length cw)) rfl (by kernel_rfl) (by kernel_rfl) (by kernel_rfl) (by rfl) (fun c a w h => put_back 35 (by decide) _ c a w h) (by rfl) (fun _ => by go_simp) ?_
  try simp only [Act.put, List.setIfInBounds_toArray, List.set_cons_zero, List.set_cons_succ]
  refine wpAnyB_take (i := 5) [9, 10, 11, 12, 13] (v := vr) rfl (by kernel_rfl) (by kernel_rfl) (by kernel_rfl) (by kernel_rfl) (by kernel_rfl) (by kernel_rfl) (fun c a w h => put_back 34 (by decide) _ c a w h) (.inl ⟨by rfl, fun w' hS => by have h1 : w'.cell? ⟨R, 0, none⟩ = some vr := hS; go_simp⟩) HS0.out ?_
  try simp only [Act.put, List.setIfInBounds_toArray, List.set_cons_zero, List.set_cons_succ]
  refine wpAnyB_one (i := 7) rfl (by kernel_rfl) (fun K hK => ?_)
  refine step_wp rfl ?_
  go_simp
  refine HRU.out.mono ?_; rintro e w9 ⟨he, hb9⟩
  have M9 := Lib.hid (M5.out.next hb9)
  have E9 : Hid (BxO w9 w.heap.size #[.int .i64 0] 32) := (hb9.block _ E5.out.lt).trans E5.out
  have B9 : Hid (Below w.heap.size w w9) := B5.out.trans (hb9.mono B5.out.size)
  clear HRU hb9 B5 M5 E5 HS0
  by_cases hE : rulS ws = 0
  · rw [PnE_ok hE] at he
    subst he
    have HS9 : Hid (w9.cell? ⟨R, 0, none⟩ = some vr) := M9.out.x.cell 0
    dsimp only
    refine hK _ _ (fun _ => HS9.out) ?_
    try simp only [Act.put, List.setIfInBounds_toArray, List.set_cons_zero, List.set_cons_succ]
    clear hK K
    obtain ⟨zs, ez, hs⟩ := M9.out.s
    obtain ⟨ar, cr, rfl⟩ := own_shape hs.r
    have S9 := Lib.hid hs
    have HEZ := Lib.hid ez
    clear hs ez
    have HSA : Hid ((w9.alloc (.cells #[.string x.nm, .int .i64 x.fr, .int .i64 x.to, .int .i64 x.at'.mo, .int .i64 x.at'.k, .int .i64 x.at'.a, .int .i64 x.at'.n, .int .i64 x.at'.t, .int .i64 x.at'.c, .int .i64 x.sv, .string x.lt] 58)).cell? ⟨R, 0, none⟩ = some (.slice ar sx.rules.length cr)) := (M9.out.x.alloc _).cell 0
    refine wpAnyB_one (i := 8) rfl (by kernel_rfl) (fun K hK => ?_)
    refine step_wp rfl (wp_build1 24 58 (.tmp 36) rfl #[.string x.nm, .int .i64 x.fr, .int .i64 x.to, .int .i64 x.at'.mo, .int .i64 x.at'.k, .int .i64 x.at'.a, .int .i64 x.at'.n, .int .i64 x.at'.t, .int .i64 x.at'.c, .int .i64 x.sv, .string x.lt] rfl iu _ Tryz.underlying24 hiu hu0 (by rw [hu1]; decide) (by rw [hu1]; decide) (by rw [hu1]; exact fill_rul _ _ _ _ _ _ _ _ _ _ _) ?_)
    refine hK _ _ (fun _ => HSA.out) ?_
    try simp only [Act.put, List.setIfInBounds_toArray, List.set_cons_zero, List.set_cons_succ]
    clear hK K
    refine wpAnyB_tail _ 9 _ _ _ _ (by kernel_rfl) rfl rfl (by rfl) ?_
    simp only [List.drop_succ_cons, List.drop_zero]
    refine wpList_append_lies _ rfl (.tmp 34) (.tmp 37) 24 rfl (R + 1) 58 iu (.agg #[.string ⟨#[]⟩, .int .i64 0, .int .i64 0, .int .i64 0, .int .i64 0, .int .i64 0, .int .i64 0, .int .i64 0, .int .i64 0, .int .i64 0, .string ⟨#[]⟩]) 11 104 Tryz.underlying24 hiu hu0 hu1 hu2 rfl (by decide) (.slice ar sx.rules.length cr) sx.rules.length (sx.rules.flatMap RulV) rfl (S9.out.r.alloc _) ⟨w9.heap.size, 0, none⟩ 1 1 (RulV x) rfl rfl (cells_at _ _ _ _ _ rfl rfl) (rulV_on1 _) (by omega) (by unfold maxLen; omega) (by omega) (by rw [size_alloc]; have := M9.out.x.lt; omega) (w9.heap.size + 1) (size_alloc _ _) ?_
    intro gg cap6 wb hown hgrow hat hltg
    have P9 := Lib.hid (rdm_putR M9.out.x HEZ.out S9.out hown hgrow)
    have EA : Hid (BxO (wb.setCell ⟨R, 0, none⟩ (.slice (some ⟨gg, 0, none⟩) (sx.rules.length + 1) cap6)) w.heap.size #[.int .i64 0] 32) := BxO.other (E9.out.sideV S9.out.r (by decide) hgrow) (Nat.ne_of_gt hRw.out) _ _
    have MA := Lib.hid (M9.out.x.sideV S9.out.r (by decide) hgrow)
    have m2 : wb.cell? ⟨R, 0, none⟩ = some (.slice ar sx.rules.length cr) := MA.out.cell 0
    have mf : wb.frozen? ⟨R, 0, none⟩ = false := MA.out.frozen 0
    have ml : R < wb.heap.size := MA.out.lt
    clear hown hgrow hat S9 HS9 HSA
    go_upto_region 18 with fail
    obtain ⟨WA, hWA⟩ : ∃ WA, WA = wb.setCell ⟨R, 0, none⟩ (.slice (some ⟨gg, 0, none⟩) (sx.rules.length + 1) cap6) := ⟨_, rfl⟩
    rw [← hWA] at P9 EA ⊢
    have BA : Hid (Below R w WA) := (B9.out.mono (Nat.le_of_lt hRw.out)).trans P9.out.2
    clear hWA m2 mf ml MA
    obtain ⟨e0, ef, el⟩ := box_zero EA.out
    go_wp2
    exact line_ret (p := ⟨w.heap.size, 0, none⟩) (by rfl) rfl (by simp [go_sem, e0]) (LnP.good hRw.out BA.out EA.out P9.out.1 ⟨by first | rfl | exact hE, by rw [HX.out]⟩)
  · rw [PnE_no hE] at he
    subst he
    dsimp only
    clear hK
    refine line_pan (x := 0) (p := ⟨w.heap.size, 0, none⟩) (by rfl) rfl (E9.out.cell 0) (E9.out.frozen 0) ?_
    exact LnP.bad hRw.out (B9.out.mono (Nat.le_of_lt hRw.out)) ⟨rfl, hE⟩
end Go.Proofs.YtbikdlcjbigafaaGreatDoor
namespace Go.Proofs.YtbikdlcjbigafaaGreatDoor
set_option linter.unusedVariables false
set_option linter.unusedSimpArgs false
open Go.ChangeShapes Go.WideShapes Go.ChangeAt Go.RowKit Civ

set_option maxRecDepth 100000 in
set_option maxHeartbeats 4000000 in
theorem line_link_bad (s : ByteArray) (w : World) (R : Nat) (vr vz vl : Value) (sx : Src) (op : Bool) (ws : List ByteArray) (hws : wdsS s.data.toList = ws) (hV : SrV w) (hs : s.size ≤ 1000000) (M : RdM w R vr vz vl ⟨sx, op⟩) (hL : lngE ws = 0) (hop : op = false) (hn0 : ws.length ≠ 0) (hR : wAt ws 0 ≠ ruleW) (hZ : wAt ws 0 ≠ zoneW) (hK : wAt ws 0 = linkW) (h3 : ws.length ≠ 3) :
    Calls Tryz.prog 46 #[.pointer (some ⟨R, 0, none⟩), .string s] w fun e w' => LnP w w' R e (4) (⟨sx, op⟩) := by
  subst hop
  obtain ⟨W1, hW1⟩ : ∃ W1, W1 = w.alloc (.cells #[.int .i64 0] 32) := ⟨_, rfl⟩
  have B1 : Hid (Below w.heap.size w W1) := by show Below _ _ _; rw [hW1]; exact (Below.refl _ _).alloc (Nat.le_refl _) _
  have E1 : Hid (BxO W1 w.heap.size #[.int .i64 0] 32) := by show BxO _ _ _ _; rw [hW1]; exact BxO.new _ _ _
  have HW1 := Lib.hid hW1
  have HWD := Lib.hid (words_any_s s W1 (hV.below B1.out) hs)
  rw [hws] at HWD
  have HZ : Hid (∀ x ∈ ws, 0 < x.size ∧ x.size ≤ 1000000) := by
    show ∀ x ∈ ws, _
    intro x hx
    rw [← hws] at hx
    have h1 := wdsS_size s.data.toList x hx
    have h2 : s.data.toList.length = s.size := by simp
    exact ⟨wdsS_pos _ x hx, by omega⟩
  have MM := Lib.hid M
  have HV := Lib.hid hV
  have hRw : Hid (R < w.heap.size) := M.x.lt
  clear hW1 hws hs M hV
  have hmf : ∀ (fn : Fn) (first cap : Array Value) (w : World), (Instr.makeFunc fn first cap).run Tryz.prog w = .ok (.func fn first cap) w := fun _ _ _ _ => rfl
  go_enter_defers Tryz.func46, Tryz.ntmps46
  go_upto_region 2 with fail
  rw [← HW1.out]
  clear HW1 hmf
  go_wp2_with fail
  refine HWD.out.mono ?_; rintro e w2 ⟨v, he, hv, hb2⟩
  have B2 : Hid (Below w.heap.size w w2) := B1.out.trans (hb2.mono B1.out.size)
  have E2 : Hid (BxO w2 w.heap.size #[.int .i64 0] 32) := (hb2.block _ E1.out.lt).trans E1.out
  have M2 := Lib.hid (MM.out.next B2.out)
  have V2 := Lib.hid (HV.out.below B2.out)
  have HWS := Lib.hid hv
  clear B1 E1 HWD MM HV hv hb2
  rw [PnE_ok hL] at he
  subst he
  obtain ⟨aw, cw, rfl, hwl⟩ := HWS.out.shape
  have HCW : Hid (ws.length ≤ cw) := slAt_cap HWS.out
  clear hL
  have hnb : ((ws.length : Int) == 0) = false := by rw [beq_eq_false_iff_ne]; omega
  have hi0 : (0 : Int) < (ws.length : Int) := by omega
  obtain ⟨b, off, rfl, hbw, -⟩ := entS HWS.out 0 (by omega)
  have HWC := Lib.hid (words_at HWS.out hbw)
  have k0 := HWC.out w2 (Below.refl _ _) 0 (by omega)
  rw [Nat.add_zero] at k0
  obtain ⟨r0, r1, r2, r3⟩ : w2.cell? ⟨R, 0, none⟩ = some vr ∧ w2.cell? ⟨R, 1, none⟩ = some vz ∧ w2.cell? ⟨R, 2, none⟩ = some vl ∧ w2.cell? ⟨R, 3, none⟩ = some (.bool false) := ⟨M2.out.x.cell 0, M2.out.x.cell 1, M2.out.x.cell 2, M2.out.x.cell 3⟩
  obtain ⟨pR, pZ, pL, hpR, hpZ, hpL, PR, PZ, PL⟩ := pick_facts (wAt ws 0)
  have e1 : pR = false := by cases pR with | false => rfl | true => exact absurd (PR.1 rfl) hR
  have e2 : pZ = false := by cases pZ with | false => rfl | true => exact absurd (PZ.1 rfl) hZ
  have e3 : pL = true := PL.2 hK
  subst e1 e2 e3
  clear PR PZ PL hR hZ hK
  have hdl : ((ws.length : Int) == 3) = false := by rw [beq_eq_false_iff_ne]; omega
  go_wp2_with (go_at_call 80; refine (need_no _ _).mono ?_; rintro e w' ⟨rfl, rfl⟩)
  go_wp2
  refine line_pan (x := 0) (p := ⟨w.heap.size, 0, none⟩) (by rfl) rfl (E2.out.cell 0) (E2.out.frozen 0) ?_
  exact LnP.bad hRw.out (B2.out.mono (Nat.le_of_lt hRw.out)) ⟨rfl, by decide⟩
set_option maxRecDepth 100000 in
set_option maxHeartbeats 4000000 in
theorem line_link (s : ByteArray) (w : World) (R : Nat) (vr vz vl : Value) (sx : Src) (op : Bool) (ws : List ByteArray) (hws : wdsS s.data.toList = ws) (hV : SrV w) (hs : s.size ≤ 1000000) (M : RdM w R vr vz vl ⟨sx, op⟩) (hL : lngE ws = 0) (hop : op = false) (hn0 : ws.length ≠ 0) (hR : wAt ws 0 ≠ ruleW) (hZ : wAt ws 0 ≠ zoneW) (hK : wAt ws 0 = linkW) (h3 : ws.length = 3) (hc : sx.links.length ≤ 200) :
    Calls Tryz.prog 46 #[.pointer (some ⟨R, 0, none⟩), .string s] w fun e w' => LnP w w' R e (lkE ws) (⟨⟨sx.rules, sx.zones, sx.links ++ [⟨wAt ws 1, wAt ws 2⟩]⟩, false⟩) := by
  subst hop
  obtain ⟨W1, hW1⟩ : ∃ W1, W1 = w.alloc (.cells #[.int .i64 0] 32) := ⟨_, rfl⟩
  have B1 : Hid (Below w.heap.size w W1) := by show Below _ _ _; rw [hW1]; exact (Below.refl _ _).alloc (Nat.le_refl _) _
  have E1 : Hid (BxO W1 w.heap.size #[.int .i64 0] 32) := by show BxO _ _ _ _; rw [hW1]; exact BxO.new _ _ _
  have HW1 := Lib.hid hW1
  have HWD := Lib.hid (words_any_s s W1 (hV.below B1.out) hs)
  rw [hws] at HWD
  have HZ : Hid (∀ x ∈ ws, 0 < x.size ∧ x.size ≤ 1000000) := by
    show ∀ x ∈ ws, _
    intro x hx
    rw [← hws] at hx
    have h1 := wdsS_size s.data.toList x hx
    have h2 : s.data.toList.length = s.size := by simp
    exact ⟨wdsS_pos _ x hx, by omega⟩
  have MM := Lib.hid M
  have HV := Lib.hid hV
  have hRw : Hid (R < w.heap.size) := M.x.lt
  clear hW1 hws hs M hV
  have hmf : ∀ (fn : Fn) (first cap : Array Value) (w : World), (Instr.makeFunc fn first cap).run Tryz.prog w = .ok (.func fn first cap) w := fun _ _ _ _ => rfl
  go_enter_defers Tryz.func46, Tryz.ntmps46
  go_upto_region 2 with fail
  rw [← HW1.out]
  clear HW1 hmf
  go_wp2_with fail
  refine HWD.out.mono ?_; rintro e w2 ⟨v, he, hv, hb2⟩
  have B2 : Hid (Below w.heap.size w w2) := B1.out.trans (hb2.mono B1.out.size)
  have E2 : Hid (BxO w2 w.heap.size #[.int .i64 0] 32) := (hb2.block _ E1.out.lt).trans E1.out
  have M2 := Lib.hid (MM.out.next B2.out)
  have V2 := Lib.hid (HV.out.below B2.out)
  have HWS := Lib.hid hv
  clear B1 E1 HWD MM HV hv hb2
  rw [PnE_ok hL] at he
  subst he
  obtain ⟨aw, cw, rfl, hwl⟩ := HWS.out.shape
  have HCW : Hid (ws.length ≤ cw) := slAt_cap HWS.out
  clear hL
  have hnb : ((ws.length : Int) == 0) = false := by rw [beq_eq_false_iff_ne]; omega
  have hi0 : (0 : Int) < (ws.length : Int) := by omega
  obtain ⟨b, off, rfl, hbw, -⟩ := entS HWS.out 0 (by omega)
  have HWC := Lib.hid (words_at HWS.out hbw)
  have k0 := HWC.out w2 (Below.refl _ _) 0 (by omega)
  rw [Nat.add_zero] at k0
  obtain ⟨r0, r1, r2, r3⟩ : w2.cell? ⟨R, 0, none⟩ = some vr ∧ w2.cell? ⟨R, 1, none⟩ = some vz ∧ w2.cell? ⟨R, 2, none⟩ = some vl ∧ w2.cell? ⟨R, 3, none⟩ = some (.bool false) := ⟨M2.out.x.cell 0, M2.out.x.cell 1, M2.out.x.cell 2, M2.out.x.cell 3⟩
  obtain ⟨pR, pZ, pL, hpR, hpZ, hpL, PR, PZ, PL⟩ := pick_facts (wAt ws 0)
  have e1 : pR = false := by cases pR with | false => rfl | true => exact absurd (PR.1 rfl) hR
  have e2 : pZ = false := by cases pZ with | false => rfl | true => exact absurd (PZ.1 rfl) hZ
  have e3 : pL = true := PL.2 hK
  subst e1 e2 e3
  clear PR PZ PL hR hZ hK
  have hdl : ((ws.length : Int) == 3) = true := by rw [h3]; rfl
  have hi1 : (1 : Int) < (ws.length : Int) := by omega
  have hi2 : (2 : Int) < (ws.length : Int) := by omega
  obtain ⟨u1, hu1⟩ : ∃ u, wAt ws 1 = u := ⟨_, rfl⟩
  have hm1 : u1.size ≤ maxLen := by rw [← hu1, wAt_get (show 1 < ws.length by omega)]; have := (HZ.out _ (List.getElem_mem (show 1 < ws.length by omega))).2; unfold maxLen; omega
  have k1 := HWC.out w2 (Below.refl _ _) 1 (by omega)
  have HN1 := Lib.hid (fun wx => name_any_s u1 wx hm1)
  have HU1 := Lib.hid hu1
  rw [hu1] at k1
  clear hu1 hm1
  obtain ⟨u2, hu2⟩ : ∃ u, wAt ws 2 = u := ⟨_, rfl⟩
  have hm2 : u2.size ≤ maxLen := by rw [← hu2, wAt_get (show 2 < ws.length by omega)]; have := (HZ.out _ (List.getElem_mem (show 2 < ws.length by omega))).2; unfold maxLen; omega
  have k2 := HWC.out w2 (Below.refl _ _) 2 (by omega)
  have HN2 := Lib.hid (fun wx => name_any_s u2 wx hm2)
  have HU2 := Lib.hid hu2
  rw [hu2] at k2
  clear hu2 hm2
  clear h3
  obtain ⟨iu, hiu, hu0, hu1, hu2⟩ := info_parts info_lnk
  obtain ⟨zs, ez, hs⟩ := M2.out.s
  obtain ⟨al, cl, rfl⟩ := own_shape hs.l
  have HSR := Lib.hid hs
  have HEZ := Lib.hid ez
  clear hs ez
  go_upto_region 17 with (go_at_call 80; refine (need_yes _ _).mono ?_; rintro e w' ⟨rfl, rfl⟩)
  clear k0 hpR hpZ hpL hnb hi0 hdl
  have DD : Below w2.heap.size w2 w2.drew := (Below.refl _ _).drew
  refine wp_region_B (fun w' => w'.cell? ⟨R, 2, none⟩ = some (.slice al sx.links.length cl) ∧ w'.cell? ⟨b, off + 1, none⟩ = some (.string u1) ∧ w'.cell? ⟨b, off + 2, none⟩ = some (.string u2)) [8, 9, 12, 13, 14, 15] (by kernel_rfl) ?_
  obtain ⟨W5, hW5⟩ : ∃ W5, w2.drew = W5 := ⟨_, rfl⟩
  rw [hW5] at DD ⊢
  have B5 : Hid (Below w.heap.size w W5) := B2.out.trans (DD.mono B2.out.size)
  have M5 : Hid (BxO W5 R #[vr, vz, .slice al sx.links.length cl, .bool false] 104) := (DD.block _ M2.out.x.lt).trans M2.out.x
  have S5 := Lib.hid (HSR.out.next DD)
  have E5 : Hid (BxO W5 w.heap.size #[.int .i64 0] 32) := (DD.block _ E2.out.lt).trans E2.out
  have K1 : Hid (W5.cell? ⟨b, off + 1, none⟩ = some (.string u1)) := (DD.cell (p := ⟨b, off + 1, none⟩) hbw).trans k1
  have K2 : Hid (W5.cell? ⟨b, off + 2, none⟩ = some (.string u2)) := (DD.cell (p := ⟨b, off + 2, none⟩) hbw).trans k2
  have hb5 : b < W5.heap.size := Nat.lt_of_lt_of_le hbw DD.size
  clear DD hW5 B2 M2 E2 V2 HWS HZ HWC HSR r0 r1 r2 r3 k1 k2 hbw
  have HS0 : Hid (W5.cell? ⟨R, 2, none⟩ = some (.slice al sx.links.length cl) ∧ W5.cell? ⟨b, off + 1, none⟩ = some (.string u1) ∧ W5.cell? ⟨b, off + 2, none⟩ = some (.string u2)) := ⟨M5.out.cell 2, K1.out, K2.out⟩
  refine wpAnyB_takeW (i := 0) (v := (.pointer (some ⟨R, 0, none⟩))) rfl (by kernel_rfl) (by kernel_rfl) (by kernel_rfl) (by rfl) (fun c a w h => put_back 87 (by decide) _ c a w h) (by rfl) (fun _ => by go_simp) ?_
  try simp only [Act.put, List.setIfInBounds_toArray, List.set_cons_zero, List.set_cons_succ]
  refine wpAnyB_takeW (i := 1) (v := (.pointer (some ⟨R, 0, none⟩))) rfl (by kernel_rfl) (by kernel_rfl) (by kernel_rfl) (by rfl) (fun c a w h => put_back 88 (by decide) _ c a w h) (by rfl) (fun _ => by go_simp) ?_
  try simp only [Act.put, List.setIfInBounds_toArray, List.set_cons_zero, List.set_cons_succ]
  refine wpAnyB_takeW (i := 2) (v := (.pointer (some ⟨R, 0, none⟩))) rfl (by kernel_rfl) (by kernel_rfl) (by kernel_rfl) (by rfl) (fun c a w h => put_back 89 (by decide) _ c a w h) (by rfl) (fun _ => by go_simp) ?_
  try simp only [Act.put, List.setIfInBounds_toArray, List.set_cons_zero, List.set_cons_succ]
  refine wpAnyB_takeW (i := 3) (v := (.pointer (some ⟨R, 0, none⟩))) rfl (by kernel_rfl) (by kernel_rfl) (by kernel_rfl) (by rfl) (fun c a w h => put_back 90 (by decide) _ c a w h) (by rfl) (fun _ => by go_simp) ?_
  try simp only [Act.put, List.setIfInBounds_toArray, List.set_cons_zero, List.set_cons_succ]
  refine wpAnyB_takeW (i := 4) (v := (.pointer (some ⟨R, 2, none⟩))) rfl (by kernel_rfl) (by kernel_rfl) (by kernel_rfl) (by rfl) (fun c a w h => put_back 91 (by decide) _ c a w h) (by rfl) (fun _ => by go_simp) ?_
  try simp only [Act.put, List.setIfInBounds_toArray, List.set_cons_zero, List.set_cons_succ]
  refine wpAnyB_takeW (i := 6) (v := (.slice (some ⟨b, off, none⟩) ws.length cw)) rfl (by kernel_rfl) (by kernel_rfl) (by kernel_rfl) (by rfl) (fun c a w h => put_back 93 (by decide) _ c a w h) (by rfl) (fun _ => by go_simp) ?_
  try simp only [Act.put, List.setIfInBounds_toArray, List.set_cons_zero, List.set_cons_succ]
  refine wpAnyB_takeW (i := 7) (v := (.pointer (some ⟨b, off + 1, none⟩))) rfl (by kernel_rfl) (by kernel_rfl) (by kernel_rfl) (by rfl) (fun c a w h => put_back 94 (by decide) _ c a w h) (by rfl) (fun _ => by go_simp) ?_
  try simp only [Act.put, List.setIfInBounds_toArray, List.set_cons_zero, List.set_cons_succ]
  refine wpAnyB_takeW (i := 10) (v := (.slice (some ⟨b, off, none⟩) ws.length cw)) rfl (by kernel_rfl) (by kernel_rfl) (by kernel_rfl) (by rfl) (fun c a w h => put_back 97 (by decide) _ c a w h) (by rfl) (fun _ => by go_simp) ?_
  try simp only [Act.put, List.setIfInBounds_toArray, List.set_cons_zero, List.set_cons_succ]
  refine wpAnyB_takeW (i := 11) (v := (.pointer (some ⟨b, off + 2, none⟩))) rfl (by kernel_rfl) (by kernel_rfl) (by kernel_rfl) (by rfl) (fun c a w h => put_back 98 (by decide) _ c a w h) (by rfl) (fun _ => by go_simp) ?_
  try simp only [Act.put, List.setIfInBounds_toArray, List.set_cons_zero, List.set_cons_succ]
  refine wpAnyB_take (i := 5) [16, 17, 18, 19, 20] (v := (.slice al sx.links.length cl)) rfl (by kernel_rfl) (by kernel_rfl) (by kernel_rfl) (by kernel_rfl) (by kernel_rfl) (by kernel_rfl) (fun c a w h => put_back 92 (by decide) _ c a w h) (.inl ⟨by rfl, fun w' hS => by have h1 := hS.1; go_simp⟩) HS0.out ?_
  try simp only [Act.put, List.setIfInBounds_toArray, List.set_cons_zero, List.set_cons_succ]
  refine wpAnyB_take (i := 8) [9, 14, 15, 16, 17, 18, 19, 20] (v := (.string u1)) rfl (by kernel_rfl) (by kernel_rfl) (by kernel_rfl) (by kernel_rfl) (by kernel_rfl) (by kernel_rfl) (fun c a w h => put_back 95 (by decide) _ c a w h) (.inl ⟨by rfl, fun w' hS => by have h1 := hS.2.1; go_simp⟩) HS0.out ?_
  try simp only [Act.put, List.setIfInBounds_toArray, List.set_cons_zero, List.set_cons_succ]
  refine wpAnyB_take (i := 12) [13, 14, 15, 16, 17, 18, 19, 20] (v := (.string u2)) rfl (by kernel_rfl) (by kernel_rfl) (by kernel_rfl) (by kernel_rfl) (by kernel_rfl) (by kernel_rfl) (fun c a w h => put_back 99 (by decide) _ c a w h) (.inl ⟨by rfl, fun w' hS => by have h1 := hS.2.2; go_simp⟩) HS0.out ?_
  try simp only [Act.put, List.setIfInBounds_toArray, List.set_cons_zero, List.set_cons_succ]
  refine wpAnyB_one (i := 9) rfl (by kernel_rfl) (fun K hK => ?_)
  refine step_wp rfl ?_
  go_simp
  refine (HN1.out _).mono ?_; rintro e w6 ⟨he, hb6⟩
  have B6 : Hid (Below w.heap.size w w6) := B5.out.trans (hb6.mono B5.out.size)
  have M6 : Hid (BxO w6 R #[vr, vz, .slice al sx.links.length cl, .bool false] 104) := (hb6.block _ M5.out.lt).trans M5.out
  have S6 := Lib.hid (S5.out.next hb6)
  have E6 : Hid (BxO w6 w.heap.size #[.int .i64 0] 32) := (hb6.block _ E5.out.lt).trans E5.out
  have K61 : Hid (w6.cell? ⟨b, off + 1, none⟩ = some (.string u1)) := (hb6.cell (p := ⟨b, off + 1, none⟩) hb5).trans K1.out
  have K62 : Hid (w6.cell? ⟨b, off + 2, none⟩ = some (.string u2)) := (hb6.cell (p := ⟨b, off + 2, none⟩) hb5).trans K2.out
  have hb6' : b < w6.heap.size := Nat.lt_of_lt_of_le hb5 hb6.size
  clear B5 M5 S5 E5 K1 K2 hb5 HS0 hb6 HN1
  by_cases hN1 : nmE u1 = 0
  · rw [PnE_ok hN1] at he
    subst he
    have HS6 : Hid (w6.cell? ⟨R, 2, none⟩ = some (.slice al sx.links.length cl) ∧ w6.cell? ⟨b, off + 1, none⟩ = some (.string u1) ∧ w6.cell? ⟨b, off + 2, none⟩ = some (.string u2)) := ⟨M6.out.cell 2, K61.out, K62.out⟩
    dsimp only
    refine hK _ _ (fun _ => HS6.out) ?_
    try simp only [Act.put, List.setIfInBounds_toArray, List.set_cons_zero, List.set_cons_succ]
    clear hK K
    refine wpAnyB_one (i := 13) rfl (by kernel_rfl) (fun K hK => ?_)
    refine step_wp rfl ?_
    go_simp
    refine (HN2.out _).mono ?_; rintro e w7 ⟨he, hb7⟩
    have B7 : Hid (Below w.heap.size w w7) := B6.out.trans (hb7.mono B6.out.size)
    have M7 : Hid (BxO w7 R #[vr, vz, .slice al sx.links.length cl, .bool false] 104) := (hb7.block _ M6.out.lt).trans M6.out
    have S7 := Lib.hid (S6.out.next hb7)
    have E7 : Hid (BxO w7 w.heap.size #[.int .i64 0] 32) := (hb7.block _ E6.out.lt).trans E6.out
    have K71 : Hid (w7.cell? ⟨b, off + 1, none⟩ = some (.string u1)) := (hb7.cell (p := ⟨b, off + 1, none⟩) hb6').trans K61.out
    have K72 : Hid (w7.cell? ⟨b, off + 2, none⟩ = some (.string u2)) := (hb7.cell (p := ⟨b, off + 2, none⟩) hb6').trans K62.out
    have hb7' : b < w7.heap.size := Nat.lt_of_lt_of_le hb6' hb7.size
    clear B6 M6 S6 E6 K61 K62 hb6' HS6 hb7 HN2
    by_cases hN2 : nmE u2 = 0
    · rw [PnE_ok hN2] at he
      subst he
      have HS7 : Hid (w7.cell? ⟨R, 2, none⟩ = some (.slice al sx.links.length cl) ∧ w7.cell? ⟨b, off + 1, none⟩ = some (.string u1) ∧ w7.cell? ⟨b, off + 2, none⟩ = some (.string u2)) := ⟨M7.out.cell 2, K71.out, K72.out⟩
      have HS8 : Hid ((w7.alloc (.cells #[.string u1, .string u2] 61)).cell? ⟨R, 2, none⟩ = some (.slice al sx.links.length cl) ∧ (w7.alloc (.cells #[.string u1, .string u2] 61)).cell? ⟨b, off + 1, none⟩ = some (.string u1) ∧ (w7.alloc (.cells #[.string u1, .string u2] 61)).cell? ⟨b, off + 2, none⟩ = some (.string u2)) :=
        ⟨(M7.out.alloc _).cell 2, (((Below.refl _ _).alloc (Nat.le_refl _) _).cell (p := ⟨b, off + 1, none⟩) hb7').trans K71.out, (((Below.refl _ _).alloc (Nat.le_refl _) _).cell (p := ⟨b, off + 2, none⟩) hb7').trans K72.out⟩
      dsimp only
      refine hK _ _ (fun _ => HS7.out) ?_
      try simp only [Act.put, List.setIfInBounds_toArray, List.set_cons_zero, List.set_cons_succ]
      clear hK K
      refine wpAnyB_one (i := 14) rfl (by kernel_rfl) (fun K hK => ?_)
      go_simp
      refine hK _ _ (fun _ => HS7.out) ?_
      try simp only [Act.put, List.setIfInBounds_toArray, List.set_cons_zero, List.set_cons_succ]
      clear hK K
      refine wpAnyB_one (i := 15) rfl (by kernel_rfl) (fun K hK => ?_)
      refine step_wp rfl (wp_build1 26 61 (.tmp 101) rfl #[.string u1, .string u2] rfl iu _ Tryz.underlying26 hiu hu0 (by rw [hu1]; decide) (by rw [hu1]; decide) (by rw [hu1]; exact fill_lnk _ _) ?_)
      refine hK _ _ (fun _ => HS8.out) ?_
      try simp only [Act.put, List.setIfInBounds_toArray, List.set_cons_zero, List.set_cons_succ]
      clear hK K
      refine wpAnyB_tail _ 16 _ _ _ _ (by kernel_rfl) rfl rfl (by rfl) ?_
      simp only [List.drop_succ_cons, List.drop_zero]
      refine wpList_append_lies _ rfl (.tmp 92) (.tmp 102) 26 rfl (R + 1) 61 iu (.agg #[.string ⟨#[]⟩, .string ⟨#[]⟩]) 2 32 Tryz.underlying26 hiu hu0 hu1 hu2 rfl (by decide) (.slice al sx.links.length cl) sx.links.length (sx.links.flatMap encK) rfl (S7.out.l.alloc _) ⟨w7.heap.size, 0, none⟩ 1 1 (encK ⟨u1, u2⟩) rfl rfl (cells_at _ _ _ _ _ rfl rfl) (encK_one _) (by omega) (by unfold maxLen; omega) (by omega) (by rw [size_alloc]; have := M7.out.lt; omega) (w7.heap.size + 1) (size_alloc _ _) ?_
      intro gg cap6 w9 hown hgrow hat hltg
      have P9 := Lib.hid (rdm_putL M7.out HEZ.out S7.out hown hgrow)
      have E9 : Hid (BxO (w9.setCell ⟨R, 2, none⟩ (.slice (some ⟨gg, 0, none⟩) (sx.links.length + 1) cap6)) w.heap.size #[.int .i64 0] 32) := BxO.other (E7.out.sideV S7.out.l (by decide) hgrow) (Nat.ne_of_gt hRw.out) _ _
      have M9 := Lib.hid (M7.out.sideV S7.out.l (by decide) hgrow)
      have m2 : w9.cell? ⟨R, 2, none⟩ = some (.slice al sx.links.length cl) := M9.out.cell 2
      have mf : w9.frozen? ⟨R, 2, none⟩ = false := M9.out.frozen 2
      have ml : R < w9.heap.size := M9.out.lt
      clear hown hgrow hat S7 HS7 HS8 K71 K72 hb7'
      go_upto_region 18 with fail
      obtain ⟨WA, hWA⟩ : ∃ WA, WA = w9.setCell ⟨R, 2, none⟩ (.slice (some ⟨gg, 0, none⟩) (sx.links.length + 1) cap6) := ⟨_, rfl⟩
      rw [← hWA] at P9 E9 ⊢
      have BA : Hid (Below R w WA) := (B7.out.mono (Nat.le_of_lt hRw.out)).trans P9.out.2
      clear hWA m2 mf ml M9
      obtain ⟨e0, ef, el⟩ := box_zero E9.out
      go_wp2
      exact line_ret (p := ⟨w.heap.size, 0, none⟩) (by rfl) rfl (by simp [go_sem, e0]) (LnP.good hRw.out BA.out E9.out P9.out.1 ⟨by unfold lkE; rw [HU1.out, HU2.out, if_neg (by simp [hN1]), if_neg (by simp [hN2])], by rw [HU1.out, HU2.out]⟩)
    · rw [PnE_no hN2] at he
      subst he
      dsimp only
      clear hK
      refine line_pan (x := 0) (p := ⟨w.heap.size, 0, none⟩) (by rfl) rfl (E7.out.cell 0) (E7.out.frozen 0) ?_
      exact LnP.bad hRw.out (B7.out.mono (Nat.le_of_lt hRw.out)) ⟨by unfold lkE; rw [HU1.out, HU2.out, if_neg (by simp [hN1]), if_pos hN2]; exact (nmE_four hN2).symm, hN2⟩
  · rw [PnE_no hN1] at he
    subst he
    dsimp only
    clear hK
    refine line_pan (x := 0) (p := ⟨w.heap.size, 0, none⟩) (by rfl) rfl (E6.out.cell 0) (E6.out.frozen 0) ?_
    exact LnP.bad hRw.out (B6.out.mono (Nat.le_of_lt hRw.out)) ⟨by unfold lkE; rw [HU1.out, if_pos hN1]; exact (nmE_four hN1).symm, hN1⟩
end Go.Proofs.YtbikdlcjbigafaaGreatDoor
namespace Go.Proofs.YtbikdlcjbigafaaGreatDoor
set_option linter.unusedVariables false
set_option linter.unusedSimpArgs false
open Go.ChangeShapes Go.WideShapes Go.ChangeAt Go.RowKit Civ

set_option maxRecDepth 100000 in
set_option maxHeartbeats 4000000 in
theorem line_zone_bad (s : ByteArray) (w : World) (R : Nat) (vr vz vl : Value) (sx : Src) (op : Bool) (ws : List ByteArray) (hws : wdsS s.data.toList = ws) (hV : SrV w) (hs : s.size ≤ 1000000) (M : RdM w R vr vz vl ⟨sx, op⟩) (hL : lngE ws = 0) (hop : op = false) (hn0 : ws.length ≠ 0) (hR : wAt ws 0 ≠ ruleW) (hZ : wAt ws 0 = zoneW) (h2 : ws.length < 2) :
    Calls Tryz.prog 46 #[.pointer (some ⟨R, 0, none⟩), .string s] w fun e w' => LnP w w' R e (4) (⟨sx, op⟩) := by
  subst hop
  obtain ⟨W1, hW1⟩ : ∃ W1, W1 = w.alloc (.cells #[.int .i64 0] 32) := ⟨_, rfl⟩
  have B1 : Hid (Below w.heap.size w W1) := by show Below _ _ _; rw [hW1]; exact (Below.refl _ _).alloc (Nat.le_refl _) _
  have E1 : Hid (BxO W1 w.heap.size #[.int .i64 0] 32) := by show BxO _ _ _ _; rw [hW1]; exact BxO.new _ _ _
  have HW1 := Lib.hid hW1
  have HWD := Lib.hid (words_any_s s W1 (hV.below B1.out) hs)
  rw [hws] at HWD
  have HZ : Hid (∀ x ∈ ws, 0 < x.size ∧ x.size ≤ 1000000) := by
    show ∀ x ∈ ws, _
    intro x hx
    rw [← hws] at hx
    have h1 := wdsS_size s.data.toList x hx
    have h2 : s.data.toList.length = s.size := by simp
    exact ⟨wdsS_pos _ x hx, by omega⟩
  have MM := Lib.hid M
  have HV := Lib.hid hV
  have hRw : Hid (R < w.heap.size) := M.x.lt
  clear hW1 hws hs M hV
  have hmf : ∀ (fn : Fn) (first cap : Array Value) (w : World), (Instr.makeFunc fn first cap).run Tryz.prog w = .ok (.func fn first cap) w := fun _ _ _ _ => rfl
  go_enter_defers Tryz.func46, Tryz.ntmps46
  go_upto_region 2 with fail
  rw [← HW1.out]
  clear HW1 hmf
  go_wp2_with fail
  refine HWD.out.mono ?_; rintro e w2 ⟨v, he, hv, hb2⟩
  have B2 : Hid (Below w.heap.size w w2) := B1.out.trans (hb2.mono B1.out.size)
  have E2 : Hid (BxO w2 w.heap.size #[.int .i64 0] 32) := (hb2.block _ E1.out.lt).trans E1.out
  have M2 := Lib.hid (MM.out.next B2.out)
  have V2 := Lib.hid (HV.out.below B2.out)
  have HWS := Lib.hid hv
  clear B1 E1 HWD MM HV hv hb2
  rw [PnE_ok hL] at he
  subst he
  obtain ⟨aw, cw, rfl, hwl⟩ := HWS.out.shape
  have HCW : Hid (ws.length ≤ cw) := slAt_cap HWS.out
  clear hL
  have hnb : ((ws.length : Int) == 0) = false := by rw [beq_eq_false_iff_ne]; omega
  have hi0 : (0 : Int) < (ws.length : Int) := by omega
  obtain ⟨b, off, rfl, hbw, -⟩ := entS HWS.out 0 (by omega)
  have HWC := Lib.hid (words_at HWS.out hbw)
  have k0 := HWC.out w2 (Below.refl _ _) 0 (by omega)
  rw [Nat.add_zero] at k0
  obtain ⟨r0, r1, r2, r3⟩ : w2.cell? ⟨R, 0, none⟩ = some vr ∧ w2.cell? ⟨R, 1, none⟩ = some vz ∧ w2.cell? ⟨R, 2, none⟩ = some vl ∧ w2.cell? ⟨R, 3, none⟩ = some (.bool false) := ⟨M2.out.x.cell 0, M2.out.x.cell 1, M2.out.x.cell 2, M2.out.x.cell 3⟩
  obtain ⟨pR, pZ, pL, hpR, hpZ, hpL, PR, PZ, PL⟩ := pick_facts (wAt ws 0)
  have e1 : pR = false := by cases pR with | false => rfl | true => exact absurd (PR.1 rfl) hR
  have e2 : pZ = true := PZ.2 hZ
  subst e1 e2
  clear PR PZ PL hR hZ
  have hdl : decide ((2 : Int) ≤ (ws.length : Int)) = false := decide_eq_false (by omega)
  go_wp2_with (go_at_call 80; refine (need_no _ _).mono ?_; rintro e w' ⟨rfl, rfl⟩)
  go_wp2
  refine line_pan (x := 0) (p := ⟨w.heap.size, 0, none⟩) (by rfl) rfl (E2.out.cell 0) (E2.out.frozen 0) ?_
  exact LnP.bad hRw.out (B2.out.mono (Nat.le_of_lt hRw.out)) ⟨rfl, by decide⟩
set_option maxRecDepth 100000 in
set_option maxHeartbeats 4000000 in
theorem line_zone (s : ByteArray) (w : World) (R : Nat) (vr vz vl : Value) (sx : Src) (op : Bool) (ws : List ByteArray) (hws : wdsS s.data.toList = ws) (hV : SrV w) (hs : s.size ≤ 1000000) (M : RdM w R vr vz vl ⟨sx, op⟩) (hL : lngE ws = 0) (hop : op = false) (hn0 : ws.length ≠ 0) (hR : wAt ws 0 ≠ ruleW) (hZ : wAt ws 0 = zoneW) (h2 : ¬ ws.length < 2) (hc : sx.zones.length ≤ 200) :
    Calls Tryz.prog 46 #[.pointer (some ⟨R, 0, none⟩), .string s] w fun e w' => LnP w w' R e (znE ws) (⟨⟨sx.rules, sx.zones ++ [⟨wAt ws 1, [erV (ws.drop 2)]⟩], sx.links⟩, (erV (ws.drop 2)).en⟩) := by
  subst hop
  obtain ⟨W1, hW1⟩ : ∃ W1, W1 = w.alloc (.cells #[.int .i64 0] 32) := ⟨_, rfl⟩
  have B1 : Hid (Below w.heap.size w W1) := by show Below _ _ _; rw [hW1]; exact (Below.refl _ _).alloc (Nat.le_refl _) _
  have E1 : Hid (BxO W1 w.heap.size #[.int .i64 0] 32) := by show BxO _ _ _ _; rw [hW1]; exact BxO.new _ _ _
  have HW1 := Lib.hid hW1
  have HWD := Lib.hid (words_any_s s W1 (hV.below B1.out) hs)
  rw [hws] at HWD
  have HZ : Hid (∀ x ∈ ws, 0 < x.size ∧ x.size ≤ 1000000) := by
    show ∀ x ∈ ws, _
    intro x hx
    rw [← hws] at hx
    have h1 := wdsS_size s.data.toList x hx
    have h2 : s.data.toList.length = s.size := by simp
    exact ⟨wdsS_pos _ x hx, by omega⟩
  have MM := Lib.hid M
  have HV := Lib.hid hV
  have hRw : Hid (R < w.heap.size) := M.x.lt
  clear hW1 hws hs M hV
  have hmf : ∀ (fn : Fn) (first cap : Array Value) (w : World), (Instr.makeFunc fn first cap).run Tryz.prog w = .ok (.func fn first cap) w := fun _ _ _ _ => rfl
  go_enter_defers Tryz.func46, Tryz.ntmps46
  go_upto_region 2 with fail
  rw [← HW1.out]
  clear HW1 hmf
  go_wp2_with fail
  refine HWD.out.mono ?_; rintro e w2 ⟨v, he, hv, hb2⟩
  have B2 : Hid (Below w.heap.size w w2) := B1.out.trans (hb2.mono B1.out.size)
  have E2 : Hid (BxO w2 w.heap.size #[.int .i64 0] 32) := (hb2.block _ E1.out.lt).trans E1.out
  have M2 := Lib.hid (MM.out.next B2.out)
  have V2 := Lib.hid (HV.out.below B2.out)
  have HWS := Lib.hid hv
  clear B1 E1 HWD MM HV hv hb2
  rw [PnE_ok hL] at he
  subst he
  obtain ⟨aw, cw, rfl, hwl⟩ := HWS.out.shape
  have HCW : Hid (ws.length ≤ cw) := slAt_cap HWS.out
  clear hL
  have hnb : ((ws.length : Int) == 0) = false := by rw [beq_eq_false_iff_ne]; omega
  have hi0 : (0 : Int) < (ws.length : Int) := by omega
  obtain ⟨b, off, rfl, hbw, -⟩ := entS HWS.out 0 (by omega)
  have HWC := Lib.hid (words_at HWS.out hbw)
  have k0 := HWC.out w2 (Below.refl _ _) 0 (by omega)
  rw [Nat.add_zero] at k0
  obtain ⟨r0, r1, r2, r3⟩ : w2.cell? ⟨R, 0, none⟩ = some vr ∧ w2.cell? ⟨R, 1, none⟩ = some vz ∧ w2.cell? ⟨R, 2, none⟩ = some vl ∧ w2.cell? ⟨R, 3, none⟩ = some (.bool false) := ⟨M2.out.x.cell 0, M2.out.x.cell 1, M2.out.x.cell 2, M2.out.x.cell 3⟩
  obtain ⟨pR, pZ, pL, hpR, hpZ, hpL, PR, PZ, PL⟩ := pick_facts (wAt ws 0)
  have e1 : pR = false := by cases pR with | false => rfl | true => exact absurd (PR.1 rfl) hR
  have e2 : pZ = true := PZ.2 hZ
  subst e1 e2
  clear PR PZ PL hR hZ
  have hdl : decide ((2 : Int) ≤ (ws.length : Int)) = true := decide_eq_true (by omega)
  have hi1 : (1 : Int) < (ws.length : Int) := by omega
  have hi2 : (2 : Int) ≤ (ws.length : Int) := by omega
  have hcw : (ws.length : Int) ≤ (cw : Int) := by have := HCW.out; omega
  obtain ⟨u1, hu1⟩ : ∃ u, wAt ws 1 = u := ⟨_, rfl⟩
  have hm1 : u1.size ≤ maxLen := by rw [← hu1, wAt_get (show 1 < ws.length by omega)]; have := (HZ.out _ (List.getElem_mem (show 1 < ws.length by omega))).2; unfold maxLen; omega
  have k1 := HWC.out w2 (Below.refl _ _) 1 (by omega)
  have HN1 := Lib.hid (fun wx => name_any_s u1 wx hm1)
  have HU1 := Lib.hid hu1
  rw [hu1] at k1
  clear hu1 hm1
  have HWS2 := Lib.hid HWS.out
  have HZD : Hid (∀ x ∈ ws.drop 2, 0 < x.size ∧ x.size ≤ 1000000) := fun x hx => HZ.out x (List.drop_subset _ _ hx)
  have HER := Lib.hid (fun vd (hvd : SlAt w2 1 RSt vd (ws.drop 2)) wx (hb : Below w2.heap.size w2 wx) => era_any_s (ws.drop 2) vd wx (V2.out.below hb) (hvd.mono hb fun _ _ h => h) HZD.out)
  have HL2 : Hid (¬ ws.length < 2) := h2
  clear HZD h2 HWS V2 HZ
  go_upto_region 11 with (go_at_call 80; refine (need_yes _ _).mono ?_; rintro e w' ⟨rfl, rfl⟩)
  go_wp2_with fail
  refine (HN1.out _).mono ?_; rintro e w6 ⟨he, hb6⟩
  have B6 : Hid (Below w.heap.size w w6) := B2.out.trans (hb6.mono B2.out.size)
  have E6 : Hid (BxO w6 w.heap.size #[.int .i64 0] 32) := (hb6.block _ E2.out.lt).trans E2.out
  have M6 := Lib.hid (M2.out.next hb6)
  have HB6 := Lib.hid hb6
  clear B2 E2 M2 hb6 HN1 r0 r1 r2 r3 k0 k1 hbw HWC
  by_cases hN1 : nmE u1 = 0
  · rw [PnE_ok hN1] at he
    subst he
    go_upto_region 12 with fail
    by_cases hc2 : cw = 2
    · subst hc2
      have hl2 : ws.length - 2 = 0 := by have := HCW.out; omega
      have HE4 : Hid (erE (ws.drop 2) = 4) := by
        show _ = _
        rw [List.drop_eq_nil_of_le (by have := HCW.out; omega)]
        rfl
      have HWD2 : Hid (SlAt w2 1 RSt (.slice (some ⟨b, off, none⟩) (ws.length - 2) 0) (ws.drop 2)) := by
        show SlAt _ _ _ _ _
        rw [hl2, List.drop_eq_nil_of_le (by have := HCW.out; omega)]
        exact .inl ⟨_, _, rfl, rfl⟩
      clear hl2
      go_wp2_with fail
      refine (HER.out (.slice (some ⟨b, off, none⟩) (ws.length - 2) 0) HWD2.out w6 HB6.out).mono ?_; rintro e w3 ⟨he, hb3⟩
      rw [HE4.out, PnE_no (by decide)] at he
      subst he
      have B3 : Hid (Below w.heap.size w w3) := B6.out.trans (hb3.mono B6.out.size)
      have E3 : Hid (BxO w3 w.heap.size #[.int .i64 0] 32) := (hb3.block _ E6.out.lt).trans E6.out
      clear hb3
      go_wp2
      refine line_pan (x := 0) (p := ⟨w.heap.size, 0, none⟩) (by rfl) rfl (E3.out.cell 0) (E3.out.frozen 0) ?_
      exact LnP.bad hRw.out (B3.out.mono (Nat.le_of_lt hRw.out)) ⟨by unfold znE; rw [HU1.out, if_neg (by simp [hN1])]; exact HE4.out, by decide⟩
    · have HWD2 : Hid (SlAt w2 1 RSt (.slice (some ⟨b, off + 2, none⟩) (ws.length - 2) (cw - 2)) (ws.drop 2)) := slAt_dropW HWS2.out 2 (by have := HL2.out; omega)
      go_wp2_with fail
      refine (HER.out (.slice (some ⟨b, off + 2, none⟩) (ws.length - 2) (cw - 2)) HWD2.out w6 HB6.out).mono ?_; rintro e w3 ⟨he, hb3⟩
      have B3 : Hid (Below w.heap.size w w3) := B6.out.trans (hb3.mono B6.out.size)
      have E3 : Hid (BxO w3 w.heap.size #[.int .i64 0] 32) := (hb3.block _ E6.out.lt).trans E6.out
      have M3 := Lib.hid (M6.out.next hb3)
      have HRX0 : Hid (R < w3.heap.size) := Nat.lt_of_lt_of_le M6.out.x.lt hb3.size
      clear hb3 B6 E6 M6 HB6 HER HWD2 HWS2
      by_cases hE : erE (ws.drop 2) = 0
      · rw [PnE_ok hE] at he
        obtain ⟨x, hx⟩ : ∃ x, erV (ws.drop 2) = x := ⟨_, rfl⟩
        rw [hx] at he
        subst he
        have HX := Lib.hid hx
        have HEE := Lib.hid hE
        clear hx hE
        obtain ⟨W4, hW4⟩ : ∃ W4, W4 = w3.alloc (.cells #[.int .i64 x.off, .string x.rl, .int .i64 x.sv, .string x.fm, .bool x.en, .int .i64 x.yr, .int .i64 x.un.mo, .int .i64 x.un.k, .int .i64 x.un.a, .int .i64 x.un.n, .int .i64 x.un.t, .int .i64 x.un.c] 68) := ⟨_, rfl⟩
        have DD : Below w3.heap.size w3 W4.drew := by rw [hW4]; exact ((Below.refl _ _).alloc (Nat.le_refl _) _).drew
        have X4 : Hid (BxO W4.drew w3.heap.size (eaA x.off x.rl x.sv x.fm x.en x.yr x.un.mo x.un.k x.un.a x.un.n x.un.t x.un.c) 68) := by show BxO _ _ _ _; rw [hW4]; exact (BxO.new _ _ _).drew
        have HW4 := Lib.hid hW4
        clear hW4
        go_upto_region 13 with (refine wpList_store_row rfl 68 _ _ rfl w3.heap.size #[.int .i64 x.off, .string x.rl, .int .i64 x.sv, .string x.fm, .bool x.en, .int .i64 x.yr, .int .i64 x.un.mo, .int .i64 x.un.k, .int .i64 x.un.a, .int .i64 x.un.n, .int .i64 x.un.t, .int .i64 x.un.c] rfl rfl 68 _ (World.alloc_heap_new w3 _) (by kernel_rfl) rfl (by simp [Value.oneCell']) ?_; rw [World.setRow_alloc_new])
        rw [← HW4.out]
        clear HW4 hpL hpR hpZ hnb hi0 hi1 hi2 hcw hdl hc2
        obtain ⟨W5, hW5⟩ : ∃ W5, W4.drew = W5 := ⟨_, rfl⟩
        rw [hW5] at DD X4
        have B5 : Hid (Below w.heap.size w W5) := B3.out.trans (DD.mono B3.out.size)
        have M5 := Lib.hid (M3.out.next DD)
        have E5 : Hid (BxO W5 w.heap.size #[.int .i64 0] 32) := (DD.block _ E3.out.lt).trans E3.out
        clear B3 M3 E3 DD
        obtain ⟨zs, ez, hs⟩ := M5.out.s
        obtain ⟨az, cz, rfl⟩ := own_shape hs.z
        have hzl : zs.length ≤ 200 := by have h := congrArg List.length ez; rw [List.length_map] at h; have h2 : zs.length = sx.zones.length := h; omega
        have S5 := Lib.hid hs
        have HEZ := Lib.hid ez
        have MX5 := Lib.hid M5.out.x
        clear hs ez M5
        obtain ⟨iz, hiz, hz0, hz1, hz2⟩ := info_parts info_zon
        obtain ⟨ie, hie, he0, he1, he2⟩ := info_parts info_ero
        refine wp_region_B (fun w' => w'.cell? ⟨R, 1, none⟩ = some (.slice az zs.length cz) ∧ w'.heap[w3.heap.size]? = some (.cells (eaA x.off x.rl x.sv x.fm x.en x.yr x.un.mo x.un.k x.un.a x.un.n x.un.t x.un.c) 68 (0, 0))) [7, 8, 9, 10] (by kernel_rfl) ?_
        rw [hW5]
        clear hW5
        have HS0 : Hid (W5.cell? ⟨R, 1, none⟩ = some (.slice az zs.length cz) ∧ W5.heap[w3.heap.size]? = some (.cells (eaA x.off x.rl x.sv x.fm x.en x.yr x.un.mo x.un.k x.un.a x.un.n x.un.t x.un.c) 68 (0, 0))) := ⟨MX5.out.cell 1, X4.out⟩
        refine wpAnyB_takeW (i := 0) (v := (.pointer (some ⟨R, 0, none⟩))) rfl (by kernel_rfl) (by kernel_rfl) (by kernel_rfl) (by rfl) (fun c a w h => put_back 58 (by decide) _ c a w h) (by rfl) (fun _ => by go_simp) ?_
        try simp only [Act.put, List.setIfInBounds_toArray, List.set_cons_zero, List.set_cons_succ]
        refine wpAnyB_takeW (i := 1) (v := (.pointer (some ⟨R, 0, none⟩))) rfl (by kernel_rfl) (by kernel_rfl) (by kernel_rfl) (by rfl) (fun c a w h => put_back 59 (by decide) _ c a w h) (by rfl) (fun _ => by go_simp) ?_
        try simp only [Act.put, List.setIfInBounds_toArray, List.set_cons_zero, List.set_cons_succ]
        refine wpAnyB_takeW (i := 2) (v := (.pointer (some ⟨R, 0, none⟩))) rfl (by kernel_rfl) (by kernel_rfl) (by kernel_rfl) (by rfl) (fun c a w h => put_back 60 (by decide) _ c a w h) (by rfl) (fun _ => by go_simp) ?_
        try simp only [Act.put, List.setIfInBounds_toArray, List.set_cons_zero, List.set_cons_succ]
        refine wpAnyB_takeW (i := 3) (v := (.pointer (some ⟨R, 0, none⟩))) rfl (by kernel_rfl) (by kernel_rfl) (by kernel_rfl) (by rfl) (fun c a w h => put_back 61 (by decide) _ c a w h) (by rfl) (fun _ => by go_simp) ?_
        try simp only [Act.put, List.setIfInBounds_toArray, List.set_cons_zero, List.set_cons_succ]
        refine wpAnyB_takeW (i := 4) (v := (.pointer (some ⟨R, 1, none⟩))) rfl (by kernel_rfl) (by kernel_rfl) (by kernel_rfl) (by rfl) (fun c a w h => put_back 62 (by decide) _ c a w h) (by rfl) (fun _ => by go_simp) ?_
        try simp only [Act.put, List.setIfInBounds_toArray, List.set_cons_zero, List.set_cons_succ]
        refine wpAnyB_takeW (i := 6) (v := (.string u1)) rfl (by kernel_rfl) (by kernel_rfl) (by kernel_rfl) (by rfl) (fun c a w h => put_back 64 (by decide) _ c a w h) (by rfl) (fun _ => by go_simp) ?_
        try simp only [Act.put, List.setIfInBounds_toArray, List.set_cons_zero, List.set_cons_succ]
        refine wpAnyB_take (i := 5) [11, 12, 13, 14, 15] (v := (.slice az zs.length cz)) rfl (by kernel_rfl) (by kernel_rfl) (by kernel_rfl) (by kernel_rfl) (by kernel_rfl) (by kernel_rfl) (fun c a w h => put_back 63 (by decide) _ c a w h) (.inl ⟨by rfl, fun w' hS => by have h1 := hS.1; go_simp⟩) HS0.out ?_
        try simp only [Act.put, List.setIfInBounds_toArray, List.set_cons_zero, List.set_cons_succ]
        refine wpAnyB_take (i := 7) [8, 9, 10, 11, 12, 13, 14, 15] (v := (.agg #[.int .i64 x.off, .string x.rl, .int .i64 x.sv, .string x.fm, .bool x.en, .int .i64 x.yr, .int .i64 x.un.mo, .int .i64 x.un.k, .int .i64 x.un.a, .int .i64 x.un.n, .int .i64 x.un.t, .int .i64 x.un.c])) rfl (by kernel_rfl) (by kernel_rfl) (by kernel_rfl) (by kernel_rfl) (by kernel_rfl) (by kernel_rfl) (fun c a w h => put_back 65 (by decide) _ c a w h) (yieldsIf_row (by rfl) 68 (.tmp 7) rfl w3.heap.size rfl 68 #[.int .i64 x.off, .string x.rl, .int .i64 x.sv, .string x.fm, .bool x.en, .int .i64 x.yr, .int .i64 x.un.mo, .int .i64 x.un.k, .int .i64 x.un.a, .int .i64 x.un.n, .int .i64 x.un.t, .int .i64 x.un.c] (0, 0) _ (fun w' hS => hS.2) Tryz.underlying68 rfl (by kernel_rfl)) HS0.out ?_
        try simp only [Act.put, List.setIfInBounds_toArray, List.set_cons_zero, List.set_cons_succ]
        clear HS0
        obtain ⟨W6, hW6⟩ : ∃ W6, W6 = W5.alloc (.cells #[.int .i64 x.off, .string x.rl, .int .i64 x.sv, .string x.fm, .bool x.en, .int .i64 x.yr, .int .i64 x.un.mo, .int .i64 x.un.k, .int .i64 x.un.a, .int .i64 x.un.n, .int .i64 x.un.t, .int .i64 x.un.c] 68) := ⟨_, rfl⟩
        have DD : Below W5.heap.size W5 W6 := by rw [hW6]; exact (Below.refl _ _).alloc (Nat.le_refl _) _
        have hy : W6.ownsRow (R + 1) 68 12 (.slice (some ⟨W5.heap.size, 0, none⟩) 1 1) 1 (([x] : List Ero).flatMap EroV) := by
          rw [hW6]
          exact own_lit (by have := MX5.out.lt; omega) rfl (by unfold maxLen; omega)
        have hd : ∀ a ∈ zs, ∀ g, a.2.ownBlock = some g → (Value.slice (some ⟨W5.heap.size, 0, none⟩) 1 1).ownBlock ≠ some g := by
          intro a ha g hg e
          have h1 := ((S5.out.x a ha).lt g hg).2
          have e2 : W5.heap.size = g := by simpa [Value.ownBlock] using e
          omega
        have HY := Lib.hid hy
        have HD := Lib.hid hd
        have B6 : Hid (Below w.heap.size w W6) := B5.out.trans (DD.mono B5.out.size)
        have M6 : Hid (BxO W6 R #[vr, .slice az zs.length cz, vl, .bool false] 104) := (DD.block _ MX5.out.lt).trans MX5.out
        have S6 := Lib.hid (S5.out.next DD)
        have E6 : Hid (BxO W6 w.heap.size #[.int .i64 0] 32) := (DD.block _ E5.out.lt).trans E5.out
        have X6 : Hid (BxO W6 w3.heap.size (eaA x.off x.rl x.sv x.fm x.en x.yr x.un.mo x.un.k x.un.a x.un.n x.un.t x.un.c) 68) := (DD.block _ X4.out.lt).trans X4.out
        have HS6 : Hid (W6.cell? ⟨R, 1, none⟩ = some (.slice az zs.length cz) ∧ W6.heap[w3.heap.size]? = some (.cells (eaA x.off x.rl x.sv x.fm x.en x.yr x.un.mo x.un.k x.un.a x.un.n x.un.t x.un.c) 68 (0, 0))) := ⟨M6.out.cell 1, X6.out⟩
        have HS7 : Hid ((W6.alloc (.cells #[.string u1, .slice (some ⟨W5.heap.size, 0, none⟩) 1 1] 65)).cell? ⟨R, 1, none⟩ = some (.slice az zs.length cz) ∧ (W6.alloc (.cells #[.string u1, .slice (some ⟨W5.heap.size, 0, none⟩) 1 1] 65)).heap[w3.heap.size]? = some (.cells (eaA x.off x.rl x.sv x.fm x.en x.yr x.un.mo x.un.k x.un.a x.un.n x.un.t x.un.c) 68 (0, 0))) := ⟨(M6.out.alloc _).cell 1, X6.out.alloc _⟩
        have HW6 := Lib.hid hW6
        clear DD hy hd hW6 S5 E5 X4 MX5 B5
        refine wpAnyB_one (i := 8) rfl (by kernel_rfl) (fun K hK => ?_)
        refine step_wp rfl (wp_build1 63 68 (.tmp 65) rfl #[.int .i64 x.off, .string x.rl, .int .i64 x.sv, .string x.fm, .bool x.en, .int .i64 x.yr, .int .i64 x.un.mo, .int .i64 x.un.k, .int .i64 x.un.a, .int .i64 x.un.n, .int .i64 x.un.t, .int .i64 x.un.c] rfl ie _ Tryz.underlying63 hie he0 (by rw [he1]; decide) (by rw [he1]; decide) (by rw [he1]; exact fill_ero _ _ _ _ _ _ _ _ _ _ _ _) ?_)
        rw [← HW6.out]
        refine hK _ _ (fun _ => HS6.out) ?_
        try simp only [Act.put, List.setIfInBounds_toArray, List.set_cons_zero, List.set_cons_succ]
        clear hK K
        refine wpAnyB_one (i := 9) rfl (by kernel_rfl) (fun K hK => ?_)
        go_simp
        refine hK _ _ (fun _ => HS6.out) ?_
        try simp only [Act.put, List.setIfInBounds_toArray, List.set_cons_zero, List.set_cons_succ]
        clear hK K
        refine wpAnyB_one (i := 10) rfl (by kernel_rfl) (fun K hK => ?_)
        refine step_wp rfl (wp_build1 25 65 (.tmp 67) rfl #[.string u1, .slice (some ⟨W5.heap.size, 0, none⟩) 1 1] rfl iz _ Tryz.underlying25 hiz hz0 (by rw [hz1]; decide) (by rw [hz1]; decide) (by rw [hz1]; exact fill_zon _ _) ?_)
        refine hK _ _ (fun _ => HS7.out) ?_
        try simp only [Act.put, List.setIfInBounds_toArray, List.set_cons_zero, List.set_cons_succ]
        clear hK K
        refine wpAnyB_tail _ 11 _ _ _ _ (by kernel_rfl) rfl rfl (by rfl) ?_
        simp only [List.drop_succ_cons, List.drop_zero]
        refine wpList_append_lies _ rfl (.tmp 63) (.tmp 68) 25 rfl (R + 1) 65 iz (.agg #[.string ⟨#[]⟩, .slice none 0 0]) 2 40 Tryz.underlying25 hiz hz0 hz1 hz2 rfl (by decide) (.slice az zs.length cz) zs.length (zs.flatMap encZ) rfl (S6.out.z.alloc _) ⟨W6.heap.size, 0, none⟩ 1 1 (encZ ((⟨u1, [x]⟩ : Zon), .slice (some ⟨W5.heap.size, 0, none⟩) 1 1)) rfl rfl (cells_at _ _ _ _ _ rfl rfl) (encZ_one _ _ _ _ _) (by omega) (by unfold maxLen; omega) (by omega) (by rw [size_alloc]; have := M6.out.lt; omega) (W6.heap.size + 1) (size_alloc _ _) ?_
        intro gg cap6 wb hown hgrow hat hltg
        have P7 := Lib.hid (rdm_putZ (y := ((⟨u1, [x]⟩ : Zon), .slice (some ⟨W5.heap.size, 0, none⟩) 1 1)) M6.out HEZ.out S6.out HY.out HD.out hown hgrow)
        have E7 : Hid (BxO (wb.setCell ⟨R, 1, none⟩ (.slice (some ⟨gg, 0, none⟩) (zs.length + 1) cap6)) w.heap.size #[.int .i64 0] 32) := BxO.other (E6.out.sideV S6.out.z (by decide) hgrow) (Nat.ne_of_gt hRw.out) _ _
        have X7 : Hid (BxO (wb.setCell ⟨R, 1, none⟩ (.slice (some ⟨gg, 0, none⟩) (zs.length + 1) cap6)) w3.heap.size (eaA x.off x.rl x.sv x.fm x.en x.yr x.un.mo x.un.k x.un.a x.un.n x.un.t x.un.c) 68) := BxO.other (X6.out.sideV S6.out.z (by decide) hgrow) (Nat.ne_of_gt HRX0.out) _ _
        have MA := Lib.hid (M6.out.sideV S6.out.z (by decide) hgrow)
        have m2 : wb.cell? ⟨R, 1, none⟩ = some (.slice az zs.length cz) := MA.out.cell 1
        have mf : wb.frozen? ⟨R, 1, none⟩ = false := MA.out.frozen 1
        have ml : R < wb.heap.size := MA.out.lt
        clear hown hgrow hat S6 HS6 HS7 HY HD X6 E6
        go_upto_region 14 with fail
        obtain ⟨WA, hWA⟩ : ∃ WA, WA = wb.setCell ⟨R, 1, none⟩ (.slice (some ⟨gg, 0, none⟩) (zs.length + 1) cap6) := ⟨_, rfl⟩
        rw [← hWA] at P7 E7 X7 ⊢
        have BA : Hid (Below R w WA) := (B6.out.mono (Nat.le_of_lt hRw.out)).trans P7.out.2.2
        clear hWA m2 mf ml MA
        have x4 : WA.cell? ⟨w3.heap.size, 4, none⟩ = some (.bool x.en) := X7.out.cell 4
        have xz : w3.heap.size < WA.heap.size := X7.out.lt
        have r3 : WA.cell? ⟨R, 3, none⟩ = some (.bool false) := P7.out.1.cell 3
        have rf : WA.frozen? ⟨R, 3, none⟩ = false := P7.out.1.frozen 3
        have rl : R < WA.heap.size := P7.out.1.lt
        go_upto_region 18 with fail
        have PB := Lib.hid (RdM.mark P7.out.1 P7.out.2.1 x.en)
        have EB : Hid (BxO (WA.setCell ⟨R, 3, none⟩ (.bool x.en)) w.heap.size #[.int .i64 0] 32) := BxO.other E7.out (Nat.ne_of_gt hRw.out) _ _
        have BB : Hid (Below R w (WA.setCell ⟨R, 3, none⟩ (.bool x.en))) := BA.out.setCell (p := ⟨R, 3, none⟩) (Nat.le_refl _) _
        obtain ⟨WB, hWB⟩ : ∃ WB, WB = WA.setCell ⟨R, 3, none⟩ (.bool x.en) := ⟨_, rfl⟩
        rw [← hWB] at PB EB BB ⊢
        clear hWB x4 xz r3 rf rl
        obtain ⟨e0, ef, el⟩ := box_zero EB.out
        go_wp2
        exact line_ret (p := ⟨w.heap.size, 0, none⟩) (by rfl) rfl (by simp [go_sem, e0]) (LnP.good hRw.out BB.out EB.out PB.out ⟨by unfold znE; rw [HU1.out, if_neg (by simp [hN1])]; exact HEE.out, by rw [HU1.out, HX.out]⟩)
      · rw [PnE_no hE] at he
        subst he
        go_wp2
        refine line_pan (x := 0) (p := ⟨w.heap.size, 0, none⟩) (by rfl) rfl (E3.out.cell 0) (E3.out.frozen 0) ?_
        exact LnP.bad hRw.out (B3.out.mono (Nat.le_of_lt hRw.out)) ⟨by unfold znE; rw [HU1.out, if_neg (by simp [hN1])], hE⟩
  · rw [PnE_no hN1] at he
    subst he
    go_wp2
    refine line_pan (x := 0) (p := ⟨w.heap.size, 0, none⟩) (by rfl) rfl (E6.out.cell 0) (E6.out.frozen 0) ?_
    exact LnP.bad hRw.out (B6.out.mono (Nat.le_of_lt hRw.out)) ⟨by unfold znE; rw [HU1.out, if_pos hN1]; exact (nmE_four hN1).symm, hN1⟩
end Go.Proofs.YtbikdlcjbigafaaGreatDoor
namespace Go.Proofs.YtbikdlcjbigafaaGreatDoor
set_option linter.unusedVariables false
set_option linter.unusedSimpArgs false
open Go.ChangeShapes Go.WideShapes Go.ChangeAt Go.RowKit Civ

theorem LnP.to {w w' : World} {R : Nat} {e : Ending} {E E' : Int} {st st' : RdS} (h : LnP w w' R e E st) (h1 : E = E') (h2 : E' = 0 → st = st') : LnP w w' R e E' st' := by
  subst h1
  obtain ⟨a, b, c⟩ := h
  exact ⟨a, b, fun h => by rw [← h2 h]; exact c h⟩
theorem rdLine_any (s : ByteArray) (w : World) (R : Nat) (vr vz vl : Value) (st : RdS) (hV : SrV w) (hs : s.size ≤ 1000000) (M : RdM w R vr vz vl st) (hop : st.op = true → st.s.zones ≠ []) (hB : ersB st.s 200) (hc : cntS st.s ≤ 200) :
    Calls Tryz.prog 46 #[.pointer (some ⟨R, 0, none⟩), .string s] w fun e w' => LnP w w' R e (linE st s.data.toList) (linV st s.data.toList) := by
  obtain ⟨sx, op⟩ := st
  have hc3 : sx.rules.length ≤ 200 ∧ sx.zones.length ≤ 200 ∧ sx.links.length ≤ 200 := by
    have h : sx.rules.length + sx.zones.length + sx.links.length ≤ 200 := hc
    omega
  obtain ⟨hcr, hcz, hcl⟩ := hc3
  obtain ⟨ws, hws⟩ : ∃ ws, wdsS s.data.toList = ws := ⟨_, rfl⟩
  have hE : linE ⟨sx, op⟩ s.data.toList = if lngE ws ≠ 0 then lngE ws else lnE ⟨sx, op⟩ ws := by rw [linE_lng, hws]
  have hS : linV ⟨sx, op⟩ s.data.toList = lnV ⟨sx, op⟩ ws := by show lnV _ _ = _; rw [hws]
  rw [hE, hS]
  clear hE hS
  by_cases hL : lngE ws = 0
  · rw [if_neg (by simp [hL])]
    by_cases h0 : ws.length = 0
    · refine (line_empty s w R vr vz vl sx op ws hws hV hs M hL h0).mono fun e w' h => h.to ?_ ?_
      · unfold lnE; rw [if_pos h0]
      · intro _; unfold lnV; rw [if_pos h0]
    · cases op with
      | true =>
        refine (line_open s w R vr vz vl sx true ws hws hV hs M hL rfl h0 (hop rfl) hB hcz).mono fun e w' h => h.to ?_ ?_
        · unfold lnE erM; rw [if_neg h0, if_pos rfl]
        · intro _; unfold lnV lnO; rw [if_neg h0, if_pos rfl]
      | false =>
        have e1 : lnE ⟨sx, false⟩ ws = if wAt ws 0 = ruleW then rulS ws else if wAt ws 0 = zoneW then (if ws.length < 2 ∨ nameS (wAt ws 1) = false then 4 else erE (ws.drop 2)) else if wAt ws 0 = linkW then (if ws.length ≠ 3 ∨ nameS (wAt ws 1) = false ∨ nameS (wAt ws 2) = false then 4 else 0) else 4 := by
          unfold lnE
          rw [if_neg h0, if_neg (by simp)]
        have e2 : lnV ⟨sx, false⟩ ws = if wAt ws 0 = ruleW then ⟨⟨sx.rules ++ [rulV ws], sx.zones, sx.links⟩, false⟩ else if wAt ws 0 = zoneW then ⟨⟨sx.rules, sx.zones ++ [⟨wAt ws 1, [erV (ws.drop 2)]⟩], sx.links⟩, (erV (ws.drop 2)).en⟩ else ⟨⟨sx.rules, sx.zones, sx.links ++ [⟨wAt ws 1, wAt ws 2⟩]⟩, false⟩ := by
          unfold lnV
          rw [if_neg h0, if_neg (by simp)]
        rw [e1, e2]
        clear e1 e2
        have nm : ∀ x, nmE x ≠ 0 ↔ nameS x = false := fun x => by
          unfold nmE
          cases nameS x <;> simp
        by_cases hR : wAt ws 0 = ruleW
        · rw [if_pos hR, if_pos hR]
          exact line_rule s w R vr vz vl sx false ws hws hV hs M hL rfl h0 hR hcr
        · rw [if_neg hR, if_neg hR]
          by_cases hZ : wAt ws 0 = zoneW
          · rw [if_pos hZ, if_pos hZ]
            by_cases h2 : ws.length < 2
            · refine (line_zone_bad s w R vr vz vl sx false ws hws hV hs M hL rfl h0 hR hZ h2).mono fun e w' h => h.to ?_ ?_
              · rw [if_pos (.inl h2)]
              · intro h; rw [if_pos (.inl h2)] at h; cases h
            · refine (line_zone s w R vr vz vl sx false ws hws hV hs M hL rfl h0 hR hZ h2 hcz).mono fun e w' h => h.to ?_ (fun _ => rfl)
              unfold znE
              by_cases hn : nameS (wAt ws 1) = false
              · rw [if_pos ((nm _).2 hn), if_pos (.inr hn)]
              · rw [if_neg (fun h => hn ((nm _).1 h)), if_neg (by rintro (h | h); exact h2 h; exact hn h)]
          · rw [if_neg hZ, if_neg hZ]
            by_cases hK : wAt ws 0 = linkW
            · rw [if_pos hK]
              by_cases h3 : ws.length = 3
              · refine (line_link s w R vr vz vl sx false ws hws hV hs M hL rfl h0 hR hZ hK h3 hcl).mono fun e w' h => h.to ?_ (fun _ => rfl)
                unfold lkE
                by_cases hn : nameS (wAt ws 1) = false
                · rw [if_pos ((nm _).2 hn), if_pos (.inr (.inl hn))]
                · rw [if_neg (fun h => hn ((nm _).1 h))]
                  by_cases hn2 : nameS (wAt ws 2) = false
                  · rw [if_pos ((nm _).2 hn2), if_pos (.inr (.inr hn2))]
                  · rw [if_neg (fun h => hn2 ((nm _).1 h)), if_neg (by rintro (h | h | h); exact h h3; exact hn h; exact hn2 h)]
              · refine (line_link_bad s w R vr vz vl sx false ws hws hV hs M hL rfl h0 hR hZ hK h3).mono fun e w' h => h.to ?_ ?_
                · rw [if_pos (.inl h3)]
                · intro h; rw [if_pos (.inl h3)] at h; cases h
            · rw [if_neg hK]
              refine (line_else s w R vr vz vl sx false ws hws hV hs M hL rfl h0 hR hZ hK).mono fun e w' h => h.to rfl ?_
              intro h; cases h
  · rw [if_pos hL]
    exact (line_long s w R vr vz vl sx op ws hws hV hs M hL).mono fun e w' h => h.to rfl (fun h => absurd h hL)
end Go.Proofs.YtbikdlcjbigafaaGreatDoor
namespace Go.Proofs.YtbikdlcjbigafaaGreatDoor
set_option linter.unusedVariables false
set_option linter.unusedSimpArgs false
open Go.ChangeShapes Go.WideShapes Go.ChangeAt Go.RowKit Civ

theorem splB_len (c : UInt8) : ∀ (l cur : List UInt8), (splB c cur l).length ≤ l.length + 1
  | [], cur => Nat.le_refl _
  | x :: l, cur => by
    show (if x = c then cur :: splB c [] l else splB c (cur ++ [x]) l).length ≤ _
    split
    · have := splB_len c l []
      simp only [List.length_cons]
      omega
    · have := splB_len c l (cur ++ [x])
      simp only [List.length_cons]
      omega
/-- a round of the reading: the result's box, the reader's box and rows. -/
structure RdL (w w1 wr : World) (R : Nat) (vr vz vl : Value) (st : RdS) : Prop where
  r : BxO wr w.heap.size #[.slice none 0 0, .slice none 0 0, .slice none 0 0] 28
  m : RdM wr R vr vz vl st
  b : Below R w1 wr
  c : Below w.heap.size w w1
  n : w.heap.size < R
  e : R = w1.heap.size
section
variable {w w1 wr w' : World} {R : Nat} {vr vz vl : Value} {st : RdS}
theorem RdL.all (h : RdL w w1 wr R vr vz vl st) : Below w.heap.size w wr := h.c.trans (h.b.mono (Nat.le_of_lt h.n))
theorem RdL.start (hr : BxO w1 w.heap.size #[.slice none 0 0, .slice none 0 0, .slice none 0 0] 28) (hb : Below w.heap.size w w1) : RdL w w1 (w1.alloc (.cells #[.slice none 0 0, .slice none 0 0, .slice none 0 0, .bool false] 104)) w1.heap.size (.slice none 0 0) (.slice none 0 0) (.slice none 0 0) rd0 :=
  ⟨hr.alloc _, ⟨BxO.new _ _ _, SrS.mt _ _⟩, (Below.refl _ _).alloc (Nat.le_refl _) _, hb, hr.lt, rfl⟩
theorem RdL.line {vr' vz' vl' : Value} {st' : RdS} (h : RdL w w1 wr R vr vz vl st) (hb : Below R wr w') (hm : RdM w' R vr' vz' vl' st') : RdL w w1 w' R vr' vz' vl' st' :=
  ⟨(hb.block _ h.n).trans h.r, hm, h.b.trans hb, h.c, h.n, h.e⟩
theorem RdL.out3 (h : RdL w w1 wr R vr vz vl st) (u0 u1 u2 : Value) : SrX (((wr.setCell ⟨w.heap.size, 0, none⟩ u0).setCell ⟨w.heap.size, 1, none⟩ u1).setCell ⟨w.heap.size, 2, none⟩ u2) vr vz vl st.s := by
  obtain ⟨zs, ez, hs⟩ := h.m.s
  have b1 : BxO (wr.setCell ⟨w.heap.size, 0, none⟩ u0) w.heap.size #[u0, .slice none 0 0, .slice none 0 0] 28 := by
    simp [BxO, World.setCell, Array.getElem?_modify, show wr.heap[w.heap.size]? = _ from h.r]
  have b2 : BxO ((wr.setCell ⟨w.heap.size, 0, none⟩ u0).setCell ⟨w.heap.size, 1, none⟩ u1) w.heap.size #[u0, u1, .slice none 0 0] 28 := by
    simp [BxO, World.setCell, Array.getElem?_modify, show wr.heap[w.heap.size]? = _ from h.r]
  exact SrS.read ⟨zs, ez, ((hs.boxed h.r u0).boxed b1 u1).boxed b2 u2⟩
end
set_option maxRecDepth 100000 in
set_option maxHeartbeats 4000000 in
theorem Read_any (s : ByteArray) (w : World) (hV : SrV w) (hs : s.size ≤ maxLen) :
    Calls Tryz.prog 15 #[.string s] w fun e w' => ∃ vr vz vl, e = .returned (.tuple #[.agg #[vr, vz, vl], .int .i64 (srcL s), .int .i64 (srcX s)]) ∧ SrX w' vr vz vl (srcV s) ∧ Below w.heap.size w w' := by
  obtain ⟨W0, hW0⟩ : ∃ W0, W0 = w.alloc (.cells #[.slice none 0 0, .slice none 0 0, .slice none 0 0] 28) := ⟨_, rfl⟩
  have R0 : Hid (BxO W0 w.heap.size #[.slice none 0 0, .slice none 0 0, .slice none 0 0] 28) := by show BxO _ _ _ _; rw [hW0]; exact BxO.new _ _ _
  have B0 : Hid (Below w.heap.size w W0) := by show Below _ _ _; rw [hW0]; exact (Below.refl _ _).alloc (Nat.le_refl _) _
  have HW := Lib.hid hW0
  have HV := Lib.hid hV
  have hs' := maxLen_eq _ hs
  clear hW0 hs hV
  by_cases hbig : 8000 < s.size
  · have HS : Hid (srcV s = src0 ∧ srcL s = 0 ∧ srcX s = 1) := src_big (.inl hbig)
    have hb : (8000 : Int) < (s.size : Int) := by omega
    clear hbig
    go_enter Tryz.func15, Tryz.ntmps15
    go_upto_region 1 with fail
    rw [← HW.out]
    have r0 : W0.cell? ⟨w.heap.size, 0, none⟩ = some (.slice none 0 0) := R0.out.cell 0
    have r1 : W0.cell? ⟨w.heap.size, 1, none⟩ = some (.slice none 0 0) := R0.out.cell 1
    have r2 : W0.cell? ⟨w.heap.size, 2, none⟩ = some (.slice none 0 0) := R0.out.cell 2
    have rf0 : W0.frozen? ⟨w.heap.size, 0, none⟩ = false := R0.out.frozen 0
    have rf1 : W0.frozen? ⟨w.heap.size, 1, none⟩ = false := R0.out.frozen 1
    have rf2 : W0.frozen? ⟨w.heap.size, 2, none⟩ = false := R0.out.frozen 2
    have rl : w.heap.size < W0.heap.size := R0.out.lt
    go_wp2
    refine bodyPost_ret (v := .tuple #[.agg #[.slice none 0 0, .slice none 0 0, .slice none 0 0], .int .i64 (0), .int .i64 1]) (by simp [results, Tryz.results15, go_sem, r0, r1, r2, rl]) rfl ⟨_, _, _, by rw [HS.out.2.1, HS.out.2.2], by rw [HS.out.1]; exact SrX.mt _, ((B0.out.setCell (p := ⟨w.heap.size, 0, none⟩) (Nat.le_refl _) _).setCell (p := ⟨w.heap.size, 1, none⟩) (Nat.le_refl _) _).setCell (p := ⟨w.heap.size, 2, none⟩) (Nat.le_refl _) _⟩
  · have hb : ¬ (8000 : Int) < (s.size : Int) := by omega
    have HPT := Lib.hid (split_any s 10 W0 (HV.out.below B0.out).mx (by omega))
    obtain ⟨LS, hLS⟩ : ∃ LS, splB 10 [] s.data.toList = LS := ⟨_, rfl⟩
    have HLS : Hid (linesS s = LS) := hLS
    have HLZ : Hid (∀ p ∈ LS, p.length ≤ 8000) := by
      show ∀ p ∈ LS, _
      intro p hp
      rw [← hLS] at hp
      have h1 := splB_size 10 s.data.toList [] p hp
      have h2 : s.data.toList.length = s.size := by simp
      simp only [List.length_nil] at h1
      omega
    have hll : LS.length ≤ 8001 := by
      have h1 := splB_len 10 s.data.toList []
      rw [hLS] at h1
      have h2 : s.data.toList.length = s.size := by simp
      omega
    have HBG := Lib.hid hbig
    rw [hLS, List.length_map] at HPT
    clear hLS hbig
    obtain ⟨w1, hw1⟩ : ∃ w1, w1 = W0.alloc (.cells ((LS.map bx).map Value.string).toArray 9) := ⟨_, rfl⟩
    rw [← hw1] at HPT
    have R1 : Hid (BxO w1 w.heap.size #[.slice none 0 0, .slice none 0 0, .slice none 0 0] 28) := by show BxO _ _ _ _; rw [hw1]; exact R0.out.alloc _
    have B1 : Hid (Below w.heap.size w w1) := by show Below _ _ _; rw [hw1]; exact B0.out.alloc B0.out.size _
    have HST : Hid (SlAt w1 1 RSt (.slice (some ⟨W0.heap.size, 0, none⟩) LS.length LS.length) (LS.map bx)) := by
      have h := own_lit (w := W0) (D := 0) (cs := ((LS.map bx).map Value.string).toArray) (t := 9) (n := (LS.map bx).length) (sz := 1) (Nat.zero_le _) (by simp) (by unfold maxLen; rw [List.length_map]; omega)
      rw [← hw1, List.toList_toArray, map_encWd] at h
      have h2 := slAt_of_own (enc := encWd) (R := RSt) (by decide) (fun _ => rfl) (fun _ _ => rfl) h
      rw [List.length_map] at h2
      exact h2
    obtain ⟨BL, hBL⟩ : ∃ BL, W0.heap.size = BL := ⟨_, rfl⟩
    rw [hBL] at HPT HST
    clear hw1 R0 B0 hBL
    go_enter Tryz.func15, Tryz.ntmps15
    go_upto_region 1 with fail
    rw [← HW.out]
    clear HW
    go_wp2_with fail
    refine HPT.out.mono ?_; rintro e w1' ⟨rfl, rfl⟩
    clear HPT
    by_cases hmany : 200 < LS.length
    · have HS : Hid (srcV s = src0 ∧ srcL s = 0 ∧ srcX s = 1) := src_big (.inr (by rw [HLS.out]; exact hmany))
      have hm : (200 : Int) < (LS.length : Int) := by omega
      clear hmany
      have r0 : w1'.cell? ⟨w.heap.size, 0, none⟩ = some (.slice none 0 0) := R1.out.cell 0
      have r1 : w1'.cell? ⟨w.heap.size, 1, none⟩ = some (.slice none 0 0) := R1.out.cell 1
      have r2 : w1'.cell? ⟨w.heap.size, 2, none⟩ = some (.slice none 0 0) := R1.out.cell 2
      have rf0 : w1'.frozen? ⟨w.heap.size, 0, none⟩ = false := R1.out.frozen 0
      have rf1 : w1'.frozen? ⟨w.heap.size, 1, none⟩ = false := R1.out.frozen 1
      have rf2 : w1'.frozen? ⟨w.heap.size, 2, none⟩ = false := R1.out.frozen 2
      have rl : w.heap.size < w1'.heap.size := R1.out.lt
      go_wp2
      refine bodyPost_ret (v := .tuple #[.agg #[.slice none 0 0, .slice none 0 0, .slice none 0 0], .int .i64 (0), .int .i64 1]) (by simp [results, Tryz.results15, go_sem, r0, r1, r2, rl]) rfl ⟨_, _, _, by rw [HS.out.2.1, HS.out.2.2], by rw [HS.out.1]; exact SrX.mt _, ((B1.out.setCell (p := ⟨w.heap.size, 0, none⟩) (Nat.le_refl _) _).setCell (p := ⟨w.heap.size, 1, none⟩) (Nat.le_refl _) _).setCell (p := ⟨w.heap.size, 2, none⟩) (Nat.le_refl _) _⟩
    · have hm : ¬ (200 : Int) < (LS.length : Int) := by omega
      have HNB : Hid (¬ (8000 < s.size ∨ 200 < (linesS s).length)) := by
        show ¬ _
        rw [HLS.out]
        rintro (h | h)
        · exact HBG.out h
        · omega
      have S7 := Lib.hid (RdL.start R1.out B1.out)
      obtain ⟨W7, hW7⟩ : ∃ W7, W7 = w1'.alloc (.cells #[.slice none 0 0, .slice none 0 0, .slice none 0 0, .bool false] 104) := ⟨_, rfl⟩
      rw [← hW7] at S7
      have HW7 := Lib.hid hW7
      obtain ⟨R, hR⟩ : ∃ R, w1'.heap.size = R := ⟨_, rfl⟩
      rw [hR] at S7
      have HV1 := Lib.hid (HV.out.below B1.out)
      clear hW7 R1 B1 hmany
      go_upto_region 7 with fail
      rw [← HW7.out]
      clear HW7
      go_wp2_with fail
      go_loopw [7, 8, 9, 24] (fun _ _ _ vi wr => ∃ (k : Nat) (st : RdS) (vr vz vl : Value), vi = .int .i64 k ∧ k ≤ LS.length ∧ Hid (linsF rd0 0 LS = linsF st k (LS.drop k)) ∧ Hid (RdL w w1' wr R vr vz vl st) ∧ Hid (cntS st.s ≤ k) ∧ Hid (st.op = true → st.s.zones ≠ []) ∧ Hid (ersB st.s k)) (fun _ _ _ vi _ => (LS.length - intOf vi).toNat)
      case atStart => exact ⟨0, rd0, _, _, _, rfl, Nat.zero_le _, rfl, S7, Nat.zero_le _, fun h => (by cases h), fun z hz => absurd hz (by simp [rd0, src0])⟩
      case round =>
        obtain ⟨k, st, vr, vz, vl, rfl, hk, HR, SM, HC, HO, HB⟩ := hrel
        by_cases hlt : k < LS.length
        · have hki : (k : Int) < (LS.length : Int) := by omega
          have tw : IntKind.i64.wrap ((k : Int) + 1) = (k : Int) + 1 := IntWalk.i64_in _ (by omega)
          obtain ⟨bl, ol, e', hbl, cl0⟩ := entS HST.out k (by rw [List.length_map]; exact hlt)
          simp only [Option.some.injEq, Addr.mk.injEq, and_true] at e'
          obtain ⟨rfl, rfl⟩ := e'
          rw [List.getElem_map, Nat.zero_add] at cl0
          have cl1 : wr.cell? ⟨BL, k, none⟩ = some (.string (bx LS[k])) := (SM.out.b.cell (p := ⟨BL, k, none⟩) (by show BL < R; rw [← hR]; exact hbl)).trans cl0
          have HBAD : Hid (∀ E, linE st LS[k] = E → E ≠ 0 → srcV s = src0 ∧ srcL s = (k : Int) + 1 ∧ srcX s = E) := by
            show ∀ E, _
            intro E h1 h2
            have h3 := lins_bad HR.out hlt (by rw [h1]; exact h2)
            rw [h1] at h3
            have h4 := src_bad HNB.out (by rw [HLS.out]; exact h3) h2
            refine ⟨h4.1, ?_, h4.2.2⟩
            rw [h4.2.1]
            push_cast
            rfl
          have HGOOD : Hid (linE st LS[k] = 0 → linsF rd0 0 LS = linsF (linV st LS[k]) (k + 1) (LS.drop (k + 1))) := lins_good HR.out hlt
          have HLN := Lib.hid (HLZ.out _ (List.getElem_mem hlt))
          clear cl0 hbl
          obtain ⟨l, hl⟩ : ∃ l, LS[k] = l := ⟨_, rfl⟩
          rw [hl] at cl1 HBAD HGOOD HLN
          clear hl
          have HLI := Lib.hid (rdLine_any (bx l) wr R vr vz vl st (HV1.out.below (SM.out.b.mono (Nat.le_of_eq SM.out.e.symm))) (by rw [bx_size]; have := HLN.out; omega) SM.out.m HO.out (fun z hz => Nat.le_trans (HB.out z hz) (by omega)) (Nat.le_trans HC.out (by omega)))
          have HCN : Hid (cntS (linV st l).s ≤ k + 1) := by have := lnV_cnt st (wdsS l); have := HC.out; show cntS (lnV st (wdsS l)).s ≤ _; omega
          have HON : Hid ((linV st l).op = true → (linV st l).s.zones ≠ []) := lnV_op HO.out
          have HBN : Hid (ersB (linV st l).s (k + 1)) := lnV_ers HB.out
          rw [data_bx] at HLI
          generalize linE st l = LE at *
          generalize linV st l = LV at *
          go_wp2_with fail
          refine HLI.out.mono ?_; rintro e w2 ⟨rfl, hb2, hm2⟩
          have HM2 := Lib.hid hm2
          have HB2 := Lib.hid hb2
          clear hb2 hm2 HLI cl1 HV
          by_cases hL : LE = 0
          · have hLb : (LE != 0) = false := by rw [hL]; rfl
            obtain ⟨vr', vz', vl', hm⟩ := HM2.out hL
            have S2 := Lib.hid (SM.out.line HB2.out hm)
            have HG := Lib.hid (HGOOD.out hL)
            clear hm SM HM2 HBAD HGOOD hL
            go_wp2_with fail
            go_roundw
            case rel => exact ⟨k + 1, LV, _, _, _, by go_num, by omega, HG, S2, HCN, HON, HBN⟩
            case measure => simp [intOf]; omega
          · have hLb : (LE != 0) = true := by rw [bne_iff_ne]; exact hL
            have HS := Lib.hid (HBAD.out LE rfl hL)
            have R2 : Hid (BxO w2 w.heap.size #[.slice none 0 0, .slice none 0 0, .slice none 0 0] 28) := (HB2.out.block _ SM.out.n).trans SM.out.r
            have A2 : Hid (Below w.heap.size w w2) := SM.out.all.trans (HB2.out.mono (Nat.le_of_lt SM.out.n))
            clear hL HBAD HGOOD SM HM2
            have r0 : w2.cell? ⟨w.heap.size, 0, none⟩ = some (.slice none 0 0) := R2.out.cell 0
            have r1 : w2.cell? ⟨w.heap.size, 1, none⟩ = some (.slice none 0 0) := R2.out.cell 1
            have r2 : w2.cell? ⟨w.heap.size, 2, none⟩ = some (.slice none 0 0) := R2.out.cell 2
            have rf0 : w2.frozen? ⟨w.heap.size, 0, none⟩ = false := R2.out.frozen 0
            have rf1 : w2.frozen? ⟨w.heap.size, 1, none⟩ = false := R2.out.frozen 1
            have rf2 : w2.frozen? ⟨w.heap.size, 2, none⟩ = false := R2.out.frozen 2
            have rl : w.heap.size < w2.heap.size := R2.out.lt
            go_wp2
            refine bodyPost_ret (v := .tuple #[.agg #[.slice none 0 0, .slice none 0 0, .slice none 0 0], .int .i64 ((k : Int) + 1), .int .i64 LE]) (by simp [results, Tryz.results15, go_sem, r0, r1, r2, rl]) rfl ⟨_, _, _, by rw [HS.out.2.1, HS.out.2.2], by rw [HS.out.1]; exact SrX.mt _, ((A2.out.setCell (p := ⟨w.heap.size, 0, none⟩) (Nat.le_refl _) _).setCell (p := ⟨w.heap.size, 1, none⟩) (Nat.le_refl _) _).setCell (p := ⟨w.heap.size, 2, none⟩) (Nat.le_refl _) _⟩
        · obtain rfl : k = LS.length := by omega
          have hnl : ¬ (LS.length : Int) < (LS.length : Int) := by omega
          have HEND := Lib.hid (lins_end HR.out)
          obtain ⟨st, op⟩ := st
          have m3 : wr.cell? ⟨R, 3, none⟩ = some (.bool op) := SM.out.m.x.cell 3
          have ml : R < wr.heap.size := SM.out.m.x.lt
          cases op with
          | true =>
            have HS : Hid (srcV s = src0 ∧ srcL s = (LS.length : Int) ∧ srcX s = 5) := by
              have h := src_open HNB.out (by rw [HLS.out]; exact HEND.out) rfl
              rw [HLS.out] at h
              exact h
            have r0 : wr.cell? ⟨w.heap.size, 0, none⟩ = some (.slice none 0 0) := SM.out.r.cell 0
            have r1 : wr.cell? ⟨w.heap.size, 1, none⟩ = some (.slice none 0 0) := SM.out.r.cell 1
            have r2 : wr.cell? ⟨w.heap.size, 2, none⟩ = some (.slice none 0 0) := SM.out.r.cell 2
            have rf0 : wr.frozen? ⟨w.heap.size, 0, none⟩ = false := SM.out.r.frozen 0
            have rf1 : wr.frozen? ⟨w.heap.size, 1, none⟩ = false := SM.out.r.frozen 1
            have rf2 : wr.frozen? ⟨w.heap.size, 2, none⟩ = false := SM.out.r.frozen 2
            have rl : w.heap.size < wr.heap.size := SM.out.r.lt
            go_wp2
            refine bodyPost_ret (v := .tuple #[.agg #[.slice none 0 0, .slice none 0 0, .slice none 0 0], .int .i64 ((LS.length : Int)), .int .i64 5]) (by simp [results, Tryz.results15, go_sem, r0, r1, r2, rl]) rfl ⟨_, _, _, by rw [HS.out.2.1, HS.out.2.2], by rw [HS.out.1]; exact SrX.mt _, ((SM.out.all.setCell (p := ⟨w.heap.size, 0, none⟩) (Nat.le_refl _) _).setCell (p := ⟨w.heap.size, 1, none⟩) (Nat.le_refl _) _).setCell (p := ⟨w.heap.size, 2, none⟩) (Nat.le_refl _) _⟩
          | false =>
            have HS : Hid (srcV s = st ∧ srcL s = 0 ∧ srcX s = 0) := src_shut (st := ⟨st, false⟩) HNB.out (by rw [HLS.out]; exact HEND.out) rfl
            have o0 : wr.cell? ⟨R, 0, none⟩ = some vr := SM.out.m.x.cell 0
            have o1 : wr.cell? ⟨R, 1, none⟩ = some vz := SM.out.m.x.cell 1
            have o2 : wr.cell? ⟨R, 2, none⟩ = some vl := SM.out.m.x.cell 2
            obtain ⟨ar, cr, rfl, -⟩ := SM.out.m.s.read.1.shape
            obtain ⟨az, cz, rfl, -⟩ := SM.out.m.s.read.2.1.shape
            obtain ⟨ak, ck, rfl, -⟩ := SM.out.m.s.read.2.2.shape
            have r0 : wr.cell? ⟨w.heap.size, 0, none⟩ = some (.slice none 0 0) := SM.out.r.cell 0
            have r1 : wr.cell? ⟨w.heap.size, 1, none⟩ = some (.slice none 0 0) := SM.out.r.cell 1
            have r2 : wr.cell? ⟨w.heap.size, 2, none⟩ = some (.slice none 0 0) := SM.out.r.cell 2
            have rf0 : wr.frozen? ⟨w.heap.size, 0, none⟩ = false := SM.out.r.frozen 0
            have rf1 : wr.frozen? ⟨w.heap.size, 1, none⟩ = false := SM.out.r.frozen 1
            have rf2 : wr.frozen? ⟨w.heap.size, 2, none⟩ = false := SM.out.r.frozen 2
            have rl : w.heap.size < wr.heap.size := SM.out.r.lt
            go_wp2
            refine bodyPost_ret (v := .tuple #[.agg #[.slice ar st.rules.length cr, .slice az st.zones.length cz, .slice ak st.links.length ck], .int .i64 0, .int .i64 0]) (by simp [results, Tryz.results15, go_sem, r0, r1, r2, rl]) rfl ⟨_, _, _, by rw [HS.out.2.1, HS.out.2.2], by rw [HS.out.1]; exact SM.out.out3 _ _ _, ((SM.out.all.setCell (p := ⟨w.heap.size, 0, none⟩) (Nat.le_refl _) _).setCell (p := ⟨w.heap.size, 1, none⟩) (Nat.le_refl _) _).setCell (p := ⟨w.heap.size, 2, none⟩) (Nat.le_refl _) _⟩
end Go.Proofs.YtbikdlcjbigafaaGreatDoor
