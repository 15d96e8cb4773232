/-
  Spans of raw things: the walk of sundialkeep.Spans (its drawn regions printed by mktra.py).
-/
import Derived.BigQuiet
import Derived.Deep.WholeRow
import Derived.Maps.AppendAt
import Derived.Test.YtbikdlcjbigafaaGreatDoorJRdA
import Derived.Test.YtbikdlcjbigafaaGreatDoorJOptP
import Derived.Test.YtbikdlcjbigafaaGreatDoorJSpB
namespace Go.Proofs.YtbikdlcjbigafaaGreatDoor
set_option linter.unusedVariables false
set_option linter.unusedSimpArgs false
open Go.ChangeShapes Go.WideShapes Go.ChangeAt Go.RowKit Civ

/-- spans that are made so far, and where the next one begins. -/
structure KsL (L : List Spn) (t : Int) (k : Nat) : Prop where
  len : L.length = k
  fst : ∀ h : 0 < L.length, L[0].fr = -2208988800
  now : k = 0 → t = -2208988800
  lo : -2208988800 ≤ t
  hi : t ≤ 4402444800
  rise : ∀ (i : Nat) (h : i + 1 < L.length), L[i].fr < L[i + 1].fr
  bd : ∀ p ∈ L, -2208988800 ≤ p.fr ∧ p.fr < 4102444800 ∧ p.fr < t ∧ (-43200 ≤ p.ck.off ∧ p.ck.off ≤ 43200) ∧ p.ck.nm.size ≤ 1
theorem KsL.zero : KsL [] (-2208988800) 0 := ⟨rfl, fun h => by simp at h, fun _ => rfl, Int.le_refl _, by decide, fun i h => by simp at h, fun p hp => by cases hp⟩
theorem KsL.snoc {L : List Spn} {t u : Int} {k : Nat} {c : Clk} (h : KsL L t k) (ht : t < 4102444800) (h1 : t < u) (h2 : u ≤ 4402444800) (ho : -43200 ≤ c.off ∧ c.off ≤ 43200) (hn : c.nm.size ≤ 1) : KsL (L ++ [⟨t, c⟩]) u (k + 1) := by
  refine ⟨by rw [List.length_append, h.len]; rfl, fun h3 => ?_, fun h3 => by omega, by have := h.lo; omega, h2, fun i hi => ?_, fun p hp => ?_⟩
  · by_cases e : 0 < L.length
    · rw [List.getElem_append_left e]; exact h.fst e
    · have e2 : L = [] := List.length_eq_zero_iff.1 (by omega)
      subst e2
      exact h.now (by have := h.len; simp at this; exact this.symm)
  · rw [List.length_append, List.length_singleton] at hi
    by_cases e : i + 1 < L.length
    · rw [List.getElem_append_left (by omega), List.getElem_append_left e]; exact h.rise i e
    · rw [List.getElem_append_left (by omega), List.getElem_append_right (by omega)]
      simp only [show i + 1 - L.length = 0 by omega, List.getElem_cons_zero]
      exact (h.bd _ (List.getElem_mem _)).2.2.1
  · rcases List.mem_append.1 hp with hp | hp
    · obtain ⟨a, b, d, e, f⟩ := h.bd p hp
      exact ⟨a, b, by omega, e, f⟩
    · rw [List.mem_singleton.1 hp]
      exact ⟨h.lo, ht, h1, ho, hn⟩
theorem BxO.grownN {w w' : World} {b : Nat} {cs : Array Value} {t e : TypeId} {D sz n : Nat} {v : Value} {xs : List Value} (h : BxO w b cs t) (ho : w.ownsRow D e sz v n xs) (hne : t ≠ e) (hg : w.grownBy w' v.ownBlock) : BxO w' b cs t := by
  refine h.kept hg ?_
  rcases ho.2 with ⟨rfl, -⟩ | ⟨g, cap, cur, rfl, -, hh, -⟩
  · simp [Value.ownBlock]
  · intro e'
    have e' : b = g := by simpa [Value.ownBlock] using e'
    subst e'
    have h2 : w.heap[b]? = some (.cells cs t (0, 0)) := h
    rw [hh] at h2
    simp at h2
    exact hne h2.2.symm
theorem own_nextR {w w' : World} {D : Nat} {e : TypeId} {sz n : Nat} {v : Value} {l : List Value} (h : w.ownsRow D e sz v n l) (hb : Below w.heap.size w w') : w'.ownsRow D e sz v n l := ownsRow_below h hb (Nat.le_refl _)
theorem BxO.put4 {W : World} {b : Nat} {t : TypeId} {a0 a1 a2 a3 : Value} (h : BxO W b #[a0, a1, a2, a3] t) (b0 b1 b2 b3 : Value) : BxO ((((W.setCell ⟨b, 0, none⟩ b0).setCell ⟨b, 1, none⟩ b1).setCell ⟨b, 2, none⟩ b2).setCell ⟨b, 3, none⟩ b3) b #[b0, b1, b2, b3] t := by
  simp [BxO, World.setCell, Array.getElem?_modify, show W.heap[b]? = _ from h]
def abL : List Wd := [[65], [66], [67]]
def stepL : List Int := [5000, 100000, 300000000]
def abA : Array Value := #[.string ⟨#[65]⟩, .string ⟨#[66]⟩, .string ⟨#[67]⟩]
def stA : Array Value := #[.int .i64 5000, .int .i64 100000, .int .i64 300000000]
theorem ab_at {k : Nat} (h : k < 3) : abA[k]? = some (.string (bx (abL.getD k []))) ∧ (bx (abL.getD k [])).size ≤ 1 := by
  have : k = 0 ∨ k = 1 ∨ k = 2 := by omega
  rcases this with rfl | rfl | rfl <;> exact ⟨rfl, by decide⟩
theorem st_at {k : Nat} (h : k < 3) : stA[k]? = some (.int .i64 (stepL.getD k 1)) ∧ 1 ≤ stepL.getD k 1 ∧ stepL.getD k 1 ≤ 300000000 := by
  have : k = 0 ∨ k = 1 ∨ k = 2 := by omega
  rcases this with rfl | rfl | rfl <;> exact ⟨rfl, by decide, by decide⟩
theorem info_spnR : (Tryz.prog.info? 39).map (fun i => (i.zero, i.size, i.bytes)) = some (some (.agg #[.int .i64 0, .int .i64 0, .bool false, .string ⟨#[]⟩]), 4, 40) := by kernel_rfl
theorem encQ_oneR (x : Spn) : ∀ u ∈ encQ x, u.oneCell' = true := by
  intro u hu
  simp only [encQ, List.mem_cons, List.not_mem_nil, or_false] at hu
  rcases hu with rfl | rfl | rfl | rfl <;> rfl
set_option maxRecDepth 100000 in
set_option maxHeartbeats 4000000 in
theorem kSpans_s (xs : List Rz) (v : Value) (W : World) (hs : SlAt W 4 RRz v xs) :
    Calls Tryz.prog 22 #[v] W fun e w' => ∃ u L t k, e = .returned u ∧ KsL L t k ∧ 1 ≤ k ∧ k ≤ 30 ∧ w'.ownsRow W.heap.size 39 4 u L.length (L.flatMap encQ) ∧ Below W.heap.size W w' := by
  obtain ⟨an, cn, rfl, ln⟩ := hs.shape
  have ln := maxLen_eq _ ln
  have HS := Lib.hid hs
  obtain ⟨is, his, hs0, hs1, hs2⟩ := info_parts info_spnR
  clear hs
  go_enter Tryz.func22, Tryz.ntmps22
  go_upto_block 0 with fail
  go_cut [5] (fun u wx => ∃ (L : List Spn) (t : Int) (k : Nat), KsL L t k ∧ 1 ≤ k ∧ k ≤ 30 ∧ Hid (wx.ownsRow W.heap.size 39 4 u L.length (L.flatMap encQ)) ∧ Hid (Below W.heap.size W wx))
  case first =>
    go_wp2_with fail
    go_loopw [3, 5, 6] (fun vt vo vi wr => ∃ (k : Nat) (L : List Spn) (t : Int), k ≤ 30 ∧ vi = .int .i64 k ∧ vt = .int .i64 t ∧ Hid (KsL L t k) ∧ Hid (wr.ownsRow W.heap.size 39 4 vo L.length (L.flatMap encQ)) ∧ Hid (Below W.heap.size W wr)) (fun _ _ vi _ => (31 - intOf vi).toNat)
    case atStart => exact ⟨0, [], _, by omega, rfl, rfl, KsL.zero, World.ownsRow_nil _ _ _ _, Below.refl _ _⟩
    case round =>
      obtain ⟨k, L, t, hk, rfl, rfl, HL, HO, HB⟩ := hrel
      obtain ⟨ao, co, rfl⟩ := own_shape HO.out
      by_cases hgo : k = 0 ∨ (k < xs.length ∧ k < 30)
      · have X0 : Hid (BxO (wr.alloc (.cells #[.int .i64 0, .int .i64 0, .int .i64 0, .int .i64 0] 98)) wr.heap.size #[.int .i64 0, .int .i64 0, .int .i64 0, .int .i64 0] 98) := BxO.new _ _ _
        obtain ⟨W1, hW1⟩ : ∃ W1, W1 = wr.alloc (.cells #[.int .i64 0, .int .i64 0, .int .i64 0, .int .i64 0] 98) := ⟨_, rfl⟩
        have B1 : Hid (Below wr.heap.size wr W1) := by show Below _ _ _; rw [hW1]; exact (Below.refl _ _).alloc (Nat.le_refl _) _
        rw [← hW1] at X0
        have H1 := Lib.hid hW1
        have hcond : (k : Int) < 1 ∨ (¬ (k : Int) < 1 ∧ (k : Int) < (xs.length : Int) ∧ (k : Int) < 30) := by omega
        clear hW1
        have hk30 : k < 30 := by omega
        obtain ⟨R, hR⟩ : ∃ R, wr.heap.size = R := ⟨_, rfl⟩
        rw [hR] at X0
        rcases hcond with h0 | ⟨h0, h1, h2⟩
        all_goals
          go_upto_region 7 with fail
          rw [← H1.out]
          go_upto_if 26 with fail
          go_cut [] (fun wx => ∃ x : Rz, RzI x ∧ Hid (BxO wx R (rzA x) 98) ∧ Hid (Below wr.heap.size wr wx))
          case first =>
            by_cases hkx : (k : Int) < (xs.length : Int)
            · have hkl : k < xs.length := by omega
              obtain ⟨b, off, rfl, hb, hri, c0, c1, c2, c3⟩ := rz_at (HS.out.mono (HB.out.trans (B1.out.mono HB.out.size)) fun _ _ h => h) k hkl
              generalize xs[k] = x at *
              have y0 := X0.out.cell 0
              have y1 := X0.out.cell 1
              have y2 := X0.out.cell 2
              have y3 := X0.out.cell 3
              simp only [List.getElem?_toArray, List.getElem?_cons_zero, List.getElem?_cons_succ] at y0 y1 y2 y3
              have x0 := X0.out.frozen 0
              have x1 := X0.out.frozen 1
              have x2 := X0.out.frozen 2
              have x3 := X0.out.frozen 3
              have xl := X0.out.lt
              go_wp2_with fail
              go_meet
              exact ⟨x, hri, X0.out.put4 _ _ _ _, (((B1.out.setCell (p := ⟨R, 0, none⟩) (by show _ ≤ R; omega) _).setCell (p := ⟨R, 1, none⟩) (by show _ ≤ R; omega) _).setCell (p := ⟨R, 2, none⟩) (by show _ ≤ R; omega) _).setCell (p := ⟨R, 3, none⟩) (by show _ ≤ R; omega) _⟩
            · first | (exact absurd h1 hkx) | (go_wp2_with fail; go_meet; exact ⟨⟨0, 0, 0, 0⟩, ⟨⟨by decide, by decide⟩, ⟨by decide, by decide⟩, ⟨by decide, by decide⟩, ⟨by decide, by decide⟩⟩, X0, B1⟩)
          case rest =>
            obtain ⟨x, hx, XB, HBx⟩ := hcut
            clear H1 X0 B1
            by_cases hto : 4102444800 ≤ t
            · have hge : t ≥ 4102444800 := hto
              go_wp2_with fail
              go_meet
              exact ⟨L, t, k, HL.out, by have := HL.out.now; omega, hk, own_nextR HO.out HBx.out, HB.out.trans (HBx.out.mono HB.out.size)⟩
            have hge : ¬ t ≥ 4102444800 := by omega
            have HC := Lib.hid (show BxO wc R #[.int .i64 x.kd, .int .i64 x.ra, .int .i64 x.rb, .int .i64 x.rc] 98 from XB.out)
            have XB := HC
            clear HC
            have HP1 := Lib.hid (fun wx => pick_s x.ra 49 wx hx.ra (by decide) (by decide))
            have HP2 := Lib.hid (fun wx => pick_s x.rb 2 wx hx.rb (by decide) (by decide))
            have HP3 := Lib.hid (fun wx => pick_s x.rc 3 wx hx.rc (by decide) (by decide))
            have p1 := pkz_bd x.ra 49 (by decide)
            obtain ⟨a3, ha3, ha33⟩ := nat_of (pkz_bd x.rc 3 (by decide))
            have ha33 : a3 < 3 := ha33
            rw [ha3] at HP3
            obtain ⟨hab, habl⟩ := ab_at ha33
            obtain ⟨hst, hz1, hz2⟩ := st_at ha33
            obtain ⟨M, hM⟩ : ∃ m, bx (abL.getD a3 []) = m := ⟨_, rfl⟩
            obtain ⟨Z, hZ⟩ : ∃ m, stepL.getD a3 1 = m := ⟨_, rfl⟩
            rw [hM] at hab habl
            rw [hZ] at hst hz1 hz2
            have HP4 := Lib.hid (fun wx => pick_s x.kd Z wx hx.kd hz1 (by omega))
            have p4 := pkz_bd x.kd Z (by omega)
            obtain ⟨a1, ha1⟩ : ∃ a, pkz x.ra 49 = a := ⟨_, rfl⟩
            obtain ⟨a2, ha2⟩ : ∃ a, pkz x.rb 2 = a := ⟨_, rfl⟩
            obtain ⟨a4, ha4⟩ : ∃ a, pkz x.kd Z = a := ⟨_, rfl⟩
            rw [ha1] at HP1 p1
            rw [ha2] at HP2
            rw [ha4] at HP4 p4
            obtain ⟨O, hO⟩ : ∃ o, (a1 - 24) * 1800 = o := ⟨_, rfl⟩
            obtain ⟨B, hB2⟩ : ∃ b, (a2 == 0) = b := ⟨_, rfl⟩
            have tw1 : IntKind.i64.wrap (a1 - 24) = a1 - 24 := IntWalk.i64_in _ (by omega)
            have tw2 : IntKind.i64.wrap ((a1 - 24) * 1800) = O := by rw [IntWalk.i64_in _ (by omega)]; exact hO
            have hOb : -43200 ≤ O ∧ O ≤ 43200 := by omega
            have htl := HL.out.lo
            have tw4 : IntKind.i64.wrap (1 + a4) = 1 + a4 := IntWalk.i64_in _ (by omega)
            have tw5 : IntKind.i64.wrap (t + (1 + a4)) = t + (1 + a4) := IntWalk.i64_in _ (by omega)
            have HNX := Lib.hid (HL.out.snoc (c := ⟨O, B, M⟩) (u := t + (1 + a4)) (by omega) (by omega) (by omega) hOb habl)
            have HO5 := Lib.hid (own_nextR HO.out HBx.out)
            have HB5 := Lib.hid (HB.out.trans (HBx.out.mono HB.out.size))
            have hlk : L.length ≤ 30 := by rw [HL.out.len]; exact hk
            have a3i : (a3 : Int) < 3 := by omega
            clear HO HB HBx hx ha1 ha2 ha3 ha4 hO hM hZ p1 p4 hz1 hz2 hOb htl habl
            go_upto_region 10 with fail
            refine wp_region_freeT 20 (fun i v w => (([.eq (.slice ao L.length co), .eq (.int .i64 t), .eq (.pointer (some ⟨R, 1, none⟩)), .eq (.int .i64 x.ra), .eq (.int .i64 a1), .eq (.int .i64 (a1 - 24)), .eq (.int .i64 O), .eq (.pointer (some ⟨R, 2, none⟩)), .eq (.int .i64 x.rb), .eq (.int .i64 a2), .eq (.bool B), .row abA 9 3, .eq (.pointer (some ⟨R, 3, none⟩))] ++ [.eq (.int .i64 x.rc), .eq (.int .i64 (a3 : Int)), .ptr abA 9 (a3), .eq (.string M), .eq (.agg #[.int .i64 O, .bool B, .string M]), .eq (.agg #[.int .i64 t, .int .i64 O, .bool B, .string M]), .row #[.int .i64 t, .int .i64 O, .bool B, .string M] 39 1] : List Pe).getD i .any).is v w) (by kernel_rfl) 68 rfl (of_decide_eq_true (by kernel_rfl)) (by kernel_rfl) (by kernel_rfl) (by kernel_rfl) (fun i v w w' h hb => Pe.stb h hb) ?hop _ rfl ?hQ
            case hop =>
              simp only [List.take_succ_cons, List.take_zero]
              refine ⟨fun ev w1 hB hc hf hg hr hi => ?_, ?_⟩
              · have e1 : ev (.tmp 5) = .slice ao L.length co := hi 5 (by kernel_rfl)
                exact OpOk.val (v := .slice ao L.length co) (w' := w1) (by go_simp) ⟨rfl, Below.refl _ _⟩
              refine ⟨fun ev w1 hB hc hf hg hr hi => ?_, ?_⟩
              · have e1 : ev (.tmp 3) = .int .i64 t := hi 3 (by kernel_rfl)
                exact OpOk.val (v := .int .i64 t) (w' := w1) (by go_simp) ⟨rfl, Below.refl _ _⟩
              refine ⟨fun ev w1 hB hc hf hg hr hi => ?_, ?_⟩
              · have e1 : ev (.tmp 7) = .pointer (some ⟨R, 0, none⟩) := hi 7 (by kernel_rfl)
                exact OpOk.val (v := .pointer (some ⟨R, 1, none⟩)) (w' := w1) (by go_simp) ⟨rfl, Below.refl _ _⟩
              refine ⟨fun ev w1 hB hc hf hg hr hi => ?_, ?_⟩
              · have e1 : ev (.tmp 36) = .pointer (some ⟨R, 1, none⟩) := hr 36 2 (by kernel_rfl)
                have hx := box_at XB.out hB
                have y0 := hx.cell 0
                have y1 := hx.cell 1
                have y2 := hx.cell 2
                have y3 := hx.cell 3
                have z := hx.lt
                simp only [rzA, List.getElem?_toArray, List.getElem?_cons_zero, List.getElem?_cons_succ] at y0 y1 y2 y3
                exact OpOk.val (v := .int .i64 x.ra) (w' := w1) (by go_simp) ⟨rfl, Below.refl _ _⟩
              refine ⟨fun ev w1 hB hc hf hg hr hi => ?_, ?_⟩
              · have e1 : ev (.tmp 37) = .int .i64 x.ra := hr 37 3 (by kernel_rfl)
                exact OpOk.call (f := 12) (args := #[.int .i64 x.ra, .int .i64 49]) (w' := w1) (by go_simp) ((HP1.out w1).mono fun e w2 ⟨he, hw⟩ => ⟨_, he, rfl, by subst hw; exact Below.refl _ _⟩)
              refine ⟨fun ev w1 hB hc hf hg hr hi => ?_, ?_⟩
              · have e1 : ev (.tmp 38) = .int .i64 a1 := hr 38 4 (by kernel_rfl)
                have tw := tw1
                exact OpOk.val (v := .int .i64 (a1 - 24)) (w' := w1) (by go_simp) ⟨rfl, Below.refl _ _⟩
              refine ⟨fun ev w1 hB hc hf hg hr hi => ?_, ?_⟩
              · have e1 : ev (.tmp 39) = .int .i64 (a1 - 24) := hr 39 5 (by kernel_rfl)
                have tw := tw2
                exact OpOk.val (v := .int .i64 O) (w' := w1) (by go_simp) ⟨rfl, Below.refl _ _⟩
              refine ⟨fun ev w1 hB hc hf hg hr hi => ?_, ?_⟩
              · have e1 : ev (.tmp 7) = .pointer (some ⟨R, 0, none⟩) := hi 7 (by kernel_rfl)
                exact OpOk.val (v := .pointer (some ⟨R, 2, none⟩)) (w' := w1) (by go_simp) ⟨rfl, Below.refl _ _⟩
              refine ⟨fun ev w1 hB hc hf hg hr hi => ?_, ?_⟩
              · have e1 : ev (.tmp 41) = .pointer (some ⟨R, 2, none⟩) := hr 41 7 (by kernel_rfl)
                have hx := box_at XB.out hB
                have y0 := hx.cell 0
                have y1 := hx.cell 1
                have y2 := hx.cell 2
                have y3 := hx.cell 3
                have z := hx.lt
                simp only [rzA, List.getElem?_toArray, List.getElem?_cons_zero, List.getElem?_cons_succ] at y0 y1 y2 y3
                exact OpOk.val (v := .int .i64 x.rb) (w' := w1) (by go_simp) ⟨rfl, Below.refl _ _⟩
              refine ⟨fun ev w1 hB hc hf hg hr hi => ?_, ?_⟩
              · have e1 : ev (.tmp 42) = .int .i64 x.rb := hr 42 8 (by kernel_rfl)
                exact OpOk.call (f := 12) (args := #[.int .i64 x.rb, .int .i64 2]) (w' := w1) (by go_simp) ((HP2.out w1).mono fun e w2 ⟨he, hw⟩ => ⟨_, he, rfl, by subst hw; exact Below.refl _ _⟩)
              refine ⟨fun ev w1 hB hc hf hg hr hi => ?_, ?_⟩
              · have e1 : ev (.tmp 43) = .int .i64 a2 := hr 43 9 (by kernel_rfl)
                have tw := hB2
                exact OpOk.val (v := .bool B) (w' := w1) (by go_simp) ⟨rfl, Below.refl _ _⟩
              refine ⟨fun ev w1 hB hc hf hg hr hi => ?_, ?_⟩
              · exact OpOk.val (v := .slice (some ⟨w1.heap.size, 0, none⟩) 3 3) (w' := w1.alloc (.cells abA 9)) (by go_simp <;> rfl) ⟨⟨_, rfl, BxO.new _ _ _⟩, (Below.refl _ _).alloc (Nat.le_refl _) _⟩
              refine ⟨fun ev w1 hB hc hf hg hr hi => ?_, ?_⟩
              · have e1 : ev (.tmp 7) = .pointer (some ⟨R, 0, none⟩) := hi 7 (by kernel_rfl)
                exact OpOk.val (v := .pointer (some ⟨R, 3, none⟩)) (w' := w1) (by go_simp) ⟨rfl, Below.refl _ _⟩
              refine ⟨fun ev w1 hB hc hf hg hr hi => ?_, ?_⟩
              · have e1 : ev (.tmp 46) = .pointer (some ⟨R, 3, none⟩) := hr 46 12 (by kernel_rfl)
                have hx := box_at XB.out hB
                have y0 := hx.cell 0
                have y1 := hx.cell 1
                have y2 := hx.cell 2
                have y3 := hx.cell 3
                have z := hx.lt
                simp only [rzA, List.getElem?_toArray, List.getElem?_cons_zero, List.getElem?_cons_succ] at y0 y1 y2 y3
                exact OpOk.val (v := .int .i64 x.rc) (w' := w1) (by go_simp) ⟨rfl, Below.refl _ _⟩
              refine ⟨fun ev w1 hB hc hf hg hr hi => ?_, ?_⟩
              · have e1 : ev (.tmp 47) = .int .i64 x.rc := hr 47 13 (by kernel_rfl)
                exact OpOk.call (f := 12) (args := #[.int .i64 x.rc, .int .i64 3]) (w' := w1) (by go_simp) ((HP3.out w1).mono fun e w2 ⟨he, hw⟩ => ⟨_, he, rfl, by subst hw; exact Below.refl _ _⟩)
              refine ⟨fun ev w1 hB hc hf hg hr hi => ?_, ?_⟩
              · obtain ⟨g1, e1, x1⟩ := hr 45 11 (by kernel_rfl)
                have e2 : ev (.tmp 48) = .int .i64 (a3 : Int) := hr 48 14 (by kernel_rfl)
                exact OpOk.val (v := .pointer (some ⟨g1, a3, none⟩)) (w' := w1) (by go_simp) ⟨⟨g1, rfl, x1⟩, Below.refl _ _⟩
              refine ⟨fun ev w1 hB hc hf hg hr hi => ?_, ?_⟩
              · obtain ⟨g1, e1, x1⟩ := hr 49 15 (by kernel_rfl)
                have y := BxO.cell x1 a3
                have z := BxO.lt x1
                rw [hab] at y
                exact OpOk.val (v := .string M) (w' := w1) (by go_simp) ⟨rfl, Below.refl _ _⟩
              refine ⟨fun ev w1 hB hc hf hg hr hi => ?_, ?_⟩
              · have e1 : ev (.tmp 40) = .int .i64 O := hr 40 6 (by kernel_rfl)
                have e2 : ev (.tmp 44) = .bool B := hr 44 10 (by kernel_rfl)
                have e3 : ev (.tmp 50) = .string M := hr 50 16 (by kernel_rfl)
                exact OpOk.val (v := .agg #[.int .i64 O, .bool B, .string M]) (w' := w1) (by go_simp) ⟨rfl, Below.refl _ _⟩
              refine ⟨fun ev w1 hB hc hf hg hr hi => ?_, ?_⟩
              · have e1 : ev (.tmp 35) = .int .i64 t := hr 35 1 (by kernel_rfl)
                have e2 : ev (.tmp 51) = .agg #[.int .i64 O, .bool B, .string M] := hr 51 17 (by kernel_rfl)
                exact OpOk.val (v := .agg #[.int .i64 t, .int .i64 O, .bool B, .string M]) (w' := w1) (by go_simp) ⟨rfl, Below.refl _ _⟩
              refine ⟨fun ev w1 hB hc hf hg hr hi => ?_, ?_⟩
              · have e1 : ev (.tmp 52) = .agg #[.int .i64 t, .int .i64 O, .bool B, .string M] := hr 52 18 (by kernel_rfl)
                exact OpOk.val (v := .slice (some ⟨w1.heap.size, 0, none⟩) 1 1) (w' := w1.alloc (.cells #[.int .i64 t, .int .i64 O, .bool B, .string M] 39)) (by go_simp <;> rfl) ⟨⟨_, rfl, BxO.new _ _ _⟩, (Below.refl _ _).alloc (Nat.le_refl _) _⟩
              exact trivial
            case hQ =>
              intro val w5 hB hF
              have v34 : val 0 = .slice ao L.length co := hF 0 (by decide)
              obtain ⟨G53, v53, X53⟩ := hF 19 (by decide)
              simp only [putAll, Act.put, List.setIfInBounds_toArray, List.set_cons_zero, List.set_cons_succ, List.take_succ_cons, List.take_zero, List.take_nil]
              rw [v34]
              rw [v53]
              clear hF v34 v53
              refine wpList_append_own_at _ rfl (.tmp 34) (.tmp 53) 31 rfl W.heap.size 39 is (.agg #[.int .i64 0, .int .i64 0, .bool false, .string ⟨#[]⟩]) 4 40 Tryz.underlying31 his hs0 hs1 hs2 rfl (by decide) (.slice ao L.length co) L.length (L.flatMap encQ) rfl (own_nextR HO5.out hB) ⟨G53, 0, none⟩ 1 1 (encQ ⟨t, ⟨O, B, M⟩⟩) rfl rfl (fun j u hj => by rw [add_one_, Nat.zero_add, BxO.cell X53 j]; simpa [encQ] using hj) (encQ_oneR _) (by unfold maxLen; omega) (by omega) (Nat.le_trans HB5.out.size hB.size) ?_
              intro v' w6 hown hgrow _ hfr
              have O5 := own_nextR HO5.out hB
              obtain ⟨L2, hL2⟩ : ∃ l, L ++ [(⟨t, ⟨O, B, M⟩⟩ : Spn)] = l := ⟨_, rfl⟩
              rw [hL2] at HNX
              have O6 : Hid (w6.ownsRow W.heap.size 39 4 v' L2.length (L2.flatMap encQ)) := by show World.ownsRow _ _ _ _ _ _ _; rw [← hL2, List.length_append, List.flatMap_append]; simpa using hown
              clear hL2
              have B6 : Hid (Below W.heap.size W w6) := (HB5.out.trans (hB.mono HB5.out.size)).trans ((Below.refl W.heap.size w5).grown hgrow (Nat.le_trans HB5.out.size hB.size) (fun g hg => (O5.lt g hg).1))
              have XC : Hid (BxO w6 R #[.int .i64 x.kd, .int .i64 x.ra, .int .i64 x.rb, .int .i64 x.rc] 98) := BxO.grownN (box_at XB.out hB) O5 (by decide) hgrow
              obtain ⟨a6, c6, rfl⟩ := own_shape O6.out
              clear hown hgrow hfr O5 HO5 HB5 hB XB X53
              go_upto_region 11 with fail
              refine wp_region_freeT 12 (fun i v w => (([.eq (.int .i64 t), .eq (.pointer (some ⟨R, 0, none⟩)), .eq (.int .i64 x.kd), .row stA 3 3, .eq (.pointer (some ⟨R, 3, none⟩)), .eq (.int .i64 x.rc), .eq (.int .i64 (a3 : Int)), .ptr stA 3 (a3), .eq (.int .i64 Z), .eq (.int .i64 a4), .eq (.int .i64 (1 + a4)), .eq (.int .i64 (t + (1 + a4)))] : List Pe).getD i .any).is v w) (by kernel_rfl) 68 rfl (of_decide_eq_true (by kernel_rfl)) (by kernel_rfl) (by kernel_rfl) (by kernel_rfl) (fun i v w w' h hb => Pe.stb h hb) ?hop _ rfl ?hQ
              case hop =>
                simp only [List.take_succ_cons, List.take_zero]
                refine ⟨fun ev w1 hB hc hf hg hr hi => ?_, ?_⟩
                · have e1 : ev (.tmp 3) = .int .i64 t := hi 3 (by kernel_rfl)
                  exact OpOk.val (v := .int .i64 t) (w' := w1) (by go_simp) ⟨rfl, Below.refl _ _⟩
                refine ⟨fun ev w1 hB hc hf hg hr hi => ?_, ?_⟩
                · have e1 : ev (.tmp 7) = .pointer (some ⟨R, 0, none⟩) := hi 7 (by kernel_rfl)
                  exact OpOk.val (v := .pointer (some ⟨R, 0, none⟩)) (w' := w1) (by go_simp) ⟨rfl, Below.refl _ _⟩
                refine ⟨fun ev w1 hB hc hf hg hr hi => ?_, ?_⟩
                · have e1 : ev (.tmp 56) = .pointer (some ⟨R, 0, none⟩) := hr 56 1 (by kernel_rfl)
                  have hx := box_at XC.out hB
                  have y0 := hx.cell 0
                  have y1 := hx.cell 1
                  have y2 := hx.cell 2
                  have y3 := hx.cell 3
                  have z := hx.lt
                  simp only [rzA, List.getElem?_toArray, List.getElem?_cons_zero, List.getElem?_cons_succ] at y0 y1 y2 y3
                  exact OpOk.val (v := .int .i64 x.kd) (w' := w1) (by go_simp) ⟨rfl, Below.refl _ _⟩
                refine ⟨fun ev w1 hB hc hf hg hr hi => ?_, ?_⟩
                · exact OpOk.val (v := .slice (some ⟨w1.heap.size, 0, none⟩) 3 3) (w' := w1.alloc (.cells stA 3)) (by go_simp <;> rfl) ⟨⟨_, rfl, BxO.new _ _ _⟩, (Below.refl _ _).alloc (Nat.le_refl _) _⟩
                refine ⟨fun ev w1 hB hc hf hg hr hi => ?_, ?_⟩
                · have e1 : ev (.tmp 7) = .pointer (some ⟨R, 0, none⟩) := hi 7 (by kernel_rfl)
                  exact OpOk.val (v := .pointer (some ⟨R, 3, none⟩)) (w' := w1) (by go_simp) ⟨rfl, Below.refl _ _⟩
                refine ⟨fun ev w1 hB hc hf hg hr hi => ?_, ?_⟩
                · have e1 : ev (.tmp 59) = .pointer (some ⟨R, 3, none⟩) := hr 59 4 (by kernel_rfl)
                  have hx := box_at XC.out hB
                  have y0 := hx.cell 0
                  have y1 := hx.cell 1
                  have y2 := hx.cell 2
                  have y3 := hx.cell 3
                  have z := hx.lt
                  simp only [rzA, List.getElem?_toArray, List.getElem?_cons_zero, List.getElem?_cons_succ] at y0 y1 y2 y3
                  exact OpOk.val (v := .int .i64 x.rc) (w' := w1) (by go_simp) ⟨rfl, Below.refl _ _⟩
                refine ⟨fun ev w1 hB hc hf hg hr hi => ?_, ?_⟩
                · have e1 : ev (.tmp 60) = .int .i64 x.rc := hr 60 5 (by kernel_rfl)
                  exact OpOk.call (f := 12) (args := #[.int .i64 x.rc, .int .i64 3]) (w' := w1) (by go_simp) ((HP3.out w1).mono fun e w2 ⟨he, hw⟩ => ⟨_, he, rfl, by subst hw; exact Below.refl _ _⟩)
                refine ⟨fun ev w1 hB hc hf hg hr hi => ?_, ?_⟩
                · obtain ⟨g1, e1, x1⟩ := hr 58 3 (by kernel_rfl)
                  have e2 : ev (.tmp 61) = .int .i64 (a3 : Int) := hr 61 6 (by kernel_rfl)
                  exact OpOk.val (v := .pointer (some ⟨g1, a3, none⟩)) (w' := w1) (by go_simp) ⟨⟨g1, rfl, x1⟩, Below.refl _ _⟩
                refine ⟨fun ev w1 hB hc hf hg hr hi => ?_, ?_⟩
                · obtain ⟨g1, e1, x1⟩ := hr 62 7 (by kernel_rfl)
                  have y := BxO.cell x1 a3
                  have z := BxO.lt x1
                  rw [hst] at y
                  exact OpOk.val (v := .int .i64 Z) (w' := w1) (by go_simp) ⟨rfl, Below.refl _ _⟩
                refine ⟨fun ev w1 hB hc hf hg hr hi => ?_, ?_⟩
                · have e1 : ev (.tmp 57) = .int .i64 x.kd := hr 57 2 (by kernel_rfl)
                  have e2 : ev (.tmp 63) = .int .i64 Z := hr 63 8 (by kernel_rfl)
                  exact OpOk.call (f := 12) (args := #[.int .i64 x.kd, .int .i64 Z]) (w' := w1) (by go_simp) ((HP4.out w1).mono fun e w2 ⟨he, hw⟩ => ⟨_, he, rfl, by subst hw; exact Below.refl _ _⟩)
                refine ⟨fun ev w1 hB hc hf hg hr hi => ?_, ?_⟩
                · have e1 : ev (.tmp 64) = .int .i64 a4 := hr 64 9 (by kernel_rfl)
                  have tw := tw4
                  exact OpOk.val (v := .int .i64 (1 + a4)) (w' := w1) (by go_simp) ⟨rfl, Below.refl _ _⟩
                refine ⟨fun ev w1 hB hc hf hg hr hi => ?_, ?_⟩
                · have e1 : ev (.tmp 55) = .int .i64 t := hr 55 0 (by kernel_rfl)
                  have e2 : ev (.tmp 65) = .int .i64 (1 + a4) := hr 65 10 (by kernel_rfl)
                  have tw := tw5
                  exact OpOk.val (v := .int .i64 (t + (1 + a4))) (w' := w1) (by go_simp) ⟨rfl, Below.refl _ _⟩
                exact trivial
              case hQ =>
                intro val w8 hB hF
                have v66 : val 11 = .int .i64 (t + (1 + a4)) := hF 11 (by decide)
                simp only [putAll, Act.put, List.setIfInBounds_toArray, List.set_cons_zero, List.set_cons_succ, List.take_succ_cons, List.take_zero, List.take_nil]
                rw [v66]
                clear hF v66
                go_wp2_with fail
                go_roundw
                case rel => exact ⟨k + 1, _, t + (1 + a4), by omega, by go_num, rfl, HNX, own_nextR O6.out hB, B6.out.trans (hB.mono B6.out.size)⟩
                case measure => simp [intOf]; omega
      · have hk1 : ¬ (k : Int) < 1 := by omega
        by_cases hkn : (k : Int) < (xs.length : Int)
        · have hk3 : ¬ (k : Int) < 30 := by omega
          go_wp2
          go_meet
          exact ⟨L, t, k, HL.out, by omega, hk, HO, HB⟩
        · go_wp2
          go_meet
          exact ⟨L, t, k, HL.out, by omega, hk, HO, HB⟩
  case rest =>
    obtain ⟨L, t, k, h1, h2, h3, h4, h5⟩ := hcut
    go_wp2
    go_ret
    exact ⟨_, L, t, k, rfl, h1, h2, h3, h4.out, h5.out⟩
end Go.Proofs.YtbikdlcjbigafaaGreatDoor
