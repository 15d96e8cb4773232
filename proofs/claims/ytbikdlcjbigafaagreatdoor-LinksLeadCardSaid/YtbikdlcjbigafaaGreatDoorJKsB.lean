/-
  The laws' own Source of raw things: the walk.
-/
import Derived.BigQuiet
import Derived.Deep.WholeRow
import Derived.Lib.IndexMore
import Derived.Test.YtbikdlcjbigafaaGreatDoorJKsA
import Derived.Test.YtbikdlcjbigafaaGreatDoorJOrdF
import Derived.Test.YtbikdlcjbigafaaGreatDoorJSoC
namespace Go.Proofs.YtbikdlcjbigafaaGreatDoor
set_option linter.unusedVariables false
set_option linter.unusedSimpArgs false
open Go.ChangeShapes Go.WideShapes Go.ChangeAt Go.RowKit Civ

/-- what an operation leaves: a value; a row of words of its own; a place in it. -/
inductive Pd where
  | any
  | eq (v : Value)
  | row (l : List Wd)
  | ptr (l : List Wd) (k : Nat)
def rowA (l : List Wd) : Array Value := (l.map fun x => Value.string (bx x)).toArray
def Pd.is : Pd → Value → World → Prop
  | .any, _, _ => True
  | .eq u, v, _ => v = u
  | .row l, v, w => ∃ g, v = .slice (some ⟨g, 0, none⟩) l.length l.length ∧ BxO w g (rowA l) 9
  | .ptr l k, v, w => ∃ g, v = .pointer (some ⟨g, k, none⟩) ∧ BxO w g (rowA l) 9
theorem box_at {W w : World} {b : Nat} {cs : Array Value} {t : TypeId} (h : BxO W b cs t) (hB : Below W.heap.size W w) : BxO w b cs t := (hB.block _ h.lt).trans h
theorem Pd.stb {p : Pd} {v : Value} {w w' : World} (h : p.is v w) (hb : Below w.heap.size w w') : p.is v w' := by
  cases p with
  | any => trivial
  | eq u => exact h
  | row l => obtain ⟨g, h1, h2⟩ := h; exact ⟨g, h1, box_at h2 hb⟩
  | ptr l k => obtain ⟨g, h1, h2⟩ := h; exact ⟨g, h1, box_at h2 hb⟩
theorem row_cell {w : World} {g : Nat} {l : List Wd} {t : TypeId} (h : BxO w g (rowA l) t) {k : Nat} (hk : k < l.length) : w.cell? ⟨g, k, none⟩ = some (.string (bx (l.getD k []))) := by
  rw [BxO.cell h k]
  unfold rowA
  simp [hk]
theorem OpOk.val {P : Program} {o : Oper} {ev : Operand → Value} {w w' : World} {v : Value} {R : Value → World → Prop} (h : (execOp ev o).run P w = .ok (.value v) w') (hR : R v w') : OpOk P o ev w R := by
  unfold OpOk; rw [h]; exact hR
theorem OpOk.call {P : Program} {o : Oper} {ev : Operand → Value} {w w' : World} {f : FuncId} {args : Array Value} {R : Value → World → Prop} (h : (execOp ev o).run P w = .ok (.enter f args) w') (hR : Calls P f args w' fun e w'' => ∃ v, e = .returned v ∧ R v w'') : OpOk P o ev w R := by
  unfold OpOk; rw [h]; exact hR
/-- the raw things lie so. -/
def RRz (cs : List Value) (x : Rz) : Prop := cs = [.int .i64 x.kd, .int .i64 x.ra, .int .i64 x.rb, .int .i64 x.rc] ∧ RzI x
theorem rz_at {w : World} {aa : Option Addr} {n ca : Nat} {xs : List Rz} (h : SlAt w 4 RRz (.slice aa n ca) xs) (k : Nat) (hk : k < xs.length) :
    ∃ b off, aa = some ⟨b, off, none⟩ ∧ b < w.heap.size ∧ RzI xs[k] ∧ w.cell? ⟨b, off + k * 4, none⟩ = some (.int .i64 xs[k].kd) ∧ w.cell? ⟨b, off + k * 4 + 1, none⟩ = some (.int .i64 xs[k].ra) ∧ w.cell? ⟨b, off + k * 4 + 2, none⟩ = some (.int .i64 xs[k].rb) ∧ w.cell? ⟨b, off + k * 4 + 3, none⟩ = some (.int .i64 xs[k].rc) := by
  rcases h with ⟨a, c, e, rfl⟩ | ⟨b, off, cap, e, h0, h1, h2, h3, h4⟩
  · simp at hk
  · simp only [Value.slice.injEq] at e
    obtain ⟨rfl, -, -⟩ := e
    obtain ⟨cs, c1, ⟨rfl, c4⟩, c3⟩ := h4 k hk
    exact ⟨b, off, rfl, h3, c4, c3 0 (by omega), c3 1 (by omega), c3 2 (by omega), c3 3 (by omega)⟩
theorem wok_le {w : Wd} (h : wok w = true) : w.length ≤ 20 := ((wok_iff w).1 h).2.1
theorem mon_le (n : Int) : (monT n).length ≤ 20 := wok_le (mon_ok n).2
theorem day_le (n : Int) : (dayT n).length ≤ 20 := wok_le (day_ok n).2
theorem hrs_le (n : Int) : (hrsT n).length ≤ 20 := wok_le (hrs_bare n).2
theorem lnsT_snoc (L : List (List Wd)) (ws : List Wd) : lnsT (L ++ [ws]) = lnsT L ++ (joinT ws ++ [10]) := by
  unfold lnsT; rw [List.flatMap_append]; simp
/-- a zone's text; the text so far. -/
def zonP (xs : List Rz) (z : Nat) : Wd := lnsT (headWs (if z = 0 then oneWd else twoWd) (ersOf xs z))
def srcP (xs : List Rz) : Nat → Wd
  | 0 => lnsT ((xs.take 7).map rulWs ++ fixWs)
  | z + 1 => srcP xs z ++ zonP xs z
theorem I6.zero : I6 0 := ⟨by decide, by decide⟩
theorem lnsT_app (A B : List (List Wd)) : lnsT (A ++ B) = lnsT A ++ lnsT B := by unfold lnsT; rw [List.flatMap_append]
theorem ew_le (x : Rz) : (joinT (eraWs x)).length ≤ 63 := join_len _ (era_last x).1
theorem head_text (nm : Wd) (x : List Wd) (hx : x ≠ []) (l : List (List Wd)) : lnsT (headWs nm (x :: l)) = [90, 111, 110, 101] ++ 32 :: (nm ++ 32 :: lnsT (x :: l)) := by
  obtain ⟨a, y, rfl⟩ : ∃ a y, x = a :: y := by
    cases x with
    | nil => exact absurd rfl hx
    | cons a y => exact ⟨a, y, rfl⟩
  show joinT (zonWd :: nm :: a :: y) ++ [10] ++ lnsT l = _
  show ([90, 111, 110, 101] ++ 32 :: (nm ++ 32 :: joinT (a :: y))) ++ [10] ++ lnsT l = _
  show _ = [90, 111, 110, 101] ++ 32 :: (nm ++ 32 :: ((joinT (a :: y) ++ [10]) ++ lnsT l))
  simp
theorem ers_ne (l : List Rz) (y : Int) : ∀ ws ∈ ersWs l y, ws ≠ [] := by
  induction l generalizing y with
  | nil => intro ws h; cases h
  | cons x l ih =>
    intro ws h
    rcases List.mem_cons.1 h with rfl | h
    · simp [eraWs]
    · exact ih _ ws h
theorem zon_text (P nm : Wd) (l : List Rz) (y : Int) (x : Rz) : (P ++ (([90, 111, 110, 101, 32] : Wd) ++ nm ++ [32])) ++ lnsT (ersWs l y) ++ (joinT (eraWs x) ++ [10]) = P ++ lnsT (headWs nm (ersWs l y ++ [eraWs x])) := by
  have h : ∀ L : List (List Wd), (∀ ws ∈ L, ws ≠ []) → L ≠ [] → lnsT (headWs nm L) = [90, 111, 110, 101] ++ 32 :: (nm ++ 32 :: lnsT L) := by
    intro L h1 h2
    cases L with
    | nil => exact absurd rfl h2
    | cons a L => exact head_text nm a (h1 a (by simp)) L
  rw [h _ (fun ws hw => by
    rcases List.mem_append.1 hw with hw | hw
    · exact ers_ne _ _ ws hw
    · rw [List.mem_singleton.1 hw]; simp [eraWs]) (by simp), lnsT_app]
  have e : lnsT [eraWs x] = joinT (eraWs x) ++ [10] := by unfold lnsT; simp
  rw [e]
  simp
theorem src_text (xs : List Rz) : srcT xs = srcP xs 2 ++ [76, 105, 110, 107, 32, 79, 110, 101, 47, 65, 32, 84, 104, 114, 101, 101, 10, 76, 105, 110, 107, 32, 84, 104, 114, 101, 101, 32, 70, 111, 117, 114, 10] := by
  have e : lnsT linWs = [76, 105, 110, 107, 32, 79, 110, 101, 47, 65, 32, 84, 104, 114, 101, 101, 10, 76, 105, 110, 107, 32, 84, 104, 114, 101, 101, 32, 70, 111, 117, 114, 10] := by decide +kernel
  unfold srcT srcWs
  rw [lnsT_app, lnsT_app, lnsT_app, lnsT_app, e]
  show _ = (srcP xs 0 ++ zonP xs 0) ++ zonP xs 1 ++ _
  show _ = ((lnsT ((xs.take 7).map rulWs ++ fixWs)) ++ lnsT (headWs oneWd (ersOf xs 0))) ++ lnsT (headWs twoWd (ersOf xs 1)) ++ _
  rw [lnsT_app]
  simp only [List.append_assoc]
theorem ersWs_snoc (l : List Rz) (y : Int) (j : Nat) (h : j < l.length) : ersWs (l.take (j + 1)) y = ersWs (l.take j) y ++ [eraWs l[j] ++ untWs l[j] (y + 30 * (j : Int))] := by
  induction l generalizing y j with
  | nil => simp at h
  | cons x l ih =>
    cases j with
    | zero => simp [ersWs]
    | succ j =>
      have := ih (y + 30) j (by simpa using h)
      show (eraWs x ++ untWs x y) :: ersWs (l.take (j + 1)) (y + 30) = _
      rw [this]
      show _ = ((eraWs x ++ untWs x y) :: ersWs (l.take j) (y + 30)) ++ _
      rw [List.cons_append]
      congr 3
      simp only [List.getElem_cons_succ]
      congr 2
      push_cast
      omega
set_option maxRecDepth 100000 in
set_option maxHeartbeats 16000000 in
theorem Source_s (xs : List Rz) (v : Value) (w : World) (hs : SlAt w 4 RRz v xs) (hT : PwT w) :
    Calls Tryz.prog 14 #[v] w fun e w' => e = .returned (.string (bx (srcT xs))) ∧ Below w.heap.size w w' := by
  have HT := Lib.hid hT
  obtain ⟨a, c, rfl, hwl⟩ := hs.shape
  have HS := Lib.hid hs
  have HWL := Lib.hid hwl
  clear hs hT hwl
  go_enter Tryz.func14, Tryz.ntmps14
  go_wp2_with fail
  go_loopw [3, 4] (fun vs vi wr => ∃ (k : Nat) (S : Wd), vs = .string (bx S) ∧ vi = .int .i64 k ∧ k ≤ xs.length ∧ k ≤ 7 ∧ Hid (S = lnsT ((xs.take k).map rulWs)) ∧ Hid (S.length ≤ 300 * k) ∧ Hid (Below w.heap.size w wr)) (fun _ vi _ => (7 - intOf vi).toNat)
  case atStart => exact ⟨0, [], rfl, rfl, Nat.zero_le _, Nat.zero_le _, rfl, Nat.le_refl _, Below.refl _ _⟩
  case round =>
    obtain ⟨k, S, rfl, rfl, hk, hk7, HSS, HSL0, HB⟩ := hrel
    have HSL : Hid (S.length ≤ 2100) := by show _ ≤ _; have := HSL0.out; omega
    by_cases hlt7 : k < xs.length ∧ k < 7
    · obtain ⟨hlt, h7⟩ := hlt7
      have hki : (k : Int) < (xs.length : Int) := by omega
      have hk7i : (k : Int) < 7 := by omega
      obtain ⟨b, off, e', hbw, HX0, d0, d1, d2, d3⟩ := rz_at HS.out k hlt
      subst e'
      obtain ⟨x, hxx⟩ : ∃ x, xs[k] = x := ⟨_, rfl⟩
      have HX := Lib.hid HX0
      rw [hxx] at HX d0 d1 d2 d3
      have q0 := (HB.out.cell (p := ⟨b, off + k * 4, none⟩) hbw).trans d0
      have q1 := (HB.out.cell (p := ⟨b, off + k * 4 + 1, none⟩) hbw).trans d1
      have q2 := (HB.out.cell (p := ⟨b, off + k * 4 + 2, none⟩) hbw).trans d2
      have q3 := (HB.out.cell (p := ⟨b, off + k * 4 + 3, none⟩) hbw).trans d3
      have HXX := Lib.hid hxx
      have hbr : b < wr.heap.size := Nat.lt_of_lt_of_le hbw HB.out.size
      clear HX0 d0 d1 d2 d3 hxx
      obtain ⟨W5, hW5⟩ : ∃ W5, W5 = wr.alloc (.cells (rzA x) 98) := ⟨_, rfl⟩
      have X5 : Hid (BxO W5 wr.heap.size (rzA x) 98) := by show BxO _ _ _ _; rw [hW5]; exact BxO.new _ _ _
      have B5 : Hid (Below w.heap.size w W5) := by show Below _ _ _; rw [hW5]; exact HB.out.alloc HB.out.size _
      have HW5 : Hid (W5 = wr.alloc (.cells #[.int .i64 x.kd, .int .i64 x.ra, .int .i64 x.rb, .int .i64 x.rc] 98)) := hW5
      obtain ⟨g5, hg5⟩ : ∃ g, wr.heap.size = g := ⟨_, rfl⟩
      have HT7 := Lib.hid (HT.out.below B5.out)
      clear hW5
      have HYR := Lib.hid (fun wx => year_s x.ra wx HX.out.ra)
      have hyb := yrT_bd x.ra
      obtain ⟨FR, hFR⟩ : ∃ n, yrT x.ra = n := ⟨_, rfl⟩
      rw [hFR] at HYR hyb
      have HFR := Lib.hid hFR
      have HP40 := Lib.hid (fun wx => pick_s x.rb 40 wx HX.out.rb (by decide) (by decide))
      have hp40 := pkz_bd x.rb 40 (by decide)
      obtain ⟨p40, hp⟩ : ∃ n, pkz x.rb 40 = n := ⟨_, rfl⟩
      rw [hp] at HP40 hp40
      obtain ⟨k3, hk3', hk3⟩ := nat_of (pkz_bd x.kd 3 (by decide))
      have HPK3 := Lib.hid (fun wx => pick_s x.kd 3 wx HX.out.kd (by decide) (by decide))
      rw [hk3'] at HPK3
      have hk3 : k3 < 3 := hk3
      have hk3i : (k3 : Int) < 3 := by omega
      have HD7 : Hid (I6 (min (FR + p40) 2099)) := I6.small (by omega) (by omega)
      have wf : IntKind.i64.wrap (FR + p40) = FR + p40 := IntWalk.i64_in _ (by omega)
      obtain ⟨D7, hD7⟩ : ∃ D, Lib.itoa (min (FR + p40) 2099) = D := ⟨_, rfl⟩
      have hd7 := itoa_le HD7.out
      rw [hD7] at hd7
      have HI7 := Lib.hid (fun wx (h : PwT wx) => itoa_s (min (FR + p40) 2099) wx HD7.out h)
      rw [hD7] at HI7
      obtain ⟨TO, hTO⟩ : ∃ t, [[109, 97, 120], [111, 110, 108, 121], D7].getD k3 [] = t := ⟨_, rfl⟩
      have HTO : Hid (toT x = TO) := by
        show _ = _
        rw [← hTO, ← hD7, ← hp, ← hFR]
        unfold toT
        rw [hk3']
        rfl
      have hto : TO.length ≤ 21 := by
        rw [← hTO]
        match k3, hk3 with
        | 0, _ => show ([109, 97, 120] : Wd).length ≤ 21; decide
        | 1, _ => show ([111, 110, 108, 121] : Wd).length ≤ 21; decide
        | 2, _ => exact hd7
      clear hp hFR hk3'
      go_upto_region 6 with (refine wpList_store_row rfl 98 _ _ rfl wr.heap.size #[.int .i64 x.kd, .int .i64 x.ra, .int .i64 x.rb, .int .i64 x.rc] rfl rfl 98 _ (World.alloc_heap_new wr _) (by kernel_rfl) rfl (by simp [Value.oneCell']) ?_; rw [World.setRow_alloc_new])
      rw [← HW5.out]
      clear HW5 q0 q1 q2 q3 hbr
      rw [hg5] at X5
      obtain ⟨y0, y1, y2, y3⟩ : W5.cell? ⟨g5, 0, none⟩ = some (.int .i64 x.kd) ∧ W5.cell? ⟨g5, 1, none⟩ = some (.int .i64 x.ra) ∧ W5.cell? ⟨g5, 2, none⟩ = some (.int .i64 x.rb) ∧ W5.cell? ⟨g5, 3, none⟩ = some (.int .i64 x.rc) := ⟨X5.out.cell 0, X5.out.cell 1, X5.out.cell 2, X5.out.cell 3⟩
      have zg := X5.out.lt
      go_wp2_with fail
      refine (HYR.out _).mono ?_; rintro e w' ⟨rfl, rfl⟩
      go_upto_region 7 with fail
      clear y0 y1 y2 y3 zg
      refine wp_region_free (fun i v w => (([.eq (.int .i64 (FR)), .eq (.pointer (some ⟨g5, 2, none⟩)), .eq (.int .i64 (x.rb)), .eq (.int .i64 (p40)), .eq (.int .i64 (FR + p40)), .eq (.int .i64 (min (FR + p40) 2099)), .eq (.string (bx D7)), .row ([[109, 97, 120], [111, 110, 108, 121], D7]), .eq (.pointer (some ⟨g5, 0, none⟩)), .eq (.int .i64 (x.kd)), .eq (.int .i64 ((k3 : Int))), .ptr ([[109, 97, 120], [111, 110, 108, 121], D7]) k3, .eq (.string (bx TO))] ++ [.eq (.string (bx TO))] : List Pd).getD i .any).is v w) (by kernel_rfl) 177 rfl (by kernel_rfl) (fun i v w w' h hb => Pd.stb h hb) ?hop ?hQ
      case hop =>
        refine ⟨fun ev w1 hB hc hf hg hr hi => ?_, ?_⟩
        · have e1 : ev (.tmp 6) = .int .i64 FR := hi 6 (by kernel_rfl)
          exact OpOk.val (v := .int .i64 (FR)) (w' := w1) (by go_simp) ⟨rfl, Below.refl _ _⟩
        refine ⟨fun ev w1 hB hc hf hg hr hi => ?_, ?_⟩
        · have e1 : ev (.tmp 5) = .pointer (some ⟨g5, 0, none⟩) := hi 5 (by kernel_rfl)
          exact OpOk.val (v := .pointer (some ⟨g5, 2, none⟩)) (w' := w1) (by go_simp) ⟨rfl, Below.refl _ _⟩
        refine ⟨fun ev w1 hB hc hf hg hr hi => ?_, ?_⟩
        · have e1 : ev (.tmp 31) = .pointer (some ⟨g5, 2, none⟩) := hr 31 1 (by kernel_rfl)
          have hx := box_at X5.out hB
          have y0 := hx.cell 0
          have y1 := hx.cell 1
          have y2 := hx.cell 2
          have y3 := hx.cell 3
          have z := hx.lt
          simp only [rzA, List.getElem?_toArray, List.getElem?_cons_zero, List.getElem?_cons_succ] at y0 y1 y2 y3
          exact OpOk.val (v := .int .i64 (x.rb)) (w' := w1) (by go_simp) ⟨rfl, Below.refl _ _⟩
        refine ⟨fun ev w1 hB hc hf hg hr hi => ?_, ?_⟩
        · have e1 : ev (.tmp 32) = .int .i64 (x.rb) := hr 32 2 (by kernel_rfl)
          exact OpOk.call (f := 12) (args := #[.int .i64 (x.rb), .int .i64 40]) (w' := w1) (by go_simp) ((HP40.out w1).mono fun e w2 ⟨he, hw⟩ => ⟨_, he, rfl, by subst hw; exact Below.refl _ _⟩)
        refine ⟨fun ev w1 hB hc hf hg hr hi => ?_, ?_⟩
        · have e1 : ev (.tmp 30) = .int .i64 (FR) := hr 30 0 (by kernel_rfl)
          have e2 : ev (.tmp 33) = .int .i64 (p40) := hr 33 3 (by kernel_rfl)
          exact OpOk.val (v := .int .i64 (FR + p40)) (w' := w1) (by go_simp) ⟨rfl, Below.refl _ _⟩
        refine ⟨fun ev w1 hB hc hf hg hr hi => ?_, ?_⟩
        · have e1 : ev (.tmp 34) = .int .i64 (FR + p40) := hr 34 4 (by kernel_rfl)
          exact OpOk.val (v := .int .i64 (min (FR + p40) 2099)) (w' := w1) (by go_simp) ⟨rfl, Below.refl _ _⟩
        refine ⟨fun ev w1 hB hc hf hg hr hi => ?_, ?_⟩
        · have e1 : ev (.tmp 35) = .int .i64 (min (FR + p40) 2099) := hr 35 5 (by kernel_rfl)
          exact OpOk.call (f := 40) (args := #[.int .i64 (min (FR + p40) 2099)]) (w' := w1) (by go_simp) ((HI7.out w1 (HT7.out.below hB)).mono fun e w2 ⟨he, hw⟩ => ⟨_, he, rfl, hw⟩)
        refine ⟨fun ev w1 hB hc hf hg hr hi => ?_, ?_⟩
        · have e1 : ev (.tmp 36) = .string (bx D7) := hr 36 6 (by kernel_rfl)
          exact OpOk.val (v := .slice (some ⟨w1.heap.size, 0, none⟩) 3 3) (w' := w1.alloc (.cells #[.string ⟨#[109, 97, 120]⟩, .string ⟨#[111, 110, 108, 121]⟩, .string (bx D7)] 9)) (by go_simp) ⟨⟨_, rfl, BxO.new _ _ _⟩, (Below.refl _ _).alloc (Nat.le_refl _) _⟩
        refine ⟨fun ev w1 hB hc hf hg hr hi => ?_, ?_⟩
        · have e1 : ev (.tmp 5) = .pointer (some ⟨g5, 0, none⟩) := hi 5 (by kernel_rfl)
          exact OpOk.val (v := .pointer (some ⟨g5, 0, none⟩)) (w' := w1) (by go_simp) ⟨rfl, Below.refl _ _⟩
        refine ⟨fun ev w1 hB hc hf hg hr hi => ?_, ?_⟩
        · have e1 : ev (.tmp 38) = .pointer (some ⟨g5, 0, none⟩) := hr 38 8 (by kernel_rfl)
          have hx := box_at X5.out hB
          have y0 := hx.cell 0
          have y1 := hx.cell 1
          have y2 := hx.cell 2
          have y3 := hx.cell 3
          have z := hx.lt
          simp only [rzA, List.getElem?_toArray, List.getElem?_cons_zero, List.getElem?_cons_succ] at y0 y1 y2 y3
          exact OpOk.val (v := .int .i64 (x.kd)) (w' := w1) (by go_simp) ⟨rfl, Below.refl _ _⟩
        refine ⟨fun ev w1 hB hc hf hg hr hi => ?_, ?_⟩
        · have e1 : ev (.tmp 39) = .int .i64 (x.kd) := hr 39 9 (by kernel_rfl)
          exact OpOk.call (f := 12) (args := #[.int .i64 (x.kd), .int .i64 3]) (w' := w1) (by go_simp) ((HPK3.out w1).mono fun e w2 ⟨he, hw⟩ => ⟨_, he, rfl, by subst hw; exact Below.refl _ _⟩)
        refine ⟨fun ev w1 hB hc hf hg hr hi => ?_, ?_⟩
        · obtain ⟨g1, e1, x1⟩ := hr 37 7 (by kernel_rfl)
          have e2 : ev (.tmp 40) = .int .i64 ((k3 : Int)) := hr 40 10 (by kernel_rfl)
          exact OpOk.val (v := .pointer (some ⟨g1, k3, none⟩)) (w' := w1) (by go_simp) ⟨⟨g1, rfl, x1⟩, Below.refl _ _⟩
        refine ⟨fun ev w1 hB hc hf hg hr hi => ?_, ?_⟩
        · obtain ⟨g1, e1, x1⟩ := hr 41 11 (by kernel_rfl)
          have y := row_cell x1 hk3
          rw [hTO] at y
          have z := BxO.lt x1
          exact OpOk.val (v := .string (bx TO)) (w' := w1) (by go_simp) ⟨rfl, Below.refl _ _⟩
        refine ⟨fun ev w1 hB hc hf hg hr hi => ?_, ?_⟩
        · have e1 : ev (.tmp 42) = .string (bx TO) := hr 42 12 (by kernel_rfl)
          exact OpOk.val (v := .string (bx TO)) (w' := w1) (by go_simp) ⟨rfl, Below.refl _ _⟩
        exact trivial
      case hQ =>
        intro val w6 hB hF
        have e9 : val 13 = .string (bx TO) := hF 13 (by decide)
        simp only [putAll, Act.put, List.setIfInBounds_toArray, List.set_cons_zero, List.set_cons_succ]
        rw [e9]
        clear hF e9
        have X6 := Lib.hid (box_at X5.out hB)
        have B6 : Hid (Below w.heap.size w w6) := B5.out.trans (hB.mono B5.out.size)
        clear hB X5 B5 hTO hD7
        obtain ⟨k6, hk6', hk6⟩ := nat_of (pkz_bd x.rc 6 (by decide))
        have HPK6 := Lib.hid (fun wx => pick_s x.rc 6 wx HX.out.rc (by decide) (by decide))
        rw [hk6'] at HPK6
        have hk6 : k6 < 6 := hk6
        have hk6i : (k6 : Int) < 6 := by omega
        have cs := lit_cell w6 savL k6 hk6 9
        obtain ⟨W8, hW8⟩ : ∃ W, W = w6.alloc (.cells (savL.map fun x => Value.string (bx x)).toArray 9) := ⟨_, rfl⟩
        rw [← hW8] at cs
        have Bs : Hid (Below w6.heap.size w6 W8) := by show Below _ _ _; rw [hW8]; exact (Below.refl _ _).alloc (Nat.le_refl _) _
        have Hs : Hid (W8 = w6.alloc (.cells #[.string ⟨#[48]⟩, .string ⟨#[49, 58, 48, 48]⟩, .string ⟨#[48]⟩, .string ⟨#[48, 58, 51, 48]⟩, .string ⟨#[49, 58, 48, 48]⟩, .string ⟨#[45, 49, 58, 48, 48]⟩] 9)) := hW8
        have zs : w6.heap.size < W8.heap.size := by rw [hW8, size_alloc]; omega
        clear hW8
        have X8 := Lib.hid (box_at X6.out Bs.out)
        have B8 : Hid (Below w.heap.size w W8) := B6.out.trans (Bs.out.mono B6.out.size)
        have HT9 := Lib.hid (HT.out.below B8.out)
        obtain ⟨SV, hSV⟩ : ∃ t, savL.getD k6 [] = t := ⟨_, rfl⟩
        rw [hSV] at cs
        have HSV : Hid (picL savL (pkz x.rc 6) = SV) := by show _ = _; rw [hk6', picL_nat, hSV]
        have hsv : SV.length ≤ 5 := by rw [← HSV.out]; exact picL_le (l := savL) (m := 5) (by decide) _
        obtain ⟨y0, y1, y2, y3⟩ : w6.cell? ⟨g5, 0, none⟩ = some (.int .i64 x.kd) ∧ w6.cell? ⟨g5, 1, none⟩ = some (.int .i64 x.ra) ∧ w6.cell? ⟨g5, 2, none⟩ = some (.int .i64 x.rb) ∧ w6.cell? ⟨g5, 3, none⟩ = some (.int .i64 x.rc) := ⟨X6.out.cell 0, X6.out.cell 1, X6.out.cell 2, X6.out.cell 3⟩
        have zg := X6.out.lt
        clear hk6'
        go_wp2_with fail
        rw [← Hs.out]
        refine (HPK6.out _).mono ?_; rintro e w' ⟨rfl, rfl⟩
        obtain ⟨k2, hk2', hk2⟩ := nat_of (pkz_bd (x.kd.tdiv 3) 2 (by decide))
        obtain ⟨k4, hk4', hk4⟩ := nat_of (pkz_bd x.ra 4 (by decide))
        obtain ⟨k5, hk5', hk5⟩ := nat_of (pkz_bd x.rb 4 (by decide))
        have i3 : I6 (x.kd.tdiv 3) := HX.out.kd.tdiv (by decide)
        obtain ⟨q3, hq3⟩ : ∃ n, x.kd.tdiv 3 = n := ⟨_, rfl⟩
        rw [hq3] at hk2' i3
        have wq : IntKind.i64.wrap q3 = q3 := IntWalk.i64_in _ ⟨by have := i3.1; omega, by have := i3.2; omega⟩
        have HPK2 := Lib.hid (fun wx => pick_s q3 2 wx i3 (by decide) (by decide))
        have HPK4 := Lib.hid (fun wx => pick_s x.ra 4 wx HX.out.ra (by decide) (by decide))
        have HPK5 := Lib.hid (fun wx => pick_s x.rb 4 wx HX.out.rb (by decide) (by decide))
        rw [hk2'] at HPK2
        rw [hk4'] at HPK4
        rw [hk5'] at HPK5
        have hk2 : k2 < 2 := hk2
        have hk4 : k4 < 4 := hk4
        have hk5 : k5 < 4 := hk5
        have hk2i : (k2 : Int) < 2 := by omega
        have hk4i : (k4 : Int) < 4 := by omega
        have hk5i : (k5 : Int) < 4 := by omega
        have HYF := Lib.hid (fun wx (h : PwT wx) => itoa_s FR wx (I6.small (by omega) (by omega)) h)
        have HMO := Lib.hid (fun wx => month_s x.rb wx HX.out.rb)
        have HDA := Lib.hid (fun wx (h : PwT wx) => day_s x.rc wx HX.out.rc h)
        have HHR := Lib.hid (fun wx (h : PwT wx) => hours_s x.ra wx HX.out.ra h)
        have lYF := itoa_le (n := FR) (I6.small (by omega) (by omega))
        have lMO := mon_le x.rb
        have lDA := day_le x.rc
        have lHR := hrs_le x.ra
        obtain ⟨NM, hNM⟩ : ∃ t, ([[69, 85], [85, 83]] : List Wd).getD k2 [] = t := ⟨_, rfl⟩
        obtain ⟨SF, hSF⟩ : ∃ t, ([[], [119], [115], [117]] : List Wd).getD k4 [] = t := ⟨_, rfl⟩
        obtain ⟨LE, hLE⟩ : ∃ t, ([[83], [45], [68], [97, 98]] : List Wd).getD k5 [] = t := ⟨_, rfl⟩
        have lNM : NM.length ≤ 2 := by rw [← hNM]; exact picL_le (l := rnmL) (m := 2) (by decide) (k2 : Int)
        have lSF : SF.length ≤ 1 := by rw [← hSF]; exact picL_le (l := sfxL) (m := 1) (by decide) (k4 : Int)
        have lLE : LE.length ≤ 2 := by rw [← hLE]; exact picL_le (l := letL) (m := 2) (by decide) (k5 : Int)
        have HJ : Hid (joinT (rulWs x) = ([82, 117, 108, 101] : Wd) ++ 32 :: (NM ++ 32 :: (Lib.itoa FR ++ 32 :: (TO ++ 32 :: (([45] : Wd) ++ 32 :: (monT x.rb ++ 32 :: (dayT x.rc ++ 32 :: ((hrsT x.ra ++ SF) ++ 32 :: (SV ++ 32 :: LE))))))))) := by
          show _ = _
          rw [← HSV.out, ← HTO.out, ← hNM, ← hSF, ← hLE, ← HFR.out]
          unfold rulWs
          rw [hq3, hk2', hk4', hk5']
          rfl
        obtain ⟨YF, hYF⟩ : ∃ t, Lib.itoa FR = t := ⟨_, rfl⟩
        obtain ⟨MO, hMO⟩ : ∃ t, monT x.rb = t := ⟨_, rfl⟩
        obtain ⟨DA, hDA⟩ : ∃ t, dayT x.rc = t := ⟨_, rfl⟩
        obtain ⟨HR, hHR⟩ : ∃ t, hrsT x.ra = t := ⟨_, rfl⟩
        rw [hYF] at HYF lYF HJ
        rw [hMO] at HMO lMO HJ
        rw [hDA] at HDA lDA HJ
        rw [hHR] at HHR lHR HJ
        have lS := HSL.out
        obtain ⟨u57, hu57⟩ : ∃ u : Wd, ([82, 117, 108, 101, 32] : Wd) ++ (NM : Wd) = u := ⟨_, rfl⟩
        have mu57 : u57.length ≤ 7 := by
          rw [← hu57, List.length_append]
          try simp only [List.length_cons, List.length_nil]
          omega
        obtain ⟨u58, hu58⟩ : ∃ u : Wd, (u57 : Wd) ++ ([32] : Wd) = u := ⟨_, rfl⟩
        have mu58 : u58.length ≤ 8 := by
          rw [← hu58, List.length_append]
          try simp only [List.length_cons, List.length_nil]
          omega
        obtain ⟨u61, hu61⟩ : ∃ u : Wd, (u58 : Wd) ++ (YF : Wd) = u := ⟨_, rfl⟩
        have mu61 : u61.length ≤ 29 := by
          rw [← hu61, List.length_append]
          try simp only [List.length_cons, List.length_nil]
          omega
        obtain ⟨u62, hu62⟩ : ∃ u : Wd, (u61 : Wd) ++ ([32] : Wd) = u := ⟨_, rfl⟩
        have mu62 : u62.length ≤ 30 := by
          rw [← hu62, List.length_append]
          try simp only [List.length_cons, List.length_nil]
          omega
        obtain ⟨u64, hu64⟩ : ∃ u : Wd, (u62 : Wd) ++ (TO : Wd) = u := ⟨_, rfl⟩
        have mu64 : u64.length ≤ 51 := by
          rw [← hu64, List.length_append]
          try simp only [List.length_cons, List.length_nil]
          omega
        obtain ⟨u65, hu65⟩ : ∃ u : Wd, (u64 : Wd) ++ ([32, 45, 32] : Wd) = u := ⟨_, rfl⟩
        have mu65 : u65.length ≤ 54 := by
          rw [← hu65, List.length_append]
          try simp only [List.length_cons, List.length_nil]
          omega
        obtain ⟨u69, hu69⟩ : ∃ u : Wd, (u65 : Wd) ++ (MO : Wd) = u := ⟨_, rfl⟩
        have mu69 : u69.length ≤ 74 := by
          rw [← hu69, List.length_append]
          try simp only [List.length_cons, List.length_nil]
          omega
        obtain ⟨u70, hu70⟩ : ∃ u : Wd, (u69 : Wd) ++ ([32] : Wd) = u := ⟨_, rfl⟩
        have mu70 : u70.length ≤ 75 := by
          rw [← hu70, List.length_append]
          try simp only [List.length_cons, List.length_nil]
          omega
        obtain ⟨u74, hu74⟩ : ∃ u : Wd, (u70 : Wd) ++ (DA : Wd) = u := ⟨_, rfl⟩
        have mu74 : u74.length ≤ 95 := by
          rw [← hu74, List.length_append]
          try simp only [List.length_cons, List.length_nil]
          omega
        obtain ⟨u75, hu75⟩ : ∃ u : Wd, (u74 : Wd) ++ ([32] : Wd) = u := ⟨_, rfl⟩
        have mu75 : u75.length ≤ 96 := by
          rw [← hu75, List.length_append]
          try simp only [List.length_cons, List.length_nil]
          omega
        obtain ⟨u79, hu79⟩ : ∃ u : Wd, (u75 : Wd) ++ (HR : Wd) = u := ⟨_, rfl⟩
        have mu79 : u79.length ≤ 116 := by
          rw [← hu79, List.length_append]
          try simp only [List.length_cons, List.length_nil]
          omega
        obtain ⟨u86, hu86⟩ : ∃ u : Wd, (u79 : Wd) ++ (SF : Wd) = u := ⟨_, rfl⟩
        have mu86 : u86.length ≤ 117 := by
          rw [← hu86, List.length_append]
          try simp only [List.length_cons, List.length_nil]
          omega
        obtain ⟨u87, hu87⟩ : ∃ u : Wd, (u86 : Wd) ++ ([32] : Wd) = u := ⟨_, rfl⟩
        have mu87 : u87.length ≤ 118 := by
          rw [← hu87, List.length_append]
          try simp only [List.length_cons, List.length_nil]
          omega
        obtain ⟨u89, hu89⟩ : ∃ u : Wd, (u87 : Wd) ++ (SV : Wd) = u := ⟨_, rfl⟩
        have mu89 : u89.length ≤ 123 := by
          rw [← hu89, List.length_append]
          try simp only [List.length_cons, List.length_nil]
          omega
        obtain ⟨u90, hu90⟩ : ∃ u : Wd, (u89 : Wd) ++ ([32] : Wd) = u := ⟨_, rfl⟩
        have mu90 : u90.length ≤ 124 := by
          rw [← hu90, List.length_append]
          try simp only [List.length_cons, List.length_nil]
          omega
        obtain ⟨u97, hu97⟩ : ∃ u : Wd, (u90 : Wd) ++ (LE : Wd) = u := ⟨_, rfl⟩
        have mu97 : u97.length ≤ 126 := by
          rw [← hu97, List.length_append]
          try simp only [List.length_cons, List.length_nil]
          omega
        obtain ⟨u98, hu98⟩ : ∃ u : Wd, (u97 : Wd) ++ ([10] : Wd) = u := ⟨_, rfl⟩
        have mu98 : u98.length ≤ 127 := by
          rw [← hu98, List.length_append]
          try simp only [List.length_cons, List.length_nil]
          omega
        obtain ⟨u99, hu99⟩ : ∃ u : Wd, (S : Wd) ++ (u98 : Wd) = u := ⟨_, rfl⟩
        have mu99 : u99.length ≤ 2227 := by
          rw [← hu99, List.length_append]
          try simp only [List.length_cons, List.length_nil]
          omega
        have HU : Hid (u98 = joinT (rulWs x) ++ [10]) := by
          show _ = _
          rw [HJ.out, ← hu98, ← hu97, ← hu90, ← hu89, ← hu87, ← hu86, ← hu79, ← hu75, ← hu74, ← hu70, ← hu69, ← hu65, ← hu64, ← hu62, ← hu61, ← hu58, ← hu57]
          simp
        clear y0 y1 y2 y3 zg hk2' hk4' hk5' hYF hMO hDA hHR
        go_upto_region 9 with fail
        clear cs zs Hs hSV
        refine wp_region_free (fun i v w => (([.eq (.string (bx S)), .row ([[69, 85], [85, 83]]), .eq (.pointer (some ⟨g5, 0, none⟩)), .eq (.int .i64 (x.kd)), .eq (.int .i64 (q3)), .eq (.int .i64 ((k2 : Int))), .ptr ([[69, 85], [85, 83]]) k2, .eq (.string (bx NM)), .eq (.string (bx u57)), .eq (.string (bx u58)), .eq (.int .i64 (FR)), .eq (.string (bx YF)), .eq (.string (bx u61))] ++ [.eq (.string (bx u62)), .eq (.string (bx TO)), .eq (.string (bx u64)), .eq (.string (bx u65)), .eq (.pointer (some ⟨g5, 2, none⟩)), .eq (.int .i64 (x.rb)), .eq (.string (bx MO)), .eq (.string (bx u69)), .eq (.string (bx u70)), .eq (.pointer (some ⟨g5, 3, none⟩)), .eq (.int .i64 (x.rc)), .eq (.string (bx DA)), .eq (.string (bx u74))] ++ [.eq (.string (bx u75)), .eq (.pointer (some ⟨g5, 1, none⟩)), .eq (.int .i64 (x.ra)), .eq (.string (bx HR)), .eq (.string (bx u79)), .row ([[], [119], [115], [117]]), .eq (.pointer (some ⟨g5, 1, none⟩)), .eq (.int .i64 (x.ra)), .eq (.int .i64 ((k4 : Int))), .ptr ([[], [119], [115], [117]]) k4, .eq (.string (bx SF)), .eq (.string (bx u86)), .eq (.string (bx u87))] ++ [.eq (.string (bx SV)), .eq (.string (bx u89)), .eq (.string (bx u90)), .row ([[83], [45], [68], [97, 98]]), .eq (.pointer (some ⟨g5, 2, none⟩)), .eq (.int .i64 (x.rb)), .eq (.int .i64 ((k5 : Int))), .ptr ([[83], [45], [68], [97, 98]]) k5, .eq (.string (bx LE)), .eq (.string (bx u97)), .eq (.string (bx u98)), .eq (.string (bx u99)), .eq (.string (bx u99))] : List Pd).getD i .any).is v w) (by kernel_rfl) 177 rfl (by kernel_rfl) (fun i v w w' h hb => Pd.stb h hb) ?hop ?hQ
        case hop =>
          refine ⟨fun ev w1 hB hc hf hg hr hi => ?_, ?_⟩
          · have e1 : ev (.tmp 3) = .string (bx S) := hi 3 (by kernel_rfl)
            exact OpOk.val (v := .string (bx S)) (w' := w1) (by go_simp) ⟨rfl, Below.refl _ _⟩
          refine ⟨fun ev w1 hB hc hf hg hr hi => ?_, ?_⟩
          · exact OpOk.val (v := .slice (some ⟨w1.heap.size, 0, none⟩) 2 2) (w' := w1.alloc (.cells #[.string ⟨#[69, 85]⟩, .string ⟨#[85, 83]⟩] 9)) (by go_simp) ⟨⟨_, rfl, BxO.new _ _ _⟩, (Below.refl _ _).alloc (Nat.le_refl _) _⟩
          refine ⟨fun ev w1 hB hc hf hg hr hi => ?_, ?_⟩
          · have e1 : ev (.tmp 5) = .pointer (some ⟨g5, 0, none⟩) := hi 5 (by kernel_rfl)
            exact OpOk.val (v := .pointer (some ⟨g5, 0, none⟩)) (w' := w1) (by go_simp) ⟨rfl, Below.refl _ _⟩
          refine ⟨fun ev w1 hB hc hf hg hr hi => ?_, ?_⟩
          · have e1 : ev (.tmp 51) = .pointer (some ⟨g5, 0, none⟩) := hr 51 2 (by kernel_rfl)
            have hx := box_at X8.out hB
            have y0 := hx.cell 0
            have y1 := hx.cell 1
            have y2 := hx.cell 2
            have y3 := hx.cell 3
            have z := hx.lt
            simp only [rzA, List.getElem?_toArray, List.getElem?_cons_zero, List.getElem?_cons_succ] at y0 y1 y2 y3
            exact OpOk.val (v := .int .i64 (x.kd)) (w' := w1) (by go_simp) ⟨rfl, Below.refl _ _⟩
          refine ⟨fun ev w1 hB hc hf hg hr hi => ?_, ?_⟩
          · have e1 : ev (.tmp 52) = .int .i64 (x.kd) := hr 52 3 (by kernel_rfl)
            exact OpOk.val (v := .int .i64 (q3)) (w' := w1) (by go_simp) ⟨rfl, Below.refl _ _⟩
          refine ⟨fun ev w1 hB hc hf hg hr hi => ?_, ?_⟩
          · have e1 : ev (.tmp 53) = .int .i64 (q3) := hr 53 4 (by kernel_rfl)
            exact OpOk.call (f := 12) (args := #[.int .i64 q3, .int .i64 2]) (w' := w1) (by go_simp) ((HPK2.out w1).mono fun e w2 ⟨he, hw⟩ => ⟨_, he, rfl, by subst hw; exact Below.refl _ _⟩)
          refine ⟨fun ev w1 hB hc hf hg hr hi => ?_, ?_⟩
          · obtain ⟨g1, e1, x1⟩ := hr 50 1 (by kernel_rfl)
            have e2 : ev (.tmp 54) = .int .i64 ((k2 : Int)) := hr 54 5 (by kernel_rfl)
            exact OpOk.val (v := .pointer (some ⟨g1, k2, none⟩)) (w' := w1) (by go_simp) ⟨⟨g1, rfl, x1⟩, Below.refl _ _⟩
          refine ⟨fun ev w1 hB hc hf hg hr hi => ?_, ?_⟩
          · obtain ⟨g1, e1, x1⟩ := hr 55 6 (by kernel_rfl)
            have y := row_cell x1 hk2
            rw [hNM] at y
            have z := BxO.lt x1
            exact OpOk.val (v := .string (bx NM)) (w' := w1) (by go_simp) ⟨rfl, Below.refl _ _⟩
          refine ⟨fun ev w1 hB hc hf hg hr hi => ?_, ?_⟩
          · have e1 : ev (.tmp 56) = .string (bx NM) := hr 56 7 (by kernel_rfl)
            have c := add_s (P := Tryz.prog) [82, 117, 108, 101, 32] NM (by decide) (by omega) w1
            rw [hu57] at c
            rw [show bx [82, 117, 108, 101, 32] = ⟨#[82, 117, 108, 101, 32]⟩ from rfl] at c
            exact OpOk.val (v := .string (bx u57)) (w' := w1) (by go_simp) ⟨rfl, Below.refl _ _⟩
          refine ⟨fun ev w1 hB hc hf hg hr hi => ?_, ?_⟩
          · have e1 : ev (.tmp 57) = .string (bx u57) := hr 57 8 (by kernel_rfl)
            have c := add_s (P := Tryz.prog) u57 [32] (by omega) (by decide) w1
            rw [hu58] at c
            rw [show bx [32] = ⟨#[32]⟩ from rfl] at c
            exact OpOk.val (v := .string (bx u58)) (w' := w1) (by go_simp) ⟨rfl, Below.refl _ _⟩
          refine ⟨fun ev w1 hB hc hf hg hr hi => ?_, ?_⟩
          · have e1 : ev (.tmp 6) = .int .i64 FR := hi 6 (by kernel_rfl)
            exact OpOk.val (v := .int .i64 (FR)) (w' := w1) (by go_simp) ⟨rfl, Below.refl _ _⟩
          refine ⟨fun ev w1 hB hc hf hg hr hi => ?_, ?_⟩
          · have e1 : ev (.tmp 59) = .int .i64 (FR) := hr 59 10 (by kernel_rfl)
            exact OpOk.call (f := 40) (args := #[.int .i64 FR]) (w' := w1) (by go_simp) ((HYF.out w1 (HT9.out.below hB)).mono fun e w2 ⟨he, hw⟩ => ⟨_, he, rfl, hw⟩)
          refine ⟨fun ev w1 hB hc hf hg hr hi => ?_, ?_⟩
          · have e1 : ev (.tmp 58) = .string (bx u58) := hr 58 9 (by kernel_rfl)
            have e2 : ev (.tmp 60) = .string (bx YF) := hr 60 11 (by kernel_rfl)
            have c := add_s (P := Tryz.prog) u58 YF (by omega) (by omega) w1
            rw [hu61] at c
            exact OpOk.val (v := .string (bx u61)) (w' := w1) (by go_simp) ⟨rfl, Below.refl _ _⟩
          refine ⟨fun ev w1 hB hc hf hg hr hi => ?_, ?_⟩
          · have e1 : ev (.tmp 61) = .string (bx u61) := hr 61 12 (by kernel_rfl)
            have c := add_s (P := Tryz.prog) u61 [32] (by omega) (by decide) w1
            rw [hu62] at c
            rw [show bx [32] = ⟨#[32]⟩ from rfl] at c
            exact OpOk.val (v := .string (bx u62)) (w' := w1) (by go_simp) ⟨rfl, Below.refl _ _⟩
          refine ⟨fun ev w1 hB hc hf hg hr hi => ?_, ?_⟩
          · have e1 : ev (.tmp 7) = .string (bx TO) := hi 7 (by kernel_rfl)
            exact OpOk.val (v := .string (bx TO)) (w' := w1) (by go_simp) ⟨rfl, Below.refl _ _⟩
          refine ⟨fun ev w1 hB hc hf hg hr hi => ?_, ?_⟩
          · have e1 : ev (.tmp 62) = .string (bx u62) := hr 62 13 (by kernel_rfl)
            have e2 : ev (.tmp 63) = .string (bx TO) := hr 63 14 (by kernel_rfl)
            have c := add_s (P := Tryz.prog) u62 TO (by omega) (by omega) w1
            rw [hu64] at c
            exact OpOk.val (v := .string (bx u64)) (w' := w1) (by go_simp) ⟨rfl, Below.refl _ _⟩
          refine ⟨fun ev w1 hB hc hf hg hr hi => ?_, ?_⟩
          · have e1 : ev (.tmp 64) = .string (bx u64) := hr 64 15 (by kernel_rfl)
            have c := add_s (P := Tryz.prog) u64 [32, 45, 32] (by omega) (by decide) w1
            rw [hu65] at c
            rw [show bx [32, 45, 32] = ⟨#[32, 45, 32]⟩ from rfl] at c
            exact OpOk.val (v := .string (bx u65)) (w' := w1) (by go_simp) ⟨rfl, Below.refl _ _⟩
          refine ⟨fun ev w1 hB hc hf hg hr hi => ?_, ?_⟩
          · have e1 : ev (.tmp 5) = .pointer (some ⟨g5, 0, none⟩) := hi 5 (by kernel_rfl)
            exact OpOk.val (v := .pointer (some ⟨g5, 2, none⟩)) (w' := w1) (by go_simp) ⟨rfl, Below.refl _ _⟩
          refine ⟨fun ev w1 hB hc hf hg hr hi => ?_, ?_⟩
          · have e1 : ev (.tmp 66) = .pointer (some ⟨g5, 2, none⟩) := hr 66 17 (by kernel_rfl)
            have hx := box_at X8.out hB
            have y0 := hx.cell 0
            have y1 := hx.cell 1
            have y2 := hx.cell 2
            have y3 := hx.cell 3
            have z := hx.lt
            simp only [rzA, List.getElem?_toArray, List.getElem?_cons_zero, List.getElem?_cons_succ] at y0 y1 y2 y3
            exact OpOk.val (v := .int .i64 (x.rb)) (w' := w1) (by go_simp) ⟨rfl, Below.refl _ _⟩
          refine ⟨fun ev w1 hB hc hf hg hr hi => ?_, ?_⟩
          · have e1 : ev (.tmp 67) = .int .i64 (x.rb) := hr 67 18 (by kernel_rfl)
            exact OpOk.call (f := 41) (args := #[.int .i64 x.rb]) (w' := w1) (by go_simp) ((HMO.out w1).mono fun e w2 ⟨he, hw⟩ => ⟨_, he, rfl, hw⟩)
          refine ⟨fun ev w1 hB hc hf hg hr hi => ?_, ?_⟩
          · have e1 : ev (.tmp 65) = .string (bx u65) := hr 65 16 (by kernel_rfl)
            have e2 : ev (.tmp 68) = .string (bx MO) := hr 68 19 (by kernel_rfl)
            have c := add_s (P := Tryz.prog) u65 MO (by omega) (by omega) w1
            rw [hu69] at c
            exact OpOk.val (v := .string (bx u69)) (w' := w1) (by go_simp) ⟨rfl, Below.refl _ _⟩
          refine ⟨fun ev w1 hB hc hf hg hr hi => ?_, ?_⟩
          · have e1 : ev (.tmp 69) = .string (bx u69) := hr 69 20 (by kernel_rfl)
            have c := add_s (P := Tryz.prog) u69 [32] (by omega) (by decide) w1
            rw [hu70] at c
            rw [show bx [32] = ⟨#[32]⟩ from rfl] at c
            exact OpOk.val (v := .string (bx u70)) (w' := w1) (by go_simp) ⟨rfl, Below.refl _ _⟩
          refine ⟨fun ev w1 hB hc hf hg hr hi => ?_, ?_⟩
          · have e1 : ev (.tmp 5) = .pointer (some ⟨g5, 0, none⟩) := hi 5 (by kernel_rfl)
            exact OpOk.val (v := .pointer (some ⟨g5, 3, none⟩)) (w' := w1) (by go_simp) ⟨rfl, Below.refl _ _⟩
          refine ⟨fun ev w1 hB hc hf hg hr hi => ?_, ?_⟩
          · have e1 : ev (.tmp 71) = .pointer (some ⟨g5, 3, none⟩) := hr 71 22 (by kernel_rfl)
            have hx := box_at X8.out hB
            have y0 := hx.cell 0
            have y1 := hx.cell 1
            have y2 := hx.cell 2
            have y3 := hx.cell 3
            have z := hx.lt
            simp only [rzA, List.getElem?_toArray, List.getElem?_cons_zero, List.getElem?_cons_succ] at y0 y1 y2 y3
            exact OpOk.val (v := .int .i64 (x.rc)) (w' := w1) (by go_simp) ⟨rfl, Below.refl _ _⟩
          refine ⟨fun ev w1 hB hc hf hg hr hi => ?_, ?_⟩
          · have e1 : ev (.tmp 72) = .int .i64 (x.rc) := hr 72 23 (by kernel_rfl)
            exact OpOk.call (f := 42) (args := #[.int .i64 x.rc]) (w' := w1) (by go_simp) ((HDA.out w1 (HT9.out.below hB)).mono fun e w2 ⟨he, hw⟩ => ⟨_, he, rfl, hw⟩)
          refine ⟨fun ev w1 hB hc hf hg hr hi => ?_, ?_⟩
          · have e1 : ev (.tmp 70) = .string (bx u70) := hr 70 21 (by kernel_rfl)
            have e2 : ev (.tmp 73) = .string (bx DA) := hr 73 24 (by kernel_rfl)
            have c := add_s (P := Tryz.prog) u70 DA (by omega) (by omega) w1
            rw [hu74] at c
            exact OpOk.val (v := .string (bx u74)) (w' := w1) (by go_simp) ⟨rfl, Below.refl _ _⟩
          refine ⟨fun ev w1 hB hc hf hg hr hi => ?_, ?_⟩
          · have e1 : ev (.tmp 74) = .string (bx u74) := hr 74 25 (by kernel_rfl)
            have c := add_s (P := Tryz.prog) u74 [32] (by omega) (by decide) w1
            rw [hu75] at c
            rw [show bx [32] = ⟨#[32]⟩ from rfl] at c
            exact OpOk.val (v := .string (bx u75)) (w' := w1) (by go_simp) ⟨rfl, Below.refl _ _⟩
          refine ⟨fun ev w1 hB hc hf hg hr hi => ?_, ?_⟩
          · have e1 : ev (.tmp 5) = .pointer (some ⟨g5, 0, none⟩) := hi 5 (by kernel_rfl)
            exact OpOk.val (v := .pointer (some ⟨g5, 1, none⟩)) (w' := w1) (by go_simp) ⟨rfl, Below.refl _ _⟩
          refine ⟨fun ev w1 hB hc hf hg hr hi => ?_, ?_⟩
          · have e1 : ev (.tmp 76) = .pointer (some ⟨g5, 1, none⟩) := hr 76 27 (by kernel_rfl)
            have hx := box_at X8.out hB
            have y0 := hx.cell 0
            have y1 := hx.cell 1
            have y2 := hx.cell 2
            have y3 := hx.cell 3
            have z := hx.lt
            simp only [rzA, List.getElem?_toArray, List.getElem?_cons_zero, List.getElem?_cons_succ] at y0 y1 y2 y3
            exact OpOk.val (v := .int .i64 (x.ra)) (w' := w1) (by go_simp) ⟨rfl, Below.refl _ _⟩
          refine ⟨fun ev w1 hB hc hf hg hr hi => ?_, ?_⟩
          · have e1 : ev (.tmp 77) = .int .i64 (x.ra) := hr 77 28 (by kernel_rfl)
            exact OpOk.call (f := 43) (args := #[.int .i64 x.ra]) (w' := w1) (by go_simp) ((HHR.out w1 (HT9.out.below hB)).mono fun e w2 ⟨he, hw⟩ => ⟨_, he, rfl, hw⟩)
          refine ⟨fun ev w1 hB hc hf hg hr hi => ?_, ?_⟩
          · have e1 : ev (.tmp 75) = .string (bx u75) := hr 75 26 (by kernel_rfl)
            have e2 : ev (.tmp 78) = .string (bx HR) := hr 78 29 (by kernel_rfl)
            have c := add_s (P := Tryz.prog) u75 HR (by omega) (by omega) w1
            rw [hu79] at c
            exact OpOk.val (v := .string (bx u79)) (w' := w1) (by go_simp) ⟨rfl, Below.refl _ _⟩
          refine ⟨fun ev w1 hB hc hf hg hr hi => ?_, ?_⟩
          · exact OpOk.val (v := .slice (some ⟨w1.heap.size, 0, none⟩) 4 4) (w' := w1.alloc (.cells #[.string ⟨#[]⟩, .string ⟨#[119]⟩, .string ⟨#[115]⟩, .string ⟨#[117]⟩] 9)) (by go_simp) ⟨⟨_, rfl, BxO.new _ _ _⟩, (Below.refl _ _).alloc (Nat.le_refl _) _⟩
          refine ⟨fun ev w1 hB hc hf hg hr hi => ?_, ?_⟩
          · have e1 : ev (.tmp 5) = .pointer (some ⟨g5, 0, none⟩) := hi 5 (by kernel_rfl)
            exact OpOk.val (v := .pointer (some ⟨g5, 1, none⟩)) (w' := w1) (by go_simp) ⟨rfl, Below.refl _ _⟩
          refine ⟨fun ev w1 hB hc hf hg hr hi => ?_, ?_⟩
          · have e1 : ev (.tmp 81) = .pointer (some ⟨g5, 1, none⟩) := hr 81 32 (by kernel_rfl)
            have hx := box_at X8.out hB
            have y0 := hx.cell 0
            have y1 := hx.cell 1
            have y2 := hx.cell 2
            have y3 := hx.cell 3
            have z := hx.lt
            simp only [rzA, List.getElem?_toArray, List.getElem?_cons_zero, List.getElem?_cons_succ] at y0 y1 y2 y3
            exact OpOk.val (v := .int .i64 (x.ra)) (w' := w1) (by go_simp) ⟨rfl, Below.refl _ _⟩
          refine ⟨fun ev w1 hB hc hf hg hr hi => ?_, ?_⟩
          · have e1 : ev (.tmp 82) = .int .i64 (x.ra) := hr 82 33 (by kernel_rfl)
            exact OpOk.call (f := 12) (args := #[.int .i64 x.ra, .int .i64 4]) (w' := w1) (by go_simp) ((HPK4.out w1).mono fun e w2 ⟨he, hw⟩ => ⟨_, he, rfl, by subst hw; exact Below.refl _ _⟩)
          refine ⟨fun ev w1 hB hc hf hg hr hi => ?_, ?_⟩
          · obtain ⟨g1, e1, x1⟩ := hr 80 31 (by kernel_rfl)
            have e2 : ev (.tmp 83) = .int .i64 ((k4 : Int)) := hr 83 34 (by kernel_rfl)
            exact OpOk.val (v := .pointer (some ⟨g1, k4, none⟩)) (w' := w1) (by go_simp) ⟨⟨g1, rfl, x1⟩, Below.refl _ _⟩
          refine ⟨fun ev w1 hB hc hf hg hr hi => ?_, ?_⟩
          · obtain ⟨g1, e1, x1⟩ := hr 84 35 (by kernel_rfl)
            have y := row_cell x1 hk4
            rw [hSF] at y
            have z := BxO.lt x1
            exact OpOk.val (v := .string (bx SF)) (w' := w1) (by go_simp) ⟨rfl, Below.refl _ _⟩
          refine ⟨fun ev w1 hB hc hf hg hr hi => ?_, ?_⟩
          · have e1 : ev (.tmp 79) = .string (bx u79) := hr 79 30 (by kernel_rfl)
            have e2 : ev (.tmp 85) = .string (bx SF) := hr 85 36 (by kernel_rfl)
            have c := add_s (P := Tryz.prog) u79 SF (by omega) (by omega) w1
            rw [hu86] at c
            exact OpOk.val (v := .string (bx u86)) (w' := w1) (by go_simp) ⟨rfl, Below.refl _ _⟩
          refine ⟨fun ev w1 hB hc hf hg hr hi => ?_, ?_⟩
          · have e1 : ev (.tmp 86) = .string (bx u86) := hr 86 37 (by kernel_rfl)
            have c := add_s (P := Tryz.prog) u86 [32] (by omega) (by decide) w1
            rw [hu87] at c
            rw [show bx [32] = ⟨#[32]⟩ from rfl] at c
            exact OpOk.val (v := .string (bx u87)) (w' := w1) (by go_simp) ⟨rfl, Below.refl _ _⟩
          refine ⟨fun ev w1 hB hc hf hg hr hi => ?_, ?_⟩
          · have e1 : ev (.tmp 8) = .string (bx SV) := hi 8 (by kernel_rfl)
            exact OpOk.val (v := .string (bx SV)) (w' := w1) (by go_simp) ⟨rfl, Below.refl _ _⟩
          refine ⟨fun ev w1 hB hc hf hg hr hi => ?_, ?_⟩
          · have e1 : ev (.tmp 87) = .string (bx u87) := hr 87 38 (by kernel_rfl)
            have e2 : ev (.tmp 88) = .string (bx SV) := hr 88 39 (by kernel_rfl)
            have c := add_s (P := Tryz.prog) u87 SV (by omega) (by omega) w1
            rw [hu89] at c
            exact OpOk.val (v := .string (bx u89)) (w' := w1) (by go_simp) ⟨rfl, Below.refl _ _⟩
          refine ⟨fun ev w1 hB hc hf hg hr hi => ?_, ?_⟩
          · have e1 : ev (.tmp 89) = .string (bx u89) := hr 89 40 (by kernel_rfl)
            have c := add_s (P := Tryz.prog) u89 [32] (by omega) (by decide) w1
            rw [hu90] at c
            rw [show bx [32] = ⟨#[32]⟩ from rfl] at c
            exact OpOk.val (v := .string (bx u90)) (w' := w1) (by go_simp) ⟨rfl, Below.refl _ _⟩
          refine ⟨fun ev w1 hB hc hf hg hr hi => ?_, ?_⟩
          · exact OpOk.val (v := .slice (some ⟨w1.heap.size, 0, none⟩) 4 4) (w' := w1.alloc (.cells #[.string ⟨#[83]⟩, .string ⟨#[45]⟩, .string ⟨#[68]⟩, .string ⟨#[97, 98]⟩] 9)) (by go_simp) ⟨⟨_, rfl, BxO.new _ _ _⟩, (Below.refl _ _).alloc (Nat.le_refl _) _⟩
          refine ⟨fun ev w1 hB hc hf hg hr hi => ?_, ?_⟩
          · have e1 : ev (.tmp 5) = .pointer (some ⟨g5, 0, none⟩) := hi 5 (by kernel_rfl)
            exact OpOk.val (v := .pointer (some ⟨g5, 2, none⟩)) (w' := w1) (by go_simp) ⟨rfl, Below.refl _ _⟩
          refine ⟨fun ev w1 hB hc hf hg hr hi => ?_, ?_⟩
          · have e1 : ev (.tmp 92) = .pointer (some ⟨g5, 2, none⟩) := hr 92 43 (by kernel_rfl)
            have hx := box_at X8.out hB
            have y0 := hx.cell 0
            have y1 := hx.cell 1
            have y2 := hx.cell 2
            have y3 := hx.cell 3
            have z := hx.lt
            simp only [rzA, List.getElem?_toArray, List.getElem?_cons_zero, List.getElem?_cons_succ] at y0 y1 y2 y3
            exact OpOk.val (v := .int .i64 (x.rb)) (w' := w1) (by go_simp) ⟨rfl, Below.refl _ _⟩
          refine ⟨fun ev w1 hB hc hf hg hr hi => ?_, ?_⟩
          · have e1 : ev (.tmp 93) = .int .i64 (x.rb) := hr 93 44 (by kernel_rfl)
            exact OpOk.call (f := 12) (args := #[.int .i64 x.rb, .int .i64 4]) (w' := w1) (by go_simp) ((HPK5.out w1).mono fun e w2 ⟨he, hw⟩ => ⟨_, he, rfl, by subst hw; exact Below.refl _ _⟩)
          refine ⟨fun ev w1 hB hc hf hg hr hi => ?_, ?_⟩
          · obtain ⟨g1, e1, x1⟩ := hr 91 42 (by kernel_rfl)
            have e2 : ev (.tmp 94) = .int .i64 ((k5 : Int)) := hr 94 45 (by kernel_rfl)
            exact OpOk.val (v := .pointer (some ⟨g1, k5, none⟩)) (w' := w1) (by go_simp) ⟨⟨g1, rfl, x1⟩, Below.refl _ _⟩
          refine ⟨fun ev w1 hB hc hf hg hr hi => ?_, ?_⟩
          · obtain ⟨g1, e1, x1⟩ := hr 95 46 (by kernel_rfl)
            have y := row_cell x1 hk5
            rw [hLE] at y
            have z := BxO.lt x1
            exact OpOk.val (v := .string (bx LE)) (w' := w1) (by go_simp) ⟨rfl, Below.refl _ _⟩
          refine ⟨fun ev w1 hB hc hf hg hr hi => ?_, ?_⟩
          · have e1 : ev (.tmp 90) = .string (bx u90) := hr 90 41 (by kernel_rfl)
            have e2 : ev (.tmp 96) = .string (bx LE) := hr 96 47 (by kernel_rfl)
            have c := add_s (P := Tryz.prog) u90 LE (by omega) (by omega) w1
            rw [hu97] at c
            exact OpOk.val (v := .string (bx u97)) (w' := w1) (by go_simp) ⟨rfl, Below.refl _ _⟩
          refine ⟨fun ev w1 hB hc hf hg hr hi => ?_, ?_⟩
          · have e1 : ev (.tmp 97) = .string (bx u97) := hr 97 48 (by kernel_rfl)
            have c := add_s (P := Tryz.prog) u97 [10] (by omega) (by decide) w1
            rw [hu98] at c
            rw [show bx [10] = ⟨#[10]⟩ from rfl] at c
            exact OpOk.val (v := .string (bx u98)) (w' := w1) (by go_simp) ⟨rfl, Below.refl _ _⟩
          refine ⟨fun ev w1 hB hc hf hg hr hi => ?_, ?_⟩
          · have e1 : ev (.tmp 49) = .string (bx S) := hr 49 0 (by kernel_rfl)
            have e2 : ev (.tmp 98) = .string (bx u98) := hr 98 49 (by kernel_rfl)
            have c := add_s (P := Tryz.prog) S u98 (by omega) (by omega) w1
            rw [hu99] at c
            exact OpOk.val (v := .string (bx u99)) (w' := w1) (by go_simp) ⟨rfl, Below.refl _ _⟩
          refine ⟨fun ev w1 hB hc hf hg hr hi => ?_, ?_⟩
          · have e1 : ev (.tmp 99) = .string (bx u99) := hr 99 50 (by kernel_rfl)
            exact OpOk.val (v := .string (bx u99)) (w' := w1) (by go_simp) ⟨rfl, Below.refl _ _⟩
          exact trivial
        case hQ =>
          intro val w9 hB hF
          have e9 : val 51 = .string (bx u99) := hF 51 (by decide)
          simp only [putAll, Act.put, List.setIfInBounds_toArray, List.set_cons_zero, List.set_cons_succ]
          rw [e9]
          clear hF e9
          have B9 : Hid (Below w.heap.size w w9) := B8.out.trans (hB.mono B8.out.size)
          have HSN : Hid (u99 = lnsT ((xs.take (k + 1)).map rulWs)) := by
            show _ = _
            rw [← hu99, HU.out, HSS.out, List.take_add_one, List.getElem?_eq_getElem hlt, List.map_append, HXX.out]
            exact (lnsT_snoc _ _).symm
          have HLN : Hid (u99.length ≤ 300 * (k + 1)) := by show _ ≤ _; have := HSL0.out; rw [← hu99, List.length_append]; omega
          have tw : IntKind.i64.wrap ((k : Int) + 1) = (k : Int) + 1 := IntWalk.i64_in _ (by omega)
          clear hB
          go_wp2_with fail
          go_roundw
          case rel => exact ⟨k + 1, u99, rfl, by go_num, by omega, by omega, HSN, HLN, B9⟩
          case measure => simp [intOf]; omega
    · go_upto_region 3 with fail
      go_cut [20] (fun c wx => c = .bool false ∧ wr = wx)
      case first =>
        by_cases hlt : k < xs.length
        · have hki : (k : Int) < (xs.length : Int) := by omega
          have hk7i : ¬ (k : Int) < 7 := by omega
          clear hlt7
          go_wp2_with fail
          go_meet
          exact ⟨rfl, rfl⟩
        · have hki : ¬ (k : Int) < (xs.length : Int) := by omega
          clear hlt7
          go_wp2_with fail
          go_meet
          exact ⟨rfl, rfl⟩
      case rest =>
        obtain ⟨rfl, rfl⟩ := hcut
        have HS7 : Hid (S = lnsT ((xs.take 7).map rulWs)) := by
          show _ = _
          rw [HSS.out]
          by_cases hk : k = 7
          · rw [hk]
          · rw [List.take_of_length_le (show xs.length ≤ k by omega), List.take_of_length_le (show xs.length ≤ 7 by omega)]
        clear HSS HSL0 hlt7 hk hk7
        go_upto_region 10 with fail
        have HFX : Hid (lnsT fixWs = [82, 117, 108, 101, 32, 69, 85, 32, 49, 57, 56, 48, 32, 109, 97, 120, 32, 45, 32, 77, 97, 114, 32, 108, 97, 115, 116, 83, 117, 110, 32, 49, 58, 48, 48, 117, 32, 49, 58, 48, 48, 32, 83, 10, 82, 117, 108, 101, 32, 69, 85, 32, 49, 57, 56, 48, 32, 109, 97, 120, 32, 45, 32, 79, 99, 116, 32, 108, 97, 115, 116, 83, 117, 110, 32, 49, 58, 48, 48, 117, 32, 48, 32, 45, 10, 82, 117, 108, 101, 32, 85, 83, 32, 49, 57, 54, 55, 32, 50, 48, 48, 54, 32, 45, 32, 65, 112, 114, 32, 83, 117, 110, 62, 61, 49, 32, 50, 58, 48, 48, 32, 49, 58, 48, 48, 32, 68, 10, 82, 117, 108, 101, 32, 85, 83, 32, 49, 57, 54, 55, 32, 50, 48, 48, 54, 32, 45, 32, 79, 99, 116, 32, 108, 97, 115, 116, 83, 117, 110, 32, 50, 58, 48, 48, 32, 48, 32, 83, 10]) := by show _ = _; decide +kernel
        have cf := fun w => add_s (P := Tryz.prog) S [82, 117, 108, 101, 32, 69, 85, 32, 49, 57, 56, 48, 32, 109, 97, 120, 32, 45, 32, 77, 97, 114, 32, 108, 97, 115, 116, 83, 117, 110, 32, 49, 58, 48, 48, 117, 32, 49, 58, 48, 48, 32, 83, 10, 82, 117, 108, 101, 32, 69, 85, 32, 49, 57, 56, 48, 32, 109, 97, 120, 32, 45, 32, 79, 99, 116, 32, 108, 97, 115, 116, 83, 117, 110, 32, 49, 58, 48, 48, 117, 32, 48, 32, 45, 10, 82, 117, 108, 101, 32, 85, 83, 32, 49, 57, 54, 55, 32, 50, 48, 48, 54, 32, 45, 32, 65, 112, 114, 32, 83, 117, 110, 62, 61, 49, 32, 50, 58, 48, 48, 32, 49, 58, 48, 48, 32, 68, 10, 82, 117, 108, 101, 32, 85, 83, 32, 49, 57, 54, 55, 32, 50, 48, 48, 54, 32, 45, 32, 79, 99, 116, 32, 108, 97, 115, 116, 83, 117, 110, 32, 50, 58, 48, 48, 32, 48, 32, 83, 10] (by have := HSL.out; omega) (by decide) w
        obtain ⟨S0, hS0⟩ : ∃ u, S ++ [82, 117, 108, 101, 32, 69, 85, 32, 49, 57, 56, 48, 32, 109, 97, 120, 32, 45, 32, 77, 97, 114, 32, 108, 97, 115, 116, 83, 117, 110, 32, 49, 58, 48, 48, 117, 32, 49, 58, 48, 48, 32, 83, 10, 82, 117, 108, 101, 32, 69, 85, 32, 49, 57, 56, 48, 32, 109, 97, 120, 32, 45, 32, 79, 99, 116, 32, 108, 97, 115, 116, 83, 117, 110, 32, 49, 58, 48, 48, 117, 32, 48, 32, 45, 10, 82, 117, 108, 101, 32, 85, 83, 32, 49, 57, 54, 55, 32, 50, 48, 48, 54, 32, 45, 32, 65, 112, 114, 32, 83, 117, 110, 62, 61, 49, 32, 50, 58, 48, 48, 32, 49, 58, 48, 48, 32, 68, 10, 82, 117, 108, 101, 32, 85, 83, 32, 49, 57, 54, 55, 32, 50, 48, 48, 54, 32, 45, 32, 79, 99, 116, 32, 108, 97, 115, 116, 83, 117, 110, 32, 50, 58, 48, 48, 32, 48, 32, 83, 10] = u := ⟨_, rfl⟩
        rw [hS0, show bx [82, 117, 108, 101, 32, 69, 85, 32, 49, 57, 56, 48, 32, 109, 97, 120, 32, 45, 32, 77, 97, 114, 32, 108, 97, 115, 116, 83, 117, 110, 32, 49, 58, 48, 48, 117, 32, 49, 58, 48, 48, 32, 83, 10, 82, 117, 108, 101, 32, 69, 85, 32, 49, 57, 56, 48, 32, 109, 97, 120, 32, 45, 32, 79, 99, 116, 32, 108, 97, 115, 116, 83, 117, 110, 32, 49, 58, 48, 48, 117, 32, 48, 32, 45, 10, 82, 117, 108, 101, 32, 85, 83, 32, 49, 57, 54, 55, 32, 50, 48, 48, 54, 32, 45, 32, 65, 112, 114, 32, 83, 117, 110, 62, 61, 49, 32, 50, 58, 48, 48, 32, 49, 58, 48, 48, 32, 68, 10, 82, 117, 108, 101, 32, 85, 83, 32, 49, 57, 54, 55, 32, 50, 48, 48, 54, 32, 45, 32, 79, 99, 116, 32, 108, 97, 115, 116, 83, 117, 110, 32, 50, 58, 48, 48, 32, 48, 32, 83, 10] = ⟨#[82, 117, 108, 101, 32, 69, 85, 32, 49, 57, 56, 48, 32, 109, 97, 120, 32, 45, 32, 77, 97, 114, 32, 108, 97, 115, 116, 83, 117, 110, 32, 49, 58, 48, 48, 117, 32, 49, 58, 48, 48, 32, 83, 10, 82, 117, 108, 101, 32, 69, 85, 32, 49, 57, 56, 48, 32, 109, 97, 120, 32, 45, 32, 79, 99, 116, 32, 108, 97, 115, 116, 83, 117, 110, 32, 49, 58, 48, 48, 117, 32, 48, 32, 45, 10, 82, 117, 108, 101, 32, 85, 83, 32, 49, 57, 54, 55, 32, 50, 48, 48, 54, 32, 45, 32, 65, 112, 114, 32, 83, 117, 110, 62, 61, 49, 32, 50, 58, 48, 48, 32, 49, 58, 48, 48, 32, 68, 10, 82, 117, 108, 101, 32, 85, 83, 32, 49, 57, 54, 55, 32, 50, 48, 48, 54, 32, 45, 32, 79, 99, 116, 32, 108, 97, 115, 116, 83, 117, 110, 32, 50, 58, 48, 48, 32, 48, 32, 83, 10]⟩ from rfl] at cf
        have HP0 : Hid (S0 = srcP xs 0) := by
          show _ = _
          rw [← hS0, HS7.out, ← HFX.out]
          unfold srcP lnsT
          rw [List.flatMap_append]
        have HL0 : Hid (S0.length ≤ 2300) := by
          show _ ≤ _
          have := HSL.out
          rw [← hS0, List.length_append]
          have e : ([82, 117, 108, 101, 32, 69, 85, 32, 49, 57, 56, 48, 32, 109, 97, 120, 32, 45, 32, 77, 97, 114, 32, 108, 97, 115, 116, 83, 117, 110, 32, 49, 58, 48, 48, 117, 32, 49, 58, 48, 48, 32, 83, 10, 82, 117, 108, 101, 32, 69, 85, 32, 49, 57, 56, 48, 32, 109, 97, 120, 32, 45, 32, 79, 99, 116, 32, 108, 97, 115, 116, 83, 117, 110, 32, 49, 58, 48, 48, 117, 32, 48, 32, 45, 10, 82, 117, 108, 101, 32, 85, 83, 32, 49, 57, 54, 55, 32, 50, 48, 48, 54, 32, 45, 32, 65, 112, 114, 32, 83, 117, 110, 62, 61, 49, 32, 50, 58, 48, 48, 32, 49, 58, 48, 48, 32, 68, 10, 82, 117, 108, 101, 32, 85, 83, 32, 49, 57, 54, 55, 32, 50, 48, 48, 54, 32, 45, 32, 79, 99, 116, 32, 108, 97, 115, 116, 83, 117, 110, 32, 50, 58, 48, 48, 32, 48, 32, 83, 10] : Wd).length = 169 := by decide
          omega
        clear hS0 HFX HS7 HSL
        go_upto_region 11 with fail
        clear cf
        go_wp2_with fail
        go_loopw [3, 102] (fun vs vz wx => ∃ (z : Nat) (S : Wd), vs = .string (bx S) ∧ vz = .int .i64 z ∧ z ≤ 2 ∧ Hid (S = srcP xs z) ∧ Hid (S.length ≤ 2300 + 1500 * z) ∧ Hid (Below w.heap.size w wx)) (fun _ vz _ => (2 - intOf vz).toNat)
        case atStart => exact ⟨0, S0, rfl, rfl, by omega, HP0, HL0, HB⟩
        case round =>
          clear HP0 HL0 HB
          obtain ⟨z, S1, rfl, rfl, hz, HSS, HSL, HB⟩ := hrel
          by_cases hz2 : z < 2
          · have hzi : (z : Int) < 2 := by omega
            have v4 : IntKind.i64.wrap (4 * (z : Int)) = 4 * (z : Int) := IntWalk.i64_in _ (by omega)
            have v7 : IntKind.i64.wrap (7 + 4 * (z : Int)) = 7 + 4 * (z : Int) := IntWalk.i64_in _ (by omega)
            have v11 : IntKind.i64.wrap (11 + 4 * (z : Int)) = 11 + 4 * (z : Int) := IntWalk.i64_in _ (by omega)
            have v5 : IntKind.i64.wrap (5 * (z : Int)) = 5 * (z : Int) := IntWalk.i64_in _ (by omega)
            have vz1 : IntKind.i64.wrap ((z : Int) + 1) = (z : Int) + 1 := IntWalk.i64_in _ (by omega)
            obtain ⟨ZN, hZN⟩ : ∃ t : Wd, t = if z = 0 then oneWd else twoWd := ⟨_, rfl⟩
            have lZN : ZN.length ≤ 5 := by rw [hZN]; split <;> decide
            obtain ⟨u1, hu1⟩ : ∃ u : Wd, ([90, 111, 110, 101, 32] : Wd) ++ ZN = u := ⟨_, rfl⟩
            obtain ⟨u2, hu2⟩ : ∃ u : Wd, u1 ++ ([32] : Wd) = u := ⟨_, rfl⟩
            obtain ⟨u3, hu3⟩ : ∃ u : Wd, S1 ++ u2 = u := ⟨_, rfl⟩
            have m1 : u1.length ≤ 10 := by rw [← hu1, List.length_append]; simp only [List.length_cons, List.length_nil]; omega
            have m2 : u2.length ≤ 11 := by rw [← hu2, List.length_append]; simp only [List.length_cons, List.length_nil]; omega
            have c1 := fun w => add_s (P := Tryz.prog) [90, 111, 110, 101, 32] ZN (by decide) (by omega) w
            have c2 := fun w => add_s (P := Tryz.prog) u1 [32] (by omega) (by decide) w
            have c3 := fun w => add_s (P := Tryz.prog) S1 u2 (by have := HSL.out; omega) (by omega) w
            rw [hu1, show bx [90, 111, 110, 101, 32] = ⟨#[90, 111, 110, 101, 32]⟩ from rfl] at c1
            rw [hu2, show bx [32] = ⟨#[32]⟩ from rfl] at c2
            rw [hu3] at c3
            have HU3 : Hid (u3 = srcP xs z ++ (([90, 111, 110, 101, 32] : Wd) ++ ZN ++ [32])) := by show _ = _; rw [← hu3, ← hu2, ← hu1, HSS.out]
            have HL3 : Hid (u3.length ≤ 2311 + 1500 * z) := by show _ ≤ _; have := HSL.out; rw [← hu3, List.length_append]; omega
            have HZN := Lib.hid hZN
            go_upto_region 14 with fail
            go_cut [3] (fun vs wx => vs = .string (bx u3) ∧ Hid (Below w.heap.size w wx))
            case first =>
              have hz01 : z = 0 ∨ z = 1 := by omega
              rcases hz01 with rfl | rfl
              · rw [if_pos rfl] at hZN
                have hb : bx ZN = ⟨#[79, 110, 101, 47, 65]⟩ := by rw [hZN]; rfl
                rw [hb] at c1
                clear hZN HZN HU3 hu1 hu2 hu3 HSS
                go_wp2_with fail
                go_meet
                exact ⟨rfl, Lib.hid (HB.out.alloc HB.out.size _)⟩
              · rw [if_neg (by decide)] at hZN
                have hb : bx ZN = ⟨#[84, 119, 111]⟩ := by rw [hZN]; rfl
                rw [hb] at c1
                clear hZN HZN HU3 hu1 hu2 hu3 HSS
                go_wp2_with fail
                go_meet
                exact ⟨rfl, Lib.hid (HB.out.alloc HB.out.size _)⟩
            case rest =>
              obtain ⟨rfl, HB3⟩ := hcut
              clear c1 c2 c3 hZN hu1 hu2 hu3 m1 m2 lZN HB HSL
              go_wp2_with fail
              obtain ⟨L4, hL4⟩ : ∃ l, (xs.drop (7 + 4 * z)).take 4 = l := ⟨_, rfl⟩
              have HL4 := Lib.hid hL4
              have hl4 : L4.length ≤ 4 := by rw [← hL4]; exact List.length_take_le _ _
              have hl4x : 7 + 4 * z + L4.length ≤ xs.length ∨ L4.length = 0 := by rw [← hL4, List.length_take, List.length_drop]; omega
              have hl4m : L4.length < 4 → xs.length ≤ 7 + 4 * z + L4.length := by rw [← hL4, List.length_take, List.length_drop]; omega
              have HL4m := Lib.hid hl4m
              have HL4x := Lib.hid hl4x
              have hl4' := Lib.hid hl4
              clear hL4 hl4m hl4x hl4
              go_loopw [3, 10, 11] (fun vs vy vi wx => ∃ (j i : Nat) (T : Wd), vs = .string (bx T) ∧ vy = .int .i64 (1910 + 30 * (j : Int)) ∧ vi = .int .i64 i ∧ Hid (i = 7 + 4 * z + j) ∧ j ≤ L4.length ∧ Hid (T = u3 ++ lnsT (ersWs (L4.take j) 1910)) ∧ Hid (T.length ≤ 2311 + 1500 * z + 300 * j) ∧ Hid (Below w.heap.size w wx)) (fun _ _ vi _ => (11 + 4 * (z : Int) - intOf vi).toNat)
              case atStart => exact ⟨0, 7 + 4 * z, u3, rfl, rfl, by go_num, rfl, Nat.zero_le _, by show _ = _; simp [ersWs, lnsT], HL3, HB3⟩
              case round =>
                obtain ⟨j, i, T, rfl, rfl, rfl, HIJ, hj, HTT, HTL, HB⟩ := hrel
                clear HB3
                by_cases hj2 : j < L4.length
                · have hj4 : j < 4 := by have := hl4'.out; omega
                  have hlt : i < xs.length := by have := HL4x.out; have := HIJ.out; omega
                  have hki : (i : Int) < (xs.length : Int) := by omega
                  have hkz : (i : Int) < 11 + 4 * (z : Int) := by have := HIJ.out; omega
                  obtain ⟨b, off, e', hbw, HX0, d0, d1, d2, d3⟩ := rz_at HS.out i hlt
                  subst e'
                  obtain ⟨x, hxx⟩ : ∃ x, xs[i] = x := ⟨_, rfl⟩
                  have HX := Lib.hid HX0
                  rw [hxx] at HX d0 d1 d2 d3
                  have q0 := (HB.out.cell (p := ⟨b, off + i * 4, none⟩) hbw).trans d0
                  have q1 := (HB.out.cell (p := ⟨b, off + i * 4 + 1, none⟩) hbw).trans d1
                  have q2 := (HB.out.cell (p := ⟨b, off + i * 4 + 2, none⟩) hbw).trans d2
                  have q3 := (HB.out.cell (p := ⟨b, off + i * 4 + 3, none⟩) hbw).trans d3
                  have HXX := Lib.hid hxx
                  have hbr : b < wr.heap.size := Nat.lt_of_lt_of_le hbw HB.out.size
                  clear HX0 d0 d1 d2 d3 hxx
                  obtain ⟨W5, hW5⟩ : ∃ W5, W5 = wr.alloc (.cells (rzA x) 98) := ⟨_, rfl⟩
                  have X5 : Hid (BxO W5 wr.heap.size (rzA x) 98) := by show BxO _ _ _ _; rw [hW5]; exact BxO.new _ _ _
                  have B5 : Hid (Below w.heap.size w W5) := by show Below _ _ _; rw [hW5]; exact HB.out.alloc HB.out.size _
                  have HW5 : Hid (W5 = wr.alloc (.cells #[.int .i64 x.kd, .int .i64 x.ra, .int .i64 x.rb, .int .i64 x.rc] 98)) := hW5
                  obtain ⟨g5, hg5⟩ : ∃ g, wr.heap.size = g := ⟨_, rfl⟩
                  have HT7 := Lib.hid (HT.out.below B5.out)
                  clear hW5
                  have HP20 := Lib.hid (fun wx => pick_s x.ra 20 wx HX.out.ra (by decide) (by decide))
                  have hp20 := pkz_bd x.ra 20 (by decide)
                  obtain ⟨p20, hp⟩ : ∃ n, pkz x.ra 20 = n := ⟨_, rfl⟩
                  rw [hp] at HP20 hp20
                  have wy : IntKind.i64.wrap (1910 + 30 * (j : Int) + p20) = 1910 + 30 * (j : Int) + p20 := IntWalk.i64_in _ (by omega)
                  have ty : IntKind.i64.wrap (1910 + 30 * (j : Int) + 30) = 1910 + 30 * (j : Int) + 30 := IntWalk.i64_in _ (by omega)
                  have HKE : Hid (∀ wx, Calls Tryz.prog 44 #[.agg #[.int .i64 x.kd, .int .i64 x.ra, .int .i64 x.rb, .int .i64 x.rc]] wx fun e w' => e = .returned (.string (bx (joinT (eraWs x)))) ∧ Below wx.heap.size wx w') := fun wx => kera_s x wx HX.out
                  have iYY : I6 (1910 + 30 * (j : Int) + p20) := I6.small (by omega) (by omega)
                  have HYY := Lib.hid (fun wx (h : PwT wx) => itoa_s (1910 + 30 * (j : Int) + p20) wx iYY h)
                  have HMO := Lib.hid (fun wx => month_s x.rc wx HX.out.rc)
                  have HDA := Lib.hid (fun wx (h : PwT wx) => day_s x.ra wx HX.out.ra h)
                  have HHR := Lib.hid (fun wx (h : PwT wx) => hours_s x.rb wx HX.out.rb h)
                  have lEW := ew_le x
                  have lYY := itoa_le iYY
                  have lMO := mon_le x.rc
                  have lDA := day_le x.ra
                  have lHR := hrs_le x.rb
                  have HJ : Hid (joinT (eraWs x ++ untWs x (1910 + 30 * (j : Int))) = joinT (eraWs x) ++ 32 :: (Lib.itoa (1910 + 30 * (j : Int) + p20) ++ 32 :: (monT x.rc ++ 32 :: (dayT x.ra ++ 32 :: hrsT x.rb)))) := by
                    show _ = _
                    rw [← hp]
                    show picL offL _ ++ 32 :: (picL rlsL _ ++ 32 :: (picL fmtT _ ++ 32 :: _)) = (picL offL _ ++ 32 :: (picL rlsL _ ++ 32 :: picL fmtT _)) ++ 32 :: _
                    simp [joinT]
                  obtain ⟨EW, hEW⟩ : ∃ t, joinT (eraWs x) = t := ⟨_, rfl⟩
                  obtain ⟨YY, hYY⟩ : ∃ t, Lib.itoa (1910 + 30 * (j : Int) + p20) = t := ⟨_, rfl⟩
                  obtain ⟨MO, hMO⟩ : ∃ t, monT x.rc = t := ⟨_, rfl⟩
                  obtain ⟨DA, hDA⟩ : ∃ t, dayT x.ra = t := ⟨_, rfl⟩
                  obtain ⟨HR, hHR⟩ : ∃ t, hrsT x.rb = t := ⟨_, rfl⟩
                  rw [hEW] at HKE lEW HJ
                  rw [hYY] at HYY lYY HJ
                  rw [hMO] at HMO lMO HJ
                  rw [hDA] at HDA lDA HJ
                  rw [hHR] at HHR lHR HJ
                  have lT : T.length ≤ 6000 := by have := HTL.out; omega
                  obtain ⟨u136, hu136⟩ : ∃ u : Wd, (EW : Wd) ++ ([32] : Wd) = u := ⟨_, rfl⟩
                  have mu136 : u136.length ≤ 64 := by
                    rw [← hu136, List.length_append]
                    try simp only [List.length_cons, List.length_nil]
                    omega
                  obtain ⟨u143, hu143⟩ : ∃ u : Wd, (u136 : Wd) ++ (YY : Wd) = u := ⟨_, rfl⟩
                  have mu143 : u143.length ≤ 85 := by
                    rw [← hu143, List.length_append]
                    try simp only [List.length_cons, List.length_nil]
                    omega
                  obtain ⟨u144, hu144⟩ : ∃ u : Wd, (u143 : Wd) ++ ([32] : Wd) = u := ⟨_, rfl⟩
                  have mu144 : u144.length ≤ 86 := by
                    rw [← hu144, List.length_append]
                    try simp only [List.length_cons, List.length_nil]
                    omega
                  obtain ⟨u148, hu148⟩ : ∃ u : Wd, (u144 : Wd) ++ (MO : Wd) = u := ⟨_, rfl⟩
                  have mu148 : u148.length ≤ 106 := by
                    rw [← hu148, List.length_append]
                    try simp only [List.length_cons, List.length_nil]
                    omega
                  obtain ⟨u149, hu149⟩ : ∃ u : Wd, (u148 : Wd) ++ ([32] : Wd) = u := ⟨_, rfl⟩
                  have mu149 : u149.length ≤ 107 := by
                    rw [← hu149, List.length_append]
                    try simp only [List.length_cons, List.length_nil]
                    omega
                  obtain ⟨u153, hu153⟩ : ∃ u : Wd, (u149 : Wd) ++ (DA : Wd) = u := ⟨_, rfl⟩
                  have mu153 : u153.length ≤ 127 := by
                    rw [← hu153, List.length_append]
                    try simp only [List.length_cons, List.length_nil]
                    omega
                  obtain ⟨u154, hu154⟩ : ∃ u : Wd, (u153 : Wd) ++ ([32] : Wd) = u := ⟨_, rfl⟩
                  have mu154 : u154.length ≤ 128 := by
                    rw [← hu154, List.length_append]
                    try simp only [List.length_cons, List.length_nil]
                    omega
                  obtain ⟨u158, hu158⟩ : ∃ u : Wd, (u154 : Wd) ++ (HR : Wd) = u := ⟨_, rfl⟩
                  have mu158 : u158.length ≤ 148 := by
                    rw [← hu158, List.length_append]
                    try simp only [List.length_cons, List.length_nil]
                    omega
                  obtain ⟨u159, hu159⟩ : ∃ u : Wd, (u158 : Wd) ++ ([10] : Wd) = u := ⟨_, rfl⟩
                  have mu159 : u159.length ≤ 149 := by
                    rw [← hu159, List.length_append]
                    try simp only [List.length_cons, List.length_nil]
                    omega
                  obtain ⟨u160, hu160⟩ : ∃ u : Wd, (T : Wd) ++ (u159 : Wd) = u := ⟨_, rfl⟩
                  have mu160 : u160.length ≤ 6149 := by
                    rw [← hu160, List.length_append]
                    try simp only [List.length_cons, List.length_nil]
                    omega
                  have HU : Hid (u159 = joinT (eraWs x ++ untWs x (1910 + 30 * (j : Int))) ++ [10]) := by
                    show _ = _
                    rw [HJ.out, ← hu159, ← hu158, ← hu154, ← hu153, ← hu149, ← hu148, ← hu144, ← hu143, ← hu136]
                    simp
                  clear hp hEW hYY hMO hDA hHR
                  go_upto_region 20 with (refine wpList_store_row rfl 98 _ _ rfl wr.heap.size #[.int .i64 x.kd, .int .i64 x.ra, .int .i64 x.rb, .int .i64 x.rc] rfl rfl 98 _ (World.alloc_heap_new wr _) (by kernel_rfl) rfl (by simp [Value.oneCell']) ?_; rw [World.setRow_alloc_new])
                  rw [← HW5.out]
                  clear HW5 q0 q1 q2 q3 hbr
                  rw [hg5] at X5
                  refine wp_region_free (fun i v w => (([.eq (.string (bx T)), .eq (.agg #[.int .i64 x.kd, .int .i64 x.ra, .int .i64 x.rb, .int .i64 x.rc]), .eq (.string (bx EW)), .eq (.string (bx u136)), .eq (.int .i64 (1910 + 30 * (j : Int))), .eq (.pointer (some ⟨g5, 1, none⟩)), .eq (.int .i64 (x.ra)), .eq (.int .i64 (p20)), .eq (.int .i64 (1910 + 30 * (j : Int) + p20)), .eq (.string (bx YY)), .eq (.string (bx u143)), .eq (.string (bx u144)), .eq (.pointer (some ⟨g5, 3, none⟩))] ++ [.eq (.int .i64 (x.rc)), .eq (.string (bx MO)), .eq (.string (bx u148)), .eq (.string (bx u149)), .eq (.pointer (some ⟨g5, 1, none⟩)), .eq (.int .i64 (x.ra)), .eq (.string (bx DA)), .eq (.string (bx u153)), .eq (.string (bx u154)), .eq (.pointer (some ⟨g5, 2, none⟩)), .eq (.int .i64 (x.rb)), .eq (.string (bx HR)), .eq (.string (bx u158))] ++ [.eq (.string (bx u159)), .eq (.string (bx u160)), .eq (.string (bx u160))] : List Pd).getD i .any).is v w) (by kernel_rfl) 177 rfl (by kernel_rfl) (fun i v w w' h hb => Pd.stb h hb) ?hop ?hQ
                  case hop =>
                    refine ⟨fun ev w1 hB hc hf hg hr hi => ?_, ?_⟩
                    · have e1 : ev (.tmp 3) = .string (bx T) := hi 3 (by kernel_rfl)
                      exact OpOk.val (v := .string (bx T)) (w' := w1) (by go_simp) ⟨rfl, Below.refl _ _⟩
                    refine ⟨fun ev w1 hB hc hf hg hr hi => ?_, ?_⟩
                    · have e1 : ev (.tmp 12) = .pointer (some ⟨g5, 0, none⟩) := hi 12 (by kernel_rfl)
                      have hx := box_at X5.out hB
                      have y0 := hx.cell 0
                      have y1 := hx.cell 1
                      have y2 := hx.cell 2
                      have y3 := hx.cell 3
                      have z := hx.lt
                      simp only [rzA, List.getElem?_toArray, List.getElem?_cons_zero, List.getElem?_cons_succ] at y0 y1 y2 y3
                      exact OpOk.val (v := .agg #[.int .i64 x.kd, .int .i64 x.ra, .int .i64 x.rb, .int .i64 x.rc]) (w' := w1) (by go_simp) ⟨rfl, Below.refl _ _⟩
                    refine ⟨fun ev w1 hB hc hf hg hr hi => ?_, ?_⟩
                    · have e1 : ev (.tmp 134) = .agg #[.int .i64 x.kd, .int .i64 x.ra, .int .i64 x.rb, .int .i64 x.rc] := hr 134 1 (by kernel_rfl)
                      exact OpOk.call (f := 44) (args := #[.agg #[.int .i64 x.kd, .int .i64 x.ra, .int .i64 x.rb, .int .i64 x.rc]]) (w' := w1) (by go_simp) ((HKE.out w1).mono fun e w2 ⟨he, hw⟩ => ⟨_, he, rfl, hw⟩)
                    refine ⟨fun ev w1 hB hc hf hg hr hi => ?_, ?_⟩
                    · have e1 : ev (.tmp 135) = .string (bx EW) := hr 135 2 (by kernel_rfl)
                      have c := add_s (P := Tryz.prog) EW [32] (by omega) (by decide) w1
                      rw [hu136] at c
                      rw [show bx [32] = ⟨#[32]⟩ from rfl] at c
                      exact OpOk.val (v := .string (bx u136)) (w' := w1) (by go_simp) ⟨rfl, Below.refl _ _⟩
                    refine ⟨fun ev w1 hB hc hf hg hr hi => ?_, ?_⟩
                    · have e1 : ev (.tmp 10) = .int .i64 (1910 + 30 * (j : Int)) := hi 10 (by kernel_rfl)
                      exact OpOk.val (v := .int .i64 (1910 + 30 * (j : Int))) (w' := w1) (by go_simp) ⟨rfl, Below.refl _ _⟩
                    refine ⟨fun ev w1 hB hc hf hg hr hi => ?_, ?_⟩
                    · have e1 : ev (.tmp 12) = .pointer (some ⟨g5, 0, none⟩) := hi 12 (by kernel_rfl)
                      exact OpOk.val (v := .pointer (some ⟨g5, 1, none⟩)) (w' := w1) (by go_simp) ⟨rfl, Below.refl _ _⟩
                    refine ⟨fun ev w1 hB hc hf hg hr hi => ?_, ?_⟩
                    · have e1 : ev (.tmp 138) = .pointer (some ⟨g5, 1, none⟩) := hr 138 5 (by kernel_rfl)
                      have hx := box_at X5.out hB
                      have y0 := hx.cell 0
                      have y1 := hx.cell 1
                      have y2 := hx.cell 2
                      have y3 := hx.cell 3
                      have z := hx.lt
                      simp only [rzA, List.getElem?_toArray, List.getElem?_cons_zero, List.getElem?_cons_succ] at y0 y1 y2 y3
                      exact OpOk.val (v := .int .i64 (x.ra)) (w' := w1) (by go_simp) ⟨rfl, Below.refl _ _⟩
                    refine ⟨fun ev w1 hB hc hf hg hr hi => ?_, ?_⟩
                    · have e1 : ev (.tmp 139) = .int .i64 (x.ra) := hr 139 6 (by kernel_rfl)
                      exact OpOk.call (f := 12) (args := #[.int .i64 x.ra, .int .i64 20]) (w' := w1) (by go_simp) ((HP20.out w1).mono fun e w2 ⟨he, hw⟩ => ⟨_, he, rfl, by subst hw; exact Below.refl _ _⟩)
                    refine ⟨fun ev w1 hB hc hf hg hr hi => ?_, ?_⟩
                    · have e1 : ev (.tmp 137) = .int .i64 (1910 + 30 * (j : Int)) := hr 137 4 (by kernel_rfl)
                      have e2 : ev (.tmp 140) = .int .i64 (p20) := hr 140 7 (by kernel_rfl)
                      exact OpOk.val (v := .int .i64 (1910 + 30 * (j : Int) + p20)) (w' := w1) (by go_simp) ⟨rfl, Below.refl _ _⟩
                    refine ⟨fun ev w1 hB hc hf hg hr hi => ?_, ?_⟩
                    · have e1 : ev (.tmp 141) = .int .i64 (1910 + 30 * (j : Int) + p20) := hr 141 8 (by kernel_rfl)
                      exact OpOk.call (f := 40) (args := #[.int .i64 (1910 + 30 * (j : Int) + p20)]) (w' := w1) (by go_simp) ((HYY.out w1 (HT7.out.below hB)).mono fun e w2 ⟨he, hw⟩ => ⟨_, he, rfl, hw⟩)
                    refine ⟨fun ev w1 hB hc hf hg hr hi => ?_, ?_⟩
                    · have e1 : ev (.tmp 136) = .string (bx u136) := hr 136 3 (by kernel_rfl)
                      have e2 : ev (.tmp 142) = .string (bx YY) := hr 142 9 (by kernel_rfl)
                      have c := add_s (P := Tryz.prog) u136 YY (by omega) (by omega) w1
                      rw [hu143] at c
                      exact OpOk.val (v := .string (bx u143)) (w' := w1) (by go_simp) ⟨rfl, Below.refl _ _⟩
                    refine ⟨fun ev w1 hB hc hf hg hr hi => ?_, ?_⟩
                    · have e1 : ev (.tmp 143) = .string (bx u143) := hr 143 10 (by kernel_rfl)
                      have c := add_s (P := Tryz.prog) u143 [32] (by omega) (by decide) w1
                      rw [hu144] at c
                      rw [show bx [32] = ⟨#[32]⟩ from rfl] at c
                      exact OpOk.val (v := .string (bx u144)) (w' := w1) (by go_simp) ⟨rfl, Below.refl _ _⟩
                    refine ⟨fun ev w1 hB hc hf hg hr hi => ?_, ?_⟩
                    · have e1 : ev (.tmp 12) = .pointer (some ⟨g5, 0, none⟩) := hi 12 (by kernel_rfl)
                      exact OpOk.val (v := .pointer (some ⟨g5, 3, none⟩)) (w' := w1) (by go_simp) ⟨rfl, Below.refl _ _⟩
                    refine ⟨fun ev w1 hB hc hf hg hr hi => ?_, ?_⟩
                    · have e1 : ev (.tmp 145) = .pointer (some ⟨g5, 3, none⟩) := hr 145 12 (by kernel_rfl)
                      have hx := box_at X5.out hB
                      have y0 := hx.cell 0
                      have y1 := hx.cell 1
                      have y2 := hx.cell 2
                      have y3 := hx.cell 3
                      have z := hx.lt
                      simp only [rzA, List.getElem?_toArray, List.getElem?_cons_zero, List.getElem?_cons_succ] at y0 y1 y2 y3
                      exact OpOk.val (v := .int .i64 (x.rc)) (w' := w1) (by go_simp) ⟨rfl, Below.refl _ _⟩
                    refine ⟨fun ev w1 hB hc hf hg hr hi => ?_, ?_⟩
                    · have e1 : ev (.tmp 146) = .int .i64 (x.rc) := hr 146 13 (by kernel_rfl)
                      exact OpOk.call (f := 41) (args := #[.int .i64 x.rc]) (w' := w1) (by go_simp) ((HMO.out w1).mono fun e w2 ⟨he, hw⟩ => ⟨_, he, rfl, hw⟩)
                    refine ⟨fun ev w1 hB hc hf hg hr hi => ?_, ?_⟩
                    · have e1 : ev (.tmp 144) = .string (bx u144) := hr 144 11 (by kernel_rfl)
                      have e2 : ev (.tmp 147) = .string (bx MO) := hr 147 14 (by kernel_rfl)
                      have c := add_s (P := Tryz.prog) u144 MO (by omega) (by omega) w1
                      rw [hu148] at c
                      exact OpOk.val (v := .string (bx u148)) (w' := w1) (by go_simp) ⟨rfl, Below.refl _ _⟩
                    refine ⟨fun ev w1 hB hc hf hg hr hi => ?_, ?_⟩
                    · have e1 : ev (.tmp 148) = .string (bx u148) := hr 148 15 (by kernel_rfl)
                      have c := add_s (P := Tryz.prog) u148 [32] (by omega) (by decide) w1
                      rw [hu149] at c
                      rw [show bx [32] = ⟨#[32]⟩ from rfl] at c
                      exact OpOk.val (v := .string (bx u149)) (w' := w1) (by go_simp) ⟨rfl, Below.refl _ _⟩
                    refine ⟨fun ev w1 hB hc hf hg hr hi => ?_, ?_⟩
                    · have e1 : ev (.tmp 12) = .pointer (some ⟨g5, 0, none⟩) := hi 12 (by kernel_rfl)
                      exact OpOk.val (v := .pointer (some ⟨g5, 1, none⟩)) (w' := w1) (by go_simp) ⟨rfl, Below.refl _ _⟩
                    refine ⟨fun ev w1 hB hc hf hg hr hi => ?_, ?_⟩
                    · have e1 : ev (.tmp 150) = .pointer (some ⟨g5, 1, none⟩) := hr 150 17 (by kernel_rfl)
                      have hx := box_at X5.out hB
                      have y0 := hx.cell 0
                      have y1 := hx.cell 1
                      have y2 := hx.cell 2
                      have y3 := hx.cell 3
                      have z := hx.lt
                      simp only [rzA, List.getElem?_toArray, List.getElem?_cons_zero, List.getElem?_cons_succ] at y0 y1 y2 y3
                      exact OpOk.val (v := .int .i64 (x.ra)) (w' := w1) (by go_simp) ⟨rfl, Below.refl _ _⟩
                    refine ⟨fun ev w1 hB hc hf hg hr hi => ?_, ?_⟩
                    · have e1 : ev (.tmp 151) = .int .i64 (x.ra) := hr 151 18 (by kernel_rfl)
                      exact OpOk.call (f := 42) (args := #[.int .i64 x.ra]) (w' := w1) (by go_simp) ((HDA.out w1 (HT7.out.below hB)).mono fun e w2 ⟨he, hw⟩ => ⟨_, he, rfl, hw⟩)
                    refine ⟨fun ev w1 hB hc hf hg hr hi => ?_, ?_⟩
                    · have e1 : ev (.tmp 149) = .string (bx u149) := hr 149 16 (by kernel_rfl)
                      have e2 : ev (.tmp 152) = .string (bx DA) := hr 152 19 (by kernel_rfl)
                      have c := add_s (P := Tryz.prog) u149 DA (by omega) (by omega) w1
                      rw [hu153] at c
                      exact OpOk.val (v := .string (bx u153)) (w' := w1) (by go_simp) ⟨rfl, Below.refl _ _⟩
                    refine ⟨fun ev w1 hB hc hf hg hr hi => ?_, ?_⟩
                    · have e1 : ev (.tmp 153) = .string (bx u153) := hr 153 20 (by kernel_rfl)
                      have c := add_s (P := Tryz.prog) u153 [32] (by omega) (by decide) w1
                      rw [hu154] at c
                      rw [show bx [32] = ⟨#[32]⟩ from rfl] at c
                      exact OpOk.val (v := .string (bx u154)) (w' := w1) (by go_simp) ⟨rfl, Below.refl _ _⟩
                    refine ⟨fun ev w1 hB hc hf hg hr hi => ?_, ?_⟩
                    · have e1 : ev (.tmp 12) = .pointer (some ⟨g5, 0, none⟩) := hi 12 (by kernel_rfl)
                      exact OpOk.val (v := .pointer (some ⟨g5, 2, none⟩)) (w' := w1) (by go_simp) ⟨rfl, Below.refl _ _⟩
                    refine ⟨fun ev w1 hB hc hf hg hr hi => ?_, ?_⟩
                    · have e1 : ev (.tmp 155) = .pointer (some ⟨g5, 2, none⟩) := hr 155 22 (by kernel_rfl)
                      have hx := box_at X5.out hB
                      have y0 := hx.cell 0
                      have y1 := hx.cell 1
                      have y2 := hx.cell 2
                      have y3 := hx.cell 3
                      have z := hx.lt
                      simp only [rzA, List.getElem?_toArray, List.getElem?_cons_zero, List.getElem?_cons_succ] at y0 y1 y2 y3
                      exact OpOk.val (v := .int .i64 (x.rb)) (w' := w1) (by go_simp) ⟨rfl, Below.refl _ _⟩
                    refine ⟨fun ev w1 hB hc hf hg hr hi => ?_, ?_⟩
                    · have e1 : ev (.tmp 156) = .int .i64 (x.rb) := hr 156 23 (by kernel_rfl)
                      exact OpOk.call (f := 43) (args := #[.int .i64 x.rb]) (w' := w1) (by go_simp) ((HHR.out w1 (HT7.out.below hB)).mono fun e w2 ⟨he, hw⟩ => ⟨_, he, rfl, hw⟩)
                    refine ⟨fun ev w1 hB hc hf hg hr hi => ?_, ?_⟩
                    · have e1 : ev (.tmp 154) = .string (bx u154) := hr 154 21 (by kernel_rfl)
                      have e2 : ev (.tmp 157) = .string (bx HR) := hr 157 24 (by kernel_rfl)
                      have c := add_s (P := Tryz.prog) u154 HR (by omega) (by omega) w1
                      rw [hu158] at c
                      exact OpOk.val (v := .string (bx u158)) (w' := w1) (by go_simp) ⟨rfl, Below.refl _ _⟩
                    refine ⟨fun ev w1 hB hc hf hg hr hi => ?_, ?_⟩
                    · have e1 : ev (.tmp 158) = .string (bx u158) := hr 158 25 (by kernel_rfl)
                      have c := add_s (P := Tryz.prog) u158 [10] (by omega) (by decide) w1
                      rw [hu159] at c
                      rw [show bx [10] = ⟨#[10]⟩ from rfl] at c
                      exact OpOk.val (v := .string (bx u159)) (w' := w1) (by go_simp) ⟨rfl, Below.refl _ _⟩
                    refine ⟨fun ev w1 hB hc hf hg hr hi => ?_, ?_⟩
                    · have e1 : ev (.tmp 133) = .string (bx T) := hr 133 0 (by kernel_rfl)
                      have e2 : ev (.tmp 159) = .string (bx u159) := hr 159 26 (by kernel_rfl)
                      have c := add_s (P := Tryz.prog) T u159 (by omega) (by omega) w1
                      rw [hu160] at c
                      exact OpOk.val (v := .string (bx u160)) (w' := w1) (by go_simp) ⟨rfl, Below.refl _ _⟩
                    refine ⟨fun ev w1 hB hc hf hg hr hi => ?_, ?_⟩
                    · have e1 : ev (.tmp 160) = .string (bx u160) := hr 160 27 (by kernel_rfl)
                      exact OpOk.val (v := .string (bx u160)) (w' := w1) (by go_simp) ⟨rfl, Below.refl _ _⟩
                    exact trivial
                  case hQ =>
                    intro val w9 hB hF
                    have e9 : val 28 = .string (bx u160) := hF 28 (by decide)
                    simp only [putAll, Act.put, List.setIfInBounds_toArray, List.set_cons_zero, List.set_cons_succ]
                    rw [e9]
                    clear hF e9
                    have B9 : Hid (Below w.heap.size w w9) := B5.out.trans (hB.mono B5.out.size)
                    have HTN : Hid (u160 = u3 ++ lnsT (ersWs (L4.take (j + 1)) 1910)) := by
                      show _ = _
                      have e4 : L4[j] = x := by
                        have h1 : L4[j]? = some x := by
                          rw [← HL4.out, List.getElem?_take, if_pos hj4, List.getElem?_drop, ← HIJ.out, List.getElem?_eq_getElem hlt, HXX.out]
                        rw [List.getElem?_eq_getElem hj2] at h1
                        exact Option.some.inj h1
                      rw [ersWs_snoc L4 1910 j hj2, lnsT_app, e4, ← hu160, HU.out, HTT.out, List.append_assoc]
                      congr 2
                      unfold lnsT
                      simp
                    have HLN : Hid (u160.length ≤ 2311 + 1500 * z + 300 * (j + 1)) := by show _ ≤ _; have := HTL.out; rw [← hu160, List.length_append]; omega
                    have hi15 : i ≤ 15 := by have := HIJ.out; omega
                    have HIN : Hid (i + 1 = 7 + 4 * z + (j + 1)) := by have := HIJ.out; show _ = _; omega
                    have tw : IntKind.i64.wrap ((i : Int) + 1) = (i : Int) + 1 := IntWalk.i64_in _ (by omega)
                    clear hB
                    go_wp2_with fail
                    go_roundw
                    case rel => exact ⟨j + 1, i + 1, u160, rfl, congrArg (Value.int .i64) (by omega), by go_num, HIN, by omega, HTN, HLN, B9⟩
                    case measure => simp [intOf]; omega
                · go_upto_region 17 with fail
                  go_cut [126] (fun c wx => c = .bool false ∧ wr = wx)
                  case first =>
                    by_cases hlt : i < xs.length
                    · have hki : (i : Int) < (xs.length : Int) := by omega
                      have hkz : ¬ (i : Int) < 11 + 4 * (z : Int) := by have := HIJ.out; have := HL4m.out; have := hl4'.out; omega
                      go_wp2_with fail
                      go_meet
                      exact ⟨rfl, rfl⟩
                    · have hki : ¬ (i : Int) < (xs.length : Int) := by omega
                      go_wp2_with fail
                      go_meet
                      exact ⟨rfl, rfl⟩
                  case rest =>
                    obtain ⟨rfl, rfl⟩ := hcut
                    have HTE : Hid (T = u3 ++ lnsT (ersWs L4 1910)) := by
                      show _ = _
                      rw [HTT.out, List.take_of_length_le (by omega)]
                    obtain ⟨KD, hKD⟩ : ∃ n, IntKind.i64.wrap ((xs.length : Int) + (z : Int)) = n := ⟨_, rfl⟩
                    have iKD : I6 KD := by rw [← hKD, IntKind.wrap_i64]; unfold I6; omega
                    have HKE := Lib.hid (fun wx => kera_s ⟨KD, 5 * (z : Int), 0, 0⟩ wx ⟨iKD, I6.small (by show 0 ≤ 5 * (z : Int); omega) (by show 5 * (z : Int) ≤ _; omega), I6.zero, I6.zero⟩)
                    have lEW := ew_le ⟨KD, 5 * (z : Int), 0, 0⟩
                    obtain ⟨EW, hEW⟩ : ∃ t, joinT (eraWs ⟨KD, 5 * (z : Int), 0, 0⟩) = t := ⟨_, rfl⟩
                    rw [hEW] at HKE lEW
                    obtain ⟨e1, he1⟩ : ∃ u : Wd, EW ++ ([10] : Wd) = u := ⟨_, rfl⟩
                    obtain ⟨e2, he2⟩ : ∃ u : Wd, T ++ e1 = u := ⟨_, rfl⟩
                    have m1 : e1.length ≤ 64 := by rw [← he1, List.length_append]; simp only [List.length_cons, List.length_nil]; omega
                    have c1 := fun w => add_s (P := Tryz.prog) EW [10] (by omega) (by decide) w
                    have c2 := fun w => add_s (P := Tryz.prog) T e1 (by have := HTL.out; have := hl4'.out; omega) (by omega) w
                    rw [he1, show bx [10] = ⟨#[10]⟩ from rfl] at c1
                    rw [he2] at c2
                    have HN : Hid (e2 = srcP xs (z + 1)) := by
                      show _ = _
                      rw [← he2, ← he1, HTE.out, HU3.out, ← hEW]
                      show _ = srcP xs z ++ zonP xs z
                      have e3 : ersOf xs z = ersWs L4 1910 ++ [eraWs ⟨KD, 5 * (z : Int), 0, 0⟩] := by unfold ersOf; rw [HL4.out, hKD]
                      unfold zonP
                      rw [e3, ← HZN.out]
                      exact zon_text _ _ _ _ _
                    have HLN : Hid (e2.length ≤ 2300 + 1500 * (z + 1)) := by
                      show _ ≤ _
                      have := HTL.out
                      have := hl4'.out
                      rw [← he2, List.length_append]
                      omega
                    unfold rzA at HKE
                    clear HTT HTL HTE hEW he1 he2 iKD hj hj2 HU3 HL3 HZN HL4 HL4m HL4x hl4' HIJ
                    go_wp2_with fail
                    refine (HKE.out _).mono ?_; rintro e w5 ⟨rfl, hb5⟩
                    have B5 : Hid (Below w.heap.size w w5) := HB.out.trans (hb5.mono HB.out.size)
                    clear hb5 HKE HB
                    go_wp2_with fail
                    go_roundw
                    case rel => exact ⟨z + 1, e2, rfl, by go_num, by omega, HN, HLN, B5⟩
                    case measure => simp [intOf]; omega
          · obtain rfl : z = 2 := by omega
            have hzi : ¬ ((2 : Nat) : Int) < 2 := by decide
            have c1 := fun w => add_s (P := Tryz.prog) S1 [76, 105, 110, 107, 32, 79, 110, 101, 47, 65, 32, 84, 104, 114, 101, 101, 10, 76, 105, 110, 107, 32, 84, 104, 114, 101, 101, 32, 70, 111, 117, 114, 10] (by have := HSL.out; omega) (by decide) w
            obtain ⟨e1, he1⟩ : ∃ u : Wd, S1 ++ ([76, 105, 110, 107, 32, 79, 110, 101, 47, 65, 32, 84, 104, 114, 101, 101, 10, 76, 105, 110, 107, 32, 84, 104, 114, 101, 101, 32, 70, 111, 117, 114, 10] : Wd) = u := ⟨_, rfl⟩
            rw [he1, show bx [76, 105, 110, 107, 32, 79, 110, 101, 47, 65, 32, 84, 104, 114, 101, 101, 10, 76, 105, 110, 107, 32, 84, 104, 114, 101, 101, 32, 70, 111, 117, 114, 10] = ⟨#[76, 105, 110, 107, 32, 79, 110, 101, 47, 65, 32, 84, 104, 114, 101, 101, 10, 76, 105, 110, 107, 32, 84, 104, 114, 101, 101, 32, 70, 111, 117, 114, 10]⟩ from rfl] at c1
            have HF : Hid (srcT xs = e1) := by
              show _ = _
              rw [← he1, HSS.out]
              exact src_text xs
            clear he1 HSS HSL
            go_wp2
            go_ret
            exact ⟨by rw [HF.out]; rfl, HB.out⟩
end Go.Proofs.YtbikdlcjbigafaaGreatDoor
