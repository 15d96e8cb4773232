/-
  TreesTell: the walk (its drawn region printed by mktrc.py). · A parameter of raw things. · A door's frame that keeps the world's shape; what source.Read asks of the listed variables: names of months and days; the table of powers of ten. · The table of months, beside what source.Read asks.
-/
import Derived.BigQuiet
import Derived.LaidLaws
import Derived.LaidMore
import Derived.Stop.Joined
import Derived.Stop.LaidErr
import Derived.HandedShaped
import Derived.Lib.LaidTab
import Derived.Lib.ItoaNum
import Derived.Test.YtbikdlcjbigafaaGreatDoorJTrB
import Derived.Test.YtbikdlcjbigafaaGreatDoorJSbd
import Derived.Test.YtbikdlcjbigafaaGreatDoorJBase
import Derived.Test.YtbikdlcjbigafaaGreatDoorJRdA
import Derived.Test.YtbikdlcjbigafaaGreatDoorJMxl
import Derived.Test.YtbikdlcjbigafaaGreatDoorJRdC
import Derived.Test.YtbikdlcjbigafaaGreatDoorJCivT
namespace Go.Proofs.YtbikdlcjbigafaaGreatDoor
set_option linter.unusedVariables false
set_option linter.unusedSimpArgs false
open Go.ChangeShapes Go.WideShapes Go.ChangeAt Go.RowKit Civ

/-- a forest in a box of its own. -/
structure TrF (wx : World) (A : Nat) (vn va : Value) (f : Frs) : Prop where
  x : BxO wx A #[vn, va] 74
  f : FrsAt wx vn va f
theorem TrF.next {w w' : World} {A : Nat} {vn va : Value} {f : Frs} (h : TrF w A vn va f) (hb : Below w.heap.size w w') : TrF w' A vn va f := ⟨box_at h.x hb, h.f.mono hb⟩
theorem TrF.new {w : World} {vn va : Value} {f : Frs} (h : FrsAt w vn va f) : TrF (w.alloc (.cells #[vn, va] 74)) w.heap.size vn va f := ⟨BxO.new _ _ _, h.mono ((Below.refl _ _).alloc (Nat.le_refl _) _)⟩
theorem TrF.cells {w : World} {A : Nat} {vn va : Value} {f : Frs} (h : TrF w A vn va f) : w.cell? ⟨A, 0, none⟩ = some vn ∧ w.cell? ⟨A, 1, none⟩ = some va ∧ A < w.heap.size := ⟨h.x.cell 0, h.x.cell 1, h.x.lt⟩
set_option maxRecDepth 100000 in
set_option maxHeartbeats 4000000 in
theorem walkTreesTell (v : Value) (xs : List Rz) (n : Int) (W : World) (hs : SlAt W 4 RRz v xs) (hn : (Lit.int .i64 n).wf = true) (hV : (SrV W ∧ PwT W) ∧ Tab W) :
    Calls Tryz.prog 6 #[v, .int .i64 n] W fun e w' => e = .returned (.bool true) ∧ Below W.heap.size W w' := by
  have HZT := Lib.hid (zones_tells W hV.1.1 hV.2)
  have HKS := Lib.hid (fun wx (hb : Below W.heap.size W wx) => kSpans_s xs v wx (hs.mono hb fun _ _ h => h))
  obtain ⟨va, vc, rfl, -⟩ := hs.shape
  have iN : I6 n := by obtain ⟨h1, h2⟩ := bounds_i64 hn; exact ⟨h1, by omega⟩
  have iN11 : I6 (n.tdiv 11) := iN.tdiv (by decide)
  clear hs hn hV
  go_enter Tryz.func6, Tryz.ntmps6
  go_wp2_with fail
  refine HZT.out.mono ?_; rintro e w0 ⟨rfl, b0⟩
  have B0 := Lib.hid b0
  clear b0 HZT
  go_wp2_with fail
  refine (HKS.out _ B0.out).mono ?_; rintro e w1 ⟨u, L, t0, k, rfl, hk, h1, h30, ho, b1⟩
  have B1 : Hid (Below W.heap.size W w1) := B0.out.trans (b1.mono B0.out.size)
  obtain ⟨a1, c1, rfl⟩ := own_shape ho
  have hg := ksl_good hk h1 h30
  have HG := Lib.hid hg
  have HK := Lib.hid hk
  have hlen := hk.len
  obtain ⟨b, rfl, -, -⟩ := spn_of_own ho 0 (by omega)
  have S1 : Hid (SlAt w1 4 RSpn (.slice (some ⟨b, 0, none⟩) L.length c1) L) := slAt_of_own (enc := encQ) (by decide) (fun _ => rfl) (fun x hx => by
    obtain ⟨p1, p2, -, ⟨p3, p4⟩, p5⟩ := hk.bd x hx
    exact ⟨rfl, i64_of (by omega) (by omega), i64_of (by omega) (by omega), by unfold maxLen; omega⟩) ho
  have HFW := Lib.hid (forward_frs _ L w1 S1.out hg)
  obtain ⟨m, hm⟩ : ∃ m, L.length = m := ⟨_, rfl⟩
  have hm0 : 0 < m := by omega
  have hm30 : m ≤ 30 := by omega
  have HM := Lib.hid hm
  clear ho b1 B0 HKS hk hg h30 hlen
  rw [hm] at S1 HFW
  rw [hm]
  clear hm
  go_wp2_with fail
  refine HFW.out.mono ?_; rintro e w2 ⟨fa, fc, fa', fc', rfl, hf, b2⟩
  have T2 := Lib.hid (TrF.new hf)
  obtain ⟨W2, hW2⟩ : ∃ W2, W2 = w2.alloc (.cells #[.slice fa (fwdF L).nodes.length fc, .slice fa' (fwdF L).answers.length fc'] 74) := ⟨_, rfl⟩
  rw [← hW2] at T2
  have b3 : Below w1.heap.size w1 W2 := by rw [hW2]; exact b2.alloc b2.size _
  have B2 : Hid (Below W.heap.size W W2) := B1.out.trans (b3.mono B1.out.size)
  have S2 := Lib.hid (S1.out.mono b3 fun _ _ h => h)
  have H2 := Lib.hid hW2
  have HIN := Lib.hid (inverse_ok _ L W2 S2.out HG.out)
  clear hW2 b2 b3 hf HFW S1 B1
  go_upto_region 5 with fail
  rw [← H2.out]
  clear H2
  generalize w2.heap.size = A at *
  generalize hfl : (fwdF L).nodes.length = fl at *
  generalize hfl2 : (fwdF L).answers.length = fl2 at *
  go_wp2_with fail
  refine HIN.out.mono ?_; intro e w3 hiv
  have hiv : (invE L = true ∧ e = .returned (.tuple #[.agg #[.slice none 0 0, .slice none 0 0], .int .i64 1]) ∧ Below W2.heap.size W2 w3) ∨ (invE L = false ∧ ∃ a c a' c', e = .returned (.tuple #[.agg #[.slice a (invF L).nodes.length c, .slice a' (invF L).answers.length c'], .int .i64 0]) ∧ FrsAt w3 (.slice a (invF L).nodes.length c) (.slice a' (invF L).answers.length c') (invF L) ∧ Below W2.heap.size W2 w3) := hiv
  have hiv2 : ∃ (g0 g1 : Option Addr) (n0 n1 k0 k1 : Nat) (E : Int), e = .returned (.tuple #[.agg #[.slice g0 n0 k0, .slice g1 n1 k1], .int .i64 E]) ∧ Below W2.heap.size W2 w3 ∧ ((E = 1 ∧ 6 < m) ∨ (E = 0 ∧ invE L = false ∧ FrsAt w3 (.slice g0 n0 k0) (.slice g1 n1 k1) (invF L))) := by
    rcases hiv with ⟨h1, h2, h3⟩ | ⟨h1, a, c, a', c', h2, h3, h4⟩
    · exact ⟨none, none, 0, 0, 0, 0, 1, h2, h3, .inl ⟨rfl, by have := inv_six (L := L) (by rw [HM.out]; exact hm30) h1; rw [HM.out] at this; exact this⟩⟩
    · exact ⟨a, a', _, _, c, c', 0, h2, h4, .inr ⟨rfl, h1, h3⟩⟩
  clear hiv
  obtain ⟨g0, g1, n0, n1, k0, k1, E, rfl, b3, hE⟩ := hiv2
  obtain ⟨W3, hW3⟩ : ∃ W3, W3 = w3.alloc (.cells #[.slice g0 n0 k0, .slice g1 n1 k1] 74) := ⟨_, rfl⟩
  have b4 : Below W2.heap.size W2 W3 := by rw [hW3]; exact b3.alloc b3.size _
  have B3 : Hid (Below W.heap.size W W3) := B2.out.trans (b4.mono B2.out.size)
  have S3 := Lib.hid (S2.out.mono b4 fun _ _ h => h)
  have T3 := Lib.hid (T2.out.next b4)
  have X3 : Hid (BxO W3 w3.heap.size #[.slice g0 n0 k0, .slice g1 n1 k1] 74) := by show BxO _ _ _ _; rw [hW3]; exact BxO.new _ _ _
  have HE : Hid ((E = 1 ∧ 6 < m) ∨ (E = 0 ∧ invE L = false ∧ FrsAt W3 (.slice g0 n0 k0) (.slice g1 n1 k1) (invF L))) := by
    rcases hE with h | ⟨h1, h2, h3⟩
    · exact .inl h
    · exact .inr ⟨h1, h2, by rw [hW3]; exact h3.mono ((Below.refl _ _).alloc (Nat.le_refl _) _)⟩
  have H3 := Lib.hid hW3
  clear hW3 hE b3 b4 HIN T2 S2 B2
  go_upto_region 6 with fail
  rw [← H3.out]
  clear H3
  generalize w3.heap.size = D at *
  go_wp2_with fail
  refine (winIn _).mono ?_; rintro e w' ⟨rfl, rfl⟩
  obtain ⟨j, hj, hjm⟩ := nat_of (pkz_bd n m (by omega))
  have hjm : j < m := by omega
  have HP1 := Lib.hid (fun wx => pick_s n m wx iN (by omega) (by omega))
  have HP2 := Lib.hid (fun wx => pick_s (n.tdiv 11) 9000 wx iN11 (by decide) (by decide))
  have pb := pkz_bd (n.tdiv 11) 9000 (by decide)
  obtain ⟨P, hP⟩ : ∃ p, pkz (n.tdiv 11) 9000 = p := ⟨_, rfl⟩
  rw [hP] at pb HP2
  rw [hj] at HP1
  have hjL : j < L.length := by rw [HM.out]; exact hjm
  obtain ⟨b', off, e1, hb, ⟨d0, -, -, -⟩, -, -, -⟩ := elemSpn S3.out j hjL
  simp only [Option.some.injEq, Addr.mk.injEq, and_true] at e1
  obtain ⟨rfl, rfl⟩ := e1
  rw [Nat.zero_add] at d0
  have hf := HK.out.bd L[j] (List.getElem_mem hjL)
  obtain ⟨F, hF⟩ : ∃ f, L[j].fr = f := ⟨_, rfl⟩
  rw [hF] at d0 hf
  have hji : (j : Int) < (m : Int) := by omega
  have t1 : IntKind.i64.wrap (F + P) = F + P := IntWalk.i64_in _ (by omega)
  have t2 : IntKind.i64.wrap (F + P - 4500) = F + P - 4500 := IntWalk.i64_in _ (by omega)
  have t3 : IntKind.i64.wrap (n.tdiv 11) = n.tdiv 11 := IntWalk.i64_in _ (by have h1 := iN11.1; have h2 := iN11.2; omega)
  clear hF hP hj
  go_upto_region 7 with fail
  refine wp_region_freeT 19 (fun i v w => (([.eq (.slice (some ⟨b, 0, none⟩) m c1), .eq (.int .i64 n), .eq (.slice (some ⟨b, 0, none⟩) m c1), .eq (.int .i64 (m : Int)), .eq (.int .i64 (j : Int)), .eq (.pointer (some ⟨b, j * 4, none⟩)), .eq (.pointer (some ⟨b, j * 4, none⟩)), .eq (.int .i64 F), .eq (.int .i64 n), .eq (.int .i64 (n.tdiv 11)), .eq (.int .i64 P), .eq (.int .i64 (F + P)), .eq (.int .i64 (F + P - 4500))] ++ [.eq (.int .i64 (-2208988800)), .eq (.int .i64 (max (F + P - 4500) (-2208988800))), .eq (.int .i64 4102444800), .eq (.int .i64 4102444799), .eq (.int .i64 (min (max (F + P - 4500) (-2208988800)) 4102444799)), .new #[.int .i64 0] 3 W3.heap.size] : List Pn).getD i .any).is v w) (by kernel_rfl) 118 rfl (of_decide_eq_true (by kernel_rfl)) (by kernel_rfl) (by kernel_rfl) (by kernel_rfl) (fun i v w w' h hb => Pn.stb h hb) ?hop _ rfl ?hQ
  case hop =>
    simp only [List.take_succ_cons, List.take_zero]
    refine ⟨fun ev w1 hB hc hf hg hr hi => ?_, ?_⟩
    · have e1 : ev (.tmp 5) = .slice (some ⟨b, 0, none⟩) m c1 := hi 5 (by kernel_rfl)
      exact OpOk.val (v := .slice (some ⟨b, 0, none⟩) m c1) (w' := w1) (by go_simp) ⟨rfl, Below.refl _ _⟩
    refine ⟨fun ev w1 hB hc hf hg hr hi => ?_, ?_⟩
    · have e1 : ev (.tmp 1) = .int .i64 n := hi 1 (by kernel_rfl)
      exact OpOk.val (v := .int .i64 n) (w' := w1) (by go_simp) ⟨rfl, Below.refl _ _⟩
    refine ⟨fun ev w1 hB hc hf hg hr hi => ?_, ?_⟩
    · have e1 : ev (.tmp 5) = .slice (some ⟨b, 0, none⟩) m c1 := hi 5 (by kernel_rfl)
      exact OpOk.val (v := .slice (some ⟨b, 0, none⟩) m c1) (w' := w1) (by go_simp) ⟨rfl, Below.refl _ _⟩
    refine ⟨fun ev w1 hB hc hf hg hr hi => ?_, ?_⟩
    · have e1 : ev (.tmp 38) = .slice (some ⟨b, 0, none⟩) m c1 := hr 38 2 (by kernel_rfl)
      exact OpOk.val (v := .int .i64 (m : Int)) (w' := w1) (by go_simp) ⟨rfl, Below.refl _ _⟩
    refine ⟨fun ev w1 hB hc hf hg hr hi => ?_, ?_⟩
    · have e1 : ev (.tmp 37) = .int .i64 n := hr 37 1 (by kernel_rfl)
      have e2 : ev (.tmp 39) = .int .i64 (m : Int) := hr 39 3 (by kernel_rfl)
      exact OpOk.call (f := 12) (args := #[.int .i64 n, .int .i64 (m : Int)]) (w' := w1) (by go_simp) ((HP1.out w1).mono fun e w2 ⟨he, hw⟩ => ⟨_, he, rfl, by subst hw; exact Below.refl _ _⟩)
    refine ⟨fun ev w1 hB hc hf hg hr hi => ?_, ?_⟩
    · have e1 : ev (.tmp 36) = .slice (some ⟨b, 0, none⟩) m c1 := hr 36 0 (by kernel_rfl)
      have e2 : ev (.tmp 40) = .int .i64 (j : Int) := hr 40 4 (by kernel_rfl)
      exact OpOk.val (v := .pointer (some ⟨b, j * 4, none⟩)) (w' := w1) (by go_simp) ⟨rfl, Below.refl _ _⟩
    refine ⟨fun ev w1 hB hc hf hg hr hi => ?_, ?_⟩
    · have e1 : ev (.tmp 41) = .pointer (some ⟨b, j * 4, none⟩) := hr 41 5 (by kernel_rfl)
      exact OpOk.val (v := .pointer (some ⟨b, j * 4, none⟩)) (w' := w1) (by go_simp) ⟨rfl, Below.refl _ _⟩
    refine ⟨fun ev w1 hB hc hf hg hr hi => ?_, ?_⟩
    · have e1 : ev (.tmp 42) = .pointer (some ⟨b, j * 4, none⟩) := hr 42 6 (by kernel_rfl)
      have y := (hB.cell (p := ⟨b, j * 4, none⟩) hb).trans d0
      have z := Nat.lt_of_lt_of_le hb hB.size
      exact OpOk.val (v := .int .i64 F) (w' := w1) (by go_simp) ⟨rfl, Below.refl _ _⟩
    refine ⟨fun ev w1 hB hc hf hg hr hi => ?_, ?_⟩
    · have e1 : ev (.tmp 1) = .int .i64 n := hi 1 (by kernel_rfl)
      exact OpOk.val (v := .int .i64 n) (w' := w1) (by go_simp) ⟨rfl, Below.refl _ _⟩
    refine ⟨fun ev w1 hB hc hf hg hr hi => ?_, ?_⟩
    · have e1 : ev (.tmp 44) = .int .i64 n := hr 44 8 (by kernel_rfl)
      have t := t3
      exact OpOk.val (v := .int .i64 (n.tdiv 11)) (w' := w1) (by go_simp) ⟨rfl, Below.refl _ _⟩
    refine ⟨fun ev w1 hB hc hf hg hr hi => ?_, ?_⟩
    · have e1 : ev (.tmp 45) = .int .i64 (n.tdiv 11) := hr 45 9 (by kernel_rfl)
      exact OpOk.call (f := 12) (args := #[.int .i64 (n.tdiv 11), .int .i64 9000]) (w' := w1) (by go_simp) ((HP2.out w1).mono fun e w2 ⟨he, hw⟩ => ⟨_, he, rfl, by subst hw; exact Below.refl _ _⟩)
    refine ⟨fun ev w1 hB hc hf hg hr hi => ?_, ?_⟩
    · have e1 : ev (.tmp 43) = .int .i64 F := hr 43 7 (by kernel_rfl)
      have e2 : ev (.tmp 46) = .int .i64 P := hr 46 10 (by kernel_rfl)
      have t := t1
      exact OpOk.val (v := .int .i64 (F + P)) (w' := w1) (by go_simp) ⟨rfl, Below.refl _ _⟩
    refine ⟨fun ev w1 hB hc hf hg hr hi => ?_, ?_⟩
    · have e1 : ev (.tmp 47) = .int .i64 (F + P) := hr 47 11 (by kernel_rfl)
      have t := t2
      exact OpOk.val (v := .int .i64 (F + P - 4500)) (w' := w1) (by go_simp) ⟨rfl, Below.refl _ _⟩
    refine ⟨fun ev w1 hB hc hf hg hr hi => ?_, ?_⟩
    · have e1 : ev (.tmp 10) = .int .i64 (-2208988800) := hi 10 (by kernel_rfl)
      exact OpOk.val (v := .int .i64 (-2208988800)) (w' := w1) (by go_simp) ⟨rfl, Below.refl _ _⟩
    refine ⟨fun ev w1 hB hc hf hg hr hi => ?_, ?_⟩
    · have e1 : ev (.tmp 48) = .int .i64 (F + P - 4500) := hr 48 12 (by kernel_rfl)
      have e2 : ev (.tmp 49) = .int .i64 (-2208988800) := hr 49 13 (by kernel_rfl)
      exact OpOk.val (v := .int .i64 (max (F + P - 4500) (-2208988800))) (w' := w1) (by go_simp) ⟨rfl, Below.refl _ _⟩
    refine ⟨fun ev w1 hB hc hf hg hr hi => ?_, ?_⟩
    · have e1 : ev (.tmp 11) = .int .i64 4102444800 := hi 11 (by kernel_rfl)
      exact OpOk.val (v := .int .i64 4102444800) (w' := w1) (by go_simp) ⟨rfl, Below.refl _ _⟩
    refine ⟨fun ev w1 hB hc hf hg hr hi => ?_, ?_⟩
    · have e1 : ev (.tmp 51) = .int .i64 4102444800 := hr 51 15 (by kernel_rfl)
      have t := (show IntKind.i64.wrap 4102444799 = 4102444799 by decide)
      exact OpOk.val (v := .int .i64 4102444799) (w' := w1) (by go_simp) ⟨rfl, Below.refl _ _⟩
    refine ⟨fun ev w1 hB hc hf hg hr hi => ?_, ?_⟩
    · have e1 : ev (.tmp 50) = .int .i64 (max (F + P - 4500) (-2208988800)) := hr 50 14 (by kernel_rfl)
      have e2 : ev (.tmp 52) = .int .i64 4102444799 := hr 52 16 (by kernel_rfl)
      exact OpOk.val (v := .int .i64 (min (max (F + P - 4500) (-2208988800)) 4102444799)) (w' := w1) (by go_simp) ⟨rfl, Below.refl _ _⟩
    refine ⟨fun ev w1 hB hc hf hg hr hi => ?_, ?_⟩
    · exact OpOk.val (v := .pointer (some ⟨w1.heap.size, 0, none⟩)) (w' := w1.alloc (.cells #[.int .i64 0] 3)) (by go_simp) ⟨⟨_, rfl, BxO.new _ _ _, hB.size⟩, (Below.refl _ _).alloc (Nat.le_refl _) _⟩
    exact trivial
  case hQ =>
    intro val w5 hB hF
    have v53 : val 17 = .int .i64 (min (max (F + P - 4500) (-2208988800)) 4102444799) := hF 17 (by decide)
    obtain ⟨G12, v12, X12, N12⟩ := hF 18 (by decide)
    simp only [putAll, Act.put, List.setIfInBounds_toArray, List.set_cons_zero, List.set_cons_succ, List.take_succ_cons, List.take_zero, List.take_nil]
    rw [v53]
    rw [v12]
    clear hF v53 v12
    have hT : -2208988800 ≤ min (max (F + P - 4500) (-2208988800)) 4102444799 ∧ min (max (F + P - 4500) (-2208988800)) 4102444799 < 4102444800 := by omega
    obtain ⟨T, hTT⟩ : ∃ t, min (max (F + P - 4500) (-2208988800)) 4102444799 = t := ⟨_, rfl⟩
    rw [hTT] at hT
    rw [hTT]
    have z0 : w5.cell? ⟨G12, 0, none⟩ = some (.int .i64 0) := X12.cell 0
    have zf := X12.frozen 0
    have zl := X12.lt
    refine wpList_plain rfl (fun K hK => ?_)
    go_simp
    refine hK _ _ ?_
    obtain ⟨W6, hW6⟩ : ∃ W6, W6 = w5.setCell ⟨G12, 0, none⟩ (.int .i64 T) := ⟨_, rfl⟩
    have b6 : Below W3.heap.size W3 W6 := by rw [hW6]; exact hB.setCell (p := ⟨G12, 0, none⟩) N12 _
    have X6 : Hid (BxO W6 G12 #[.int .i64 T] 3) := by show BxO _ _ _ _; rw [hW6]; exact X12.put1 _
    have B6 : Hid (Below W.heap.size W W6) := B3.out.trans (b6.mono B3.out.size)
    have S6 := Lib.hid (S3.out.mono b6 fun _ _ h => h)
    have T6 := Lib.hid (T3.out.next b6)
    have Y6 := Lib.hid (box_at X3.out b6)
    have HE6 : Hid ((E = 1 ∧ 6 < m) ∨ (E = 0 ∧ invE L = false ∧ FrsAt W6 (.slice g0 n0 k0) (.slice g1 n1 k1) (invF L))) := by
      rcases HE.out with h | ⟨h1, h2, h3⟩
      · exact .inl h
      · exact .inr ⟨h1, h2, h3.mono b6⟩
    rw [← hW6]
    generalize G12 = G at *
    clear hW6 b6 hB X12 N12 z0 zf zl S3 T3 X3 HE B3 d0 hb hf t1 t2 t3 hji hjm hjL pb HP1 HP2 hTT
    obtain ⟨i, hi, hat, hfr, hfx, hof⟩ := trees_at HK.out h1 hT.1 hT.2
    have HEV := Lib.hid (eval_ok (fwdF L) _ _ T i W6 T6.out.f (fwd_good HG.out) (fwd_lf HG.out hat) (by show i < (L.map ansOf).length; rw [List.length_map]; exact hi))
    have ha : (fwdF L).answers[i]'(by show i < (L.map ansOf).length; rw [List.length_map]; exact hi) = ansOf L[i] := List.getElem_map _
    rw [ha] at HEV
    have hbd := HK.out.bd L[i] (List.getElem_mem hi)
    obtain ⟨b', off, e1, hb, ⟨-, d1, d2, d3⟩, -, -, -⟩ := elemSpn S6.out i hi
    clear e1 d1 d2 d3 hb b' off
    have HI := Lib.hid (fun wx (hb : Below W6.heap.size W6 wx) => elemSpn (S6.out.mono hb fun _ _ h => h) i hi)
    obtain ⟨X, hX⟩ : ∃ x, L[i] = x := ⟨_, rfl⟩
    rw [hX] at HEV hfr hof hbd HI
    obtain ⟨xf, ⟨xo, xs', xn⟩⟩ := X
    dsimp only at HEV hfr hof hbd HI
    have him : i < m := by rw [← HM.out]; exact hi
    have HOF := Lib.hid hof
    have HFX := Lib.hid hfx
    clear ha hX hof hfx hat
    obtain ⟨c0, c1', cl⟩ := T6.out.cells
    have z0 : W6.cell? ⟨G, 0, none⟩ = some (.int .i64 T) := X6.out.cell 0
    have zl := X6.out.lt
    dsimp only [ansOf, List.length_nil] at HEV
    go_upto_region 8 with fail
    go_wp2_with fail
    refine HEV.out.mono ?_; rintro e w7 ⟨v7, rfl, ho7, b7⟩
    obtain ⟨p7, q7, rfl⟩ : ∃ a c, v7 = .slice a 0 c := by
      obtain ⟨a, c, e⟩ := own_shape ho7
      exact ⟨a, c, e⟩
    obtain ⟨W8, hW8⟩ : ∃ W8, W8 = w7.alloc (.cells #[.int .i64 xo, .bool xs', .string xn, .slice p7 0 q7, .int .i64 0] 79) := ⟨_, rfl⟩
    have b8 : Below W6.heap.size W6 W8 := by rw [hW8]; exact b7.alloc b7.size _
    have B8 : Hid (Below W.heap.size W W8) := B6.out.trans (b8.mono B6.out.size)
    have S8 := Lib.hid (S6.out.mono b8 fun _ _ h => h)
    have Y8 := Lib.hid (box_at Y6.out b8)
    have X8 := Lib.hid (box_at X6.out b8)
    have HE8 : Hid ((E = 1 ∧ 6 < m) ∨ (E = 0 ∧ invE L = false ∧ FrsAt W8 (.slice g0 n0 k0) (.slice g1 n1 k1) (invF L))) := by
      rcases HE6.out with h | ⟨h1, h2, h3⟩
      · exact .inl h
      · exact .inr ⟨h1, h2, h3.mono b8⟩
    have Z8 : Hid (BxO W8 w7.heap.size #[.int .i64 xo, .bool xs', .string xn, .slice p7 0 q7, .int .i64 0] 79) := by show BxO _ _ _ _; rw [hW8]; exact BxO.new _ _ _
    have HI8 : Hid (∀ wx, Below W8.heap.size W8 wx → Below W6.heap.size W6 wx) := fun wx hb => b8.trans (hb.mono b8.size)
    have H8 := Lib.hid hW8
    clear hW8 b7 b8 ho7 HEV S6 T6 Y6 X6 HE6 B6 c0 c1' cl z0 zl
    go_upto_region 9 with fail
    rw [← H8.out]
    clear H8
    generalize w7.heap.size = H at *
    rcases HE8.out with ⟨rfl, h6⟩ | ⟨rfl, hinv, hfi⟩
    · have h6i : (6 : Int) < (m : Int) := by omega
      go_wp2
      go_ret
      exact ⟨ret_bool (by simp), B8.out⟩
    obtain ⟨q, hq, hlf, hta⟩ := inv_lf (xs := L) (by rw [HM.out]; exact hm0) (T + xo)
    have HEV := Lib.hid (eval_ok (invF L) _ _ (T + xo) q W8 hfi (inv_good HG.out hinv) hlf hq)
    have ha2 : (invF L).answers[q]'hq = tellA (segs L) (T + xo) := hta
    rw [ha2] at HEV
    have hoff : ∀ o ∈ offsAt (segs L) (T + xo), I64 o := fun o ho => by
      obtain ⟨a, ha, rfl⟩ := offs_mem ho
      obtain ⟨-, -, -, ⟨p3, p4⟩, -⟩ := HK.out.bd _ (List.getElem_mem ha)
      exact i64_of (by omega) (by omega)
    have hj0 : (tellA (segs L) (T + xo)).jump = 0 := by
      unfold tellA
      dsimp only
      rw [if_neg]
      intro e
      have := List.length_eq_zero_iff.1 e
      have h := HOF.out
      rw [this] at h
      cases h
    rw [hj0] at HEV
    dsimp only [tellA] at HEV
    have HOI := Lib.hid hoff
    have tw : IntKind.i64.wrap (T + xo) = T + xo := IntWalk.i64_in _ (by have := hbd.2.2.2.1; omega)
    obtain ⟨OF, hOF⟩ : ∃ o, offsAt (segs L) (T + xo) = o := ⟨_, rfl⟩
    rw [hOF] at HOF HEV HOI
    clear ha2 hoff hj0 hOF hlf hta hq hfi hinv HE8
    have y0 : W8.cell? ⟨D, 0, none⟩ = some (.slice g0 n0 k0) := Y8.out.cell 0
    have y1 : W8.cell? ⟨D, 1, none⟩ = some (.slice g1 n1 k1) := Y8.out.cell 1
    have yl := Y8.out.lt
    have z0 : W8.cell? ⟨G, 0, none⟩ = some (.int .i64 T) := X8.out.cell 0
    have zl := X8.out.lt
    have h0 : W8.cell? ⟨H, 0, none⟩ = some (.int .i64 xo) := Z8.out.cell 0
    have hl := Z8.out.lt
    go_wp2_with fail
    refine HEV.out.mono ?_; rintro e w9 ⟨v9, rfl, ho9, b9⟩
    obtain ⟨p9, q9, rfl⟩ := own_shape ho9
    obtain ⟨W9, hW9⟩ : ∃ W9, W9 = w9.alloc (.cells #[.int .i64 0, .bool false, .string ⟨#[]⟩, .slice p9 OF.length q9, .int .i64 0] 79) := ⟨_, rfl⟩
    have b10 : Below w9.heap.size w9 W9 := by rw [hW9]; exact (Below.refl _ _).alloc (Nat.le_refl _) _
    have b11 : Below W8.heap.size W8 W9 := b9.trans (b10.mono b9.size)
    have B9 : Hid (Below W.heap.size W W9) := B8.out.trans (b11.mono B8.out.size)
    have S9 := Lib.hid (S8.out.mono b11 fun _ _ h => h)
    have X9 := Lib.hid (box_at X8.out b11)
    have Z9 := Lib.hid (box_at Z8.out b11)
    have O9 : Hid (SlAt W9 1 RInt (.slice p9 OF.length q9) OF) := ints_of_own HOI.out (own_nextR ho9 b10)
    have K9 : Hid (BxO W9 w9.heap.size #[.int .i64 0, .bool false, .string ⟨#[]⟩, .slice p9 OF.length q9, .int .i64 0] 79) := by show BxO _ _ _ _; rw [hW9]; exact BxO.new _ _ _
    have H9 := Lib.hid hW9
    have eg : ∀ args w, (callFunc 27 args).run Tryz.prog w = .ok (.enter 27 args) w := enters_of Tryz.func27 (by kernel_rfl) rfl
    have HIX := Lib.hid (idxSpn_any (fun s : Spn => decide (T < s.fr)) 27 (.pointer (some ⟨G, 0, none⟩)) _ L W9 S9.out eg (fun x hx w1 hb => later_s x T G w1 (box_at X9.out hb)))
    have HIW := Lib.hid (HI8.out W9 b11)
    clear hW9 b9 b10 b11 ho9 HEV S8 X8 Z8 Y8 HI8 B8 y0 y1 yl z0 zl h0 hl HOI eg
    go_upto_region 14 with fail
    rw [← H9.out]
    clear H9
    generalize w9.heap.size = R at *
    have z0 : W9.cell? ⟨G, 0, none⟩ = some (.int .i64 T) := X9.out.cell 0
    have zl := X9.out.lt
    rw [HFX.out] at HIX
    rw [HM.out] at HIX
    by_cases hlt : i + 1 < m
    all_goals
      first | rw [if_pos hlt] at HIX | rw [if_neg hlt] at HIX
      go_wp2_with fail
      refine HIX.out.mono ?_; rintro e w11 ⟨rfl, b11⟩
      have B11 : Hid (Below W.heap.size W w11) := B9.out.trans (b11.mono B9.out.size)
      have Z11 := Lib.hid (box_at Z9.out b11)
      have K11 := Lib.hid (box_at K9.out b11)
      obtain ⟨b', off, e1, hb, ⟨-, d1, d2, d3⟩, -, -, -⟩ := HI.out w11 (HIW.out.trans (b11.mono HIW.out.size))
      simp only [Option.some.injEq, Addr.mk.injEq, and_true] at e1
      obtain ⟨rfl, rfl⟩ := e1
      simp only [Nat.zero_add] at d1 d2 d3
      have HCT : Hid (∀ q, Calls Tryz.prog 28 #[.slice p9 OF.length q9, .int .i64 xo] (w11.drewN q) fun e w'' => e = .returned (.bool true) ∧ ∃ r, w'' = w11.drewN r) := fun q => by
        refine (containsI_any _ OF xo (w11.drewN q) (O9.out.mono (below_draws b11 q) fun _ _ h => h)).mono ?_
        rintro e w'' ⟨r, rfl, hr, k, rfl⟩
        obtain rfl := hr.2 HOF.out
        exact ⟨rfl, q + k, World.drewN_drewN ..⟩
      have e0 : w11.cell? ⟨H, 0, none⟩ = some (.int .i64 xo) := Z11.out.cell 0
      have e1 : w11.cell? ⟨H, 1, none⟩ = some (.bool xs') := Z11.out.cell 1
      have e2 : w11.cell? ⟨H, 2, none⟩ = some (.string xn) := Z11.out.cell 2
      have el := Z11.out.lt
      have f3 : w11.cell? ⟨R, 3, none⟩ = some (.slice p9 OF.length q9) := K11.out.cell 3
      have f4 : w11.cell? ⟨R, 4, none⟩ = some (.int .i64 0) := K11.out.cell 4
      have fl := K11.out.lt
      have twi : IntKind.i64.wrap (((i + 1 : Nat) : Int) - 1) = (i : Int) := by rw [IntWalk.i64_in _ (by omega)]; omega
      have himi : (i : Int) < (m : Int) := by omega
      clear b11 HIX z0 zl hb
      go_upto_if 89 with fail
      go_cut [17] (fun vk wx => vk = .int .i64 ((i + 1 : Nat) : Int) ∧ wx = w11)
      case first =>
        first
          | (go_wp2_with fail; go_meet; exact ⟨rfl, rfl⟩)
          | (obtain rfl : m = i + 1 := by omega
             go_wp2_with fail; go_meet; exact ⟨rfl, rfl⟩)
      case rest =>
        obtain ⟨rfl, rfl⟩ := hcut
        go_upto_region 17 with fail
        go_quiet ((go_at_call 28; exact HCT.out _))
        go_wp2
        go_ret
        exact ⟨ret_bool (by simp), below_draws B11.out _⟩
end Go.Proofs.YtbikdlcjbigafaaGreatDoor

namespace Go.Proofs.YtbikdlcjbigafaaGreatDoor
set_option linter.unusedVariables false
set_option linter.unusedSimpArgs false
set_option maxRecDepth 100000
open Go.ChangeShapes Go.WideShapes Go.ChangeAt Go.RowKit Civ
theorem i6_wf {n : Int} (h : (Lit.int .i64 n).wf = true) : I6 n := by
  obtain ⟨h1, h2⟩ := bounds_i64 h
  exact ⟨h1, by omega⟩
section
variable {H : Type} {enc : TypeId × Value → H} {w : World} {r : Reach} {b0 b : Nat} {sp : Nat → Bool} {held : Bool} {fuel : Nat} {cs : List Value} {y : DataW H × List MemPlace} {v : Value} {d : DataW H} {p : List MemPlace}
theorem rdRawsZ (h : DataW.trod enc Tryz.prog w b sp held fuel 22 cs = some y) : ∃ v xs, cs = [v] ∧ SlAt w 4 RRz v xs :=
  slAt_of_trod Tryz.underlying22 cRaw (by omega) (fun m cs' z hz => by
    obtain ⟨k, a, b, c, e, w1, w2, w3, w4⟩ := rdRaw hz
    exact ⟨⟨k, a, b, c⟩, e, ⟨i6_wf w1, i6_wf w2, i6_wf w3, i6_wf w4⟩⟩) h
theorem openRawsZ (hv : Value.okWide Tryz.prog w r b0 22 v) (h : DataW.Trod enc Tryz.prog w b sp held 22 v d p) : ∃ xs, SlAt w 4 RRz v xs := by
  obtain ⟨a, len, cap, rfl⟩ := okWide_slice Tryz.underlying22 hv
  obtain ⟨fuel, hf⟩ := h
  obtain ⟨v', xs, e, h1⟩ := rdRawsZ hf
  have e' : [Value.slice a len cap] = [v'] := e
  simp only [List.cons.injEq, and_true] at e'
  subst e'
  exact ⟨xs, h1⟩
end
end Go.Proofs.YtbikdlcjbigafaaGreatDoor

namespace Go.Proofs.YtbikdlcjbigafaaGreatDoor
set_option linter.unusedVariables false
set_option linter.unusedSimpArgs false
set_option maxRecDepth 100000
open Go.ChangeShapes Go.WideShapes Go.ChangeAt Go.RowKit Civ

theorem ownS : ownKnob Tryz.prog.godebug = none := by kernel_rfl
theorem laidOutS : laidOutB Tryz.prog = true := by kernel_rfl
theorem laid_at {P : Program} {W : World} : ∀ {l : List (String × DataW Unit)} (i : Nat) {nm : String} {d : DataW Unit}, l[i]? = some (nm, d) → laidMet P l W → laidMet P ((nm, d) :: l.drop (i + 1)) W
  | [], _, _, _, e, _ => by simp at e
  | x :: l, 0, nm, d, e, h => by
    obtain rfl : x = (nm, d) := by simpa using e
    exact h
  | x :: l, i + 1, nm, d, e, h => laid_at i (by simpa using e) h.tail
theorem change_shapedS {H : Type} {enc : TypeId × Value → H} {a : Assume} {C : Checked} {os : Os} {f : FuncId} {fn : Func} {s : ChangeSpec} {conds : List PathCond} {apart fresh handsOn again : Bool} {X : World → Array Value → Prop}
    (hX : ∀ (w w' : World) (args : Array Value), w.heap = w'.heap → X w args → X w' args)
    (own : ownKnob C.prog.godebug = none) (started : os.Started) (noInit : C.prog.inits.idxOf? f = none) (hfn : C.prog.funcs[f]? = some fn)
    (witness : ∃ (w : World) (tape : Tape) (i : Input), w.os = os ∧ (w.forCall tape i).Shaped C.prog ∧ i.vars = [] ∧ Input.okWide C.prog (w.forCall tape i) .any w.heap.size f i ∧
      ((s.pre enc C.prog fn conds apart (w.forCall tape i).memory i.args ∧ X (w.forCall tape i).memory i.args) ∧ sizedMet enc C.prog fn (OpenSpec.ofChange s) apart (w.forCall tape i).memory i.args) ∧ a.holds C.prog (lone (Frame.enter C.prog f i.args .normal) [] (w.forCall tape i)))
    (contract : ∀ (W : World) (base : Nat) (args : Array Value) (ds gs : List (DataW H)) (before : List MemPlace),
      (∀ (j : Nat) t v, fn.params[j]? = some t → args[j]? = some v → Value.okWide C.prog W .any base t v) →
      DataW.Whole enc C.prog fn.params.toList s.vars apart W args.toList ds gs before →
      conds.all (PathCond.test C.prog ⟨fn.params.toList, ds, s.plain.varTypes C.prog, gs⟩) = true →
      W.ShapedOpen C.prog → X W args →
      a.holds C.prog (lone (Frame.enter C.prog f args .normal) [] W) →
      Calls C.prog f args W fun e W' => ∃ v, e = .returned v ∧ s.post enc C.prog fn apart fresh handsOn again W args v W') :
    ReturnsInHanded a C os f .any (fun w args => (s.pre enc C.prog fn conds apart w args ∧ X w args) ∧ sizedMet enc C.prog fn (OpenSpec.ofChange s) apart w args) (s.post enc C.prog fn apart fresh handsOn again) := by
  refine returnsInHanded_of_calls own started noInit witness ?_
  intro w tape i _ hsh _ hok hpre hholds
  obtain ⟨_, _, _, fn', hfn', _, _, _, _, hval⟩ := hok
  have e : fn' = fn := Option.some.inj (hfn'.symm.trans hfn)
  subst e
  obtain ⟨⟨⟨ds, gs, before, hw, hc⟩, hx⟩, hz⟩ := hpre
  have hw' := DataW.Whole.of_heap (w' := w.forCall tape i) (by rfl) hw
  refine (contract (w.forCall tape i) w.heap.size i.args ds gs before hval hw' hc hsh (hX _ _ _ (by rfl) hx) hholds).mono fun e W' ⟨v, he, hp⟩ => ?_
  subst he
  exact ChangeSpec.post_blind hp
theorem tPowS : (Tryz.prog.globals[5]?).map (·.type) = some 245 := by kernel_rfl
theorem cU64S : Tryz.prog.cellsOf 211 = 1 := by kernel_rfl
theorem cPowS : Tryz.prog.cellsOf 245 = 20 := by kernel_rfl
theorem gPowS : Tryz.prog.globalNamed "internal/strconv.uint64pow10" = some 5 := by kernel_rfl
theorem pow_at {W : World} {l : List (String × DataW Unit)} (i : Nat) (e : l[i]? = some ("internal/strconv.uint64pow10", Rows.laid_internal_strconv_uint64pow10)) (h : laidMet Tryz.prog l W) : Lib.TabIs Tryz.prog W "internal/strconv.uint64pow10" .u64 Lib.pow10Tab := by
  have h' := laid_at i e h
  have e : (Rows.laid_internal_strconv_uint64pow10 : DataW Unit) = Lib.tabData .u64 Lib.pow10Tab := by kernel_rfl
  rw [e] at h'
  exact Lib.tabIs_of_head gPowS tPowS Tryz.underlying245 Tryz.underlying211 cU64S cPowS h'
theorem tMonN : (Tryz.prog.globals[1]?).map (·.type) = some 226 := by kernel_rfl
theorem tDayN : (Tryz.prog.globals[6]?).map (·.type) = some 247 := by kernel_rfl
theorem cStrS : Tryz.prog.cellsOf 9 = 1 := by kernel_rfl
theorem cMonN : Tryz.prog.cellsOf 226 = 12 := by kernel_rfl
theorem cDayN : Tryz.prog.cellsOf 247 = 7 := by kernel_rfl
theorem gMonN : Tryz.prog.globalNamed "sundial/source.monthNames" = some 1 := by kernel_rfl
theorem gDayN : Tryz.prog.globalNamed "sundial/source.dayNames" = some 6 := by kernel_rfl
def monNS : List (List UInt8) := [[74, 97, 110], [70, 101, 98], [77, 97, 114], [65, 112, 114], [77, 97, 121], [74, 117, 110], [74, 117, 108], [65, 117, 103], [83, 101, 112], [79, 99, 116], [78, 111, 118], [68, 101, 99]]
def dayNS : List (List UInt8) := [[83, 117, 110], [77, 111, 110], [84, 117, 101], [87, 101, 100], [84, 104, 117], [70, 114, 105], [83, 97, 116]]
theorem blk_cellS {W : World} {g o : Nat} {v : Value} (h : W.cell? ⟨g, o, none⟩ = some v) : g < W.heap.size := by
  rcases Nat.lt_or_ge g W.heap.size with q | q
  · exact q
  · simp [World.cell?, Array.getElem?_eq_none q] at h
theorem srV_at {W : World} {l : List (String × DataW Unit)} (i j : Nat) (e1 : l[i]? = some ("sundial/source.monthNames", Rows.laid_sundial_source_monthNames)) (e2 : l[j]? = some ("sundial/source.dayNames", Rows.laid_sundial_source_dayNames)) (h : laidMet Tryz.prog l W) (hM : MxL W) : SrV W := by
  have h1 : laidMet Tryz.prog (("sundial/source.monthNames", .agg (monNS.map fun z => .lit (.string z))) :: l.drop (i + 1)) W := laid_at i e1 h
  have h2 : laidMet Tryz.prog (("sundial/source.dayNames", .agg (dayNS.map fun z => .lit (.string z))) :: l.drop (j + 1)) W := laid_at j e2 h
  have v1 := strs_of_head gMonN tMonN Tryz.underlying226 Tryz.underlying9 cStrS cMonN h1
  have v2 := strs_of_head gDayN tDayN Tryz.underlying247 Tryz.underlying9 cStrS cDayN h2
  have c1 : ∀ k (hk : k < monN.length), W.cell? ⟨1, k, none⟩ = some (.string monN[k]) := fun k hk => by
    rw [World.var?_cell gMonN v1 k]
    have hk : k < 12 := hk
    match k, hk with
    | 0, _ => rfl
    | 1, _ => rfl
    | 2, _ => rfl
    | 3, _ => rfl
    | 4, _ => rfl
    | 5, _ => rfl
    | 6, _ => rfl
    | 7, _ => rfl
    | 8, _ => rfl
    | 9, _ => rfl
    | 10, _ => rfl
    | 11, _ => rfl
  have c2 : ∀ k (hk : k < wdN.length), W.cell? ⟨6, k, none⟩ = some (.string wdN[k]) := fun k hk => by
    rw [World.var?_cell gDayN v2 k]
    have hk : k < 7 := hk
    match k, hk with
    | 0, _ => rfl
    | 1, _ => rfl
    | 2, _ => rfl
    | 3, _ => rfl
    | 4, _ => rfl
    | 5, _ => rfl
    | 6, _ => rfl
  exact ⟨c1, blk_cellS (c1 0 (by decide)), c2, blk_cellS (c2 0 (by decide)), hM⟩
end Go.Proofs.YtbikdlcjbigafaaGreatDoor

namespace Go.Proofs.YtbikdlcjbigafaaGreatDoor
set_option linter.unusedVariables false
set_option linter.unusedSimpArgs false
set_option maxRecDepth 100000
open Go.ChangeShapes Go.WideShapes Go.ChangeAt Go.RowKit Civ

theorem tMonthsS : (Tryz.prog.globals[0]?).map (·.type) = some 176 := by kernel_rfl
theorem cIntS : Tryz.prog.cellsOf 3 = 1 := by kernel_rfl
theorem cMonthsS : Tryz.prog.cellsOf 176 = 13 := by kernel_rfl
theorem gMonthsS : Tryz.prog.globalNamed "sundial/civil.months" = some 0 := by kernel_rfl
def monLS : List Int := [0, 31, 59, 90, 120, 151, 181, 212, 243, 273, 304, 334, 365]
theorem monLS_get : ∀ i : Nat, i < 13 → monLS.getD i 0 = mon i := by decide
theorem tab_at {W : World} {l : List (String × DataW Unit)} (i : Nat) (e : l[i]? = some ("sundial/civil.months", Rows.laid_sundial_civil_months)) (h : laidMet Tryz.prog l W) : Tab W := by
  have h' : laidMet Tryz.prog (("sundial/civil.months", Lib.tabData .i64 monLS) :: l.drop (i + 1)) W := laid_at i e h
  have hT := Lib.tabIs_of_head gMonthsS tMonthsS Tryz.underlying176 Tryz.underlying3 cIntS cMonthsS h'
  have hc : ∀ i : Nat, i < 13 → W.cell? ⟨0, i, none⟩ = some (.int .i64 (mon i)) := fun i hi => by
    rw [← monLS_get i hi]; exact hT.cell gMonthsS i hi
  refine ⟨hc, ?_⟩
  rcases Nat.lt_or_ge 0 W.heap.size with g | g
  · exact g
  · have := hc 0 (by omega)
    simp [World.cell?, Array.getElem?_eq_none g] at this
end Go.Proofs.YtbikdlcjbigafaaGreatDoor
