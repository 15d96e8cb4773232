/-
  SourcesRead: the walk.
-/
import Derived.BigQuiet
import Derived.Test.YtbciennhcdabeaaDoorLnT
import Derived.Test.YtbciennhcdabeaaDoorKsB
import Derived.Test.YtbciennhcdabeaaDoorShCnt
namespace Go.Proofs.YtbciennhcdabeaaDoor
set_option linter.unusedVariables false
set_option linter.unusedSimpArgs false
open Go.ChangeShapes Go.WideShapes Go.ChangeAt Go.RowKit Civ

theorem count_rules (xs : List Rz) (w : World) (hM : MxL w) : Calls Tryd.prog 6 #[.string (bx (srcT xs)), .string ⟨#[82, 117, 108, 101, 32]⟩] w fun e w' => e = .returned (.int .i64 ((srcO xs).rules.length : Int)) ∧ w' = w := by
  obtain ⟨⟨m, hm⟩, -⟩ := hM
  have h := Sh.strings_Count (bx (srcT xs)) ⟨#[82, 117, 108, 101, 32]⟩ m w (by rw [bx_size]; have := srcT_len xs; omega) hm (by decide)
  have e : (Lib.countB (bx (srcT xs)) ⟨#[82, 117, 108, 101, 32]⟩ : Int) = ((srcO xs).rules.length : Int) := by
    rw [← srcT_rules xs]
    rfl
  rw [e] at h
  exact h
/-- the first zone's name. -/
theorem zon_first {w : World} {a : Option Addr} {c : Nat} {z : Zon} {l : List Zon} (h : SlAt w 2 (XZon w) (.slice a (z :: l).length c) (z :: l)) : ∃ b off, a = some ⟨b, off, none⟩ ∧ b < w.heap.size ∧ w.cell? ⟨b, off, none⟩ = some (.string z.nm) := by
  rcases h with ⟨a', c', e, h⟩ | ⟨b, off, cap, e, h0, h1, h2, h3, h4⟩
  · cases h
  · simp only [Value.slice.injEq] at e
    obtain ⟨rfl, -, -⟩ := e
    obtain ⟨cs, c1, ⟨v, rfl, -⟩, c3⟩ := h4 0 (by simp)
    exact ⟨b, off, rfl, h3, c3 0 (by omega)⟩
set_option maxRecDepth 100000 in
set_option maxHeartbeats 4000000 in
theorem walkSourcesRead (v : Value) (xs : List Rz) (W : World) (hs : SlAt W 4 RRz v xs) (hV : SrV W ∧ PwT W) :
    Calls Tryd.prog 3 #[v] W fun e w' => e = .returned (.bool true) ∧ Below W.heap.size W w' := by
  obtain ⟨hV, hT⟩ := hV
  have HSO := Lib.hid (Source_s xs v W hs hT)
  have HV := Lib.hid hV
  have HRD := Lib.hid (fun wx (h : SrV wx) => Read_any (bx (srcT xs)) wx h (by rw [bx_size]; have := srcT_len xs; unfold maxLen; omega))
  obtain ⟨q1, q2, q3⟩ := src_reads xs
  rw [q1, q2, q3] at HRD
  have HCN := Lib.hid (fun wx (h : MxL wx) => count_rules xs wx h)
  obtain ⟨T, hTT⟩ : ∃ t, bx (srcT xs) = t := ⟨_, rfl⟩
  rw [hTT] at HSO HRD HCN
  obtain ⟨O, hO⟩ : ∃ o, srcO xs = o := ⟨_, rfl⟩
  rw [hO] at HRD HCN
  obtain ⟨z1, z2, hz, hzn⟩ : ∃ z1 z2, O.zones = [z1, z2] ∧ z1.nm = bx oneWd := by rw [← hO]; exact ⟨_, _, rfl, rfl⟩
  have hl2 : O.links.length = 2 := by rw [← hO]; rfl
  have HZ := Lib.hid hz
  have HZN := Lib.hid hzn
  have HL2 := Lib.hid hl2
  clear q1 q2 q3 hTT hO hV hT hs hz hzn hl2
  go_enter Tryd.func3, Tryd.ntmps3
  go_wp2_with fail
  refine HSO.out.mono ?_; rintro e w1 ⟨rfl, b1⟩
  have B1 := Lib.hid b1
  clear b1 HSO
  go_wp2_with fail
  refine (HRD.out _ (HV.out.below B1.out)).mono ?_; rintro e w2 ⟨vr, vz, vl, rfl, hx, b2⟩
  obtain ⟨W2, hW2⟩ : ∃ W2, W2 = w2.alloc (.cells #[vr, vz, vl] 28) := ⟨_, rfl⟩
  have B2 : Hid (Below W.heap.size W W2) := by show Below _ _ _; rw [hW2]; exact (B1.out.trans (b2.mono B1.out.size)).alloc (Nat.le_trans B1.out.size b2.size) _
  have X2 : Hid (BxO W2 w2.heap.size #[vr, vz, vl] 28) := by show BxO _ _ _ _; rw [hW2]; exact BxO.new _ _ _
  have S2 : Hid (SrX W2 vr vz vl O) := by show SrX _ _ _ _ _; rw [hW2]; exact hx.mono ((Below.refl _ _).alloc (Nat.le_refl _) _)
  have HW2 := Lib.hid hW2
  obtain ⟨a0, c0, rfl, -⟩ := hx.1.shape
  obtain ⟨a1, c1, rfl, -⟩ := hx.2.1.shape
  obtain ⟨a2, c2, rfl, -⟩ := hx.2.2.shape
  clear hW2 hx b2 HRD
  go_upto_region 3 with fail
  rw [← HW2.out]
  clear HW2
  have h21 := S2.out.2.1
  rw [HZ.out] at h21
  obtain ⟨bz, oz, e', hbz, hcz⟩ := zon_first h21
  subst e'
  have x0 : W2.cell? ⟨w2.heap.size, 0, none⟩ = some (.slice a0 O.rules.length c0) := X2.out.cell 0
  have x1 : W2.cell? ⟨w2.heap.size, 1, none⟩ = some (.slice (some ⟨bz, oz, none⟩) 2 c1) := by
    have := X2.out.cell 1
    rw [HZ.out] at this
    exact this
  have x2 : W2.cell? ⟨w2.heap.size, 2, none⟩ = some (.slice a2 2 c2) := by
    have := X2.out.cell 2
    rw [HL2.out] at this
    exact this
  have xl := X2.out.lt
  rw [HZN.out] at hcz
  have hcz' : W2.cell? ⟨bz, oz, none⟩ = some (.string ⟨#[79, 110, 101, 47, 65]⟩) := hcz
  have l1 : (⟨#[79, 110, 101, 47, 65]⟩ : ByteArray).toList = [79, 110, 101, 47, 65] := by rw [ByteArray.toList_eq]
  clear hcz h21
  go_wp2_with fail
  refine (HCN.out _ (HV.out.below B2.out).mx).mono ?_; rintro e w3 ⟨rfl, rfl⟩
  go_wp2
  go_ret
  exact ⟨ret_bool (by simp), B2.out⟩
end Go.Proofs.YtbciennhcdabeaaDoor
