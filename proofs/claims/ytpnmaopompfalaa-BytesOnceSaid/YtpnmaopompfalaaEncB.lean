/-
  Numbers and names as bytes.
-/
import Derived.Test.YtpnmaopompfalaaEncA
import Derived.Lib.AppendStr
namespace Go.Proofs.Ytpnmaopompfalaa
set_option linter.unusedVariables false
set_option linter.unusedSimpArgs false
open Go.ChangeShapes Go.WideShapes Go.ChangeAt Go.RowKit

def strL (s : ByteArray) : List Int := s.data.toList.map fun b => (b.toNat : Int)
theorem strL_len (s : ByteArray) : (strL s).length = s.size := by unfold strL; rw [List.length_map, Array.length_toList]; rfl
theorem strL_cells (s : ByteArray) : Lib.strCells s = (strL s).flatMap encB := by
  unfold Lib.strCells strL encB
  rw [List.flatMap_map]
  induction s.data.toList with
  | nil => rfl
  | cons a l ih => simp_all
theorem own_str {w : World} {B : Nat} {e : TypeId} {v : Value} {l : List Int} {s : ByteArray} (h : w.ownsRow B e 1 v (l.length + s.size) (l.flatMap encB ++ Lib.strCells s)) : w.ownsRow B e 1 v (l ++ strL s).length ((l ++ strL s).flatMap encB) := by
  rw [strL_cells] at h
  rw [List.flatMap_append, List.length_append, strL_len]
  exact h
set_option maxRecDepth 100000 in
set_option maxHeartbeats 4000000 in
theorem wtext_any (P B : Nat) (l : List Int) (s : ByteArray) (w : World) (hP : B ≤ P) (h : ByAt w P B l) (hs : s.size ≤ 100000) (hl : l.length ≤ 900000000) :
    Calls Try.prog 90 #[.pointer (some ⟨P, 0, none⟩), .string s] w fun e w' => e = .returned (.tuple #[]) ∧ ByAt w' P B (l ++ zb s.size ++ strL s) ∧ Kp P w w' ∧ Below B w w' := by
  obtain ⟨i0, hi, hz0, hz1, hz2⟩ := info_parts info_byte
  have HB := Lib.hid h
  have h64 : I64 (s.size : Int) := i64_nat _ hs
  have hzl := zb_len h64
  clear h
  go_enter Try.func90, Try.ntmps90
  go_wp2_with fail
  refine (wnum_any P B l s.size w hP HB.out.to0 h64 (by omega)).mono ?_; rintro e w1 ⟨rfl, hby, hkp, hbr⟩
  obtain ⟨L, hL⟩ : ∃ L, L = l ++ zb s.size := ⟨_, rfl⟩
  rw [← hL] at hby
  obtain ⟨v, cb, eb, fb, hh, heb, c0, f0, hown⟩ := hby
  obtain ⟨av, cv, rfl⟩ := own_shape hown
  have HOWN := Lib.hid hown
  have HC0 := Lib.hid c0
  have HF0 := Lib.hid f0
  have hzP := heap_lt hh
  have HH := Lib.hid hh
  have HE := Lib.hid heb
  have HKP := Lib.hid hkp
  have hlen : L.length ≤ 900000010 := by rw [hL, List.length_append]; omega
  have HL := Lib.hid hL
  clear hown hh heb hkp hL
  go_wp2_with (at_builtin; refine Lib.wpList_append_own_string _ rfl _ _ 66 9 rfl B 5 i0 Try.underlying66 Try.underlying9 hi hz0 hz1 hz2 _ _ _ rfl HOWN.out s rfl (by unfold maxLen; omega) (by omega) (by omega) ?_; intro v' w2 hown' hgrow _; obtain ⟨a2, c2, rfl⟩ := own_shape hown'; obtain ⟨y0, y1, y2⟩ := by_box HOWN.out HH.out HE.out HC0.out HF0.out (Below.refl _ _) hgrow; have HST := Lib.hid (by_step hP HOWN.out HH.out HE.out HC0.out HF0.out (Below.refl _ _) hgrow rfl (own_str hown')); clear hown' hgrow)
  go_end0
  refine ⟨rfl, ?_, HKP.out.trans HST.out.2.1, hbr.trans HST.out.2.2⟩
  rw [← HL.out]
  exact HST.out.1
theorem seven_bits {n : Int} (h : I64 n) (c : n < 0) : bits .xor .u64 IntKind.u64.max (IntKind.u64.wrap (2 * IntKind.u64.wrap n)) = (zz n : Int) := by
  obtain ⟨b1, b2⟩ := bounds_i64 h
  rw [IntKind.wrap_u64, IntKind.wrap_u64]
  have e1 : n % 18446744073709551616 = n + 18446744073709551616 := by omega
  have e2 : (2 * (n % 18446744073709551616)) % 18446744073709551616 = ((2 * n + 18446744073709551616).toNat : Int) := by rw [e1]; omega
  have e3 : IntKind.u64.max = ((18446744073709551615 : Nat) : Int) := by decide
  rw [e2, e3, bits_xor_u64_nat _ _ (by decide) (by omega), Nat.xor_comm, xor_ones _ (by omega)]
  unfold zz
  rw [if_pos c]
  omega
set_option maxRecDepth 100000 in
set_option maxHeartbeats 4000000 in
theorem sevens_any (n : Int) (w : World) (hn : I64 n) :
    Calls Try.prog 91 #[.int .i64 n] w fun e w' => ∃ v, e = .returned v ∧ w'.ownsRow w.heap.size 5 1 v (zb n).length ((zb n).flatMap encB) ∧ Below w.heap.size w w' := by
  obtain ⟨i0, hi, hz0, hz1, hz2⟩ := info_parts info_byte
  obtain ⟨b1, b2⟩ := bounds_i64 hn
  obtain ⟨Z, hZ⟩ : ∃ Z, Z = zz n := ⟨_, rfl⟩
  have hZl : Z < 18446744073709551616 := by rw [hZ]; exact zz_lt hn
  have HLS : Hid ([] ++ sv Z = zb n) := by show _ = _; unfold zb; rw [hZ]; rfl
  have HLL : Hid ((zb n).length ≤ 10) := zb_len hn
  have hcase : (n < 0 ∧ bits .xor .u64 IntKind.u64.max (IntKind.u64.wrap (2 * IntKind.u64.wrap n)) = (Z : Int)) ∨ (0 ≤ n ∧ 2 * n = (Z : Int)) := by
    by_cases c : n < 0
    · exact .inl ⟨c, by rw [hZ]; exact seven_bits hn c⟩
    · refine .inr ⟨by omega, ?_⟩
      rw [hZ]; unfold zz; rw [if_neg c]; omega
  clear hZ hn
  rcases hcase with ⟨hneg, hbit⟩ | ⟨hneg, hbit⟩
  all_goals
    go_enter Try.func91, Try.ntmps91
    go_wp2
    go_loopw [3, 4] (fun u r wr => ∃ (k : Nat) (l' : List Int), u = .int .u64 k ∧ k < 18446744073709551616 ∧ Hid (l' ++ sv k = zb n) ∧ Hid (wr.ownsRow w.heap.size 5 1 r l'.length (l'.flatMap encB)) ∧ Below w.heap.size w wr) (fun u _ _ => (intOf u).toNat)
    case atStart => exact ⟨Z, [], (by first | rfl | rw [hbit]), hZl, HLS, World.ownsRow_nil _ _ _ _, Below.refl _ _⟩
    case round =>
      obtain ⟨k, l', rfl, hk, hls, hown, hbr⟩ := hrel
      obtain ⟨av, cv, rfl⟩ := own_shape hown.out
      have hsz := hbr.size
      have hll : l'.length ≤ 10 := by
        have := HLL.out
        rw [← hls.out, List.length_append] at this
        omega
      clear hbit
      by_cases hb : 128 ≤ k
      · obtain ⟨k2, hk2⟩ : ∃ k2 : Nat, k2 = k / 128 := ⟨_, rfl⟩
        obtain ⟨r, hr⟩ : ∃ r : Nat, r = k % 128 := ⟨_, rfl⟩
        have hdv : (k : Int) / 128 = (k2 : Int) := by omega
        have hdm : (k : Int) % 128 = (r : Int) := by omega
        have hr8 : r < 128 := by omega
        have hw1 : IntKind.u8.wrap (r : Int) = (r : Int) := last_bits r hr8
        have hw2 : IntKind.u8.wrap ((r : Int) + 128) = (r : Int) + 128 := by show ((r : Int) + 128) % 256 = _; omega
        have HLS2 : Hid ((l' ++ [(r : Int) + 128]) ++ sv k2 = zb n) := by
          show _ = _
          rw [← hls.out, sv_big hb, hk2, hr, List.append_assoc]
          simp
        have hk22 : k2 < k := by omega
        clear hk2 hr
        go_wp2_with (at_builtin; refine wpList_append_own _ rfl _ _ 66 rfl w.heap.size 5 i0 (.int .u8 0) 1 1 Try.underlying66 hi hz0 hz1 hz2 rfl (by decide) _ _ _ rfl (hown.out.alloc _) ⟨wr.heap.size, 0, none⟩ 1 1 (encB ((r : Int) + 128)) rfl rfl (cells_at _ _ _ _ _ rfl rfl) (by intro u hu; simp [encB] at hu; subst hu; rfl) (by unfold maxLen; omega) (by omega) (by rw [size_alloc]; omega) ?_; intro v' w2 hown' hgrow _; have HBb := append_keep hown.out ((Below.refl _ _).alloc hsz _) hsz hgrow; have HO := Lib.hid (own_snocG hown'); clear hown' hgrow)
        go_roundw
        case rel => exact ⟨k2, l' ++ [(r : Int) + 128], by go_num, by omega, HLS2, HO, hbr.trans HBb⟩
        case measure => simp [intOf]; omega
      · have hlow := last_bits k (by omega)
        have HLS2 : Hid (l' ++ [(k : Int)] = zb n) := by
          show _ = _
          rw [← hls.out, sv_small (by omega)]
        go_wp2_with (at_builtin; refine wpList_append_own _ rfl _ _ 66 rfl w.heap.size 5 i0 (.int .u8 0) 1 1 Try.underlying66 hi hz0 hz1 hz2 rfl (by decide) _ _ _ rfl (hown.out.alloc _) ⟨wr.heap.size, 0, none⟩ 1 1 (encB (k : Int)) rfl rfl (cells_at _ _ _ _ _ rfl rfl) (by intro u hu; simp [encB] at hu; subst hu; rfl) (by unfold maxLen; omega) (by omega) (by rw [size_alloc]; omega) ?_; intro v' w2 hown' hgrow _; have HBb := append_keep hown.out ((Below.refl _ _).alloc hsz _) hsz hgrow; have HO := Lib.hid (own_snocG hown'); clear hown' hgrow)
        go_ret
        refine ⟨_, rfl, ?_, hbr.trans HBb⟩
        rw [← HLS2.out]
        exact HO.out
end Go.Proofs.Ytpnmaopompfalaa
