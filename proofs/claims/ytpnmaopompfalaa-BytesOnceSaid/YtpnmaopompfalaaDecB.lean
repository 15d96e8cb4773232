/-
  A reader of bytes: numbers.
-/
import Derived.Test.YtpnmaopompfalaaDecA
import Derived.Test.YtpnmaopompfalaaEncA
namespace Go.Proofs.Ytpnmaopompfalaa
set_option linter.unusedVariables false
set_option linter.unusedSimpArgs false
open Go.ChangeShapes Go.WideShapes Go.ChangeAt Go.RowKit

def unz (u : Nat) : Int := if u % 2 = 1 then -((u / 2 : Nat) : Int) - 1 else ((u / 2 : Nat) : Int)
/-- a number: its value, what is left, what is wrong. -/
def num (i u : Nat) : List Int → Int × List Int × Int
  | [] => (0, [], 5)
  | c :: bs => if (i = 9 ∧ 1 < c) ∨ (0 < i ∧ c = 0) then (0, bs, 4) else if c < 128 then (unz (u + c.toNat * 128 ^ i), bs, 0) else num (i + 1) (u + (c.toNat % 128) * 128 ^ i) bs
def numE (bs : List Int) (e : Int) : Int × List Int × Int := if e ≠ 0 then (0, bs, e) else num 0 0 bs
def Byt (bs : List Int) : Prop := ∀ c ∈ bs, 0 ≤ c ∧ c < 256
theorem and_low : ∀ c : Nat, c < 256 → bits .and .u8 (c : Int) 127 = ((c % 128 : Nat) : Int) := by decide +kernel
theorem or_step (v c k : Nat) (hv : v < 128 ^ k) (hc : c < 256) (h9 : (c % 128) * 128 ^ k + 128 ^ k ≤ 18446744073709551616) : bits .or .u64 (v : Int) (IntKind.u64.wrap (IntKind.u64.wrap (bits .and .u8 (c : Int) 127) * 2 ^ (7 * k))) = ((v + (c % 128) * 128 ^ k : Nat) : Int) := by
  have e0 : (2 : Nat) ^ (7 * k) = 128 ^ k := by rw [Nat.pow_mul]
  have e1 : (2 : Int) ^ (7 * k) = ((128 ^ k : Nat) : Int) := by rw [← e0, Int.natCast_pow]; rfl
  rw [and_low c hc, e1, IntKind.wrap_u64, IntKind.wrap_u64]
  have e2 : ((c % 128 : Nat) : Int) % 18446744073709551616 = ((c % 128 : Nat) : Int) := by omega
  rw [e2, ← Int.natCast_mul]
  generalize hM : c % 128 * 128 ^ k = M at *
  have h0 : 0 < 128 ^ k := Nat.pow_pos (by decide)
  have e3 : ((M : Nat) : Int) % 18446744073709551616 = (M : Int) := by omega
  rw [e3, bits_or_n _ _ (by omega) (by omega)]
  have h := Nat.two_pow_add_eq_or_of_lt (i := 7 * k) (b := v) (by rw [e0]; exact hv) (c % 128)
  rw [e0, Nat.mul_comm, hM] at h
  rw [Nat.or_comm, ← h, Nat.add_comm]
theorem xor_i64 (a : Nat) (ha : a < 9223372036854775808) : bits .xor .i64 (a : Int) (-1) = -(a : Int) - 1 ∧ bits .xor .i64 (a : Int) 0 = (a : Int) := by
  have h1 : (BitVec.ofInt 64 (a : Int)).toNat = a := by rw [BitVec.ofInt_natCast, BitVec.toNat_ofNat]; exact Nat.mod_eq_of_lt (by omega)
  have h2 : (BitVec.ofInt 64 (-1)).toNat = 18446744073709551615 := by decide
  have h3 : (BitVec.ofInt 64 0).toNat = 0 := by decide
  constructor
  · show IntKind.i64.wrap ((BitVec.ofInt 64 (a : Int) ^^^ BitVec.ofInt 64 (-1)).toNat : Int) = _
    rw [BitVec.toNat_xor, h1, h2, xor_ones a (by omega), IntKind.wrap_i64]
    omega
  · show IntKind.i64.wrap ((BitVec.ofInt 64 (a : Int) ^^^ BitVec.ofInt 64 0).toNat : Int) = _
    rw [BitVec.toNat_xor, h1, h3, Nat.xor_zero, IntKind.wrap_i64]
    omega
theorem zag_bits (N : Nat) (h : N < 18446744073709551616) : bits .xor .i64 (wrap64 ((N : Int) / 2)) (wrap64 (-wrap64 (bits .and .u64 (N : Int) 1))) = unz N := by
  have e1 : bits .and .u64 (N : Int) 1 = ((N % 2 : Nat) : Int) := by
    rw [show (1 : Int) = ((1 : Nat) : Int) from rfl, bits_and_n _ _ h (by decide)]
    rw [show (1 : Nat) = 2 ^ 1 - 1 from rfl, Nat.and_two_pow_sub_one_eq_mod]
  have e2 : wrap64 ((N : Int) / 2) = ((N / 2 : Nat) : Int) := by rw [IntWalk.wrap64_in _ (by omega)]; omega
  rw [e1, e2]
  obtain ⟨x1, x2⟩ := xor_i64 (N / 2) (by omega)
  unfold unz
  rcases (show N % 2 = 1 ∨ N % 2 = 0 by omega) with c | c
  · rw [if_pos c, c]
    have : wrap64 (-wrap64 ((1 : Nat) : Int)) = -1 := by rw [IntWalk.wrap64_in ((1 : Nat) : Int) (by omega), IntWalk.wrap64_in _ (by omega)]; rfl
    rw [this]
    exact x1
  · rw [if_neg (by omega), c]
    have : wrap64 (-wrap64 ((0 : Nat) : Int)) = 0 := by rw [IntWalk.wrap64_in ((0 : Nat) : Int) (by omega), IntWalk.wrap64_in _ (by omega)]; rfl
    rw [this]
    exact x2
theorem step_bd (c k : Nat) (hk : k ≤ 9) (h : k = 9 → c ≤ 1) : (c % 128) * 128 ^ k + 128 ^ k ≤ 18446744073709551616 := by
  rw [← Nat.succ_mul]
  rcases (show k = 9 ∨ k ≤ 8 by omega) with e | e
  · have := h e
    subst e
    have h1 : c % 128 + 1 ≤ 2 := by omega
    exact Nat.le_trans (Nat.mul_le_mul_right _ h1) (by decide)
  · have h1 : c % 128 + 1 ≤ 128 := by omega
    exact Nat.le_trans (Nat.mul_le_mul h1 (Nat.pow_le_pow_right (by decide) e)) (by decide)
theorem num_cons (i u c : Nat) (bs : List Int) : num i u ((c : Int) :: bs) = if (i = 9 ∧ 1 < (c : Int)) ∨ (0 < i ∧ (c : Int) = 0) then (0, bs, 4) else if (c : Int) < 128 then (unz (u + c * 128 ^ i), bs, 0) else num (i + 1) (u + (c % 128) * 128 ^ i) bs := rfl
theorem grown_two {w w1 w2 : World} {b : Option Nat} (h : w.grownBy w1 b) (g : w1.grownBy w2 b) : w.grownBy w2 b :=
  ⟨g.os.trans h.os, g.tape.trans h.tape, g.output.trans h.output, Nat.le_trans h.size g.size, fun k hk hb => (g.block k (Nat.lt_of_lt_of_le hk h.size) hb).trans (h.block k hk hb)⟩
set_option maxRecDepth 100000 in
set_option maxHeartbeats 4000000 in
theorem rnum_any (P g : Nat) (bs : List Int) (w : World) (h : RdAt w P g bs 0) (hb : Byt bs) :
    Calls Try.prog 97 #[.pointer (some ⟨P, 0, none⟩)] w fun r w' => r = .returned (.int .i64 (num 0 0 bs).1) ∧ RdAt w' P g (num 0 0 bs).2.1 (num 0 0 bs).2.2 ∧ w.grownBy w' (some P) := by
  have H := Lib.hid h
  have HBY := Lib.hid hb
  clear h hb
  have fin : ∀ (a : Int) (l : List Int) (e : Int) (w1 : World), num 0 0 bs = (a, l, e) → RdAt w1 P g l e → w.grownBy w1 (some P) → (Ending.returned (.int .i64 a) = .returned (.int .i64 (num 0 0 bs).1) ∧ RdAt w1 P g (num 0 0 bs).2.1 (num 0 0 bs).2.2 ∧ w.grownBy w1 (some P)) := fun _ _ _ _ h1 h2 h3 => by rw [h1]; exact ⟨rfl, h2, h3⟩
  have FIN := Lib.hid fin
  clear fin
  go_enter Try.func97, Try.ntmps97
  go_wp2
  go_loopw [3, 4] (fun u i wr => ∃ (k v : Nat) (bt : List Int), k ≤ 9 ∧ i = .int .i64 k ∧ u = .int .u64 v ∧ v < 128 ^ k ∧ Hid (num 0 0 bs = num k v bt) ∧ Hid (RdAt wr P g bt 0) ∧ Hid (Byt bt) ∧ w.grownBy wr (some P)) (fun _ i _ => (10 - intOf i).toNat)
  case atStart => exact ⟨0, 0, bs, by omega, rfl, rfl, by decide, Lib.hid rfl, H, HBY, ⟨rfl, rfl, rfl, Nat.le_refl _, fun _ _ _ => rfl⟩⟩
  case round =>
    obtain ⟨k, v, bt, hk, rfl, rfl, hv, hnm, hrd, hby, hgr⟩ := hrel
    have HGR := Lib.hid hgr
    clear hgr
    cases bt with
    | nil =>
      have HN : Hid (num 0 0 bs = (0, [], 5)) := hnm
      clear hv
      go_wp2_with fail
      refine (take_no P g 1 0 [] wr hrd.out (.inr (by simp))).mono ?_; rintro r w1 ⟨rfl, hr, hg⟩
      obtain ⟨off, cap, h1, h2, h3, h4, h5, h6, h7⟩ := hr
      have HR : Hid (RdAt w1 P g [] 5) := ⟨off, cap, h1, h2, h3, h4, h5, h6, h7⟩
      have hz := cell_lt h4
      have h4' : w1.cell? ⟨P, 1, none⟩ = some (.int .i64 5) := h4
      have HG := Lib.hid hg
      clear h1 h2 h3 h4 h5 h7 hg
      go_wp2
      go_ret
      exact FIN.out _ _ _ _ HN.out HR.out (grown_two HGR.out HG.out)
    | cons c t =>
      obtain ⟨hc1, hc2⟩ := hby.out c List.mem_cons_self
      have HBT : Hid (Byt t) := fun x hx => hby.out x (List.mem_cons_of_mem _ hx)
      obtain ⟨cn, rfl⟩ : ∃ cn : Nat, c = cn := ⟨c.toNat, by omega⟩
      have hcn : cn < 256 := by omega
      have hstep := hnm.out
      rw [num_cons] at hstep
      have HST := Lib.hid hstep
      have hnot : ¬ (k = 9 ∧ 1 < (cn : Int)) → (k = 9 → cn ≤ 1) := fun h e => by
        rcases (show cn ≤ 1 ∨ 1 < (cn : Int) by omega) with h' | h'
        · exact h'
        · exact absurd ⟨e, h'⟩ h
      have hor : (k = 9 → cn ≤ 1) → bits .or .u64 (v : Int) (IntKind.u64.wrap (IntKind.u64.wrap (bits .and .u8 (cn : Int) 127) * 2 ^ (7 * k))) = ((v + (cn % 128) * 128 ^ k : Nat) : Int) := fun h => or_step v cn k hv hcn (step_bd cn k hk h)
      have hNb : (k = 9 → cn ≤ 1) → v + (cn % 128) * 128 ^ k < 18446744073709551616 := fun h => by have := step_bd cn k hk h; omega
      have hNv : v + (cn % 128) * 128 ^ k < 128 ^ (k + 1) := by
        rw [Nat.pow_succ, Nat.mul_comm (128 ^ k) 128]
        have h1 : (cn % 128 + 1) * 128 ^ k ≤ 128 * 128 ^ k := Nat.mul_le_mul_right _ (by omega)
        rw [Nat.succ_mul] at h1
        omega
      have HOR := Lib.hid hor
      have HNB := Lib.hid hNb
      have HNV := Lib.hid hNv
      have HNOT := Lib.hid hnot
      clear hstep hnot hor hNb hNv hv hc1 hc2
      go_wp2_with fail
      refine (take_ok P g 1 ((cn : Int) :: t) wr hrd.out (by simp)).mono ?_; rintro r w1 ⟨off1, ⟨cap1, rfl⟩, hcs, hr, hg⟩
      have hc0 := hcs 0 (by simp) (by omega)
      obtain ⟨off, cap, h1, h2, h3, h4, h5, h6, h7⟩ := hr
      have HR : Hid (RdAt w1 P g t 0) := ⟨off, cap, h1, h2, h3, h4, h5, h6, h7⟩
      have hz := cell_lt h4
      have hc0' : w1.cell? ⟨g, off1, none⟩ = some (.int .u8 (cn : Int)) := hc0
      have hzg := cell_lt hc0'
      have HG := Lib.hid (grown_two HGR.out hg)
      clear h1 h2 h3 h5 h7 hcs hc0 hg
      by_cases hb1 : k = 9 ∧ 1 < (cn : Int)
      · have HN : Hid (num 0 0 bs = (0, t, 4)) := by show _ = _; rw [HST.out, if_pos (.inl hb1)]
        obtain ⟨rfl, hgt⟩ := hb1
        go_wp2_with fail
        refine (wrong_any P g t 0 4 w1 HR.out).mono ?_; rintro r w2 ⟨rfl, hr2, hg2⟩
        have HR2 := Lib.hid hr2
        have HG2 := Lib.hid (grown_two HG.out hg2)
        clear hr2 hg2
        go_wp2
        go_ret
        exact FIN.out _ _ _ _ HN.out HR2.out HG2.out
      · by_cases hb2 : 0 < k ∧ (cn : Int) = 0
        · have HN : Hid (num 0 0 bs = (0, t, 4)) := by show _ = _; rw [HST.out, if_pos (.inr hb2)]
          obtain ⟨hk0, hc00⟩ := hb2
          obtain rfl : cn = 0 := by omega
          have hk0' : (0 : Int) < (k : Int) := by omega
          clear hb1
          rcases (show k = 9 ∨ ((k : Int) == 9) = false by rcases (show k = 9 ∨ k ≠ 9 by omega) with h | h; exact .inl h; exact .inr (by rw [beq_eq_false_iff_ne]; omega)) with rfl | hkb
          all_goals
            go_wp2_with fail
            refine (wrong_any P g t 0 4 w1 HR.out).mono ?_; rintro r w2 ⟨rfl, hr2, hg2⟩
            have HR2 := Lib.hid hr2
            have HG2 := Lib.hid (grown_two HG.out hg2)
            clear hr2 hg2
            go_wp2
            go_ret
            exact FIN.out _ _ _ _ HN.out HR2.out HG2.out
        · have hlim := HNOT.out hb1
          have hor := HOR.out hlim
          obtain ⟨N, hN⟩ : ∃ N, N = v + (cn % 128) * 128 ^ k := ⟨_, rfl⟩
          rw [← hN] at hor
          have hNl : N < 18446744073709551616 := by rw [hN]; exact HNB.out hlim
          have HNN := Lib.hid hN
          have hif := HST.out
          rw [if_neg (fun h => h.elim hb1 hb2)] at hif
          have HIF := Lib.hid hif
          have hk0c : (k = 0 ∧ True) ∨ (0 < k ∧ ((cn : Int) == 0) = false) := by
            rcases (show k = 0 ∨ 0 < k by omega) with h | h
            · exact .inl ⟨h, trivial⟩
            · exact .inr ⟨h, by rw [beq_eq_false_iff_ne]; exact fun e => hb2 ⟨h, e⟩⟩
          have hk9c : (k = 9 ∧ (cn : Int) ≤ 1) ∨ ((k : Int) == 9) = false := by
            rcases (show k = 9 ∨ k ≠ 9 by omega) with h | h
            · exact .inl ⟨h, by have := hlim h; omega⟩
            · exact .inr (by rw [beq_eq_false_iff_ne]; omega)
          clear hN hif hb1 hb2 hlim
          rcases (show (cn : Int) < 128 ∨ 128 ≤ (cn : Int) by omega) with h128 | h128
          · have HN : Hid (num 0 0 bs = (unz N, t, 0)) := by
              show _ = _
              rw [HIF.out, if_pos h128, HNN.out, Nat.mod_eq_of_lt (by omega)]
            have hzag := zag_bits N hNl
            have hzag2 := hzag
            rw [IntWalk.wrap64_in ((N : Int) / 2) (by omega)] at hzag2
            have hkk : ((k : Int) ≤ 0 ∧ ((k : Int) == 9) = false) ∨ ((0 : Int) < (k : Int) ∧ ((cn : Int) == 0) = false ∧ ((k : Int) == 9) = true ∧ (cn : Int) ≤ 1) ∨ ((0 : Int) < (k : Int) ∧ ((cn : Int) == 0) = false ∧ ((k : Int) == 9) = false) := by
              rcases hk0c with ⟨h, _⟩ | ⟨h, h'⟩
              · exact .inl ⟨by omega, by rw [beq_eq_false_iff_ne]; omega⟩
              · rcases hk9c with ⟨h9, h1⟩ | h9
                · exact .inr (.inl ⟨by omega, h', by rw [beq_iff_eq]; omega, h1⟩)
                · exact .inr (.inr ⟨by omega, h', h9⟩)
            clear hk0c hk9c
            rcases hkk with ⟨hk0, hk9⟩ | ⟨hk0, hcb, hk9, hc1⟩ | ⟨hk0, hcb, hk9⟩
            all_goals
              go_wp2
              go_ret
              exact FIN.out _ _ _ _ HN.out HR.out HG.out
          · have hN2 : Hid (num 0 0 bs = num (k + 1) N t) := by
              show _ = _
              rw [HIF.out, if_neg (by omega), HNN.out]
            have hNv : N < 128 ^ (k + 1) := by rw [HNN.out]; exact HNV.out
            have hk9 : ((k : Int) == 9) = false := by
              rcases hk9c with ⟨_, h⟩ | h
              · omega
              · exact h
            have hk99 : k < 9 := by
              rcases (show k < 9 ∨ k = 9 by omega) with h | h
              · exact h
              · rw [h] at hk9; simp at hk9
            have hkk : (k : Int) ≤ 0 ∨ ((0 : Int) < (k : Int) ∧ ((cn : Int) == 0) = false) := by
              rcases hk0c with ⟨h, _⟩ | ⟨h, h'⟩
              · exact .inl (by omega)
              · exact .inr ⟨by omega, h'⟩
            have HNv := Lib.hid hNv
            clear hk0c hk9c hNv
            rcases hkk with hk0 | ⟨hk0, hcb⟩
            all_goals
              go_wp2
              go_roundw
              case rel => exact ⟨k + 1, N, t, by omega, by go_num, rfl, HNv.out, hN2, HR, HBT, HG.out⟩
              case measure => simp [intOf]; omega
end Go.Proofs.Ytpnmaopompfalaa
