/-
  The library's variable internal/bytealg.MaxLen holds some number: of a world that is shaped, and of what lies above it. · The library's strings.Cut: its contract, laid (the shelf's tool lay-plain printed the laying; the numbers by name). · source.Format and sundialref.FormatMay answer fmtL; the law's walk.
-/
import Derived.Shelf.Vars
import Derived.Shelf.LaysM
import Derived.Shelf.Strings.Shaped
import Derived.Shelf.Strings.Cut
import Derived.Test.YtbikdlcjbigafaaGreatDoorJBase
import Derived.Test.YtbikdlcjbigafaaGreatDoorProg
import Derived.Test.YtbikdlcjbigafaaGreatDoorJSrcT
namespace Go.Proofs.YtbikdlcjbigafaaGreatDoor
set_option linter.unusedVariables false
set_option linter.unusedSimpArgs false
open Go.ChangeShapes Go.WideShapes Go.ChangeAt Go.RowKit

def MxL (w : World) : Prop := (∃ m, w.cell? ⟨2, 0, none⟩ = some (.int .i64 m)) ∧ 2 < w.heap.size
theorem MxL.below {w w' : World} (h : MxL w) (hb : Below w.heap.size w w') : MxL w' :=
  ⟨by obtain ⟨m, hm⟩ := h.1; exact ⟨m, by rw [hb.cell (p := ⟨_, _, none⟩) h.2]; exact hm⟩, Nat.lt_of_lt_of_le h.2 hb.size⟩
theorem MxL.drewN {w : World} (h : MxL w) (n : Nat) : MxL (w.drewN n) := h.below (below_draws (Below.refl _ _) n)
theorem mxl_of {w : World} (h : w.ShapedOpen Tryz.prog) : MxL w := by
  obtain ⟨m, hm⟩ := Go.Proofs.cell_of_shapedOpen_int (zero := #[.int .i64 0]) (t := 3) h (of_decide_eq_true (by kernel_rfl)) (by kernel_rfl) rfl (by kernel_rfl) (by kernel_rfl) Tryz.underlying3
  refine ⟨⟨m, hm⟩, ?_⟩
  rcases Nat.lt_or_ge 2 w.heap.size with g | g
  · exact g
  · simp [World.cell?, Array.getElem?_eq_none g] at hm
end Go.Proofs.YtbikdlcjbigafaaGreatDoor

namespace Go.Proofs.YtbikdlcjbigafaaGreatDoor
open Go.Shelf
def Sh.laysM145_ren : Go.Shelf.Ren := ⟨fun | 145 => 72 | 220 => 119 | 219 => 134 | 217 => 151 | 225 => 168 | 224 => 169 | 267 => 170 | 266 => 179 | 314 => 189 | n => n, fun | 9 => 9 | 4 => 4 | 59 => 142 | 3 => 3 | 5 => 5 | 46 => 172 | 146 => 248 | 51 => 209 | n => n, fun | 1 => 2 | n => n⟩
theorem Sh.laysM145 : Go.Proofs.LaysM.n145 Tryz.prog Sh.laysM145_ren := {
  mixed := by kernel_rfl
  f145 := Tryz.func72.trans (congrArg some (by kernel_rfl))
  f217 := Tryz.func151.trans (congrArg some (by kernel_rfl))
  f219 := Tryz.func134.trans (congrArg some (by kernel_rfl))
  f220 := Tryz.func119.trans (congrArg some (by kernel_rfl))
  f224 := Tryz.func169.trans (congrArg some (by kernel_rfl))
  f225 := Tryz.func168.trans (congrArg some (by kernel_rfl))
  f266 := Tryz.func179.trans (congrArg some (by kernel_rfl))
  f267 := Tryz.func170.trans (congrArg some (by kernel_rfl))
  f314 := Tryz.func189.trans (congrArg some (by kernel_rfl))
  t3 := Tryz.underlying3
  a3 := Tryz.isAgg3
  z3 := Tryz.sizeOf3
  v3 := Tryz.zeroValue3
  t4 := Tryz.underlying4
  a4 := Tryz.isAgg4
  z4 := Tryz.sizeOf4
  v4 := Tryz.zeroValue4
  t5 := Tryz.underlying5
  a5 := Tryz.isAgg5
  z5 := Tryz.sizeOf5
  v5 := Tryz.zeroValue5
  t9 := Tryz.underlying9
  a9 := Tryz.isAgg9
  z9 := Tryz.sizeOf9
  v9 := Tryz.zeroValue9
  t46 := Tryz.underlying172
  a46 := Tryz.isAgg172
  z46 := Tryz.sizeOf172
  v46 := Tryz.zeroValue172
  t51 := Tryz.underlying209
  a51 := Tryz.isAgg209
  z51 := Tryz.sizeOf209
  v51 := Tryz.zeroValue209
  t59 := Tryz.underlying142
  a59 := Tryz.isAgg142
  z59 := Tryz.sizeOf142
  v59 := Tryz.zeroValue142
  t146 := Tryz.underlying248
  a146 := Tryz.isAgg248
  z146 := Tryz.sizeOf248
  v146 := Tryz.zeroValue248
  g1 := by kernel_rfl
  i3 := by kernel_rfl
  i4 := by kernel_rfl
  i5 := by kernel_rfl
  i9 := by kernel_rfl
  i46 := by kernel_rfl
  i51 := by kernel_rfl
  i59 := by kernel_rfl
  i146 := by kernel_rfl
  m1 := by kernel_rfl
  s1_3 := fun w h => Go.Proofs.cell_of_shapedOpen_int (zero := #[.int .i64 0]) (t := 3) h (of_decide_eq_true (by kernel_rfl)) (by kernel_rfl) rfl (by kernel_rfl) (by kernel_rfl) Tryz.underlying3 }
open Go.RowKit Go.Lib in
/-- strings.Cut, over the library's variable. -/
theorem cut_any (s sep : ByteArray) (w : World) (h : MxL w) (hs : s.size < 4294967281) :
    Calls Tryz.prog 72 #[.string s, .string sep] w fun e w' => e = .returned (.tuple #[.string ⟨(Lib.cut s.data.toList sep.data.toList).1.toArray⟩, .string ⟨(Lib.cut s.data.toList sep.data.toList).2.1.toArray⟩, .bool (Lib.cut s.data.toList sep.data.toList).2.2]) ∧ ∃ n, w' = w.drewN n := by
  obtain ⟨m, hm⟩ := h.1
  exact Any.strings_Cut Sh.laysM145.ton145 s sep m w hs hm
end Go.Proofs.YtbikdlcjbigafaaGreatDoor

namespace Go.Proofs.YtbikdlcjbigafaaGreatDoor
set_option linter.unusedVariables false
set_option linter.unusedSimpArgs false
open Go.ChangeShapes Go.WideShapes Go.ChangeAt Go.RowKit

theorem plain_lit (s : ByteArray) (r : Bool) (w : World) (hs : s.size ≤ maxLen) (h : plL s.data.toList = r) :
    Calls Tryz.prog 165 #[.string s] w fun e w' => e = .returned (.bool r) ∧ Below w.heap.size w w' := by
  subst h; rw [← plS_eq]; exact plain_any s w hs
/-- strings.Cut where the separator stands at k. -/
theorem cut_hit (s sep : ByteArray) (k : Nat) (w : World) (h : MxL w) (hs : s.size ≤ 12) (hk : Lib.index s.data.toList sep.data.toList = k) :
    Calls Tryz.prog 72 #[.string s, .string sep] w fun e w' => ∃ (a b : ByteArray) (n : Nat), e = .returned (.tuple #[.string a, .string b, .bool true]) ∧ a.data.toList = s.data.toList.take k ∧ b.data.toList = s.data.toList.drop (k + sep.size) ∧ w' = w.drewN n := by
  refine (cut_any s sep w h (by omega)).mono ?_
  rintro e w' ⟨rfl, n, rfl⟩
  rw [cut_at hk]
  exact ⟨_, _, n, rfl, rfl, by show List.drop (k + sep.data.toList.length) _ = List.drop (k + sep.data.size) _; rw [Array.length_toList], rfl⟩
theorem cut_miss (s sep : ByteArray) (w : World) (h : MxL w) (hs : s.size ≤ 12) (hk : Lib.index s.data.toList sep.data.toList = -1) :
    Calls Tryz.prog 72 #[.string s, .string sep] w fun e w' => ∃ n : Nat, e = .returned (.tuple #[.string s, .string ⟨#[]⟩, .bool false]) ∧ w' = w.drewN n := by
  refine (cut_any s sep w h (by omega)).mono ?_
  rintro e w' ⟨rfl, n, rfl⟩
  rw [cut_none hk]
  exact ⟨n, rfl, rfl⟩
theorem ba_sub {a : ByteArray} (h : a.data.toList.length ≤ 12) : a.size ≤ maxLen := by
  have : a.size = a.data.toList.length := by simp
  unfold maxLen; omega
theorem ba_cases (a : ByteArray) : a = ByteArray.empty ∨ (¬ a = ByteArray.empty ∧ ¬ a.toList = [] ∧ a.toList.isEmpty = false) := by
  by_cases h0 : a = ByteArray.empty
  · exact .inl h0
  · have hnl : ¬ a.toList = [] := fun e => h0 ((toList_nil_iff_emptyBytes a).1 e)
    exact .inr ⟨h0, hnl, by cases hl : a.toList with
      | nil => exact absurd hl hnl
      | cons b l => rfl⟩
/-- plain, or nothing. -/
theorem pl_or {a : ByteArray} (h : ¬ a = ByteArray.empty) : plL a.data.toList = sgL a.data.toList := by
  have : a.data.toList.isEmpty = false := by
    cases hl : a.data.toList with
    | nil => exact absurd (ByteArray.ext (Array.toList_inj.1 (by rw [hl]; rfl))) h
    | cons b l => rfl
  unfold plL; rw [this]; rfl
set_option maxRecDepth 100000 in
set_option maxHeartbeats 1000000 in
theorem format_lit (s : ByteArray) (w : World) (hs : s.size ≤ maxLen) (hM : MxL w) :
    Calls Tryz.prog 129 #[.string s] w fun e w' => e = .returned (.bool (fmtL s.data.toList)) ∧ Below w.heap.size w w' := by
  have hs' := maxLen_eq _ hs
  obtain ⟨r, hr⟩ : ∃ r, r = fmtL s.data.toList := ⟨_, rfl⟩
  rw [← hr]
  have hl : s.data.toList.length = s.size := by simp
  by_cases hin : 1 ≤ (s.size : Int) ∧ (s.size : Int) ≤ 12
  · have HR := Lib.hid hr
    have HI := Lib.hid hin
    have HL := Lib.hid hl
    have HM := Lib.hid hM
    have HS := Lib.hid hs
    have h2 := hin.2
    have h3 : s.size ≤ 12 := by omega
    have H3 := Lib.hid h3
    have hn0 : ¬ s = ByteArray.empty := fun e => by rw [e] at hin; simp at hin
    have hne : ¬ s.toList = [] ∧ s.toList.isEmpty = false := ((ba_cases s).resolve_left hn0).2
    obtain ⟨hn1, hn2⟩ := hne
    clear hr hin hl hM hs
    rcases ix_cases s.data.toList [47] with hx | ⟨k, hx, hkl⟩
    · have HX := Lib.hid hx
      clear hx
      rcases ix_cases s.data.toList [37, 115] with hm | ⟨k, hm, hkl⟩
      · have HF : Hid (plL s.data.toList = r) := by
          show _ = _
          rw [HR.out, fmt_plain (by rw [HL.out]; exact HI.out) HX.out hm, pl_or hn0]
        have HY := Lib.hid hm
        clear hm
        go_enter Tryz.func129, Tryz.ntmps129
        go_wp2_with fail
        refine (cut_miss s _ w HM.out H3.out HX.out).mono ?_; rintro e w1 ⟨n, rfl, rfl⟩
        go_wp2_with fail
        refine (cut_miss s _ _ (HM.out.drewN n) H3.out HY.out).mono ?_; rintro e w1 ⟨n1, rfl, rfl⟩
        go_wp2_with fail
        refine (plain_lit s r _ HS.out HF.out).mono ?_; rintro e w1 ⟨rfl, hb⟩
        go_wp2_with fail
        go_ret
        exact ⟨rfl, (below_draws (Below.refl _ _) (n + n1)).trans hb⟩
      · have HF : Hid (r = (sgL (s.data.toList.take k) && sgL (s.data.toList.drop (k + 2)))) := by
          show _ = _
          rw [HR.out, fmt_mark (by rw [HL.out]; exact HI.out) HX.out hm]
        have HY := Lib.hid hm
        clear hm
        go_enter Tryz.func129, Tryz.ntmps129
        go_wp2_with fail
        refine (cut_miss s _ w HM.out H3.out HX.out).mono ?_; rintro e w1 ⟨n, rfl, rfl⟩
        go_wp2_with fail
        refine (cut_hit s _ k _ (HM.out.drewN n) H3.out HY.out).mono ?_; rintro e w1 ⟨a, b, n1, rfl, ha, hb, rfl⟩
        have hza : a.size ≤ maxLen := ba_sub (by rw [ha, List.length_take]; exact Nat.le_trans (Nat.min_le_right _ _) (by rw [HL.out]; exact H3.out))
        have hzb : b.size ≤ maxLen := ba_sub (by rw [hb, List.length_drop]; exact Nat.le_trans (Nat.sub_le _ _) (by rw [HL.out]; exact H3.out))
        have HF2 : Hid (r = (sgL a.data.toList && sgL b.data.toList)) := by
          show _ = _
          rw [ha, hb]; exact HF.out
        have HZA := Lib.hid hza
        have HZB := Lib.hid hzb
        clear ha hb hza hzb HF
        obtain ⟨pa, hpa⟩ : ∃ pa, sgL a.data.toList = pa := ⟨_, rfl⟩
        obtain ⟨pb, hpb⟩ : ∃ pb, sgL b.data.toList = pb := ⟨_, rfl⟩
        rw [hpa, hpb] at HF2
        rcases ba_cases a with rfl | ⟨a1, a2, a3⟩
        · obtain rfl : pa = true := by rw [← hpa]; rfl
          clear hpa
          rcases ba_cases b with rfl | ⟨b1, b2, b3⟩
          · obtain rfl : pb = true := by rw [← hpb]; rfl
            clear hpb
            go_wp2_with fail
            go_ret
            exact ⟨ret_bool HF2.out.symm, below_draws (Below.refl _ _) (n + n1)⟩
          · rw [← pl_or b1] at hpb
            have HB := Lib.hid hpb
            clear hpb
            go_wp2_with fail
            refine (plain_lit b pb _ HZB.out HB.out).mono ?_; rintro e w1 ⟨rfl, hb⟩
            go_wp2_with fail
            go_ret
            exact ⟨ret_bool HF2.out.symm, (below_draws (Below.refl _ _) (n + n1)).trans hb⟩
        · rw [← pl_or a1] at hpa
          have HA := Lib.hid hpa
          clear hpa
          rcases ba_cases b with rfl | ⟨b1, b2, b3⟩
          · obtain rfl : pb = true := by rw [← hpb]; rfl
            clear hpb
            go_wp2_with fail
            refine (plain_lit a pa _ HZA.out HA.out).mono ?_; rintro e w1 ⟨rfl, hb⟩
            cases pa
            · go_wp2_with fail
              go_ret
              exact ⟨ret_bool HF2.out.symm, (below_draws (Below.refl _ _) (n + n1)).trans hb⟩
            · go_wp2_with fail
              go_ret
              exact ⟨ret_bool HF2.out.symm, (below_draws (Below.refl _ _) (n + n1)).trans hb⟩
          · rw [← pl_or b1] at hpb
            have HB := Lib.hid hpb
            clear hpb
            go_wp2_with fail
            refine (plain_lit a pa _ HZA.out HA.out).mono ?_; rintro e w1 ⟨rfl, hb⟩
            cases pa
            · go_wp2_with fail
              go_ret
              exact ⟨ret_bool HF2.out.symm, (below_draws (Below.refl _ _) (n + n1)).trans hb⟩
            · go_wp2_with fail
              refine (plain_lit b pb _ HZB.out HB.out).mono ?_; rintro e w2 ⟨rfl, hb2⟩
              go_wp2_with fail
              go_ret
              exact ⟨ret_bool HF2.out.symm, (below_draws (Below.refl _ _) (n + n1)).trans (hb.trans (hb2.mono hb.size))⟩
    · have HF : Hid (r = (plL (s.data.toList.take k) && plL (s.data.toList.drop (k + 1)))) := by
        show _ = _
        rw [HR.out, fmt_slash (by rw [HL.out]; exact HI.out) hx]
      have HX := Lib.hid hx
      clear hx
      go_enter Tryz.func129, Tryz.ntmps129
      go_wp2_with fail
      refine (cut_hit s _ k _ HM.out H3.out HX.out).mono ?_; rintro e w1 ⟨a, b, n, rfl, ha, hb, rfl⟩
      have hza : a.size ≤ maxLen := ba_sub (by rw [ha, List.length_take]; exact Nat.le_trans (Nat.min_le_right _ _) (by rw [HL.out]; exact H3.out))
      have hzb : b.size ≤ maxLen := ba_sub (by rw [hb, List.length_drop]; exact Nat.le_trans (Nat.sub_le _ _) (by rw [HL.out]; exact H3.out))
      have HF2 : Hid (r = (plL a.data.toList && plL b.data.toList)) := by
        show _ = _
        rw [ha, hb]; exact HF.out
      have HZA := Lib.hid hza
      have HZB := Lib.hid hzb
      clear ha hb hza hzb HF
      obtain ⟨pa, hpa⟩ : ∃ pa, plL a.data.toList = pa := ⟨_, rfl⟩
      obtain ⟨pb, hpb⟩ : ∃ pb, plL b.data.toList = pb := ⟨_, rfl⟩
      rw [hpa, hpb] at HF2
      have HA := Lib.hid hpa
      have HB := Lib.hid hpb
      clear hpa hpb
      go_wp2_with fail
      refine (plain_lit a pa _ HZA.out HA.out).mono ?_; rintro e w1 ⟨rfl, hb⟩
      cases pa
      · go_wp2_with fail
        go_ret
        exact ⟨ret_bool HF2.out.symm, (below_draws (Below.refl _ _) n).trans hb⟩
      · go_wp2_with fail
        refine (plain_lit b pb _ HZB.out HB.out).mono ?_; rintro e w2 ⟨rfl, hb2⟩
        go_wp2_with fail
        go_ret
        exact ⟨ret_bool HF2.out.symm, (below_draws (Below.refl _ _) n).trans (hb.trans (hb2.mono hb.size))⟩
  · have hf : r = false := by rw [hr]; exact fmt_size (by rw [hl]; exact hin)
    subst hf
    clear hr hs hl hM
    rcases ba_cases s with rfl | ⟨b1, b2, b3⟩
    · go_enter Tryz.func129, Tryz.ntmps129
      go_wp2_with fail
      go_ret
      exact ⟨rfl, Below.refl _ _⟩
    · have h12 : 12 < (s.size : Int) := by
        have : 0 < s.size := by
          rcases Nat.eq_zero_or_pos s.size with e | e
          · exact absurd (ByteArray.ext (Array.eq_empty_of_size_eq_zero e)) b1
          · exact e
        omega
      clear hin
      go_enter Tryz.func129, Tryz.ntmps129
      go_wp2_with fail
      go_ret
      exact ⟨rfl, Below.refl _ _⟩
end Go.Proofs.YtbikdlcjbigafaaGreatDoor
