/-
  sundialref.parted: plain; walked.
-/
import Derived.Test.YtbciennhcdabeaaGreatDoorTreeT
namespace Go.Proofs.YtbciennhcdabeaaGreatDoor
set_option linter.unusedVariables false
set_option linter.unusedSimpArgs false
open Go.ChangeShapes Go.WideShapes Go.ChangeAt Go.RowKit

/-- a text's pieces, cut at each c; cur is what the first piece has so far. -/
def splB (c : UInt8) : List UInt8 → List UInt8 → List (List UInt8)
  | cur, [] => [cur]
  | cur, x :: l => if x = c then cur :: splB c [] l else splB c (cur ++ [x]) l
def encS (x : List UInt8) : List Value := [.string ⟨x.toArray⟩]
def PtI (c : UInt8) (L : List UInt8) (i f : Nat) (pcs : List (List UInt8)) : Prop :=
  pcs.length ≤ i ∧ f ≤ i ∧ (i ≤ L.length → pcs ++ splB c ((L.drop f).take (i - f)) (L.drop i) = splB c [] L) ∧ (L.length < i → pcs = splB c [] L)
theorem PtI.zero (c : UInt8) (L : List UInt8) : PtI c L 0 0 [] := ⟨by simp, by omega, fun _ => by simp, fun h => by omega⟩
theorem take_snocP (L : List UInt8) (i f : Nat) (hf : f ≤ i) (hi : i < L.length) : (L.drop f).take (i + 1 - f) = (L.drop f).take (i - f) ++ [L[i]] := by
  rw [show i + 1 - f = (i - f) + 1 from by omega, List.take_succ_eq_append_getElem (by rw [List.length_drop]; omega), List.getElem_drop]
  congr 2
  congr 1
  omega
theorem PtI.skip {c : UInt8} {L : List UInt8} {i f : Nat} {pcs : List (List UInt8)} (h : PtI c L i f pcs) (hi : i < L.length) (hc : L[i] ≠ c) : PtI c L (i + 1) f pcs := by
  obtain ⟨h0, h1, h2, h3⟩ := h
  refine ⟨by omega, by omega, fun _ => ?_, fun h => by omega⟩
  have := h2 (by omega)
  rw [List.drop_eq_getElem_cons hi] at this
  rw [take_snocP L i f h1 hi, ← this]
  show _ = pcs ++ (if L[i] = c then _ else _)
  rw [if_neg hc]
theorem PtI.cut {c : UInt8} {L : List UInt8} {i f : Nat} {pcs : List (List UInt8)} (h : PtI c L i f pcs) (hi : i < L.length) (hc : L[i] = c) : PtI c L (i + 1) (i + 1) (pcs ++ [(L.drop f).take (i - f)]) := by
  obtain ⟨h0, h1, h2, h3⟩ := h
  refine ⟨by simp; omega, by omega, fun _ => ?_, fun h => by omega⟩
  have := h2 (by omega)
  rw [List.drop_eq_getElem_cons hi] at this
  rw [Nat.sub_self, List.take_zero, ← this]
  show _ = pcs ++ (if L[i] = c then _ else _)
  rw [if_pos hc]
  simp
theorem PtI.last {c : UInt8} {L : List UInt8} {f : Nat} {pcs : List (List UInt8)} (h : PtI c L L.length f pcs) : PtI c L (L.length + 1) (L.length + 1) (pcs ++ [(L.drop f).take (L.length - f)]) := by
  obtain ⟨h0, h1, h2, h3⟩ := h
  refine ⟨by simp; omega, by omega, fun h => by omega, fun _ => ?_⟩
  have := h2 (Nat.le_refl _)
  rw [List.drop_length] at this
  exact this
theorem PtI.done {c : UInt8} {L : List UInt8} {f : Nat} {pcs : List (List UInt8)} (h : PtI c L (L.length + 1) f pcs) : pcs = splB c [] L := h.2.2.2 (by omega)
theorem str_info : (Tryz.prog.info? 9).map (fun i => (i.zero, i.size, i.bytes)) = some (some (.string ⟨#[]⟩), 1, 16) := by kernel_rfl
/-- a row of texts of the call's own. -/
def StW (w : World) (B : Nat) (v : Value) (pcs : List (List UInt8)) : Prop := w.ownsRow B 9 1 v pcs.length (pcs.flatMap encS)
theorem StW.snoc {w : World} {B : Nat} {v : Value} {pcs : List (List UInt8)} {x : List UInt8} (h : w.ownsRow B 9 1 v (pcs.length + 1) (pcs.flatMap encS ++ encS x)) : StW w B v (pcs ++ [x]) := own_snocG h
theorem ext_bytes (s : ByteArray) (a b : Nat) : s.extract a b = ⟨((s.data.toList.drop a).take (b - a)).toArray⟩ := by
  obtain ⟨⟨l⟩⟩ := s
  exact ByteArray.extract_mk l a b
set_option maxRecDepth 100000 in
set_option maxHeartbeats 4000000 in
theorem parted_any (s : ByteArray) (c : UInt8) (w : World) (hs : s.size ≤ 1000000) :
    Calls Tryz.prog 14 #[.string s, .int .u8 c.toNat] w fun e w' => ∃ v, e = .returned v ∧ StW w' w.heap.size v (splB c [] s.data.toList) ∧ Below w.heap.size w w' := by
  obtain ⟨i0, hi, hz0, hz1, hz2⟩ := info_parts str_info
  obtain ⟨L, hL⟩ : ∃ L, L = s.data.toList := ⟨_, rfl⟩
  have hLs : L.length = s.size := by rw [hL]; exact Array.length_toList
  have HLs := Lib.hid hLs
  have HLi : Hid (∀ i (h : i < s.size), L[i]'(by rw [HLs.out]; exact h) = s[i]) := fun i h => by subst hL; rfl
  have HX : Hid (∀ a b, s.extract a b = ⟨((L.drop a).take (b - a)).toArray⟩) := fun a b => by rw [hL]; exact ext_bytes s a b
  rw [← hL]
  clear hL hLs
  go_enter Tryz.func14, Tryz.ntmps14
  go_wp2
  go_loopw [5, 6, 7] (fun o f i wr => ∃ (ii ff : Nat) (pcs : List (List UInt8)) (a : Option Addr) (cp : Nat), ii ≤ s.size + 1 ∧ i = .int .i64 ii ∧ f = .int .i64 ff ∧ o = .slice a pcs.length cp ∧ Hid (PtI c L ii ff pcs) ∧ Hid (StW wr w.heap.size (.slice a pcs.length cp) pcs) ∧ Hid (Below w.heap.size w wr)) (fun _ _ i _ => (s.size + 1 - intOf i).toNat)
  case atStart => exact ⟨0, 0, [], none, 0, by omega, rfl, rfl, rfl, PtI.zero _ _, World.ownsRow_nil _ _ _ _, Below.refl _ _⟩
  case round =>
    obtain ⟨i, f, pcs, a, cp, hii, rfl, rfl, rfl, HP, HW, HB⟩ := hrel
    by_cases h1 : i < s.size
    · have h1' : (i : Int) < (s.size : Int) := by omega
      have h2' : ((i : Int) == (s.size : Int)) = false := by rw [beq_eq_false_iff_ne]; omega
      by_cases h2 : s[i] = c
      · have h3 : (((s[i].toNat : Nat) : Int) == ((c.toNat : Nat) : Int)) = true := by rw [h2]; exact beq_self_eq_true _
        have HP2 := Lib.hid (HP.out.cut (by rw [HLs.out]; exact h1) ((HLi.out i h1).trans h2))
        obtain ⟨P, hP⟩ : ∃ P, P = (L.drop f).take (i - f) := ⟨_, rfl⟩
        have hx : s.extract f i = ⟨P.toArray⟩ := by rw [hP]; exact HX.out f i
        rw [← hP] at HP2
        have hfi : (f : Int) ≤ i := by have := HP.out.2.1; omega
        clear hP h2
        have hB1 : w.heap.size ≤ wr.heap.size := HB.out.size
        have hpl : pcs.length ≤ 1000001 := by have := HP.out.1; omega
        go_wp2_with (at_builtin; refine wpList_append_own _ rfl _ _ 34 rfl w.heap.size 9 i0 (.string ⟨#[]⟩) 1 16 Tryz.underlying34 hi hz0 hz1 hz2 rfl (by decide) _ _ _ rfl (World.ownsRow.alloc (show wr.ownsRow w.heap.size 9 1 (.slice a pcs.length cp) pcs.length (pcs.flatMap encS) from HW.out) _) ⟨wr.heap.size, 0, none⟩ 1 1 (encS P) rfl rfl (cells_at _ _ _ _ _ rfl rfl) (by intro u hu; simp [encS] at hu; subst hu; rfl) (by unfold maxLen; omega) (by omega) (by rw [size_alloc]; omega) ?_; intro v' w2 hown' hgrow _; have HB2 := Lib.hid (HB.out.trans (append_keep HW.out ((Below.refl w.heap.size wr).alloc hB1 _) hB1 hgrow)); have HO := Lib.hid (StW.snoc hown'); clear hown' hgrow; obtain ⟨a', cp', rfl⟩ := own_shape HO.out)
        go_roundw
        case rel => exact ⟨i + 1, i + 1, _, a', cp', by omega, by go_num, by go_num, by rw [List.length_append]; rfl, HP2, by rw [List.length_append] at HO ⊢; exact HO, HB2⟩
        case measure => simp [intOf]; omega
      · have h3 : (((s[i].toNat : Nat) : Int) == ((c.toNat : Nat) : Int)) = false := by
          rw [beq_eq_false_iff_ne]
          intro e
          exact h2 (UInt8.toNat_inj.1 (by omega))
        have HP2 := Lib.hid (HP.out.skip (by rw [HLs.out]; exact h1) (fun e => h2 ((HLi.out i h1).symm.trans e)))
        clear h2
        go_wp2
        go_roundw
        case rel => exact ⟨i + 1, f, pcs, a, cp, by omega, by go_num, rfl, rfl, HP2, HW, HB⟩
        case measure => simp [intOf]; omega
    · by_cases h2 : i = s.size
      · subst h2
        have h2' : (((s.size : Nat) : Int) == (s.size : Int)) = true := beq_self_eq_true _
        have HP1 := HP.out
        rw [← HLs.out] at HP1
        have HP2 := Lib.hid HP1.last
        rw [HLs.out] at HP2
        obtain ⟨P, hP⟩ : ∃ P, P = (L.drop f).take (s.size - f) := ⟨_, rfl⟩
        have hx : s.extract f s.size = ⟨P.toArray⟩ := by rw [hP]; exact HX.out f s.size
        rw [← hP] at HP2
        have hfi : (f : Int) ≤ s.size := by have := HP.out.2.1; omega
        clear hP HP1
        have hB1 : w.heap.size ≤ wr.heap.size := HB.out.size
        have hpl : pcs.length ≤ 1000001 := by have := HP.out.1; omega
        go_wp2_with (at_builtin; refine wpList_append_own _ rfl _ _ 34 rfl w.heap.size 9 i0 (.string ⟨#[]⟩) 1 16 Tryz.underlying34 hi hz0 hz1 hz2 rfl (by decide) _ _ _ rfl (World.ownsRow.alloc (show wr.ownsRow w.heap.size 9 1 (.slice a pcs.length cp) pcs.length (pcs.flatMap encS) from HW.out) _) ⟨wr.heap.size, 0, none⟩ 1 1 (encS P) rfl rfl (cells_at _ _ _ _ _ rfl rfl) (by intro u hu; simp [encS] at hu; subst hu; rfl) (by unfold maxLen; omega) (by omega) (by rw [size_alloc]; omega) ?_; intro v' w2 hown' hgrow _; have HB2 := Lib.hid (HB.out.trans (append_keep HW.out ((Below.refl w.heap.size wr).alloc hB1 _) hB1 hgrow)); have HO := Lib.hid (StW.snoc hown'); clear hown' hgrow; obtain ⟨a', cp', rfl⟩ := own_shape HO.out)
        go_roundw
        case rel => exact ⟨s.size + 1, s.size + 1, _, a', cp', by omega, by go_num, by go_num, by rw [List.length_append]; rfl, HP2, by rw [List.length_append] at HO ⊢; exact HO, HB2⟩
        case measure => simp [intOf]
      · have h3 : i = s.size + 1 := by omega
        subst h3
        have h4 : ¬ ((s.size + 1 : Nat) : Int) ≤ (s.size : Int) := by omega
        have HP1 := HP.out
        rw [← HLs.out] at HP1
        have HD := Lib.hid HP1.done
        clear HP1
        go_wp2
        go_ret
        refine ⟨_, rfl, ?_, HB.out⟩
        rw [← HD.out]
        exact HW.out
end Go.Proofs.YtbciennhcdabeaaGreatDoor
