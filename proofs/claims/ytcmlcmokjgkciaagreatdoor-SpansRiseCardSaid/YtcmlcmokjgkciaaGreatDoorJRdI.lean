/-
  source: words of a line.
-/
import Derived.Test.YtcmlcmokjgkciaaGreatDoorJRdH
import Derived.Test.YtcmlcmokjgkciaaGreatDoorJRdW
namespace Go.Proofs.YtcmlcmokjgkciaaGreatDoor
set_option linter.unusedVariables false
set_option linter.unusedSimpArgs false
open Go.ChangeShapes Go.WideShapes Go.ChangeAt Go.RowKit Civ

set_option maxRecDepth 100000 in
theorem wds1_any (x : Nat) (w : World) : Calls Tryz.prog 61 #[.int .i32 (x : Int)] w fun e w' => e = .returned (.bool (isB x)) ∧ Below w.heap.size w w' := by
  have h : isB x = (decide ((x : Int) = 32) || decide ((x : Int) = 9)) := by
    unfold isB
    rw [Bool.eq_iff_iff, Bool.or_eq_true, Bool.or_eq_true, beq_iff_eq, beq_iff_eq, decide_eq_true_iff, decide_eq_true_iff]
    omega
  have HI := Lib.hid h
  clear h
  obtain ⟨p, hp⟩ : ∃ p, ((x : Int) == 32) = p := ⟨_, rfl⟩
  obtain ⟨q, hq⟩ : ∃ q, ((x : Int) == 9) = q := ⟨_, rfl⟩
  have HP : Hid (isB x = (p || q)) := by
    show _ = _
    rw [HI.out, ← hp, ← hq]
    rfl
  clear HI
  go_enter Tryz.func61, Tryz.ntmps61
  cases p with
  | true =>
    go_wp2
    go_ret
    exact ⟨by rw [HP.out]; rfl, Below.refl _ _⟩
  | false =>
    cases q with
    | true =>
      go_wp2
      go_ret
      exact ⟨by rw [HP.out]; rfl, Below.refl _ _⟩
    | false =>
      go_wp2
      go_ret
      exact ⟨by rw [HP.out]; rfl, Below.refl _ _⟩
def encWd (x : ByteArray) : List Value := [.string x]
theorem map_encWd (l : List ByteArray) : l.map Value.string = l.flatMap encWd := by
  induction l with
  | nil => rfl
  | cons x l ih => rw [List.map_cons, List.flatMap_cons, ih]; rfl
theorem wds_size (l : List UInt8) : ∀ (cur : List UInt8) (m : Nat), cur.length + l.length ≤ m → ∀ x ∈ fldB cur l, x.length ≤ m := by
  induction l with
  | nil =>
    intro cur m h x hx
    unfold fldB at hx
    split at hx
    · cases hx
    · rw [List.mem_singleton] at hx
      subst hx
      simpa using h
  | cons c l ih =>
    intro cur m h x hx
    rw [List.length_cons] at h
    unfold fldB at hx
    split at hx
    · split at hx
      · exact ih [] m (by simp; omega) x hx
      · rcases List.mem_cons.1 hx with rfl | hx
        · omega
        · exact ih [] m (by simp; omega) x hx
    · exact ih (cur ++ [c]) m (by rw [List.length_append, List.length_singleton]; omega) x hx
theorem fldB_len : ∀ (l cur : List UInt8), (fldB cur l).length ≤ l.length + 1
  | [], cur => by
    unfold fldB
    split <;> simp
  | c :: l, cur => by
    have h1 := fldB_len l []
    have h2 := fldB_len l (cur ++ [c])
    have e3 : fldB cur (c :: l) = if c = 32 ∨ c = 9 then (if cur = [] then fldB [] l else cur :: fldB [] l) else fldB (cur ++ [c]) l := rfl
    rw [e3, List.length_cons]
    split
    · split
      · omega
      · rw [List.length_cons]; omega
    · omega
theorem cutB_le : ∀ l : List UInt8, (cutB 35 l).1.length ≤ l.length
  | [] => Nat.le_refl _
  | c :: l => by
    have ih := cutB_le l
    have e0 : cutB 35 (c :: l) = if c = 35 then ([], l, true) else (c :: (cutB 35 l).1, (cutB 35 l).2.1, (cutB 35 l).2.2) := rfl
    rw [e0]
    split
    · simp
    · simpa using ih
theorem wdsS_len (l : List UInt8) : (wdsS l).length ≤ l.length + 1 := by
  unfold wdsS
  rw [List.length_map, wdsF_cut]
  exact Nat.le_trans (fldB_len _ _) (Nat.succ_le_succ (cutB_le l))
theorem wdsS_size (l : List UInt8) : ∀ x ∈ wdsS l, x.size ≤ l.length := by
  intro x hx
  unfold wdsS at hx
  rw [wdsF_cut] at hx
  obtain ⟨y, hy, rfl⟩ := List.mem_map.1 hx
  exact Nat.le_trans (wds_size (cutB 35 l).1 [] (cutB 35 l).1.length (by simp) y hy) (cutB_le l)
theorem fldB_ne : ∀ (l cur : List UInt8), ∀ x ∈ fldB cur l, x ≠ []
  | [], cur => by
    intro x hx
    unfold fldB at hx
    split at hx
    · cases hx
    · rename_i h
      rw [List.mem_singleton] at hx
      rw [hx]; exact h
  | c :: l, cur => by
    intro x hx
    have e3 : fldB cur (c :: l) = if c = 32 ∨ c = 9 then (if cur = [] then fldB [] l else cur :: fldB [] l) else fldB (cur ++ [c]) l := rfl
    rw [e3] at hx
    split at hx
    · split at hx
      · exact fldB_ne l [] x hx
      · rename_i h
        rcases List.mem_cons.1 hx with e | hx
        · rw [e]; exact h
        · exact fldB_ne l [] x hx
    · exact fldB_ne l _ x hx
theorem wdsS_pos (l : List UInt8) : ∀ x ∈ wdsS l, 0 < x.size := by
  intro x hx
  unfold wdsS at hx
  rw [wdsF_cut] at hx
  obtain ⟨y, hy, rfl⟩ := List.mem_map.1 hx
  have := fldB_ne _ _ y hy
  rw [bx_size]
  exact List.length_pos_iff.2 this
def lngE (ws : List ByteArray) : Int := if longW ws = true then 1 else 0
set_option maxRecDepth 100000 in
set_option maxHeartbeats 1000000 in
theorem words_any_s (s : ByteArray) (w : World) (hV : SrV w) (hs : s.size ≤ 1000000) :
    Calls Tryz.prog 27 #[.string s] w fun e w' => ∃ v, e = PnE (lngE (wdsS s.data.toList)) v ∧ SlAt w' 1 RSt v (wdsS s.data.toList) ∧ Below w.heap.size w w' := by
  have HCU := Lib.hid (cut_any s ⟨#[35]⟩ w hV.mx (by omega))
  have hcu : Lib.cut s.data.toList (ByteArray.mk #[35]).data.toList = cutB 35 s.data.toList := cut_one 35 _
  rw [hcu] at HCU
  obtain ⟨s1, hs1⟩ : ∃ s1 : ByteArray, (⟨(cutB 35 s.data.toList).1.toArray⟩ : ByteArray) = s1 := ⟨_, rfl⟩
  rw [hs1] at HCU
  have hws : Lib.goFieldsP isB s1 = wdsS s.data.toList := by
    rw [fields_fld, ← hs1]
    unfold wdsS
    rw [wdsF_cut]
  have hz1 : s1.size ≤ s.size := by
    rw [← hs1]
    have h2 := cutB_le s.data.toList
    have h3 : s.data.toList.length = s.size := by simp
    show (cutB 35 s.data.toList).1.toArray.size ≤ _
    rw [List.size_toArray]
    omega
  have HFF := Lib.hid (fun wx => Sh.strings_FieldsFunc_grows 61 #[] (enters_of Tryz.func61 (by kernel_rfl) rfl) isB s1 wx (by omega) (fun W x _ _ => wds1_any x W))
  rw [hws] at HFF
  have hwl : (wdsS s.data.toList).length ≤ 1000001 := by
    have h1 := wdsS_len s.data.toList
    have h3 : s.data.toList.length = s.size := by simp
    omega
  generalize wdsS s.data.toList = ws at *
  clear hcu hs1 hws hz1 hV hs
  go_enter Tryz.func27, Tryz.ntmps27
  go_wp2_with fail
  refine HCU.out.mono ?_; rintro e wa ⟨rfl, qa, hwa⟩
  have BA : Hid (Below w.heap.size w wa) := by show Below _ _ _; rw [hwa]; exact below_draws (Below.refl _ _) qa
  clear hwa
  go_wp2_with fail
  refine (HFF.out _).mono ?_; rintro e wb ⟨A, rfl, hA, ho, hb⟩
  have BB : Hid (Below w.heap.size w wb) := BA.out.trans (hb.mono BA.out.size)
  rw [map_encWd] at ho
  have HR : Hid (SlAt wb 1 RSt (.slice (some ⟨A, 0, none⟩) ws.length ws.length) ws) := slAt_of_own (by decide) (fun _ => rfl) (fun _ _ => rfl) ho
  clear ho hb hA HFF HCU
  go_wp2_with fail
  go_loopw [5, 16] (fun _ vi wr => ∃ k : Nat, k ≤ ws.length ∧ vi = .int .i64 k ∧ Hid (∀ i (h : i < ws.length), i < k → ¬ 20 < ws[i].size) ∧ wb = wr) (fun _ vi _ => (ws.length - intOf vi).toNat)
  case atStart => exact ⟨0, Nat.zero_le _, rfl, fun i h h0 => absurd h0 (Nat.not_lt_zero _), rfl⟩
  case round =>
    obtain ⟨k, hk, rfl, HK, rfl⟩ := hrel
    by_cases hlt : k < ws.length
    · have hki : (k : Int) < (ws.length : Int) := by omega
      obtain ⟨b', o', e', -, c0⟩ := entS HR.out k hlt
      simp only [Option.some.injEq, Addr.mk.injEq, and_true] at e'
      obtain ⟨rfl, rfl⟩ := e'
      rw [Nat.zero_add] at c0
      by_cases hl : 20 < ws[k].size
      · have HL : Hid (lngE ws = 1) := by
          show _ = _
          unfold lngE longW
          rw [if_pos (List.any_eq_true.2 ⟨ws[k], List.getElem_mem hlt, decide_eq_true hl⟩)]
        have hld : decide ((ws[k].size : Int) ≤ 20) = false := decide_eq_false (by omega)
        clear hl
        generalize ws[k] = x at *
        go_wp2_with (go_at_call 30; refine (need_no _ _).mono ?_; rintro e w' ⟨rfl, rfl⟩)
        go_wp2
        exact ⟨rfl, _, by rw [HL.out]; rfl, HR.out, BB.out⟩
      · have hld : decide ((ws[k].size : Int) ≤ 20) = true := decide_eq_true (by omega)
        have HK2 : Hid (∀ i (h : i < ws.length), i < k + 1 → ¬ 20 < ws[i].size) := by
          show ∀ i (h : i < ws.length), i < k + 1 → ¬ 20 < ws[i].size
          intro i h h1
          by_cases h2 : i = k
          · subst h2; exact hl
          · exact HK.out i h (by omega)
        clear hl
        generalize ws[k] = x at *
        go_wp2_with (go_at_call 30; refine (need_yes _ _).mono ?_; rintro e w' ⟨rfl, rfl⟩)
        go_roundw
        case rel => exact ⟨k + 1, by omega, by go_num, HK2, trivial⟩
        case measure => simp [intOf]; omega
    · obtain rfl : k = ws.length := by omega
      have hnl : ¬ (ws.length : Int) < (ws.length : Int) := by omega
      have HL : Hid (lngE ws = 0) := by
        show _ = _
        unfold lngE longW
        rw [if_neg]
        intro h
        obtain ⟨x, hx, h2⟩ := List.any_eq_true.1 h
        obtain ⟨i, hi, rfl⟩ := List.mem_iff_getElem.1 hx
        exact HK.out i hi hi (of_decide_eq_true h2)
      go_wp2_with fail
      go_ret
      exact ⟨_, by rw [HL.out]; rfl, HR.out, BB.out⟩
end Go.Proofs.YtcmlcmokjgkciaaGreatDoor
