/-
  Words, plain: what the library's FieldsFunc cuts at blanks is what is cut byte by byte. · The contract of strings.FieldsFunc, laid (the shelf's tool lay-plain printed the laying; the numbers by name).
-/
import Derived.Lib.FieldsP
import Derived.Lib.TrimUEq
import Derived.Shelf.Strings.FieldsFuncGrows
import Derived.Shelf.Lays
import Derived.Test.YtbikdlcjbigafaaGreatDoorJRdA
import Derived.Test.YtbikdlcjbigafaaGreatDoorJTrB
import Derived.Test.YtbikdlcjbigafaaGreatDoorProg
namespace Go.Proofs.YtbikdlcjbigafaaGreatDoor
set_option linter.unusedVariables false
set_option linter.unusedSimpArgs false
open Go.ChangeShapes Go.WideShapes Go.ChangeAt Go.RowKit Civ

def isB (r : Nat) : Bool := r == 32 || r == 9
theorem isB_big {r : Nat} (h : 128 ≤ r) : isB r = false := by
  unfold isB
  rw [Bool.or_eq_false_iff, beq_eq_false_iff_ne, beq_eq_false_iff_ne]
  omega
set_option maxRecDepth 100000 in
set_option maxHeartbeats 2000000 in
theorem decN_big (n b0 b1 b2 b3 : Nat) (h : 128 ≤ b0) (hn : 1 ≤ n) : 128 ≤ (Lib.decodeN n b0 b1 b2 b3).1 ∧ 1 ≤ (Lib.decodeN n b0 b1 b2 b3).2 ∧ (Lib.decodeN n b0 b1 b2 b3).2 ≤ n ∧ (Lib.decodeN n b0 b1 b2 b3).2 ≤ 4 ∧
    (2 ≤ (Lib.decodeN n b0 b1 b2 b3).2 → 128 ≤ b1) ∧ (3 ≤ (Lib.decodeN n b0 b1 b2 b3).2 → 128 ≤ b2) ∧ (4 ≤ (Lib.decodeN n b0 b1 b2 b3).2 → 128 ≤ b3) := by
  unfold Lib.decodeN
  repeat' split
  all_goals dsimp only
  all_goals first | (exfalso; omega) | (refine ⟨by omega, by omega, by omega, by omega, fun _ => by omega, fun _ => by omega, fun _ => by omega⟩)
/-- byte by byte. -/
def goB : List UInt8 → Nat → Option Nat → List (Nat × Nat) → List (Nat × Nat) × Option Nat
  | [], _, st, acc => (acc, st)
  | c :: r, pos, st, acc =>
    if isB c.toNat = true then
      (match st with
       | some a => goB r (pos + 1) none (acc ++ [(a, pos)])
       | none => goB r (pos + 1) none acc)
    else goB r (pos + 1) (some (st.getD pos)) acc
theorem goB_cons (c : UInt8) (l : List UInt8) (pos : Nat) (st : Option Nat) (acc : List (Nat × Nat)) : goB (c :: l) pos st acc = if isB c.toNat = true then (match st with | some a => goB l (pos + 1) none (acc ++ [(a, pos)]) | none => goB l (pos + 1) none acc) else goB l (pos + 1) (some (st.getD pos)) acc := rfl
theorem goB_skip : ∀ (w : Nat) (l : List UInt8) (pos : Nat) (st : Option Nat) (acc : List (Nat × Nat)), 1 ≤ w → w ≤ l.length → (∀ i (h : i < l.length), i < w → isB (l[i]).toNat = false) → goB l pos st acc = goB (l.drop w) (pos + w) (some (st.getD pos)) acc
  | 0, _, _, _, _, h, _, _ => by omega
  | w + 1, [], _, _, _, _, h, _ => by simp at h
  | w + 1, c :: r, pos, st, acc, _, hl, hb => by
    have h0 : isB c.toNat = false := hb 0 (by simp) (by omega)
    have e : goB (c :: r) pos st acc = goB r (pos + 1) (some (st.getD pos)) acc := by
      show (if isB c.toNat = true then _ else _) = _
      rw [if_neg (by rw [h0]; decide)]
    rw [e, List.drop_succ_cons]
    by_cases hw : w = 0
    · subst hw
      simp
    · rw [goB_skip w r (pos + 1) (some (st.getD pos)) acc (by omega) (by simpa using hl) (fun i h h1 => by
        have := hb (i + 1) (by simpa using h) (by omega)
        simpa using this)]
      congr 1
      omega
theorem drop_getD (l : List UInt8) (pos i : Nat) (h : i < (l.drop pos).length) : (l.drop pos)[i] = l.getD (pos + i) 0 := by
  rw [List.length_drop] at h
  rw [List.getElem_drop, List.getD_eq_getElem?_getD, List.getElem?_eq_getElem (by omega)]
  rfl
theorem spans_goB (s : ByteArray) : ∀ (f pos : Nat) (st : Option Nat) (acc : List (Nat × Nat)), s.size - pos ≤ f → pos ≤ s.size → Lib.spansFromP isB s f pos st acc = goB (s.data.toList.drop pos) pos st acc
  | 0, pos, st, acc, hf, hp => by
    have e : s.data.toList.drop pos = [] := List.drop_eq_nil_of_le (by have : s.data.toList.length = s.size := by simp
                                                                       omega)
    rw [e]
    rfl
  | f + 1, pos, st, acc, hf, hp => by
    have hz : s.data.toList.length = s.size := by simp
    unfold Lib.spansFromP
    by_cases h : pos < s.size
    · rw [if_pos h]
      have hd := Lib.decode_N s pos
      have h0 : 0 < (s.data.toList.drop pos).length := by rw [List.length_drop]; omega
      have g0 := drop_getD s.data.toList pos 0 h0
      rw [Nat.add_zero] at g0
      by_cases ha : (s.data.toList.getD pos 0).toNat < 128
      · rw [Lib.decodeN_ascii _ _ _ _ _ ha] at hd
        rw [hd]
        dsimp only
        have e : s.data.toList.drop pos = (s.data.toList.getD pos 0) :: s.data.toList.drop (pos + 1) := by
          rw [List.drop_eq_getElem_cons (show pos < s.data.toList.length by omega)]
          congr 1
          rw [List.getD_eq_getElem?_getD, List.getElem?_eq_getElem (by omega)]
          rfl
        rw [e]
        show _ = (if isB (s.data.toList.getD pos 0).toNat = true then _ else _)
        by_cases hb : isB (s.data.toList.getD pos 0).toNat = true
        · rw [if_pos hb, if_pos hb]
          cases st with
          | none => exact spans_goB s f (pos + 1) none acc (by omega) (by omega)
          | some a => exact spans_goB s f (pos + 1) none _ (by omega) (by omega)
        · rw [if_neg hb, if_neg hb]
          cases st with
          | none => exact spans_goB s f (pos + 1) _ acc (by omega) (by omega)
          | some a => exact spans_goB s f (pos + 1) _ acc (by omega) (by omega)
      · obtain ⟨c1, c2, c3, c4, c5, c6, c7⟩ := decN_big (s.data.toList.length - pos) (s.data.toList.getD pos 0).toNat (s.data.toList.getD (pos + 1) 0).toNat (s.data.toList.getD (pos + 2) 0).toNat (s.data.toList.getD (pos + 3) 0).toNat (by omega) (by omega)
        rw [← hd] at c1 c2 c3 c4 c5 c6 c7
        rw [if_neg (by rw [isB_big c1]; decide)]
        have hsk := goB_skip (Utf8.decode s pos).2 (s.data.toList.drop pos) pos st acc c2 (by rw [List.length_drop]; omega) (fun i hi hw => by
          rw [drop_getD _ _ _ hi]
          refine isB_big ?_
          rcases (show i = 0 ∨ i = 1 ∨ i = 2 ∨ i = 3 by omega) with rfl | rfl | rfl | rfl
          · rw [Nat.add_zero]; omega
          · exact c5 (by omega)
          · exact c6 (by omega)
          · exact c7 (by omega))
        rw [hsk, List.drop_drop]
        cases st with
        | none => exact spans_goB s f _ _ acc (by omega) (by omega)
        | some a => exact spans_goB s f _ _ acc (by omega) (by omega)
    · rw [if_neg h]
      have e : s.data.toList.drop pos = [] := List.drop_eq_nil_of_le (by omega)
      rw [e]
      rfl
/-- words, byte by byte: cur is what the first one has so far. -/
def fldB : List UInt8 → List UInt8 → List (List UInt8)
  | cur, [] => if cur = [] then [] else [cur]
  | cur, c :: l => if c = 32 ∨ c = 9 then (if cur = [] then fldB [] l else cur :: fldB [] l) else fldB (cur ++ [c]) l
theorem isB_byte (c : UInt8) : isB c.toNat = decide (c = 32 ∨ c = 9) := by
  unfold isB
  rw [Bool.eq_iff_iff, Bool.or_eq_true, beq_iff_eq, beq_iff_eq, decide_eq_true_iff]
  constructor
  · rintro (h | h)
    · exact .inl (UInt8.toNat_inj.1 h)
    · exact .inr (UInt8.toNat_inj.1 h)
  · rintro (rfl | rfl)
    · exact .inl rfl
    · exact .inr rfl
/-- the pieces of spans. -/
def pcs (s : ByteArray) (l : List (Nat × Nat)) : List ByteArray := l.map fun x => s.extract x.1 x.2
theorem ext_bx (s : ByteArray) (a b : Nat) : s.extract a b = bx ((s.data.toList.drop a).take (b - a)) := by
  rw [ext_bytes]
  rfl
/-- what stands between a beginning and here. -/
def curOf (s : ByteArray) (st : Option Nat) (pos : Nat) : List UInt8 := match st with
  | some a => (s.data.toList.drop a).take (pos - a)
  | none => []
theorem goB_fld (s : ByteArray) : ∀ (l : List UInt8) (pos : Nat) (st : Option Nat) (acc : List (Nat × Nat)), s.data.toList.drop pos = l → (∀ a, st = some a → a < pos ∧ pos ≤ s.size) →
    pcs s (Lib.closeSpans s (goB l pos st acc)) = pcs s acc ++ (fldB (curOf s st pos) l).map bx
  | [], pos, st, acc, hl, hst => by
    show pcs s (Lib.closeSpans s (acc, st)) = _
    cases st with
    | none => simp [Lib.closeSpans, curOf, fldB]
    | some a =>
      obtain ⟨h1, h2⟩ := hst a rfl
      have hz : s.data.toList.length = s.size := by simp
      have hp : s.size ≤ pos := by
        have := congrArg List.length hl
        rw [List.length_drop] at this
        simp at this
        omega
      have e : curOf s (some a) pos = (s.data.toList.drop a).take (s.size - a) := by
        unfold curOf
        rw [show pos = s.size by omega]
      have hne : ¬ curOf s (some a) pos = [] := by
        rw [e]
        intro h
        have := congrArg List.length h
        rw [List.length_take, List.length_drop] at this
        simp at this
        omega
      unfold fldB
      rw [if_neg hne, e]
      simp [Lib.closeSpans, pcs, ext_bx]
  | c :: l, pos, st, acc, hl, hst => by
    have hz : s.data.toList.length = s.size := by simp
    have hp : pos < s.size := by
      have := congrArg List.length hl
      rw [List.length_drop] at this
      simp at this
      omega
    have hl2 : s.data.toList.drop (pos + 1) = l := by
      rw [← List.drop_drop, hl]
      rfl
    have hc : s.data.toList[pos]'(by omega) = c := by
      have := List.drop_eq_getElem_cons (l := s.data.toList) (i := pos) (by omega)
      rw [hl] at this
      exact (List.cons.inj this).1.symm
    have hun := goB_cons c l pos st acc
    have hfl : fldB (curOf s st pos) (c :: l) = if c = 32 ∨ c = 9 then (if curOf s st pos = [] then fldB [] l else curOf s st pos :: fldB [] l) else fldB (curOf s st pos ++ [c]) l := rfl
    rw [hun, hfl, isB_byte]
    by_cases hb : c = 32 ∨ c = 9
    · rw [if_pos (decide_eq_true hb), if_pos hb]
      cases st with
      | none =>
        rw [if_pos (show curOf s none pos = [] from rfl)]
        exact goB_fld s l (pos + 1) none acc hl2 (fun a h => by cases h)
      | some a =>
        obtain ⟨h1, h2⟩ := hst a rfl
        have hne : ¬ curOf s (some a) pos = [] := by
          unfold curOf
          intro h
          have := congrArg List.length h
          rw [List.length_take, List.length_drop] at this
          simp at this
          omega
        rw [if_neg hne]
        dsimp only
        rw [goB_fld s l (pos + 1) none _ hl2 (fun a h => by cases h)]
        unfold pcs
        rw [List.map_append, List.map_cons, List.append_assoc, ext_bx]
        rfl
    · rw [if_neg (by rw [decide_eq_true_iff]; exact hb), if_neg hb]
      rw [goB_fld s l (pos + 1) (some (st.getD pos)) acc hl2 (fun a h => by
        cases st with
        | none => cases h; exact ⟨Nat.lt_succ_self _, hp⟩
        | some a' => cases h; exact ⟨by have := (hst _ rfl).1; show a' < pos + 1; omega, hp⟩)]
      congr 3
      cases st with
      | none =>
        show (s.data.toList.drop pos).take (pos + 1 - pos) = [] ++ [c]
        rw [hl, show pos + 1 - pos = 1 by omega]
        rfl
      | some a =>
        obtain ⟨h1, h2⟩ := hst a rfl
        show (s.data.toList.drop a).take (pos + 1 - a) = (s.data.toList.drop a).take (pos - a) ++ [c]
        rw [show pos + 1 - a = (pos - a) + 1 by omega, List.take_succ_eq_append_getElem (by rw [List.length_drop]; omega), List.getElem_drop]
        congr 2
        rw [← hc]
        congr 1
        omega
theorem fields_fld (s : ByteArray) : Lib.goFieldsP isB s = (fldB [] s.data.toList).map bx := by
  unfold Lib.goFieldsP Lib.spansOfP
  rw [spans_goB s s.size 0 none [] (by omega) (Nat.zero_le _)]
  have := goB_fld s s.data.toList 0 none [] (by simp) (fun a h => by cases h)
  rw [List.drop_zero]
  exact this
/-- up to a mark. -/
theorem wdsF_cut : ∀ (l cur : List UInt8), wdsF cur l = fldB cur (cutB 35 l).1
  | [], cur => by
    have e : (cutB 35 ([] : List UInt8)).1 = [] := rfl
    rw [e]
    rfl
  | c :: l, cur => by
    have ih := wdsF_cut l
    by_cases h : c = 35
    · subst h
      have e : (cutB 35 ((35 : UInt8) :: l)).1 = [] := by unfold cutB; simp
      rw [e]
      rfl
    · have e : (cutB 35 (c :: l)).1 = c :: (cutB 35 l).1 := by
        have e0 : cutB 35 (c :: l) = if c = 35 then ([], l, true) else (c :: (cutB 35 l).1, (cutB 35 l).2.1, (cutB 35 l).2.2) := rfl
        rw [e0, if_neg h]
      have e2 : wdsF cur (c :: l) = if c = 35 then (if cur = [] then [] else [cur]) else if c = 32 ∨ c = 9 then (if cur = [] then wdsF [] l else cur :: wdsF [] l) else wdsF (cur ++ [c]) l := rfl
      have e3 : fldB cur (c :: (cutB 35 l).1) = if c = 32 ∨ c = 9 then (if cur = [] then fldB [] (cutB 35 l).1 else cur :: fldB [] (cutB 35 l).1) else fldB (cur ++ [c]) (cutB 35 l).1 := rfl
      rw [e, e2, e3, if_neg h, ih, ih]
end Go.Proofs.YtbikdlcjbigafaaGreatDoor

namespace Go.Proofs.YtbikdlcjbigafaaGreatDoor
open Go.Shelf
def Sh.lays229_ren : Go.Shelf.Ren := ⟨fun | 229 => 122 | n => n, fun | 9 => 9 | 40 => 195 | 31 => 51 | 152 => 221 | 3 => 3 | 0 => 0 | 4 => 4 | 21 => 21 | 154 => 223 | n => n, fun | n => n⟩
theorem Sh.lays229 : Go.Proofs.Lays.n229 Tryz.prog Sh.lays229_ren := {
  mixed := by kernel_rfl
  f229 := Tryz.func122.trans (congrArg some (by kernel_rfl))
  t0 := Tryz.underlying0
  a0 := Tryz.isAgg0
  z0 := Tryz.sizeOf0
  v0 := Tryz.zeroValue0
  t3 := Tryz.underlying3
  a3 := Tryz.isAgg3
  z3 := Tryz.sizeOf3
  v3 := Tryz.zeroValue3
  t4 := Tryz.underlying4
  a4 := Tryz.isAgg4
  z4 := Tryz.sizeOf4
  v4 := Tryz.zeroValue4
  t9 := Tryz.underlying9
  a9 := Tryz.isAgg9
  z9 := Tryz.sizeOf9
  v9 := Tryz.zeroValue9
  t21 := Tryz.underlying21
  a21 := Tryz.isAgg21
  z21 := Tryz.sizeOf21
  v21 := Tryz.zeroValue21
  t31 := Tryz.underlying51
  a31 := Tryz.isAgg51
  z31 := Tryz.sizeOf51
  v31 := Tryz.zeroValue51
  t40 := Tryz.underlying195
  a40 := Tryz.isAgg195
  z40 := Tryz.sizeOf195
  v40 := Tryz.zeroValue195
  t152 := Tryz.underlying221
  a152 := Tryz.isAgg221
  z152 := Tryz.sizeOf221
  v152 := Tryz.zeroValue221
  t154 := Tryz.underlying223
  a154 := Tryz.isAgg223
  z154 := Tryz.sizeOf223
  v154 := Tryz.zeroValue223 }
open Go.RowKit Go.Lib in
theorem Sh.strings_FieldsFunc_grows (g : Nat) (lb : Array Value) (eg : ∀ args w, (callFunc g args).run Tryz.prog w = .ok (.enter g args) w) (p : Nat → Bool) (s : ByteArray) (w : World) (hs : s.size ≤ 4294967296) (hp : PredGrows Tryz.prog g lb p w) :
    Calls Tryz.prog 122 #[.string s, .func (.func g) #[] lb] w fun e w' => ∃ A, e = .returned (.slice (some ⟨A, 0, none⟩) (Lib.goFieldsP p s).length (Lib.goFieldsP p s).length) ∧ w.heap.size ≤ A ∧
      w'.ownsRow w.heap.size 9 1 (.slice (some ⟨A, 0, none⟩) (Lib.goFieldsP p s).length (Lib.goFieldsP p s).length) (Lib.goFieldsP p s).length ((Lib.goFieldsP p s).map Value.string) ∧ Below w.heap.size w w' := Any.strings_FieldsFunc_grows Sh.lays229 g lb eg p s w hs hp (by kernel_rfl) (by kernel_rfl)
end Go.Proofs.YtbikdlcjbigafaaGreatDoor
