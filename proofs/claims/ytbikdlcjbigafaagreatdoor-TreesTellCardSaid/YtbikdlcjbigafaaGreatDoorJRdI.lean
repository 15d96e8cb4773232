/-
  source: words of a line. · What a reader of lines holds while it grows; lines, plain. · Rows of rules, zones, links and eras that grow: what the walks of both readers ask for. · source: what a line's deferred call does.
-/
import Derived.Great.BuildSlice
import Derived.Defers
import Derived.Recover
import Derived.Test.YtbikdlcjbigafaaGreatDoorJRdH
import Derived.Test.YtbikdlcjbigafaaGreatDoorJRdW
import Derived.Test.YtbikdlcjbigafaaGreatDoorJRdV
import Derived.Test.YtbikdlcjbigafaaGreatDoorJRdJ
import Derived.Test.YtbikdlcjbigafaaGreatDoorJRdC
namespace Go.Proofs.YtbikdlcjbigafaaGreatDoor
set_option linter.unusedVariables false
set_option linter.unusedSimpArgs false
open Go.ChangeShapes Go.WideShapes Go.ChangeAt Go.RowKit Civ

set_option maxRecDepth 100000 in
theorem wds1_any (x : Nat) (w : World) : Calls Tryz.prog 123 #[.int .i32 (x : Int)] w fun e w' => e = .returned (.bool (isB x)) ∧ Below w.heap.size w w' := by
  have h : isB x = (decide ((x : Int) = 32) || decide ((x : Int) = 9)) := by
    unfold isB
    rw [Bool.eq_iff_iff, Bool.or_eq_true, Bool.or_eq_true, beq_iff_eq, beq_iff_eq, decide_eq_true_iff, decide_eq_true_iff]
    omega
  have HI := Lib.hid h
  clear h
  obtain ⟨p, hp⟩ : ∃ p, ((x : Int) == 32) = p := ⟨_, rfl⟩
  obtain ⟨q, hq⟩ : ∃ q, ((x : Int) == 9) = q := ⟨_, rfl⟩
  have HP : Hid (isB x = (p || q)) := by
    show _ = _
    rw [HI.out, ← hp, ← hq]
    rfl
  clear HI
  go_enter Tryz.func123, Tryz.ntmps123
  cases p with
  | true =>
    go_wp2
    go_ret
    exact ⟨by rw [HP.out]; rfl, Below.refl _ _⟩
  | false =>
    cases q with
    | true =>
      go_wp2
      go_ret
      exact ⟨by rw [HP.out]; rfl, Below.refl _ _⟩
    | false =>
      go_wp2
      go_ret
      exact ⟨by rw [HP.out]; rfl, Below.refl _ _⟩
def encWd (x : ByteArray) : List Value := [.string x]
theorem map_encWd (l : List ByteArray) : l.map Value.string = l.flatMap encWd := by
  induction l with
  | nil => rfl
  | cons x l ih => rw [List.map_cons, List.flatMap_cons, ih]; rfl
theorem wds_size (l : List UInt8) : ∀ (cur : List UInt8) (m : Nat), cur.length + l.length ≤ m → ∀ x ∈ fldB cur l, x.length ≤ m := by
  induction l with
  | nil =>
    intro cur m h x hx
    unfold fldB at hx
    split at hx
    · cases hx
    · rw [List.mem_singleton] at hx
      subst hx
      simpa using h
  | cons c l ih =>
    intro cur m h x hx
    rw [List.length_cons] at h
    unfold fldB at hx
    split at hx
    · split at hx
      · exact ih [] m (by simp; omega) x hx
      · rcases List.mem_cons.1 hx with rfl | hx
        · omega
        · exact ih [] m (by simp; omega) x hx
    · exact ih (cur ++ [c]) m (by rw [List.length_append, List.length_singleton]; omega) x hx
theorem fldB_len : ∀ (l cur : List UInt8), (fldB cur l).length ≤ l.length + 1
  | [], cur => by
    unfold fldB
    split <;> simp
  | c :: l, cur => by
    have h1 := fldB_len l []
    have h2 := fldB_len l (cur ++ [c])
    have e3 : fldB cur (c :: l) = if c = 32 ∨ c = 9 then (if cur = [] then fldB [] l else cur :: fldB [] l) else fldB (cur ++ [c]) l := rfl
    rw [e3, List.length_cons]
    split
    · split
      · omega
      · rw [List.length_cons]; omega
    · omega
theorem cutB_le : ∀ l : List UInt8, (cutB 35 l).1.length ≤ l.length
  | [] => Nat.le_refl _
  | c :: l => by
    have ih := cutB_le l
    have e0 : cutB 35 (c :: l) = if c = 35 then ([], l, true) else (c :: (cutB 35 l).1, (cutB 35 l).2.1, (cutB 35 l).2.2) := rfl
    rw [e0]
    split
    · simp
    · simpa using ih
theorem wdsS_len (l : List UInt8) : (wdsS l).length ≤ l.length + 1 := by
  unfold wdsS
  rw [List.length_map, wdsF_cut]
  exact Nat.le_trans (fldB_len _ _) (Nat.succ_le_succ (cutB_le l))
theorem wdsS_size (l : List UInt8) : ∀ x ∈ wdsS l, x.size ≤ l.length := by
  intro x hx
  unfold wdsS at hx
  rw [wdsF_cut] at hx
  obtain ⟨y, hy, rfl⟩ := List.mem_map.1 hx
  exact Nat.le_trans (wds_size (cutB 35 l).1 [] (cutB 35 l).1.length (by simp) y hy) (cutB_le l)
theorem fldB_ne : ∀ (l cur : List UInt8), ∀ x ∈ fldB cur l, x ≠ []
  | [], cur => by
    intro x hx
    unfold fldB at hx
    split at hx
    · cases hx
    · rename_i h
      rw [List.mem_singleton] at hx
      rw [hx]; exact h
  | c :: l, cur => by
    intro x hx
    have e3 : fldB cur (c :: l) = if c = 32 ∨ c = 9 then (if cur = [] then fldB [] l else cur :: fldB [] l) else fldB (cur ++ [c]) l := rfl
    rw [e3] at hx
    split at hx
    · split at hx
      · exact fldB_ne l [] x hx
      · rename_i h
        rcases List.mem_cons.1 hx with e | hx
        · rw [e]; exact h
        · exact fldB_ne l [] x hx
    · exact fldB_ne l _ x hx
theorem wdsS_pos (l : List UInt8) : ∀ x ∈ wdsS l, 0 < x.size := by
  intro x hx
  unfold wdsS at hx
  rw [wdsF_cut] at hx
  obtain ⟨y, hy, rfl⟩ := List.mem_map.1 hx
  have := fldB_ne _ _ y hy
  rw [bx_size]
  exact List.length_pos_iff.2 this
def lngE (ws : List ByteArray) : Int := if longW ws = true then 1 else 0
set_option maxRecDepth 100000 in
set_option maxHeartbeats 1000000 in
theorem words_any_s (s : ByteArray) (w : World) (hV : SrV w) (hs : s.size ≤ 1000000) :
    Calls Tryz.prog 77 #[.string s] w fun e w' => ∃ v, e = PnE (lngE (wdsS s.data.toList)) v ∧ SlAt w' 1 RSt v (wdsS s.data.toList) ∧ Below w.heap.size w w' := by
  have HCU := Lib.hid (cut_any s ⟨#[35]⟩ w hV.mx (by omega))
  have hcu : Lib.cut s.data.toList (ByteArray.mk #[35]).data.toList = cutB 35 s.data.toList := cut_one 35 _
  rw [hcu] at HCU
  obtain ⟨s1, hs1⟩ : ∃ s1 : ByteArray, (⟨(cutB 35 s.data.toList).1.toArray⟩ : ByteArray) = s1 := ⟨_, rfl⟩
  rw [hs1] at HCU
  have hws : Lib.goFieldsP isB s1 = wdsS s.data.toList := by
    rw [fields_fld, ← hs1]
    unfold wdsS
    rw [wdsF_cut]
  have hz1 : s1.size ≤ s.size := by
    rw [← hs1]
    have h2 := cutB_le s.data.toList
    have h3 : s.data.toList.length = s.size := by simp
    show (cutB 35 s.data.toList).1.toArray.size ≤ _
    rw [List.size_toArray]
    omega
  have HFF := Lib.hid (fun wx => Sh.strings_FieldsFunc_grows 123 #[] (enters_of Tryz.func123 (by kernel_rfl) rfl) isB s1 wx (by omega) (fun W x _ _ => wds1_any x W))
  rw [hws] at HFF
  have hwl : (wdsS s.data.toList).length ≤ 1000001 := by
    have h1 := wdsS_len s.data.toList
    have h3 : s.data.toList.length = s.size := by simp
    omega
  generalize wdsS s.data.toList = ws at *
  clear hcu hs1 hws hz1 hV hs
  go_enter Tryz.func77, Tryz.ntmps77
  go_wp2_with fail
  refine HCU.out.mono ?_; rintro e wa ⟨rfl, qa, hwa⟩
  have BA : Hid (Below w.heap.size w wa) := by show Below _ _ _; rw [hwa]; exact below_draws (Below.refl _ _) qa
  clear hwa
  go_wp2_with fail
  refine (HFF.out _).mono ?_; rintro e wb ⟨A, rfl, hA, ho, hb⟩
  have BB : Hid (Below w.heap.size w wb) := BA.out.trans (hb.mono BA.out.size)
  rw [map_encWd] at ho
  have HR : Hid (SlAt wb 1 RSt (.slice (some ⟨A, 0, none⟩) ws.length ws.length) ws) := slAt_of_own (by decide) (fun _ => rfl) (fun _ _ => rfl) ho
  clear ho hb hA HFF HCU
  go_wp2_with fail
  go_loopw [5, 16] (fun _ vi wr => ∃ k : Nat, k ≤ ws.length ∧ vi = .int .i64 k ∧ Hid (∀ i (h : i < ws.length), i < k → ¬ 20 < ws[i].size) ∧ wb = wr) (fun _ vi _ => (ws.length - intOf vi).toNat)
  case atStart => exact ⟨0, Nat.zero_le _, rfl, fun i h h0 => absurd h0 (Nat.not_lt_zero _), rfl⟩
  case round =>
    obtain ⟨k, hk, rfl, HK, rfl⟩ := hrel
    by_cases hlt : k < ws.length
    · have hki : (k : Int) < (ws.length : Int) := by omega
      obtain ⟨b', o', e', -, c0⟩ := entS HR.out k hlt
      simp only [Option.some.injEq, Addr.mk.injEq, and_true] at e'
      obtain ⟨rfl, rfl⟩ := e'
      rw [Nat.zero_add] at c0
      by_cases hl : 20 < ws[k].size
      · have HL : Hid (lngE ws = 1) := by
          show _ = _
          unfold lngE longW
          rw [if_pos (List.any_eq_true.2 ⟨ws[k], List.getElem_mem hlt, decide_eq_true hl⟩)]
        have hld : decide ((ws[k].size : Int) ≤ 20) = false := decide_eq_false (by omega)
        clear hl
        generalize ws[k] = x at *
        go_wp2_with (go_at_call 80; refine (need_no _ _).mono ?_; rintro e w' ⟨rfl, rfl⟩)
        go_wp2
        exact ⟨rfl, _, by rw [HL.out]; rfl, HR.out, BB.out⟩
      · have hld : decide ((ws[k].size : Int) ≤ 20) = true := decide_eq_true (by omega)
        have HK2 : Hid (∀ i (h : i < ws.length), i < k + 1 → ¬ 20 < ws[i].size) := by
          show ∀ i (h : i < ws.length), i < k + 1 → ¬ 20 < ws[i].size
          intro i h h1
          by_cases h2 : i = k
          · subst h2; exact hl
          · exact HK.out i h (by omega)
        clear hl
        generalize ws[k] = x at *
        go_wp2_with (go_at_call 80; refine (need_yes _ _).mono ?_; rintro e w' ⟨rfl, rfl⟩)
        go_roundw
        case rel => exact ⟨k + 1, by omega, by go_num, HK2, trivial⟩
        case measure => simp [intOf]; omega
    · obtain rfl : k = ws.length := by omega
      have hnl : ¬ (ws.length : Int) < (ws.length : Int) := by omega
      have HL : Hid (lngE ws = 0) := by
        show _ = _
        unfold lngE longW
        rw [if_neg]
        intro h
        obtain ⟨x, hx, h2⟩ := List.any_eq_true.1 h
        obtain ⟨i, hi, rfl⟩ := List.mem_iff_getElem.1 hx
        exact HK.out i hi hi (of_decide_eq_true h2)
      go_wp2_with fail
      go_ret
      exact ⟨_, by rw [HL.out]; rfl, HR.out, BB.out⟩
end Go.Proofs.YtbikdlcjbigafaaGreatDoor

namespace Go.Proofs.YtbikdlcjbigafaaGreatDoor
set_option linter.unusedVariables false
set_option linter.unusedSimpArgs false
open Go.ChangeShapes Go.WideShapes Go.ChangeAt Go.RowKit Civ

theorem splB_size (c : UInt8) : ∀ (l cur : List UInt8), ∀ p ∈ splB c cur l, p.length ≤ cur.length + l.length
  | [], cur, p, h => by
    have h : p ∈ [cur] := h
    rw [List.mem_singleton.1 h]; simp
  | x :: l, cur, p, h => by
    have h : p ∈ (if x = c then cur :: splB c [] l else splB c (cur ++ [x]) l) := h
    split at h
    · rcases List.mem_cons.1 h with rfl | h
      · simp
      · have := splB_size c l [] p h
        simp at this ⊢; omega
    · have := splB_size c l (cur ++ [x]) p h
      simp at this ⊢; omega
theorem linE_lng (st : RdS) (l : List UInt8) : linE st l = if lngE (wdsS l) ≠ 0 then lngE (wdsS l) else lnE st (wdsS l) := by
  unfold linE lngE
  by_cases h : longW (wdsS l) = true
  · rw [if_pos h, if_pos h, if_pos (by decide)]
  · rw [if_neg h, if_neg h, if_neg (by decide)]
/-- a line more. -/
theorem lins_bad {LS : List (List UInt8)} {st : RdS} {k : Nat} (h : linsF rd0 0 LS = linsF st k (LS.drop k)) (hk : k < LS.length) (he : linE st LS[k] ≠ 0) : linsF rd0 0 LS = ((st, k + 1), linE st LS[k]) := by
  rw [h, List.drop_eq_getElem_cons hk]
  exact if_pos he
theorem lins_good {LS : List (List UInt8)} {st : RdS} {k : Nat} (h : linsF rd0 0 LS = linsF st k (LS.drop k)) (hk : k < LS.length) (he : linE st LS[k] = 0) : linsF rd0 0 LS = linsF (linV st LS[k]) (k + 1) (LS.drop (k + 1)) := by
  rw [h, List.drop_eq_getElem_cons hk]
  exact if_neg (by simp [he])
theorem lins_end {LS : List (List UInt8)} {st : RdS} (h : linsF rd0 0 LS = linsF st LS.length (LS.drop LS.length)) : linsF rd0 0 LS = ((st, LS.length), 0) := by
  rw [h, List.drop_length]
  rfl
theorem src_big {s : ByteArray} (h : 8000 < s.size ∨ 200 < (linesS s).length) : srcV s = src0 ∧ srcL s = 0 ∧ srcX s = 1 := by
  refine ⟨?_, if_pos h, if_pos h⟩
  unfold srcV
  rw [if_pos]
  rcases h with h | h
  · exact .inl h
  · exact .inr (.inl h)
theorem src_bad {s : ByteArray} {st : RdS} {k : Nat} {E : Int} (h1 : ¬ (8000 < s.size ∨ 200 < (linesS s).length)) (h : linsF rd0 0 (linesS s) = ((st, k), E)) (hE : E ≠ 0) : srcV s = src0 ∧ srcL s = (k : Int) ∧ srcX s = E := by
  refine ⟨?_, ?_, ?_⟩
  · unfold srcV; rw [h, if_pos (.inr (.inr (.inl hE)))]
  · unfold srcL; rw [if_neg h1, h, if_pos hE]
  · unfold srcX; rw [if_neg h1, h, if_pos hE]
theorem src_open {s : ByteArray} {st : RdS} {k : Nat} (h1 : ¬ (8000 < s.size ∨ 200 < (linesS s).length)) (h : linsF rd0 0 (linesS s) = ((st, k), 0)) (ho : st.op = true) : srcV s = src0 ∧ srcL s = ((linesS s).length : Int) ∧ srcX s = 5 := by
  refine ⟨?_, ?_, ?_⟩
  · unfold srcV; rw [h, if_pos (.inr (.inr (.inr ho)))]
  · unfold srcL; rw [if_neg h1, h, if_neg (by simp), if_pos ho]
  · unfold srcX; rw [if_neg h1, h, if_neg (by simp), if_pos ho]
theorem src_shut {s : ByteArray} {st : RdS} {k : Nat} (h1 : ¬ (8000 < s.size ∨ 200 < (linesS s).length)) (h : linsF rd0 0 (linesS s) = ((st, k), 0)) (ho : st.op = false) : srcV s = st.s ∧ srcL s = 0 ∧ srcX s = 0 := by
  have h2 : ¬ (8000 < s.size ∨ 200 < (linesS s).length ∨ ((0 : Int) ≠ 0) ∨ st.op = true) := by
    rintro (h | h | h | h)
    · exact h1 (.inl h)
    · exact h1 (.inr h)
    · exact h rfl
    · rw [ho] at h; cases h
  refine ⟨?_, ?_, ?_⟩
  · unfold srcV; rw [h, if_neg h2]
  · unfold srcL; rw [if_neg h1, h, if_neg (by simp), if_neg (by simp [ho])]
  · unfold srcX; rw [if_neg h1, h, if_neg (by simp), if_neg (by simp [ho])]
/-- has the last zone an era more, there is one. -/
theorem lnV_op {st : RdS} {w : List ByteArray} (h : st.op = true → st.s.zones ≠ []) : (lnV st w).op = true → (lnV st w).s.zones ≠ [] := by
  unfold lnV
  split
  · exact h
  · split
    · rename_i h1 h2
      intro _
      have hz := h h2
      obtain ⟨pre, z, e⟩ : ∃ pre z, st.s.zones = pre ++ [z] := ⟨_, _, (List.dropLast_concat_getLast hz).symm⟩
      show addE st.s.zones _ ≠ []
      rw [e, addE_last]
      simp
    · split
      · intro h; cases h
      · split
        · intro _; show st.s.zones ++ [_] ≠ []; simp
        · intro h; cases h
/-- how many there are. -/
def cntS (s : Src) : Nat := s.rules.length + s.zones.length + s.links.length
theorem addE_len (zs : List Zon) (x : Ero) : (addE zs x).length = zs.length := by
  unfold addE
  split
  · rename_i z h
    have hz : zs ≠ [] := by rintro rfl; simp at h
    rw [List.length_append, List.length_dropLast]
    have := List.length_pos_iff.2 hz
    simp
    omega
  · rfl
theorem lnV_cnt (st : RdS) (w : List ByteArray) : cntS (lnV st w).s ≤ cntS st.s + 1 := by
  unfold lnV cntS
  split
  · omega
  · split
    · simp only [addE_len]; omega
    · split
      · simp; omega
      · split
        · simp; omega
        · simp; omega
/-- the eras of a zone are at most so many. -/
def ersB (s : Src) (n : Nat) : Prop := ∀ z ∈ s.zones, z.eras.length ≤ n
section
variable {w W6 wr w' : World} {O : Nat} {vr vz vl v' : Value} {s : Src} {ob : Obj}
theorem SrR.boxed {D b i : Nat} {cs : Array Value} {rs : List Rul} {zs : List (Zon × Value)} {ls : List Lnk} (h : SrR wr D vr vz vl rs zs ls) (hb : BxO wr b cs 28) (u : Value) : SrR (wr.setCell ⟨b, i, none⟩ u) D vr vz vl rs zs ls :=
  h.box hb (by decide) (by decide) (by decide) (by decide) u
theorem own_keepD {D n sz : Nat} {e : TypeId} {v : Value} {xs : List Value} (hown : wr.ownsRow D e sz v n xs) (hz : D ≤ wr.heap.size) (hg : (wr.alloc ob).grownBy w' v.ownBlock) : Below D wr w' :=
  append_keep hown ((Below.refl D wr).alloc hz _) hz hg
end
end Go.Proofs.YtbikdlcjbigafaaGreatDoor

namespace Go.Proofs.YtbikdlcjbigafaaGreatDoor
set_option linter.unusedVariables false
set_option linter.unusedSimpArgs false
open Go.ChangeShapes Go.WideShapes Go.ChangeAt Go.RowKit Civ

theorem info_rlz : (Tryz.prog.info? 58).map (fun i => (i.zero, i.size, i.bytes)) = some (some (.agg #[.string ⟨#[]⟩, .int .i64 0, .int .i64 0, .int .i64 0, .int .i64 0, .int .i64 0, .int .i64 0, .int .i64 0, .int .i64 0, .int .i64 0, .string ⟨#[]⟩]), 11, 104) := by kernel_rfl
theorem info_lnk : (Tryz.prog.info? 61).map (fun i => (i.zero, i.size, i.bytes)) = some (some (.agg #[.string ⟨#[]⟩, .string ⟨#[]⟩]), 2, 32) := by kernel_rfl
theorem info_zon : (Tryz.prog.info? 65).map (fun i => (i.zero, i.size, i.bytes)) = some (some (.agg #[.string ⟨#[]⟩, .slice none 0 0]), 2, 40) := by kernel_rfl
theorem info_ero : (Tryz.prog.info? 68).map (fun i => (i.zero, i.size, i.bytes)) = some (some (.agg #[.int .i64 0, .string ⟨#[]⟩, .int .i64 0, .string ⟨#[]⟩, .bool false, .int .i64 0, .int .i64 0, .int .i64 0, .int .i64 0, .int .i64 0, .int .i64 0, .int .i64 0]), 12, 112) := by kernel_rfl
set_option maxRecDepth 10000 in
theorem fill_rul (c0 c1 c2 c3 c4 c5 c6 c7 c8 c9 c10 : Value) : Instr.fill (fun i => some (i * 11, 11)) ((Array.range (1 * 11)).map ((Value.agg #[.string ⟨#[]⟩, .int .i64 0, .int .i64 0, .int .i64 0, .int .i64 0, .int .i64 0, .int .i64 0, .int .i64 0, .int .i64 0, .int .i64 0, .string ⟨#[]⟩]).cells[· % (Value.agg #[.string ⟨#[]⟩, .int .i64 0, .int .i64 0, .int .i64 0, .int .i64 0, .int .i64 0, .int .i64 0, .int .i64 0, .int .i64 0, .int .i64 0, .string ⟨#[]⟩]).cells.size]!)) [(0, .agg #[c0, c1, c2, c3, c4, c5, c6, c7, c8, c9, c10])] = some #[c0, c1, c2, c3, c4, c5, c6, c7, c8, c9, c10] := by kernel_rfl
set_option maxRecDepth 10000 in
theorem fill_ero (c0 c1 c2 c3 c4 c5 c6 c7 c8 c9 c10 c11 : Value) : Instr.fill (fun i => some (i * 12, 12)) ((Array.range (1 * 12)).map ((Value.agg #[.int .i64 0, .string ⟨#[]⟩, .int .i64 0, .string ⟨#[]⟩, .bool false, .int .i64 0, .int .i64 0, .int .i64 0, .int .i64 0, .int .i64 0, .int .i64 0, .int .i64 0]).cells[· % (Value.agg #[.int .i64 0, .string ⟨#[]⟩, .int .i64 0, .string ⟨#[]⟩, .bool false, .int .i64 0, .int .i64 0, .int .i64 0, .int .i64 0, .int .i64 0, .int .i64 0, .int .i64 0]).cells.size]!)) [(0, .agg #[c0, c1, c2, c3, c4, c5, c6, c7, c8, c9, c10, c11])] = some #[c0, c1, c2, c3, c4, c5, c6, c7, c8, c9, c10, c11] := by kernel_rfl
theorem own_pos {w : World} {D n sz : Nat} {e : TypeId} {v : Value} {xs : List Value} (h : w.ownsRow D e sz v n xs) (hn : 0 < n) : ∃ g cap, v = .slice (some ⟨g, 0, none⟩) n cap ∧ D ≤ g ∧ g < w.heap.size := by
  rcases h.2 with ⟨-, h0⟩ | ⟨g, cap, cur, e', hg, hh, -⟩
  · omega
  · exact ⟨g, cap, e', hg, (Array.getElem?_eq_some_iff.1 hh).1⟩
/-- the cell of the last zone's eras. -/
theorem zon_own {w : World} {D G cap n : Nat} {pre : List (Zon × Value)} {nm : ByteArray} {es : List Ero} {ve : Value} (h : w.ownsRow D 65 2 (.slice (some ⟨G, 0, none⟩) (pre.length + 1) cap) n ((pre ++ [((⟨nm, es⟩ : Zon), ve)]).flatMap encZ)) :
    w.cell? ⟨G, pre.length * 2 + 1, none⟩ = some ve ∧ w.frozen? ⟨G, pre.length * 2 + 1, none⟩ = false ∧ G < w.heap.size := by
  have hn : pre.length + 1 = n := by
    rcases h.2 with ⟨e, -⟩ | ⟨g, c, cur, e, -⟩
    · cases e
    · simp only [Value.slice.injEq] at e; exact e.2.1
  subst hn
  refine ⟨?_, h.frozenAt _, (h.lt G rfl).2⟩
  rw [h.cellAt _ (by omega), List.flatMap_append, List.getElem?_append_right (by rw [flat_encZ]; omega), flat_encZ, show pre.length * 2 + 1 - pre.length * 2 = 1 by omega]
  rfl
/-- an era's box, beside the eras' row that grows. -/
theorem ero_kept {w w' : World} {b D G cap n m : Nat} {cs : Array Value} {xs : List Value} {ve : Value} {ob : Obj} (h : BxO w b cs 68) (hz : w.ownsRow D 65 2 (.slice (some ⟨G, 0, none⟩) m cap) n xs) (hne : ∀ g, ve.ownBlock = some g → g ≠ b) (hg : (w.alloc ob).grownBy w' ve.ownBlock) : BxO w' b cs 68 ∧ b ≠ G := by
  refine ⟨(h.alloc ob).kept hg (fun e => hne b e.symm rfl), ?_⟩
  rcases hz.2 with ⟨e, -⟩ | ⟨g, c, cur, e, -, hh, -⟩
  · cases e
  · simp only [Value.slice.injEq, Option.some.injEq, Addr.mk.injEq, and_true] at e
    obtain ⟨rfl, -⟩ := e
    rintro rfl
    have h2 : w.heap[b]? = some (.cells cs 68 (0, 0)) := h
    rw [hh] at h2
    simp only [Option.some.injEq, Obj.cells.injEq] at h2
    exact absurd h2.2.1 (by decide)
/-- the cell of the last zone's eras, behind the row that grew. -/
theorem zon_kept {w w' : World} {D G cap n m : Nat} {pre : List (Zon × Value)} {nm : ByteArray} {es : List Ero} {ve v1 : Value} {xs : List Value} {ob : Obj} (h : w.ownsRow D 65 2 (.slice (some ⟨G, 0, none⟩) (pre.length + 1) cap) n ((pre ++ [((⟨nm, es⟩ : Zon), ve)]).flatMap encZ)) (hx : w.ownsRow D 68 12 v1 m xs) (hg : (w.alloc ob).grownBy w' v1.ownBlock) :
    w'.cell? ⟨G, pre.length * 2 + 1, none⟩ = some ve ∧ w'.frozen? ⟨G, pre.length * 2 + 1, none⟩ = false ∧ G < w'.heap.size := zon_own (own_sideV h hx (by decide) hg)
theorem lnV_ers {st : RdS} {w : List ByteArray} {k : Nat} (h : ersB st.s k) : ersB (lnV st w).s (k + 1) := by
  unfold lnV
  split
  · intro z hz; have := h z hz; omega
  · split
    · intro z hz
      have hz : z ∈ addE st.s.zones (erV w) := hz
      unfold addE at hz
      split at hz
      · rename_i z0 h0
        rcases List.mem_append.1 hz with hz | hz
        · have := h z (List.dropLast_subset _ hz); omega
        · rw [List.mem_singleton.1 hz]
          have := h z0 (List.mem_of_getLast? h0)
          show (z0.eras ++ [erV w]).length ≤ k + 1
          simp; omega
      · have := h z hz; omega
    · split
      · intro z hz; have := h z hz; omega
      · split
        · intro z hz
          rcases List.mem_append.1 hz with hz | hz
          · have := h z hz; omega
          · rw [List.mem_singleton.1 hz]; show 1 ≤ k + 1; omega
        · intro z hz; have := h z hz; omega
theorem slAt_dropW {w : World} {b off n cap : Nat} {xs : List ByteArray} (h : SlAt w 1 RSt (.slice (some ⟨b, off, none⟩) n cap) xs) (k : Nat) (hk : k ≤ xs.length) : SlAt w 1 RSt (.slice (some ⟨b, off + k, none⟩) (xs.length - k) (cap - k)) (xs.drop k) := by
  by_cases he : k = xs.length
  · subst he
    rw [List.drop_length, Nat.sub_self]
    exact .inl ⟨_, _, rfl, rfl⟩
  · rcases h with ⟨a, c, e, rfl⟩ | ⟨b', o', c', e, h0, h1, h2, h3, h4⟩
    · simp at hk he; exact absurd hk he
    · simp only [Value.slice.injEq, Option.some.injEq, Addr.mk.injEq, and_true] at e
      obtain ⟨⟨rfl, rfl⟩, -, rfl⟩ := e
      refine .inr ⟨b, off + k, cap - k, by rw [List.length_drop], by rw [List.length_drop]; omega, by rw [List.length_drop]; omega, by omega, h3, fun i hi => ?_⟩
      rw [List.length_drop] at hi
      obtain ⟨cs, c1, c2, c3⟩ := h4 (k + i) (by omega)
      refine ⟨cs, c1, by rw [List.getElem_drop]; exact c2, fun j hj => ?_⟩
      rw [← c3 j hj]
      congr 2
      omega
end Go.Proofs.YtbikdlcjbigafaaGreatDoor

namespace Go.Proofs.YtbikdlcjbigafaaGreatDoor
set_option linter.unusedVariables false
set_option linter.unusedSimpArgs false
open Go.ChangeShapes Go.WideShapes Go.ChangeAt Go.RowKit Civ

theorem is_fault (T : TypeId) (v : Value) (w : World) : (Instr.typeAssert (.iface 146 v) T 146 true).run Tryz.prog w = .ok (.tuple #[v, .bool true]) w := by kernel_rfl
set_option maxRecDepth 100000 in
set_option maxHeartbeats 2000000 in
theorem catch_pan (p : Addr) (x E : Int) (older : List PanicEntry) (w : World) (hc : w.cell? p = some (.int .i64 x)) (hz : w.frozen? p = false) (hs : p.spot = none) :
    CallsD Tryz.prog 76 #[.pointer (some p)] (.panicking ({ v := .iface 146 (.agg #[.int .i64 E]), recovered := false } :: older)) w fun e u' w' =>
      e = .returned (.tuple #[]) ∧ u' = .panicking ({ v := .iface 146 (.agg #[.int .i64 E]), recovered := true } :: older) ∧ w' = (w.setCell p (.int .i64 E)).alloc (.cells #[.int .i64 E] 146) := by
  have hta := fun T v w => is_fault T v w
  have hlt : p.block < w.heap.size := World.block_lt_of_cell? w p hc
  refine callsD_of_wpS Tryz.func76 rfl fun c₀ cs hu => ?_
  apply wpS_seq
  apply wpS_region
  simp [wpOpsS, go_sem, recoverD, hu, Tryz.ntmps76, Exit.thenS]
  refine wpS_of_wp ?_
  have e : (#[Value.pointer (some p)] ++ ((Array.replicate 16 undef).setIfInBounds 3 (.iface 146 (.agg #[.int .i64 E]))).setIfInBounds 0 (.iface 146 (.agg #[.int .i64 E]))) = #[.pointer (some p), (.iface 146 (.agg #[.int .i64 E])), undef, undef, (.iface 146 (.agg #[.int .i64 E])), undef, undef, undef, undef, undef, undef, undef, undef, undef, undef, undef, undef] := by rfl
  rw [e]
  clear e
  obtain ⟨pb, po, ps⟩ := p
  dsimp only at hs hlt
  subst hs
  clear hu
  go_wp2
  simp [bodyPostS, results, Tryz.results76]
theorem catch_idle (p : Addr) (w : World) :
    CallsD Tryz.prog 76 #[.pointer (some p)] .returning w fun e u' w' => e = .returned (.tuple #[]) ∧ u' = .returning ∧ w' = w := by
  refine callsD_of_wpS Tryz.func76 rfl fun c₀ cs hu => ?_
  apply wpS_seq
  apply wpS_region
  simp [wpOpsS, go_sem, recoverD, hu, Tryz.ntmps76, Exit.thenS]
  refine wpS_of_wp ?_
  have e : (#[Value.pointer (some p)] ++ ((Array.replicate 16 undef).setIfInBounds 3 .nilIface).setIfInBounds 0 .nilIface) = #[.pointer (some p), .nilIface, undef, undef, .nilIface, undef, undef, undef, undef, undef, undef, undef, undef, undef, undef, undef, undef] := by rfl
  rw [e]
  clear e
  go_wp2
  cases c₀
  simp_all [bodyPostS, results, Tryz.results76]
end Go.Proofs.YtbikdlcjbigafaaGreatDoor
