/-
  Blanks and remarks, plain: a source of raw things reads the same, whatever stands for its blanks and for the ends of its lines. · The contract of strings.ReplaceAll, laid (the shelf's tool lay-plain printed the laying; the numbers by name). · Two sources that are the same. · slices.Equal over rules, links and eras that are the same (printed by mkeqb.py).
-/
import Derived.Lib.Replace
import Derived.Shelf.Strings.Replace
import Derived.Shelf.Lays
import Derived.Shelf.LaysM
import Derived.BigQuiet
import Derived.Test.YtbikdlcjbigafaaGreatDoorJSoC
import Derived.Test.YtbikdlcjbigafaaGreatDoorProg
import Derived.Test.YtbikdlcjbigafaaGreatDoorJRdV
namespace Go.Proofs.YtbikdlcjbigafaaGreatDoor
set_option linter.unusedVariables false
set_option linter.unusedSimpArgs false
open Go.ChangeShapes Go.WideShapes Go.ChangeAt Go.RowKit Civ

/-- for each byte c some bytes x. -/
def subW (c : UInt8) (x : Wd) (s : Wd) : Wd := s.flatMap fun b => if b = c then x else [b]
theorem subW_cons (c : UInt8) (x : Wd) (b : UInt8) (s : Wd) : subW c x (b :: s) = (if b = c then x else [b]) ++ subW c x s := rfl
theorem subW_app (c : UInt8) (x s t : Wd) : subW c x (s ++ t) = subW c x s ++ subW c x t := by
  unfold subW
  rw [List.flatMap_append]
theorem subW_no (c : UInt8) (x : Wd) : ∀ (s : Wd), c ∉ s → subW c x s = s
  | [], _ => rfl
  | b :: s, h => by
    rw [subW_cons, if_neg (fun e => h (by simp [e])), subW_no c x s (fun e => h (by simp [e]))]
    rfl
theorem index_one (b c : UInt8) (l : Wd) : Lib.index (b :: l) [c] = if b = c then 0 else if Lib.index l [c] == -1 then -1 else Lib.index l [c] + 1 := by
  have e : [c].isPrefixOf (b :: l) = decide (b = c) := by
    simp only [List.isPrefixOf, Bool.and_true]
    by_cases h : b = c
    · simp [h]
    · have h2 : ¬ c = b := fun e => h e.symm
      simp [h, h2]
  show (if [c].isPrefixOf (b :: l) = true then 0 else _) = _
  rw [e]
  simp only [decide_eq_true_eq]
theorem rep_one (c : UInt8) (x : Wd) : ∀ (s : Wd) (k : Nat), s.count c ≤ k → Lib.replaceK [c] x k s = subW c x s
  | [], k, _ => by
    cases k with
    | zero => rfl
    | succ k => rfl
  | b :: s, k, h => by
    rw [subW_cons]
    by_cases hb : b = c
    · subst hb
      rw [List.count_cons_self] at h
      cases k with
      | zero => omega
      | succ k =>
        rw [Lib.replaceK_hit [b] x k (b :: s) 0 (by rw [index_one, if_pos rfl]; rfl), if_pos rfl]
        show ([] ++ x) ++ Lib.replaceK [b] x k s = _
        rw [rep_one b x s k (by omega)]
        rfl
    · rw [List.count_cons_of_ne hb] at h
      rw [if_neg hb]
      cases k with
      | zero =>
        have := rep_one c x s 0 h
        rw [← this]
        rfl
      | succ k =>
        have ih := rep_one c x s (k + 1) h
        rw [← ih]
        by_cases hi : Lib.index s [c] == -1
        · show (if Lib.index (b :: s) [c] == -1 then b :: s else _) = [b] ++ (if Lib.index s [c] == -1 then s else _)
          rw [if_pos hi, if_pos (by rw [index_one, if_neg hb, if_pos hi]; rfl)]
          rfl
        · have hge := Lib.index_ge s [c]
          have hne : Lib.index s [c] ≠ -1 := fun e => hi (by rw [e]; rfl)
          obtain ⟨i, hi2⟩ : ∃ i : Nat, Lib.index s [c] = i := ⟨(Lib.index s [c]).toNat, by omega⟩
          rw [Lib.replaceK_hit [c] x k s i hi2, Lib.replaceK_hit [c] x k (b :: s) (i + 1) (by rw [index_one, if_neg hb, if_neg hi, hi2]; rfl)]
          rfl
theorem replaceAll_one (c : UInt8) (x s : Wd) (h : ([c] == x) = false) : Lib.replaceAll s [c] x = subW c x s := by
  show Lib.replace s [c] x (-1) = _
  unfold Lib.replace
  rw [if_neg (by rw [h]; simp)]
  refine rep_one c x s _ ?_
  unfold Lib.replaceNum
  rw [if_pos (.inl (by decide)), Lib.count_one]
  exact Nat.le_refl _
/-- words, with some bytes between them. -/
def joinX (x : Wd) : List Wd → Wd
  | [] => []
  | [a] => a
  | a :: b :: l => a ++ (x ++ joinX x (b :: l))
/-- a blank of some bytes. -/
structure BlkX (x : Wd) : Prop where
  ne : x ≠ []
  all : ∀ c ∈ x, c = 32 ∨ c = 9
  le : x.length ≤ 3
/-- the end of a line: what stands in it, lines behind it. -/
structure EndY (y t : Wd) (M : List Wd) : Prop where
  eq : y = t ++ 10 :: (M.flatMap fun m => m ++ [10])
  t10 : (10 : UInt8) ∉ t
  m10 : ∀ m ∈ M, (10 : UInt8) ∉ m
  te : t = [] ∨ ∃ b r, t = b :: r ∧ (b = 32 ∨ b = 9) ∧ wdsF [] r = []
  me : ∀ m ∈ M, wdsF [] m = []
  le : y.length ≤ 6
  ml : M.length ≤ 2
theorem wdsF_sep : ∀ (w cur rest : Wd) (b : UInt8), (b = 32 ∨ b = 9) → (∀ c ∈ w, c ≠ 32 ∧ c ≠ 9 ∧ c ≠ 35 ∧ c ≠ 10) → cur ++ w ≠ [] → wdsF cur (w ++ b :: rest) = (cur ++ w) :: wdsF [] rest
  | [], cur, rest, b, hb, _, hn => by
    rw [List.append_nil] at hn ⊢
    show (if b = 35 then _ else if b = 32 ∨ b = 9 then (if cur = [] then _ else _) else _) = _
    rw [if_neg (by rcases hb with rfl | rfl <;> decide), if_pos hb, if_neg hn]
  | c :: w, cur, rest, b, hb, h, hn => by
    obtain ⟨h1, h2, h3, -⟩ := h c (by simp)
    show (if c = 35 then _ else if c = 32 ∨ c = 9 then _ else wdsF (cur ++ [c]) (w ++ b :: rest)) = _
    rw [if_neg h3, if_neg (by rintro (e | e); exact h1 e; exact h2 e), wdsF_sep w (cur ++ [c]) rest b hb (fun c hc => h c (by simp [hc])) (by simp)]
    simp
theorem wdsF_blanks : ∀ (x rest : Wd), (∀ c ∈ x, c = 32 ∨ c = 9) → wdsF [] (x ++ rest) = wdsF [] rest
  | [], _, _ => rfl
  | b :: x, rest, h => by
    have hb := h b (by simp)
    show (if b = 35 then _ else if b = 32 ∨ b = 9 then (if ([] : Wd) = [] then wdsF [] (x ++ rest) else _) else _) = _
    rw [if_neg (by rcases hb with rfl | rfl <;> decide), if_pos hb, if_pos rfl, wdsF_blanks x rest fun c hc => h c (by simp [hc])]
theorem wdsF_joinX {x y t : Wd} {M : List Wd} (hx : BlkX x) (hy : EndY y t M) : ∀ (ws : List Wd), ws.all wok = true → wdsF [] (joinX x ws ++ t) = ws
  | [], _ => by
    show wdsF [] t = []
    rcases hy.te with e | ⟨b, r, e, hb, h⟩
    · rw [e]; rfl
    · rw [e]
      have := wdsF_blanks [b] r (fun c hc => by rw [List.mem_singleton.1 hc]; exact hb)
      exact this.trans h
  | [a], h => by
    simp only [List.all_cons, List.all_nil, Bool.and_true] at h
    obtain ⟨h1, -, h2⟩ := (wok_iff a).1 h
    show wdsF [] (a ++ t) = _
    rcases hy.te with e | ⟨b, r, e, hb, h3⟩
    · rw [e, List.append_nil]
      exact wdsF_last a [] h2 (by simpa using h1)
    · rw [e, wdsF_sep a [] r b hb h2 (by simpa using h1), h3]
      rfl
  | a :: b :: l, h => by
    rw [List.all_cons, Bool.and_eq_true] at h
    obtain ⟨h1, -, h2⟩ := (wok_iff a).1 h.1
    show wdsF [] ((a ++ (x ++ joinX x (b :: l))) ++ t) = _
    obtain ⟨c, z, e⟩ : ∃ c z, x = c :: z := by
      cases x with
      | nil => exact absurd rfl hx.ne
      | cons c z => exact ⟨c, z, rfl⟩
    have hall := hx.all
    rw [e] at hall
    have e2 : (a ++ (x ++ joinX x (b :: l))) ++ t = a ++ c :: (z ++ (joinX x (b :: l) ++ t)) := by rw [e]; simp
    rw [e2, wdsF_sep a [] _ c (hall c (by simp)) h2 (by simpa using h1), wdsF_blanks z _ (fun d hd => hall d (by simp [hd])), wdsF_joinX hx hy (b :: l) h.2]
    rfl
theorem joinX_nl {x : Wd} (hx : BlkX x) : ∀ (ws : List Wd), ws.all wok = true → (10 : UInt8) ∉ joinX x ws
  | [], _ => by simp [joinX]
  | [a], h => by
    simp only [List.all_cons, List.all_nil, Bool.and_true] at h
    exact fun e => (((wok_iff a).1 h).2.2 10 e).2.2.2 rfl
  | a :: b :: l, h => by
    rw [List.all_cons, Bool.and_eq_true] at h
    show (10 : UInt8) ∉ a ++ (x ++ joinX x (b :: l))
    intro e
    rcases List.mem_append.1 e with e | e
    · exact (((wok_iff a).1 h.1).2.2 10 e).2.2.2 rfl
    · rcases List.mem_append.1 e with e | e
      · rcases hx.all _ e with e | e <;> cases e
      · exact joinX_nl hx (b :: l) h.2 e
theorem joinX_len {x : Wd} (hx : BlkX x) : ∀ (ws : List Wd), ws.all wok = true → (joinX x ws).length ≤ 23 * ws.length
  | [], _ => Nat.zero_le _
  | [a], h => by
    simp only [List.all_cons, List.all_nil, Bool.and_true] at h
    have := ((wok_iff a).1 h).2.1
    show a.length ≤ 23 * 1
    omega
  | a :: b :: l, h => by
    rw [List.all_cons, Bool.and_eq_true] at h
    have h1 := ((wok_iff a).1 h.1).2.1
    have h2 := joinX_len hx (b :: l) h.2
    have h3 := hx.le
    show (a ++ (x ++ joinX x (b :: l))).length ≤ _
    rw [List.length_append, List.length_append]
    simp only [List.length_cons] at h2 ⊢
    omega
/-- the changed text: blanks, then ends. -/
theorem subW_join (x : Wd) : ∀ (ws : List Wd), ws.all wok = true → subW 32 x (joinT ws) = joinX x ws
  | [], _ => rfl
  | [a], h => by
    simp only [List.all_cons, List.all_nil, Bool.and_true] at h
    exact subW_no 32 x a fun e => (((wok_iff a).1 h).2.2 32 e).1 rfl
  | a :: b :: l, h => by
    rw [List.all_cons, Bool.and_eq_true] at h
    show subW 32 x (a ++ 32 :: joinT (b :: l)) = a ++ (x ++ joinX x (b :: l))
    rw [subW_app, subW_no 32 x a (fun e => (((wok_iff a).1 h.1).2.2 32 e).1 rfl), subW_cons, if_pos rfl, subW_join x (b :: l) h.2]
def lnsX (x y : Wd) (L : List (List Wd)) : Wd := L.flatMap fun ws => joinX x ws ++ y
theorem lnsX_cons (x y : Wd) (ws : List Wd) (L : List (List Wd)) : lnsX x y (ws :: L) = (joinX x ws ++ y) ++ lnsX x y L := rfl
theorem sub_blanks (x : Wd) : ∀ (L : List (List Wd)), (L.all fun ws => ws.all wok) = true → subW 32 x (lnsT L) = lnsX x [10] L
  | [], _ => rfl
  | ws :: L, h => by
    rw [List.all_cons, Bool.and_eq_true] at h
    show subW 32 x ((joinT ws ++ [10]) ++ lnsT L) = _
    rw [subW_app, subW_app, subW_join x ws h.1, sub_blanks x L h.2, lnsX_cons]
    rfl
theorem sub_ends {x : Wd} (hx : BlkX x) (y : Wd) : ∀ (L : List (List Wd)), (L.all fun ws => ws.all wok) = true → subW 10 y (lnsX x [10] L) = lnsX x y L
  | [], _ => rfl
  | ws :: L, h => by
    rw [List.all_cons, Bool.and_eq_true] at h
    rw [lnsX_cons, lnsX_cons, subW_app, subW_app, subW_no 10 y _ (joinX_nl hx ws h.1), sub_ends hx y L h.2, subW_cons, if_pos rfl]
    show (joinX x ws ++ (y ++ [])) ++ _ = _
    rw [List.append_nil]
theorem splB_M : ∀ (M : List Wd) (rest : Wd), (∀ m ∈ M, (10 : UInt8) ∉ m) → splB 10 [] ((M.flatMap fun m => m ++ [10]) ++ rest) = M ++ splB 10 [] rest
  | [], _, _ => rfl
  | m :: M, rest, h => by
    have e : (((m :: M).flatMap fun m => m ++ [10]) ++ rest) = m ++ 10 :: ((M.flatMap fun m => m ++ [10]) ++ rest) := by simp [List.flatMap_cons]
    rw [e, splB_line 10 m [] _ (h m (by simp)), splB_M M rest fun n hn => h n (by simp [hn])]
    rfl
theorem splB_lnsX {x y t : Wd} {M : List Wd} (hx : BlkX x) (hy : EndY y t M) : ∀ (L : List (List Wd)) (rest : Wd), (L.all fun ws => ws.all wok) = true → splB 10 [] (lnsX x y L ++ rest) = (L.flatMap fun ws => (joinX x ws ++ t) :: M) ++ splB 10 [] rest
  | [], rest, _ => rfl
  | ws :: L, rest, h => by
    rw [List.all_cons, Bool.and_eq_true] at h
    have e : lnsX x y (ws :: L) ++ rest = (joinX x ws ++ t) ++ 10 :: ((M.flatMap fun m => m ++ [10]) ++ (lnsX x y L ++ rest)) := by rw [lnsX_cons, hy.eq]; simp
    rw [e, splB_line 10 _ [] _ (fun e => by rcases List.mem_append.1 e with e | e; exact joinX_nl hx ws h.1 e; exact hy.t10 e), splB_M M _ hy.m10, splB_lnsX hx hy L rest h.2]
    simp [List.flatMap_cons]
theorem lin_wds {st : RdS} {a b : List UInt8} (h : wdsF [] a = wdsF [] b) : linE st a = linE st b ∧ linV st a = linV st b := by
  unfold linE linV wdsS
  rw [h]
  exact ⟨rfl, rfl⟩
theorem reads_M (st : RdS) : ∀ (M : List Wd), (∀ m ∈ M, wdsF [] m = []) → Reads st M st
  | [], _ => rfl
  | m :: M, h => by
    have := lin_wds (st := st) (a := m) (b := []) ((h m (by simp)).trans rfl)
    refine ⟨this.1.trans rfl, ?_⟩
    rw [show linV st m = st from this.2.trans rfl]
    exact reads_M st M fun n hn => h n (by simp [hn])
theorem reads_X {x y t : Wd} {M : List Wd} (hx : BlkX x) (hy : EndY y t M) : ∀ (L : List (List Wd)) (st st' : RdS), (L.all fun ws => ws.all wok) = true → Reads st (L.map joinT) st' → Reads st (L.flatMap fun ws => (joinX x ws ++ t) :: M) st'
  | [], st, st', _, h => h
  | ws :: L, st, st', h, hr => by
    rw [List.all_cons, Bool.and_eq_true] at h
    obtain ⟨h1, h2⟩ := hr
    have e := lin_wds (st := st) ((wdsF_joinX hx hy ws h.1).trans (wdsF_join ws h.1).symm)
    have k : Reads st ([joinX x ws ++ t] ++ (M ++ L.flatMap fun ws => (joinX x ws ++ t) :: M)) st' := by
      refine Reads.app (st1 := linV st (joinT ws)) ⟨e.1.trans h1, e.2⟩ ?_
      exact (reads_M _ M hy.me).app (reads_X hx hy L _ st' h.2 h2)
    rw [List.flatMap_cons]
    exact k
theorem lnsX_len {x y t : Wd} {M : List Wd} (hx : BlkX x) (hy : EndY y t M) : ∀ (L : List (List Wd)), (∀ ws ∈ L, ws.all wok = true ∧ ws.length ≤ 10) → (lnsX x y L).length ≤ 236 * L.length
  | [], _ => Nat.zero_le _
  | ws :: L, h => by
    have h1 := joinX_len hx ws (h ws (by simp)).1
    have h2 := (h ws (by simp)).2
    have h3 := lnsX_len hx hy L (fun x hx => h x (by simp [hx]))
    have h4 := hy.le
    rw [lnsX_cons]
    simp only [List.length_append, List.length_cons, List.length_nil]
    omega
theorem flat_len {α β : Type} (f : α → List β) (n : Nat) : ∀ (L : List α), (∀ a ∈ L, (f a).length ≤ n) → (L.flatMap f).length ≤ n * L.length
  | [], _ => Nat.zero_le _
  | a :: L, h => by
    have h1 := h a (by simp)
    have h2 := flat_len f n L fun b hb => h b (by simp [hb])
    rw [List.flatMap_cons, List.length_append, List.length_cons, Nat.mul_succ]
    omega
/-- the text that is changed. -/
theorem src_sub {x y t : Wd} {M : List Wd} (hx : BlkX x) (hy : EndY y t M) (l : List Rz) : subW 10 y (subW 32 x (srcT l)) = lnsX x y (srcWs l) := by
  have hall : ((srcWs l).all fun ws => ws.all wok) = true := List.all_eq_true.2 fun ws h => ((src_all l).1 ws h).1
  unfold srcT
  rw [sub_blanks x _ hall, sub_ends hx y _ hall]
/-- blanks, empty lines and remarks change nothing. -/
theorem src_blank {x y t : Wd} {M : List Wd} (hx : BlkX x) (hy : EndY y t M) (l : List Rz) :
    (lnsX x y (srcWs l)).length ≤ 5428 ∧ srcX (bx (lnsX x y (srcWs l))) = 0 ∧ srcL (bx (lnsX x y (srcWs l))) = 0 ∧ srcV (bx (lnsX x y (srcWs l))) = srcO l := by
  have hsa := src_all l
  have hall : ((srcWs l).all fun ws => ws.all wok) = true := List.all_eq_true.2 fun ws h => (hsa.1 ws h).1
  have hlen := lnsX_len hx hy (srcWs l) hsa.1
  have hl5 : (lnsX x y (srcWs l)).length ≤ 5428 := by have := hsa.2; omega
  have hr := reads_X hx hy (srcWs l) _ _ hall (reads_src l)
  have hsp : linesS (bx (lnsX x y (srcWs l))) = ((srcWs l).flatMap fun ws => (joinX x ws ++ t) :: M) ++ [[]] := by
    show splB 10 [] (lnsX x y (srcWs l)) = _
    have := splB_lnsX hx hy (srcWs l) [] hall
    rw [List.append_nil] at this
    exact this
  have hr2 : Reads rd0 (linesS (bx (lnsX x y (srcWs l)))) ⟨srcO l, false⟩ := by
    rw [hsp]
    exact hr.app (reads_M _ [[]] fun m hm => by rw [List.mem_singleton.1 hm]; rfl)
  have hli : linsF rd0 0 (linesS (bx (lnsX x y (srcWs l)))) = ((⟨srcO l, false⟩, (linesS (bx (lnsX x y (srcWs l)))).length), 0) := by
    rw [hr2.lins 0, Nat.zero_add]
  have hz : ¬ 8000 < (bx (lnsX x y (srcWs l))).size := by rw [bx_size]; omega
  have hn : ¬ 200 < (linesS (bx (lnsX x y (srcWs l)))).length := by
    rw [hsp, List.length_append]
    have := flat_len (fun ws => (joinX x ws ++ t) :: M) 3 (srcWs l) fun ws _ => by have := hy.ml; simp only [List.length_cons]; omega
    have h2 := hsa.2
    simp only [List.length_cons, List.length_nil]
    omega
  have hc : ¬ (8000 < (bx (lnsX x y (srcWs l))).size ∨ 200 < (linesS (bx (lnsX x y (srcWs l)))).length) := by rintro (h | h); exact hz h; exact hn h
  refine ⟨hl5, ?_, ?_, ?_⟩
  · unfold srcX
    rw [if_neg hc, hli]
    rfl
  · unfold srcL
    rw [if_neg hc, hli]
    rfl
  · unfold srcV
    rw [hli, if_neg (by rintro (h | h | h | h); exact hz h; exact hn h; exact h rfl; cases h)]
end Go.Proofs.YtbikdlcjbigafaaGreatDoor

namespace Go.Proofs.YtbikdlcjbigafaaGreatDoor
open Go.Shelf
def Sh.lays155_ren : Go.Shelf.Ren := ⟨fun | 155 => 16 | 154 => 47 | 138 => 84 | 165 => 85 | 143 => 86 | 166 => 87 | 197 => 88 | 169 => 89 | 195 => 130 | 218 => 131 | 240 => 132 | 241 => 133 | 219 => 134 | 260 => 135 | 276 => 166 | 277 => 167 | 217 => 151 | 225 => 168 | 224 => 169 | 267 => 170 | 266 => 179 | 314 => 189 | n => n, fun | 9 => 9 | 3 => 3 | 4 => 4 | 72 => 159 | 0 => 0 | 76 => 162 | 105 => 164 | 21 => 21 | 5 => 5 | 70 => 156 | 20 => 20 | 37 => 157 | 75 => 161 | 127 => 200 | 164 => 229 | 46 => 172 | 119 => 232 | 139 => 235 | 138 => 234 | 146 => 248 | 51 => 209 | 80 => 166 | n => n, fun | 1 => 2 | 3 => 3 | 4 => 4 | n => n⟩
theorem Sh.lays155 : Go.Proofs.Lays.n155 Tryz.prog Sh.lays155_ren := {
  mixed := by kernel_rfl
  f138 := Tryz.func84.trans (congrArg some (by kernel_rfl))
  f143 := Tryz.func86.trans (congrArg some (by kernel_rfl))
  f154 := Tryz.func47.trans (congrArg some (by kernel_rfl))
  f155 := Tryz.func16.trans (congrArg some (by kernel_rfl))
  f165 := Tryz.func85.trans (congrArg some (by kernel_rfl))
  f166 := Tryz.func87.trans (congrArg some (by kernel_rfl))
  f169 := Tryz.func89.trans (congrArg some (by kernel_rfl))
  f195 := Tryz.func130.trans (congrArg some (by kernel_rfl))
  f197 := Tryz.func88.trans (congrArg some (by kernel_rfl))
  f217 := Tryz.func151.trans (congrArg some (by kernel_rfl))
  f218 := Tryz.func131.trans (congrArg some (by kernel_rfl))
  f219 := Tryz.func134.trans (congrArg some (by kernel_rfl))
  f224 := Tryz.func169.trans (congrArg some (by kernel_rfl))
  f225 := Tryz.func168.trans (congrArg some (by kernel_rfl))
  f240 := Tryz.func132.trans (congrArg some (by kernel_rfl))
  f241 := Tryz.func133.trans (congrArg some (by kernel_rfl))
  f260 := Tryz.func135.trans (congrArg some (by kernel_rfl))
  f266 := Tryz.func179.trans (congrArg some (by kernel_rfl))
  f267 := Tryz.func170.trans (congrArg some (by kernel_rfl))
  f276 := Tryz.func166.trans (congrArg some (by kernel_rfl))
  f277 := Tryz.func167.trans (congrArg some (by kernel_rfl))
  f314 := Tryz.func189.trans (congrArg some (by kernel_rfl))
  t0 := Tryz.underlying0
  a0 := Tryz.isAgg0
  z0 := Tryz.sizeOf0
  v0 := Tryz.zeroValue0
  t3 := Tryz.underlying3
  a3 := Tryz.isAgg3
  z3 := Tryz.sizeOf3
  v3 := Tryz.zeroValue3
  t4 := Tryz.underlying4
  a4 := Tryz.isAgg4
  z4 := Tryz.sizeOf4
  v4 := Tryz.zeroValue4
  t5 := Tryz.underlying5
  a5 := Tryz.isAgg5
  z5 := Tryz.sizeOf5
  v5 := Tryz.zeroValue5
  t9 := Tryz.underlying9
  a9 := Tryz.isAgg9
  z9 := Tryz.sizeOf9
  v9 := Tryz.zeroValue9
  t20 := Tryz.underlying20
  a20 := Tryz.isAgg20
  z20 := Tryz.sizeOf20
  v20 := Tryz.zeroValue20
  t21 := Tryz.underlying21
  a21 := Tryz.isAgg21
  z21 := Tryz.sizeOf21
  v21 := Tryz.zeroValue21
  t37 := Tryz.underlying157
  a37 := Tryz.isAgg157
  z37 := Tryz.sizeOf157
  v37 := Tryz.zeroValue157
  t46 := Tryz.underlying172
  a46 := Tryz.isAgg172
  z46 := Tryz.sizeOf172
  v46 := Tryz.zeroValue172
  t51 := Tryz.underlying209
  a51 := Tryz.isAgg209
  z51 := Tryz.sizeOf209
  v51 := Tryz.zeroValue209
  t70 := Tryz.underlying156
  a70 := Tryz.isAgg156
  z70 := Tryz.sizeOf156
  v70 := Tryz.zeroValue156
  t72 := Tryz.underlying159
  a72 := Tryz.isAgg159
  z72 := Tryz.sizeOf159
  v72 := Tryz.zeroValue159
  t75 := Tryz.underlying161
  a75 := Tryz.isAgg161
  z75 := Tryz.sizeOf161
  v75 := Tryz.zeroValue161
  t76 := Tryz.underlying162
  a76 := Tryz.isAgg162
  z76 := Tryz.sizeOf162
  v76 := Tryz.zeroValue162
  t105 := Tryz.underlying164
  a105 := Tryz.isAgg164
  z105 := Tryz.sizeOf164
  v105 := Tryz.zeroValue164
  t119 := Tryz.underlying232
  a119 := Tryz.isAgg232
  z119 := Tryz.sizeOf232
  t127 := Tryz.underlying200
  a127 := Tryz.isAgg200
  z127 := Tryz.sizeOf200
  v127 := Tryz.zeroValue200
  t138 := Tryz.underlying234
  a138 := Tryz.isAgg234
  z138 := Tryz.sizeOf234
  v138 := Tryz.zeroValue234
  t139 := Tryz.underlying235
  a139 := Tryz.isAgg235
  z139 := Tryz.sizeOf235
  v139 := Tryz.zeroValue235
  t146 := Tryz.underlying248
  a146 := Tryz.isAgg248
  z146 := Tryz.sizeOf248
  v146 := Tryz.zeroValue248
  t164 := Tryz.underlying229
  a164 := Tryz.isAgg229
  z164 := Tryz.sizeOf229
  v164 := Tryz.zeroValue229
  g1 := by kernel_rfl
  g3 := by kernel_rfl
  g4 := by kernel_rfl }
theorem Sh.Builder_Extra_155 : Builder.Extra Tryz.prog Sh.lays155_ren := {
  sizeBuilder := by kernel_rfl
  liesBuilder := by kernel_rfl
  t5 := Tryz.underlying5
  a5 := Tryz.isAgg5
  z5 := Tryz.sizeOf5
  v5 := Tryz.zeroValue5
  infoByte := by kernel_rfl
  cellsByte := by kernel_rfl
  sizeByte := by kernel_rfl
  neB5 := by decide }
open Go.RowKit Go.Lib in
theorem Sh.strings_ReplaceAll (s old new : ByteArray) (m : Int) (w : World) (hs : s.size < 4294967281) (hm : w.cell? ⟨2, 0, none⟩ = some (.int .i64 m)) (h1 : 1 ≤ old.size) (hlen : s.size + Lib.countB s old * new.size ≤ 140737488355328) :
    Calls Tryz.prog 16 #[.string s, .string old, .string new] w fun e w' =>
      e = .returned (.string ⟨(Lib.replaceAll s.data.toList old.data.toList new.data.toList).toArray⟩) ∧ Below w.heap.size w w' := Any.strings_ReplaceAll Sh.lays155 Sh.Builder_Extra_155 s old new m w hs hm h1 hlen
end Go.Proofs.YtbikdlcjbigafaaGreatDoor

namespace Go.Proofs.YtbikdlcjbigafaaGreatDoor
set_option linter.unusedVariables false
set_option linter.unusedSimpArgs false
open Go.ChangeShapes Go.WideShapes Go.ChangeAt Go.RowKit Civ

theorem celX {α : Type} {w : World} {aa : Option Addr} {n ca sz : Nat} {enc : α → List Value} {xs : List α} (h : SlAt w sz (fun cs x => cs = enc x) (.slice aa n ca) xs) (k : Nat) (hk : k < xs.length) :
    ∃ b off, aa = some ⟨b, off, none⟩ ∧ b < w.heap.size ∧ ∀ j, j < sz → ∀ u, (enc xs[k])[j]? = some u → w.cell? ⟨b, off + k * sz + j, none⟩ = some u := by
  rcases h with ⟨a, cap, _, rfl⟩ | ⟨b, off, cap, e, h0, h1, h2, h3, h4⟩
  · simp at hk
  · obtain ⟨cs, hl, rfl, hc⟩ := h4 k hk
    simp only [Value.slice.injEq] at e
    obtain ⟨rfl, -, -⟩ := e
    exact ⟨b, off, rfl, h3, fun j hj u hu => (hc j hj).trans hu⟩
theorem celZ {w : World} {aa : Option Addr} {n ca : Nat} {xs : List Zon} (h : SlAt w 2 (XZon w) (.slice aa n ca) xs) (k : Nat) (hk : k < xs.length) :
    ∃ b off v, aa = some ⟨b, off, none⟩ ∧ b < w.heap.size ∧ w.cell? ⟨b, off + k * 2, none⟩ = some (.string xs[k].nm) ∧ w.cell? ⟨b, off + k * 2 + 1, none⟩ = some v ∧ SlAt w 12 XEro v xs[k].eras := by
  rcases h with ⟨a, cap, _, rfl⟩ | ⟨b, off, cap, e, h0, h1, h2, h3, h4⟩
  · simp at hk
  · obtain ⟨cs, hl, ⟨v, rfl, hv⟩, hc⟩ := h4 k hk
    simp only [Value.slice.injEq] at e
    obtain ⟨rfl, -, -⟩ := e
    exact ⟨b, off, v, rfl, h3, hc 0 (by omega), hc 1 (by omega), hv⟩
/-- two boxes of sources. -/
structure TsB (w wx : World) (vr vz vl ur uz ul : Value) : Prop where
  a : BxO wx w.heap.size #[vr, vz, vl] 28
  b : BxO wx (w.heap.size + 1) #[ur, uz, ul] 28
  w : Below w.heap.size w wx
theorem TsB.new (w : World) (vr vz vl ur uz ul : Value) : TsB w ((w.alloc (.cells #[vr, vz, vl] 28)).alloc (.cells #[ur, uz, ul] 28)) vr vz vl ur uz ul := by
  have h1 := size_alloc w (.cells #[vr, vz, vl] 28)
  refine ⟨(BxO.new w _ _).alloc _, ?_, ((Below.refl _ _).alloc (Nat.le_refl _) _).alloc (by omega) _⟩
  have h := BxO.new (w.alloc (.cells #[vr, vz, vl] 28)) #[ur, uz, ul] 28
  rw [h1] at h
  exact h
/-- two boxes of zones. -/
structure TzB (w wx : World) (v0 v1 u0 u1 : Value) : Prop where
  a : BxO wx w.heap.size #[v0, v1] 65
  b : BxO wx (w.heap.size + 1) #[u0, u1] 65
  w : Below w.heap.size w wx
theorem TsB.new2 (w : World) (v0 v1 u0 u1 : Value) : TzB w ((w.alloc (.cells #[v0, v1] 65)).alloc (.cells #[u0, u1] 65)) v0 v1 u0 u1 := by
  have h1 := size_alloc w (.cells #[v0, v1] 65)
  refine ⟨(BxO.new w _ _).alloc _, ?_, ((Below.refl _ _).alloc (Nat.le_refl _) _).alloc (by omega) _⟩
  have h := BxO.new (w.alloc (.cells #[v0, v1] 65)) #[u0, u1] 65
  rw [h1] at h
  exact h
end Go.Proofs.YtbikdlcjbigafaaGreatDoor

namespace Go.Proofs.YtbikdlcjbigafaaGreatDoor
set_option linter.unusedVariables false
set_option linter.unusedSimpArgs false
open Go.ChangeShapes Go.WideShapes Go.ChangeAt Go.RowKit Civ
set_option maxHeartbeats 2000000 in
set_option maxRecDepth 100000 in
theorem eqRul_same (v u : Value) (xs : List Rul) (w : World) (hv : SlAt w 11 XRul v xs) (hu : SlAt w 11 XRul u xs) :
    Calls Tryz.prog 17 #[v, u] w fun e w' => e = .returned (.bool true) ∧ ∃ q, w' = w.drewN q := by
  obtain ⟨av, cv, rfl, lv⟩ := hv.shape
  obtain ⟨au, cu, rfl, lu⟩ := hu.shape
  have HV := Lib.hid hv
  have HU := Lib.hid hu
  have hm := maxLen_eq _ lv
  clear hv hu lv lu
  go_enter Tryz.func17, Tryz.ntmps17
  go_wp2
  go_loopw [13] (fun i wr => ∃ k q : Nat, k ≤ xs.length ∧ i = .int .i64 k ∧ wr = w.drewN q) (fun i _ => (xs.length - intOf i).toNat)
  case atStart => exact ⟨0, 0, Nat.zero_le _, rfl, rfl⟩
  case round =>
    obtain ⟨k, q, hk, rfl, rfl⟩ := hrel
    by_cases hlt : k < xs.length
    · obtain ⟨b, off, rfl, hb, hc⟩ := celX HV.out k hlt
      obtain ⟨b2, off2, rfl, hb2, hd⟩ := celX HU.out k hlt
      generalize xs[k] = x at *
      have c0 := hc 0 (by decide) _ rfl
      have c1 := hc 1 (by decide) _ rfl
      have c2 := hc 2 (by decide) _ rfl
      have c3 := hc 3 (by decide) _ rfl
      have c4 := hc 4 (by decide) _ rfl
      have c5 := hc 5 (by decide) _ rfl
      have c6 := hc 6 (by decide) _ rfl
      have c7 := hc 7 (by decide) _ rfl
      have c8 := hc 8 (by decide) _ rfl
      have c9 := hc 9 (by decide) _ rfl
      have c10 := hc 10 (by decide) _ rfl
      rw [Nat.add_zero] at c0
      have d0 := hd 0 (by decide) _ rfl
      have d1 := hd 1 (by decide) _ rfl
      have d2 := hd 2 (by decide) _ rfl
      have d3 := hd 3 (by decide) _ rfl
      have d4 := hd 4 (by decide) _ rfl
      have d5 := hd 5 (by decide) _ rfl
      have d6 := hd 6 (by decide) _ rfl
      have d7 := hd 7 (by decide) _ rfl
      have d8 := hd 8 (by decide) _ rfl
      have d9 := hd 9 (by decide) _ rfl
      have d10 := hd 10 (by decide) _ rfl
      rw [Nat.add_zero] at d0
      clear hc hd
      have hlti : (k : Int) < (xs.length : Int) := by omega
      go_wp2
      go_quiet (fail)
      go_wp2
      go_roundw
      case rel => exact ⟨k + 1, _, by omega, by go_num, rfl⟩
      case measure => simp [intOf]; omega
    · obtain rfl : k = xs.length := by omega
      have hnl : ¬ (xs.length : Int) < (xs.length : Int) := by omega
      go_wp2
      go_ret
      exact ⟨rfl, q, rfl⟩
set_option maxHeartbeats 2000000 in
set_option maxRecDepth 100000 in
theorem eqLnk_same (v u : Value) (xs : List Lnk) (w : World) (hv : SlAt w 2 XLnk v xs) (hu : SlAt w 2 XLnk u xs) :
    Calls Tryz.prog 18 #[v, u] w fun e w' => e = .returned (.bool true) ∧ ∃ q, w' = w.drewN q := by
  obtain ⟨av, cv, rfl, lv⟩ := hv.shape
  obtain ⟨au, cu, rfl, lu⟩ := hu.shape
  have HV := Lib.hid hv
  have HU := Lib.hid hu
  have hm := maxLen_eq _ lv
  clear hv hu lv lu
  go_enter Tryz.func18, Tryz.ntmps18
  go_wp2
  go_loopw [13] (fun i wr => ∃ k q : Nat, k ≤ xs.length ∧ i = .int .i64 k ∧ wr = w.drewN q) (fun i _ => (xs.length - intOf i).toNat)
  case atStart => exact ⟨0, 0, Nat.zero_le _, rfl, rfl⟩
  case round =>
    obtain ⟨k, q, hk, rfl, rfl⟩ := hrel
    by_cases hlt : k < xs.length
    · obtain ⟨b, off, rfl, hb, hc⟩ := celX HV.out k hlt
      obtain ⟨b2, off2, rfl, hb2, hd⟩ := celX HU.out k hlt
      generalize xs[k] = x at *
      have c0 := hc 0 (by decide) _ rfl
      have c1 := hc 1 (by decide) _ rfl
      rw [Nat.add_zero] at c0
      have d0 := hd 0 (by decide) _ rfl
      have d1 := hd 1 (by decide) _ rfl
      rw [Nat.add_zero] at d0
      clear hc hd
      have hlti : (k : Int) < (xs.length : Int) := by omega
      go_wp2
      go_quiet (fail)
      go_wp2
      go_roundw
      case rel => exact ⟨k + 1, _, by omega, by go_num, rfl⟩
      case measure => simp [intOf]; omega
    · obtain rfl : k = xs.length := by omega
      have hnl : ¬ (xs.length : Int) < (xs.length : Int) := by omega
      go_wp2
      go_ret
      exact ⟨rfl, q, rfl⟩
set_option maxHeartbeats 2000000 in
set_option maxRecDepth 100000 in
theorem eqEro_same (v u : Value) (xs : List Ero) (w : World) (hv : SlAt w 12 XEro v xs) (hu : SlAt w 12 XEro u xs) :
    Calls Tryz.prog 21 #[v, u] w fun e w' => e = .returned (.bool true) ∧ ∃ q, w' = w.drewN q := by
  obtain ⟨av, cv, rfl, lv⟩ := hv.shape
  obtain ⟨au, cu, rfl, lu⟩ := hu.shape
  have HV := Lib.hid hv
  have HU := Lib.hid hu
  have hm := maxLen_eq _ lv
  clear hv hu lv lu
  go_enter Tryz.func21, Tryz.ntmps21
  go_wp2
  go_loopw [13] (fun i wr => ∃ k q : Nat, k ≤ xs.length ∧ i = .int .i64 k ∧ wr = w.drewN q) (fun i _ => (xs.length - intOf i).toNat)
  case atStart => exact ⟨0, 0, Nat.zero_le _, rfl, rfl⟩
  case round =>
    obtain ⟨k, q, hk, rfl, rfl⟩ := hrel
    by_cases hlt : k < xs.length
    · obtain ⟨b, off, rfl, hb, hc⟩ := celX HV.out k hlt
      obtain ⟨b2, off2, rfl, hb2, hd⟩ := celX HU.out k hlt
      generalize xs[k] = x at *
      have c0 := hc 0 (by decide) _ rfl
      have c1 := hc 1 (by decide) _ rfl
      have c2 := hc 2 (by decide) _ rfl
      have c3 := hc 3 (by decide) _ rfl
      have c4 := hc 4 (by decide) _ rfl
      have c5 := hc 5 (by decide) _ rfl
      have c6 := hc 6 (by decide) _ rfl
      have c7 := hc 7 (by decide) _ rfl
      have c8 := hc 8 (by decide) _ rfl
      have c9 := hc 9 (by decide) _ rfl
      have c10 := hc 10 (by decide) _ rfl
      have c11 := hc 11 (by decide) _ rfl
      rw [Nat.add_zero] at c0
      have d0 := hd 0 (by decide) _ rfl
      have d1 := hd 1 (by decide) _ rfl
      have d2 := hd 2 (by decide) _ rfl
      have d3 := hd 3 (by decide) _ rfl
      have d4 := hd 4 (by decide) _ rfl
      have d5 := hd 5 (by decide) _ rfl
      have d6 := hd 6 (by decide) _ rfl
      have d7 := hd 7 (by decide) _ rfl
      have d8 := hd 8 (by decide) _ rfl
      have d9 := hd 9 (by decide) _ rfl
      have d10 := hd 10 (by decide) _ rfl
      have d11 := hd 11 (by decide) _ rfl
      rw [Nat.add_zero] at d0
      clear hc hd
      have hlti : (k : Int) < (xs.length : Int) := by omega
      go_wp2
      go_quiet (fail)
      go_wp2
      go_roundw
      case rel => exact ⟨k + 1, _, by omega, by go_num, rfl⟩
      case measure => simp [intOf]; omega
    · obtain rfl : k = xs.length := by omega
      have hnl : ¬ (xs.length : Int) < (xs.length : Int) := by omega
      go_wp2
      go_ret
      exact ⟨rfl, q, rfl⟩
end Go.Proofs.YtbikdlcjbigafaaGreatDoor
