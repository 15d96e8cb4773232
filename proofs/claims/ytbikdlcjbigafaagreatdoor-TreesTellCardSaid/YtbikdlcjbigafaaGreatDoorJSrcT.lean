/-
  What the functions on answers and forests answer: answers. What the functions on forests answer: the check. What the document's function on forests answers: the check; and the law. What the functions on letters and names answer. What the functions on names answer. What plain and signs answer (the parts of a format). Formats of eras, plain: where a slash, or a mark, first stands.
-/
import Derived.Shelf.Abstract
import Derived.Lib.ConvBytes
import Derived.Lib.SmallJoins
import Derived.Lib.Bytealg
import Derived.Laws.Closers25b
import Derived.Lib.IndexMore
import Derived.Test.YtbikdlcjbigafaaGreatDoorJBase
namespace Go.Proofs.YtbikdlcjbigafaaGreatDoor
set_option linter.unusedVariables false
set_option linter.unusedSimpArgs false
open Go.ChangeShapes Go.WideShapes Go.ChangeAt Go.RowKit

def oddB (n : Int) : Bool := decide (n < -172800) || decide (172800 < n)
theorem odd_any (n : Int) (w : World) :
    Calls Tryz.prog 146 #[.int .i64 n] w fun e w' => e = .returned (.bool (oddB n)) ∧ w = w' := by
  unfold oddB
  go_enter Tryz.func146, Tryz.ntmps146
  go_wp2
  all_goals (go_ret; exact ⟨ret_bool (by go_light; first | (simp [*]; done) | (simp [*]; omega)), rfl⟩)
/-- where the first one is; -1: none. -/
def fidx {α : Type} (p : α → Bool) : List α → Int
  | [] => -1
  | x :: xs => if p x then 0 else if fidx p xs < 0 then -1 else fidx p xs + 1
theorem fidx_lo {α : Type} (p : α → Bool) : ∀ xs : List α, -1 ≤ fidx p xs ∧ fidx p xs < xs.length
  | [] => by simp [fidx]
  | x :: xs => by
    have := fidx_lo p xs
    unfold fidx; split
    · simp
    · split <;> simp <;> omega
/-- the first at which it holds: at k, none ahead of it. -/
theorem fidx_at {α : Type} (p : α → Bool) : ∀ (xs : List α) (k : Nat) (h : k < xs.length), (∀ i (hi : i < k), p (xs[i]'(by omega)) = false) → p xs[k] = true → fidx p xs = k
  | x :: xs, 0, _, _, hp => by unfold fidx; simp at hp; simp [hp]
  | x :: xs, k + 1, h, hn, hp => by
    have h0 := hn 0 (by omega)
    simp at h0
    have ih := fidx_at p xs k (by simpa using h) (fun i hi => by have := hn (i + 1) (by omega); simpa using this) (by simpa using hp)
    unfold fidx; simp [h0]; omega
theorem fidx_none {α : Type} (p : α → Bool) : ∀ (xs : List α), (∀ i (hi : i < xs.length), p xs[i] = false) → fidx p xs = -1
  | [], _ => rfl
  | x :: xs, hn => by
    have h0 := hn 0 (by simp)
    simp at h0
    have ih := fidx_none p xs (fun i hi => by have := hn (i + 1) (by simpa using hi); simpa using this)
    unfold fidx; simp [h0, ih]
theorem fidx_any {α : Type} (p : α → Bool) : ∀ (xs : List α), decide (0 ≤ fidx p xs) = xs.any p
  | [] => rfl
  | x :: xs => by
    have ih := fidx_any p xs
    have hb := fidx_lo p xs
    unfold fidx
    cases h : p x
    · simp [h]
      rw [← ih]
      split <;> simp <;> omega
    · simp [h]
/-- the cell of element i. -/
theorem intCell {w : World} {b off : Nat} {xs : List Int} (h4 : ∀ (i : Nat) (h : i < xs.length), ∃ cs : List Value, cs.length = 1 ∧ RInt cs xs[i] ∧ ∀ j, j < 1 → w.cell? ⟨b, off + i * 1 + j, none⟩ = cs[j]?) (i : Nat) (h : i < xs.length) :
    w.cell? ⟨b, off + i, none⟩ = some (.int .i64 xs[i]) ∧ I64 xs[i] := by
  obtain ⟨cs, _, ⟨rfl, hw⟩, hc⟩ := h4 i h
  have := hc 0 (by omega)
  rw [Nat.mul_one, Nat.add_zero] at this
  exact ⟨this, hw⟩
set_option maxHeartbeats 400000 in
set_option maxRecDepth 100000 in
theorem idxInt_any (p : Int → Bool) (F : Nat) (v : Value) (xs : List Int) (w : World) (hv : SlAt w 1 RInt v xs) (eg : ∀ args w, (callFunc F args).run Tryz.prog w = .ok (.enter F args) w) (hF : ∀ (x : Int) (w : World), Calls Tryz.prog F #[.int .i64 x] w fun e w' => e = .returned (.bool (p x)) ∧ w = w') :
    Calls Tryz.prog 176 #[v, .func (.func F) #[] #[]] w fun e w' => e = .returned (.int .i64 (fidx p xs)) ∧ w = w' := by
  have HF := Lib.hid hF
  clear hF
  rcases hv with ⟨a, cap, rfl, rfl⟩ | ⟨b, off, cap, rfl, h0, h1, h2, h3, h4⟩
  · go_enter Tryz.func176, Tryz.ntmps176
    go_wp2
    refine wp_loop_rounds 1 ?_
    rw [rounds_succ]
    go_wp2
    go_ret
    exact ⟨rfl, rfl⟩
  · have H4 := Lib.hid (intCell h4)
    have h5 : xs.length ≤ 9223372036854775807 := by unfold maxLen at h2; omega
    clear h4 h2
    go_enter Tryz.func176, Tryz.ntmps176
    go_wp2
    go_loop [8] (fun t => ∃ k : Nat, k ≤ xs.length ∧ t = .int .i64 k ∧ Hid (∀ i (hi : i < xs.length), i < k → p xs[i] = false)) (fun t => (xs.length - intOf t).toNat)
    case atStart => exact ⟨0, by omega, rfl, fun i _ h => by omega⟩
    case round =>
      obtain ⟨k, hk, rfl, hn⟩ := hrel
      by_cases hlt : k < xs.length
      · have hc := (H4.out k hlt).1
        by_cases hp : p xs[k] = true
        · have hfin := Lib.hid (fidx_at p xs k hlt (fun i hi => hn.out i (by omega) hi) hp)
          generalize xs[k] = x at hc hp
          go_wp2_with fail
          refine (HF.out _ _).mono ?_; rintro e w' ⟨rfl, rfl⟩
          go_wp2
          go_ret
          exact ⟨ret_int hfin.out.symm, rfl⟩
        · have hp' : p xs[k] = false := by simpa using hp
          clear hp
          have hn' : Hid (∀ i (hi : i < xs.length), i < k + 1 → p xs[i] = false) := fun i hi h => by
            by_cases e : i = k
            · subst e; exact hp'
            · exact hn.out i hi (by omega)
          generalize xs[k] = x at hc hp'
          go_wp2_with fail
          refine (HF.out _ _).mono ?_; rintro e w' ⟨rfl, rfl⟩
          go_wp2
          go_round
          case rel => exact ⟨k + 1, by omega, by go_num, hn'⟩
          case measure => simp [intOf]; omega
      · have hfin := Lib.hid (fidx_none p xs (fun i hi => hn.out i hi (by omega)))
        go_wp2
        go_ret
        exact ⟨ret_int hfin.out.symm, rfl⟩
theorem contInt_any (p : Int → Bool) (F : Nat) (v : Value) (xs : List Int) (w : World) (hv : SlAt w 1 RInt v xs) (eg : ∀ args w, (callFunc F args).run Tryz.prog w = .ok (.enter F args) w) (hF : ∀ (x : Int) (w : World), Calls Tryz.prog F #[.int .i64 x] w fun e w' => e = .returned (.bool (p x)) ∧ w = w') :
    Calls Tryz.prog 147 #[v, .func (.func F) #[] #[]] w fun e w' => e = .returned (.bool (xs.any p)) ∧ w = w' := by
  have HI := Lib.hid (idxInt_any p F v xs w hv eg hF)
  have HA := Lib.hid (fidx_any p xs)
  clear hF eg hv
  go_enter Tryz.func147, Tryz.ntmps147
  go_wp2_with fail
  refine HI.out.mono ?_; rintro e w' ⟨rfl, rfl⟩
  go_wp2
  go_ret
  exact ⟨ret_bool HA.out, rfl⟩
def ansBad (a : Ans) : Bool := oddB a.ck.off || a.offs.any oddB || decide (a.jump < -1099511627776) || decide (1099511627776 < a.jump)
def ansBig (a : Ans) : Bool := decide (6 < (a.offs.length : Int)) || decide (24 < (a.ck.nm.size : Int))
/-- what is wrong with an answer. -/
def ansE (a : Ans) : Int := if ansBad a = true then 2 else if ansBig a = true then 1 else 0
theorem SlAt.shape {α : Type} {w : World} {sz : Nat} {R : List Value → α → Prop} {v : Value} {xs : List α} (h : SlAt w sz R v xs) : ∃ a cap, v = .slice a xs.length cap ∧ xs.length ≤ maxLen := by
  rcases h with ⟨a, cap, rfl, rfl⟩ | ⟨b, off, cap, rfl, h0, h1, h2, h3, h4⟩
  · exact ⟨a, cap, rfl, by simp⟩
  · exact ⟨_, cap, rfl, by omega⟩
theorem maxLen_eq (n : Nat) (h : n ≤ maxLen) : n ≤ 9223372036854775807 := by unfold maxLen at h; omega
theorem odd_lit (n : Int) (r : Bool) (w : World) (h : oddB n = r) :
    Calls Tryz.prog 146 #[.int .i64 n] w fun e w' => e = .returned (.bool r) ∧ w = w' := h ▸ odd_any n w
theorem contOdd_lit (v : Value) (xs : List Int) (r : Bool) (w : World) (hv : SlAt w 1 RInt v xs) (h : xs.any oddB = r) :
    Calls Tryz.prog 147 #[v, .func (.func 146) #[] #[]] w fun e w' => e = .returned (.bool r) ∧ w = w' :=
  h ▸ contInt_any oddB _ v xs w hv (enters_of Tryz.func146 (by kernel_rfl) rfl) odd_any
theorem ansE_2 {off jump : Int} {sav : Bool} {nm : ByteArray} {offs : List Int} (h : oddB off = true ∨ offs.any oddB = true ∨ jump < -1099511627776 ∨ 1099511627776 < jump) : ansE ⟨⟨off, sav, nm⟩, offs, jump⟩ = 2 := by
  unfold ansE; rw [if_pos]; unfold ansBad; rcases h with h | h | h | h <;> simp only [h, decide_true, Bool.or_true, Bool.true_or]
theorem ansE_1 {off jump : Int} {sav : Bool} {nm : ByteArray} {offs : List Int} (h1 : oddB off = false) (h2 : offs.any oddB = false) (h3 : -1099511627776 ≤ jump) (h4 : jump ≤ 1099511627776) (h5 : 6 < (offs.length : Int) ∨ 24 < (nm.size : Int)) : ansE ⟨⟨off, sav, nm⟩, offs, jump⟩ = 1 := by
  unfold ansE ansBad ansBig; rw [if_neg, if_pos]
  · simp only [Bool.or_eq_true, decide_eq_true_eq]; omega
  · simp only [h1, h2, Bool.or_eq_true, decide_eq_true_eq]; simp; omega
theorem ansE_0 {off jump : Int} {sav : Bool} {nm : ByteArray} {offs : List Int} (h1 : oddB off = false) (h2 : offs.any oddB = false) (h3 : -1099511627776 ≤ jump) (h4 : jump ≤ 1099511627776) (h5 : (offs.length : Int) ≤ 6) (h6 : (nm.size : Int) ≤ 24) : ansE ⟨⟨off, sav, nm⟩, offs, jump⟩ = 0 := by
  unfold ansE ansBad ansBig; rw [if_neg, if_neg]
  · simp only [Bool.or_eq_true, decide_eq_true_eq]; omega
  · simp only [h1, h2, Bool.or_eq_true, decide_eq_true_eq]; simp; omega
set_option maxRecDepth 100000 in
theorem checkanswer_any (a : Ans) (vo : Value) (w : World) (hv : SlAt w 1 RInt vo a.offs) (hn : a.ck.nm.size ≤ maxLen) :
    Calls Tryz.prog 94 #[.agg #[.int .i64 a.ck.off, .bool a.ck.sav, .string a.ck.nm, vo, .int .i64 a.jump]] w fun e w' => e = .returned (.int .i64 (ansE a)) ∧ Below w.heap.size w w' := by
  obtain ⟨ck, offs, jump⟩ := a
  obtain ⟨off, sav, nm⟩ := ck
  obtain ⟨ao, cap, rfl, hl⟩ := hv.shape
  have hl' := maxLen_eq _ hl
  have hn' := maxLen_eq _ hn
  have HV := Lib.hid hv
  clear hv hl hn
  dsimp only at hl' hn' HV ⊢
  cases ho : oddB off
  · have HO := Lib.hid ho
    clear ho
    cases ha : offs.any oddB
    · have HA := Lib.hid ha
      clear ha
      go_enter Tryz.func94, Tryz.ntmps94
      go_wp2_with (first | (go_at_call 146; refine (odd_lit _ false _ HO.out).mono ?_; rintro e w' ⟨rfl, rfl⟩) | (go_at_call 147; refine (contOdd_lit _ offs false _ (HV.out.mono ((Below.refl _ _).alloc (Nat.le_refl _) _) fun _ _ h => h) HA.out).mono ?_; rintro e w' ⟨rfl, rfl⟩))
      all_goals
        go_ret
        refine ⟨ret_int ?_, (Below.refl _ _).alloc (Nat.le_refl _) _⟩
        go_light
        first | (refine (ansE_2 ?_).symm; omega) | (refine (ansE_1 HO.out HA.out ?_ ?_ ?_).symm <;> omega) | (refine (ansE_0 HO.out HA.out ?_ ?_ ?_ ?_).symm <;> omega)
    · have HA := Lib.hid ha
      clear ha
      go_enter Tryz.func94, Tryz.ntmps94
      go_wp2_with (first | (go_at_call 146; refine (odd_lit _ false _ HO.out).mono ?_; rintro e w' ⟨rfl, rfl⟩) | (go_at_call 147; refine (contOdd_lit _ offs true _ (HV.out.mono ((Below.refl _ _).alloc (Nat.le_refl _) _) fun _ _ h => h) HA.out).mono ?_; rintro e w' ⟨rfl, rfl⟩))
      go_ret
      exact ⟨ret_int (ansE_2 (.inr (.inl HA.out))).symm, (Below.refl _ _).alloc (Nat.le_refl _) _⟩
  · have HO := Lib.hid ho
    clear ho
    go_enter Tryz.func94, Tryz.ntmps94
    go_wp2_with (go_at_call 146; refine (odd_lit _ true _ HO.out).mono ?_; rintro e w' ⟨rfl, rfl⟩)
    go_ret
    exact ⟨ret_int (ansE_2 (.inl HO.out)).symm, (Below.refl _ _).alloc (Nat.le_refl _) _⟩
end Go.Proofs.YtbikdlcjbigafaaGreatDoor
namespace Go.Proofs.YtbikdlcjbigafaaGreatDoor
set_option linter.unusedVariables false
set_option linter.unusedSimpArgs false
open Go.ChangeShapes Go.WideShapes Go.ChangeAt Go.RowKit

/-- the first number that is not 0. -/
def ferr {α : Type} (f : Nat → α → Int) : Nat → List α → Int
  | _, [] => 0
  | i, x :: xs => if f i x ≠ 0 then f i x else ferr f (i + 1) xs
theorem ferr_at {α : Type} (f : Nat → α → Int) : ∀ (xs : List α) (s k : Nat) (h : k < xs.length), (∀ i (hi : i < k), f (s + i) (xs[i]'(by omega)) = 0) → f (s + k) xs[k] ≠ 0 → ferr f s xs = f (s + k) xs[k]
  | x :: xs, s, 0, _, _, hp => by unfold ferr; simp at hp ⊢; simp [hp]
  | x :: xs, s, k + 1, h, hn, hp => by
    have h0 := hn 0 (by omega)
    simp at h0
    have ih := ferr_at f xs (s + 1) k (by simpa using h) (fun i hi => by have := hn (i + 1) (by omega); simpa [Nat.add_assoc, Nat.add_comm 1 i] using this) (by simpa [Nat.add_assoc, Nat.add_comm 1 k] using hp)
    unfold ferr; simp [h0]
    rw [ih]; simp [Nat.add_assoc, Nat.add_comm 1 k]
theorem ferr_none {α : Type} (f : Nat → α → Int) : ∀ (xs : List α) (s : Nat), (∀ i (hi : i < xs.length), f (s + i) xs[i] = 0) → ferr f s xs = 0
  | [], _, _ => rfl
  | x :: xs, s, hn => by
    have h0 := hn 0 (by simp)
    simp at h0
    have ih := ferr_none f xs (s + 1) (fun i hi => by have := hn (i + 1) (by simpa using hi); simpa [Nat.add_assoc, Nat.add_comm 1 i] using this)
    unfold ferr; simp [h0, ih]
/-- what is wrong with a node. -/
def nodE (m i : Int) (n : Nod) : Int :=
  if n.lf = true then (if n.an < 0 ∨ m ≤ n.an then 2 else if n.bd ≠ 0 ∨ n.ls ≠ 0 ∨ n.mr ≠ 0 then 4 else 0)
  else (if n.an ≠ 0 then 4 else if n.ls < 0 ∨ i ≤ n.ls ∨ n.mr < 0 ∨ i ≤ n.mr then 8 else 0)
def anssE (l : List Ans) : Int := ferr (fun _ a => ansE a) 0 l
def nodsE (m : Int) (l : List Nod) : Int := ferr (fun i n => nodE m i n) 0 l
/-- what is wrong with a forest. -/
def frsE (f : Frs) : Int :=
  if f.nodes.length = 0 then 6 else if 8000 < f.nodes.length ∨ 2000 < f.answers.length then 1
  else if anssE f.answers ≠ 0 then anssE f.answers else nodsE f.answers.length f.nodes
theorem elemAns {w : World} {aa : Option Addr} {n ca : Nat} {xs : List Ans} (h : SlAt w 5 (RAns w) (.slice aa n ca) xs) (k : Nat) (hk : k < xs.length) :
    ∃ b off vo, aa = some ⟨b, off, none⟩ ∧ b < w.heap.size ∧
      (w.cell? ⟨b, off + k * 5, none⟩ = some (.int .i64 xs[k].ck.off) ∧ w.cell? ⟨b, off + k * 5 + 1, none⟩ = some (.bool xs[k].ck.sav) ∧ w.cell? ⟨b, off + k * 5 + 2, none⟩ = some (.string xs[k].ck.nm) ∧ w.cell? ⟨b, off + k * 5 + 3, none⟩ = some vo ∧ w.cell? ⟨b, off + k * 5 + 4, none⟩ = some (.int .i64 xs[k].jump)) ∧
      SlAt w 1 RInt vo xs[k].offs ∧ xs[k].ck.nm.size ≤ maxLen ∧ I64 xs[k].ck.off ∧ I64 xs[k].jump := by
  rcases h with ⟨a, cap, hv, rfl⟩ | ⟨b, off, cap, hv, h0, h1, h2, h3, h4⟩
  · simp at hk
  · obtain ⟨cs, _, ⟨vo, rfl, r1, r2, r3, r4⟩, c3⟩ := h4 k hk
    simp only [Value.slice.injEq] at hv
    exact ⟨b, off, vo, hv.1, h3, ⟨c3 0 (by omega), c3 1 (by omega), c3 2 (by omega), c3 3 (by omega), c3 4 (by omega)⟩, r1, r4, r2, r3⟩
theorem elemNod {w : World} {aa : Option Addr} {n ca : Nat} {xs : List Nod} (h : SlAt w 5 RNod (.slice aa n ca) xs) (k : Nat) (hk : k < xs.length) :
    ∃ b off, aa = some ⟨b, off, none⟩ ∧ b < w.heap.size ∧
      (w.cell? ⟨b, off + k * 5, none⟩ = some (.bool xs[k].lf) ∧ w.cell? ⟨b, off + k * 5 + 1, none⟩ = some (.int .i64 xs[k].an) ∧ w.cell? ⟨b, off + k * 5 + 2, none⟩ = some (.int .i64 xs[k].bd) ∧ w.cell? ⟨b, off + k * 5 + 3, none⟩ = some (.int .i64 xs[k].ls) ∧ w.cell? ⟨b, off + k * 5 + 4, none⟩ = some (.int .i64 xs[k].mr)) := by
  rcases h with ⟨a, cap, hv, rfl⟩ | ⟨b, off, cap, hv, h0, h1, h2, h3, h4⟩
  · simp at hk
  · obtain ⟨cs, _, ⟨rfl, _⟩, c3⟩ := h4 k hk
    simp only [Value.slice.injEq] at hv
    exact ⟨b, off, hv.1, h3, ⟨c3 0 (by omega), c3 1 (by omega), c3 2 (by omega), c3 3 (by omega), c3 4 (by omega)⟩⟩
theorem checkanswer_lit (a : Ans) (vo : Value) (r : Int) (w : World) (hv : SlAt w 1 RInt vo a.offs) (hn : a.ck.nm.size ≤ maxLen) (h : ansE a = r) :
    Calls Tryz.prog 94 #[.agg #[.int .i64 a.ck.off, .bool a.ck.sav, .string a.ck.nm, vo, .int .i64 a.jump]] w fun e w' => e = .returned (.int .i64 r) ∧ Below w.heap.size w w' := h ▸ checkanswer_any a vo w hv hn
theorem nodE_cases (m i : Int) (n : Nod) :
    (n.lf = true ∧ n.an < 0 ∧ nodE m i n = 2) ∨ (n.lf = true ∧ 0 ≤ n.an ∧ m ≤ n.an ∧ nodE m i n = 2) ∨
    (n.lf = true ∧ 0 ≤ n.an ∧ n.an < m ∧ n.bd ≠ 0 ∧ nodE m i n = 4) ∨ (n.lf = true ∧ 0 ≤ n.an ∧ n.an < m ∧ n.bd = 0 ∧ n.ls ≠ 0 ∧ nodE m i n = 4) ∨ (n.lf = true ∧ 0 ≤ n.an ∧ n.an < m ∧ n.bd = 0 ∧ n.ls = 0 ∧ n.mr ≠ 0 ∧ nodE m i n = 4) ∨
    (n.lf = true ∧ 0 ≤ n.an ∧ n.an < m ∧ n.bd = 0 ∧ n.ls = 0 ∧ n.mr = 0 ∧ nodE m i n = 0) ∨
    (n.lf = false ∧ n.an ≠ 0 ∧ nodE m i n = 4) ∨
    (n.lf = false ∧ n.an = 0 ∧ n.ls < 0 ∧ nodE m i n = 8) ∨ (n.lf = false ∧ n.an = 0 ∧ 0 ≤ n.ls ∧ i ≤ n.ls ∧ nodE m i n = 8) ∨
    (n.lf = false ∧ n.an = 0 ∧ 0 ≤ n.ls ∧ n.ls < i ∧ n.mr < 0 ∧ nodE m i n = 8) ∨ (n.lf = false ∧ n.an = 0 ∧ 0 ≤ n.ls ∧ n.ls < i ∧ 0 ≤ n.mr ∧ i ≤ n.mr ∧ nodE m i n = 8) ∨
    (n.lf = false ∧ n.an = 0 ∧ 0 ≤ n.ls ∧ n.ls < i ∧ 0 ≤ n.mr ∧ n.mr < i ∧ nodE m i n = 0) := by
  unfold nodE
  cases h : n.lf
  · simp only [Bool.false_eq_true, if_false, false_and, true_and, false_or]
    by_cases a1 : n.an = 0
    · rw [if_neg (by omega)]
      by_cases a2 : n.ls < 0 ∨ i ≤ n.ls ∨ n.mr < 0 ∨ i ≤ n.mr
      · rw [if_pos a2]; omega
      · rw [if_neg a2]; omega
    · rw [if_pos (by omega)]; omega
  · simp only [if_true, true_and]
    by_cases a1 : n.an < 0 ∨ m ≤ n.an
    · rw [if_pos a1]; omega
    · rw [if_neg a1]
      by_cases a2 : n.bd ≠ 0 ∨ n.ls ≠ 0 ∨ n.mr ≠ 0
      · rw [if_pos a2]; omega
      · rw [if_neg a2]; omega
set_option maxRecDepth 100000 in
set_option maxHeartbeats 4000000 in
theorem check_any (f : Frs) (vn va : Value) (w : World) (hf : FrsAt w vn va f) :
    Calls Tryz.prog 55 #[.agg #[vn, va]] w fun e w' => e = .returned (.int .i64 (frsE f)) ∧ Below w.heap.size w w' := by
  obtain ⟨nodes, answers⟩ := f
  obtain ⟨hn, ha⟩ := hf
  dsimp only at hn ha
  obtain ⟨an, cn, rfl, ln⟩ := hn.shape
  obtain ⟨aa, ca, rfl, la⟩ := ha.shape
  have ln' := maxLen_eq _ ln
  have la' := maxLen_eq _ la
  have HN := Lib.hid hn
  have HA := Lib.hid ha
  clear hn ha ln la
  by_cases h0 : nodes.length = 0
  · have hb : ((nodes.length : Int) == 0) = true := by simpa using h0
    have HE : Hid (frsE ⟨nodes, answers⟩ = 6) := by show frsE _ = 6; unfold frsE; rw [if_pos h0]
    clear h0
    go_enter Tryz.func55, Tryz.ntmps55
    go_wp2
    go_ret
    exact ⟨ret_int HE.out.symm, (Below.refl _ _).alloc (Nat.le_refl _) _⟩
  · have hb : ((nodes.length : Int) == 0) = false := by rw [beq_eq_false_iff_ne]; omega
    by_cases h1 : 8000 < nodes.length ∨ 2000 < answers.length
    · have HE : Hid (frsE ⟨nodes, answers⟩ = 1) := by show frsE _ = 1; unfold frsE; rw [if_neg h0, if_pos h1]
      have hx : 8000 < (nodes.length : Int) ∨ ((nodes.length : Int) ≤ 8000 ∧ 2000 < (answers.length : Int)) := by omega
      clear h0 h1
      rcases hx with hx | ⟨hx, hy⟩
      all_goals
        go_enter Tryz.func55, Tryz.ntmps55
        go_wp2
        go_ret
        exact ⟨ret_int HE.out.symm, (Below.refl _ _).alloc (Nat.le_refl _) _⟩
    · have hx : (nodes.length : Int) ≤ 8000 := by omega
      have hy : (answers.length : Int) ≤ 2000 := by omega
      have H0 := Lib.hid h0
      have H1 := Lib.hid h1
      clear h0 h1
      go_enter Tryz.func55, Tryz.ntmps55
      go_wp2
      have b0 : (w.alloc (.cells #[.slice an nodes.length cn, .slice aa answers.length ca] 74)).cell? ⟨w.heap.size, 0, none⟩ = some (.slice an nodes.length cn) := (World.cell?_alloc_at (w := w) _ _ w.heap.size 0 rfl).trans rfl
      have b1 : (w.alloc (.cells #[.slice an nodes.length cn, .slice aa answers.length ca] 74)).cell? ⟨w.heap.size, 1, none⟩ = some (.slice aa answers.length ca) := (World.cell?_alloc_at (w := w) _ _ w.heap.size 1 rfl).trans rfl
      have bz : w.heap.size < (w.alloc (.cells #[.slice an nodes.length cn, .slice aa answers.length ca] 74)).heap.size := by simp
      have bw : Below w.heap.size w (w.alloc (.cells #[.slice an nodes.length cn, .slice aa answers.length ca] 74)) := (Below.refl _ _).alloc (Nat.le_refl _) _
      generalize w.alloc (.cells #[.slice an nodes.length cn, .slice aa answers.length ca] 74) = W1 at *
      have HN1 := Lib.hid (HN.out.mono bw fun _ _ h => h)
      have HA1 := Lib.hid (HA.out.mono bw (RAns.mono bw))
      clear HN HA
      go_loopw [25] (fun t wr => ∃ k : Nat, k ≤ answers.length ∧ t = .int .i64 k ∧ Hid (∀ i (hi : i < answers.length), i < k → ansE answers[i] = 0) ∧ Below W1.heap.size W1 wr) (fun t _ => (answers.length - intOf t).toNat)
      case atStart => exact ⟨0, by omega, rfl, fun i _ h => by omega, Below.refl _ _⟩
      case round =>
        obtain ⟨k, hk, rfl, hz, hbr⟩ := hrel
        obtain ⟨hc, hf⟩ := bcell hbr
        by_cases hlt : k < answers.length
        · obtain ⟨b, off, vo, rfl, hbb, ⟨c0, c1, c2, c3, c4⟩, hvo, hnm, _, _⟩ := elemAns HA1.out k hlt
          obtain ⟨ao, co, rfl, lo⟩ := hvo.shape
          by_cases he : ansE answers[k] = 0
          · have hz' : Hid (∀ i (hi : i < answers.length), i < k + 1 → ansE answers[i] = 0) := fun i hi h => by
              by_cases e : i = k
              · subst e; exact he
              · exact hz.out i hi (by omega)
            have HV := Lib.hid (hvo.mono hbr fun _ _ h => h)
            have HM := Lib.hid hnm
            have HE := Lib.hid he
            clear he hvo hnm hz lo
            generalize answers[k] = x at *
            go_wp2_with fail
            refine (checkanswer_lit x _ 0 _ (HV.out.mono ((Below.refl _ _).alloc (Nat.le_refl _) _) fun _ _ h => h) HM.out HE.out).mono ?_; rintro e w2 ⟨rfl, hb2⟩
            go_wp2
            go_roundw
            case rel => exact ⟨k + 1, by omega, by go_num, hz', hbr.trans ((below_in hb2).mono hbr.size)⟩
            case measure => simp [intOf]; omega
          · have hb : (ansE answers[k] != 0) = true := by rw [bne_iff_ne]; exact he
            have HX : Hid (frsE ⟨nodes, answers⟩ = ansE answers[k]) := by
              have h2 : anssE answers = ansE answers[k] := by
                have := ferr_at (fun _ a => ansE a) answers 0 k hlt (fun i hi => hz.out i (by omega) hi) he
                exact this
              show frsE _ = _
              unfold frsE
              rw [if_neg H0.out, if_neg H1.out, if_pos (by rw [h2]; exact he), h2]
            have HV := Lib.hid (hvo.mono hbr fun _ _ h => h)
            have HM := Lib.hid hnm
            clear he hvo hnm hz lo
            generalize answers[k] = x at *
            go_wp2_with fail
            refine (checkanswer_any x _ _ (HV.out.mono ((Below.refl _ _).alloc (Nat.le_refl _) _) fun _ _ h => h) HM.out).mono ?_; rintro e w2 ⟨rfl, hb2⟩
            go_wp2
            go_ret
            exact ⟨ret_int HX.out.symm, bw.trans ((hbr.trans ((below_in hb2).mono hbr.size)).mono bw.size)⟩
        · have HS : Hid (anssE answers = 0) := by
            have := ferr_none (fun _ a => ansE a) answers 0 (fun i hi => hz.out i hi (by omega))
            exact this
          clear hz
          go_wp2_with fail
          have HN2 := Lib.hid (HN1.out.mono hbr fun _ _ h => h)
          clear HA1 HN1
          have hbr0 := bw.trans (hbr.mono bw.size)
          have e0 : wr.cell? ⟨w.heap.size, 0, none⟩ = some (.slice an nodes.length cn) := (hc _ _ bz).trans b0
          have e1 : wr.cell? ⟨w.heap.size, 1, none⟩ = some (.slice aa answers.length ca) := (hc _ _ bz).trans b1
          have ez : w.heap.size < wr.heap.size := Nat.lt_of_lt_of_le bz hbr.size
          clear hc hf b0 b1 bz bw hbr hk hlt
          go_wp2
          go_loopw [38] (fun t wq => ∃ k : Nat, k ≤ nodes.length ∧ t = .int .i64 k ∧ Hid (∀ i (hi : i < nodes.length), i < k → nodE answers.length (i : Nat) nodes[i] = 0) ∧ Below wr.heap.size wr wq) (fun t _ => (nodes.length - intOf t).toNat)
          case atStart => exact ⟨0, by omega, rfl, fun i _ h => by omega, Below.refl _ _⟩
          case round =>
            obtain ⟨k, hk, rfl, hz, hbq⟩ := hrel
            obtain ⟨hc, hf⟩ := bcell hbq
            have ezq := Nat.lt_of_lt_of_le ez hbq.size
            by_cases hlt : k < nodes.length
            · obtain ⟨b, off, rfl, hbb, c0, c1, c2, c3, c4⟩ := elemNod HN2.out k hlt
              have hbad : ∀ r : Int, r ≠ 0 → nodE answers.length (k : Nat) nodes[k] = r → frsE ⟨nodes, answers⟩ = r := fun r hr h => by
                have h2 : nodsE answers.length nodes = r := by
                  have := ferr_at (fun i n => nodE answers.length i n) nodes 0 k hlt (fun i hi => by simpa using hz.out i (by omega) hi) (by simpa [h] using hr)
                  simp only [Nat.zero_add] at this
                  exact this.trans h
                unfold frsE
                rw [if_neg H0.out, if_neg H1.out, if_neg (by rw [HS.out]; simp), h2]
              have hgood : nodE answers.length (k : Nat) nodes[k] = 0 → Hid (∀ i (hi : i < nodes.length), i < k + 1 → nodE answers.length (i : Nat) nodes[i] = 0) := fun h i hi h' => by
                by_cases e : i = k
                · subst e; exact h
                · exact hz.out i hi (by omega)
              have HB := Lib.hid hbad
              have HG := Lib.hid hgood
              have hcase := nodE_cases answers.length (k : Nat) nodes[k]
              clear hbad hgood hz
              generalize nodes[k] = nd at *
              obtain ⟨lf, nan, nbd, nls, nmr⟩ := nd
              dsimp only at c0 c1 c2 c3 c4 hcase
              rcases hcase with ⟨rfl, q1, hr⟩ | ⟨rfl, q1, q2, hr⟩ | ⟨rfl, q1, q2, q3, hr⟩ | ⟨rfl, q1, q2, rfl, q3, hr⟩ | ⟨rfl, q1, q2, rfl, rfl, q3, hr⟩ | ⟨rfl, q1, q2, rfl, rfl, rfl, hr⟩ | ⟨rfl, q3, hr⟩ | ⟨rfl, rfl, q1, hr⟩ | ⟨rfl, rfl, q1, q2, hr⟩ | ⟨rfl, rfl, q1, q2, q3, hr⟩ | ⟨rfl, rfl, q1, q2, q3, q4, hr⟩ | ⟨rfl, rfl, q1, q2, q3, q4, hr⟩
              · have HR := Lib.hid (HB.out 2 (by omega) hr)
                clear hr HB HG
                go_wp2
                go_ret
                exact ⟨ret_int HR.out.symm, (hbr0.trans (hbq.mono hbr0.size)).alloc (Nat.le_trans hbr0.size hbq.size) _⟩
              · have HR := Lib.hid (HB.out 2 (by omega) hr)
                clear hr HB HG
                go_wp2
                go_ret
                exact ⟨ret_int HR.out.symm, (hbr0.trans (hbq.mono hbr0.size)).alloc (Nat.le_trans hbr0.size hbq.size) _⟩
              · have t1 : (nbd != 0) = true := bne_iff_ne.2 q3
                clear q3
                have HR := Lib.hid (HB.out 4 (by omega) hr)
                clear hr HB HG
                go_wp2
                go_ret
                exact ⟨ret_int HR.out.symm, (hbr0.trans (hbq.mono hbr0.size)).alloc (Nat.le_trans hbr0.size hbq.size) _⟩
              · have t1 : (nls != 0) = true := bne_iff_ne.2 q3
                clear q3
                have HR := Lib.hid (HB.out 4 (by omega) hr)
                clear hr HB HG
                go_wp2
                go_ret
                exact ⟨ret_int HR.out.symm, (hbr0.trans (hbq.mono hbr0.size)).alloc (Nat.le_trans hbr0.size hbq.size) _⟩
              · have t1 : (nmr != 0) = true := bne_iff_ne.2 q3
                clear q3
                have HR := Lib.hid (HB.out 4 (by omega) hr)
                clear hr HB HG
                go_wp2
                go_ret
                exact ⟨ret_int HR.out.symm, (hbr0.trans (hbq.mono hbr0.size)).alloc (Nat.le_trans hbr0.size hbq.size) _⟩
              · have HZ := HG.out hr
                clear hr HB HG
                go_wp2
                go_roundw
                case rel => exact ⟨k + 1, by omega, by go_num, HZ, hbq.alloc hbq.size _⟩
                case measure => simp [intOf]; omega
              · have t1 : (nan != 0) = true := bne_iff_ne.2 q3
                clear q3
                have HR := Lib.hid (HB.out 4 (by omega) hr)
                clear hr HB HG
                go_wp2
                go_ret
                exact ⟨ret_int HR.out.symm, (hbr0.trans (hbq.mono hbr0.size)).alloc (Nat.le_trans hbr0.size hbq.size) _⟩
              · have HR := Lib.hid (HB.out 8 (by omega) hr)
                clear hr HB HG
                go_wp2
                go_ret
                exact ⟨ret_int HR.out.symm, (hbr0.trans (hbq.mono hbr0.size)).alloc (Nat.le_trans hbr0.size hbq.size) _⟩
              · have HR := Lib.hid (HB.out 8 (by omega) hr)
                clear hr HB HG
                go_wp2
                go_ret
                exact ⟨ret_int HR.out.symm, (hbr0.trans (hbq.mono hbr0.size)).alloc (Nat.le_trans hbr0.size hbq.size) _⟩
              · have HR := Lib.hid (HB.out 8 (by omega) hr)
                clear hr HB HG
                go_wp2
                go_ret
                exact ⟨ret_int HR.out.symm, (hbr0.trans (hbq.mono hbr0.size)).alloc (Nat.le_trans hbr0.size hbq.size) _⟩
              · have HR := Lib.hid (HB.out 8 (by omega) hr)
                clear hr HB HG
                go_wp2
                go_ret
                exact ⟨ret_int HR.out.symm, (hbr0.trans (hbq.mono hbr0.size)).alloc (Nat.le_trans hbr0.size hbq.size) _⟩
              · have HZ := HG.out hr
                clear hr HB HG
                go_wp2
                go_roundw
                case rel => exact ⟨k + 1, by omega, by go_num, HZ, hbq.alloc hbq.size _⟩
                case measure => simp [intOf]; omega
            · have HR : Hid (frsE ⟨nodes, answers⟩ = 0) := by
                have h2 : nodsE answers.length nodes = 0 := ferr_none (fun i n => nodE answers.length i n) nodes 0 (fun i hi => by simpa using hz.out i hi (by omega))
                show frsE _ = 0
                unfold frsE
                rw [if_neg H0.out, if_neg H1.out, if_neg (by rw [HS.out]; simp), h2]
              clear hz
              go_wp2
              go_ret
              exact ⟨ret_int HR.out.symm, hbr0.trans (hbq.mono hbr0.size)⟩
end Go.Proofs.YtbikdlcjbigafaaGreatDoor
namespace Go.Proofs.YtbikdlcjbigafaaGreatDoor
set_option linter.unusedVariables false
set_option linter.unusedSimpArgs false
open Go.ChangeShapes Go.WideShapes Go.ChangeAt Go.RowKit

end Go.Proofs.YtbikdlcjbigafaaGreatDoor
namespace Go.Proofs.YtbikdlcjbigafaaGreatDoor
set_option linter.unusedVariables false
set_option linter.unusedSimpArgs false
open Go.ChangeShapes Go.WideShapes Go.ChangeAt Go.RowKit

def letB (c : Int) : Bool := (decide (97 ≤ c) && decide (c ≤ 122)) || (decide (65 ≤ c) && decide (c ≤ 90))
def digB (c : Int) : Bool := decide (48 ≤ c) && decide (c ≤ 57)
theorem letter_any (c : Int) (w : World) :
    Calls Tryz.prog 101 #[.int .u8 c] w fun e w' => e = .returned (.bool (letB c)) ∧ w = w' := by
  obtain ⟨r, hr⟩ : ∃ r, r = letB c := ⟨_, rfl⟩
  rw [← hr]
  have H := Lib.hid hr
  clear hr
  go_enter Tryz.func101, Tryz.ntmps101
  go_wp2
  all_goals (go_ret; exact ⟨ret_bool (by go_light; rw [H.out]; unfold letB; first | (simp [*]; done) | (simp [*]; omega)), rfl⟩)
theorem letters1_any (c : Int) (w : World) :
    Calls Tryz.prog 148 #[.int .u8 c] w fun e w' => e = .returned (.bool (!letB c)) ∧ w = w' := by
  go_enter Tryz.func148, Tryz.ntmps148
  go_wp2_with (go_at_call 101; refine (letter_any _ _).mono ?_; rintro e w' ⟨rfl, rfl⟩)
  go_ret
  exact ⟨rfl, rfl⟩
def RByte (cs : List Value) (x : Int) : Prop := cs = [.int .u8 x]
/-- a string's bytes. -/
def bl (s : ByteArray) : List Int := s.data.toList.map fun b => (b.toNat : Int)
theorem bl_len (s : ByteArray) : (bl s).length = s.size := by simp [bl]
theorem slAt_bytes (w : World) (e : TypeId) (s : ByteArray) (h : s.size ≤ maxLen) : SlAt (Lib.bytesWorld w e s) 1 RByte (.slice (some ⟨w.heap.size, 0, none⟩) s.size (grownCap w s.size 0 e)) (bl s) := by
  by_cases h0 : s.size = 0
  · left
    refine ⟨_, _, by rw [h0], ?_⟩
    have := bl_len s
    rw [h0] at this
    exact List.length_eq_zero_iff.1 this
  · right
    refine ⟨w.heap.size, 0, _, by rw [bl_len], by rw [bl_len]; omega, by rw [bl_len]; exact grownCap_ge _ _ _ _, grownCap_le_maxLen _ _ _ _ h, by rw [Lib.bytesWorld_size]; omega, fun i hi => ?_⟩
    rw [bl_len] at hi
    refine ⟨[.int .u8 ((bl s)[i]'(by rw [bl_len]; exact hi))], rfl, rfl, fun j hj => ?_⟩
    obtain rfl : j = 0 := by omega
    have := Lib.bytesWorld_cell w e s i hi
    rw [show 0 + i * 1 + 0 = i by omega, this]
    simp [bl, List.getD, hi]
/-- the cell of element i. -/
theorem byteCell {w : World} {b off : Nat} {xs : List Int} (h4 : ∀ (i : Nat) (h : i < xs.length), ∃ cs : List Value, cs.length = 1 ∧ RByte cs xs[i] ∧ ∀ j, j < 1 → w.cell? ⟨b, off + i * 1 + j, none⟩ = cs[j]?) (i : Nat) (h : i < xs.length) :
    w.cell? ⟨b, off + i, none⟩ = some (.int .u8 xs[i]) ∧ True := by
  obtain ⟨cs, _, rfl, hc⟩ := h4 i h
  have := hc 0 (by omega)
  rw [Nat.mul_one, Nat.add_zero] at this
  exact ⟨this, trivial⟩
set_option maxHeartbeats 400000 in
set_option maxRecDepth 100000 in
theorem idxByte_any (p : Int → Bool) (F : Nat) (v : Value) (xs : List Int) (w : World) (hv : SlAt w 1 RByte v xs) (eg : ∀ args w, (callFunc F args).run Tryz.prog w = .ok (.enter F args) w) (hF : ∀ (x : Int) (w : World), Calls Tryz.prog F #[.int .u8 x] w fun e w' => e = .returned (.bool (p x)) ∧ w = w') :
    Calls Tryz.prog 150 #[v, .func (.func F) #[] #[]] w fun e w' => e = .returned (.int .i64 (fidx p xs)) ∧ w = w' := by
  have HF := Lib.hid hF
  clear hF
  rcases hv with ⟨a, cap, rfl, rfl⟩ | ⟨b, off, cap, rfl, h0, h1, h2, h3, h4⟩
  · go_enter Tryz.func150, Tryz.ntmps150
    go_wp2
    refine wp_loop_rounds 1 ?_
    rw [rounds_succ]
    go_wp2
    go_ret
    exact ⟨rfl, rfl⟩
  · have H4 := Lib.hid (byteCell h4)
    have h5 : xs.length ≤ 9223372036854775807 := by unfold maxLen at h2; omega
    clear h4 h2
    go_enter Tryz.func150, Tryz.ntmps150
    go_wp2
    go_loop [8] (fun t => ∃ k : Nat, k ≤ xs.length ∧ t = .int .i64 k ∧ Hid (∀ i (hi : i < xs.length), i < k → p xs[i] = false)) (fun t => (xs.length - intOf t).toNat)
    case atStart => exact ⟨0, by omega, rfl, fun i _ h => by omega⟩
    case round =>
      obtain ⟨k, hk, rfl, hn⟩ := hrel
      by_cases hlt : k < xs.length
      · have hc := (H4.out k hlt).1
        by_cases hp : p xs[k] = true
        · have hfin := Lib.hid (fidx_at p xs k hlt (fun i hi => hn.out i (by omega) hi) hp)
          generalize xs[k] = x at hc hp
          go_wp2_with fail
          refine (HF.out _ _).mono ?_; rintro e w' ⟨rfl, rfl⟩
          go_wp2
          go_ret
          exact ⟨ret_int hfin.out.symm, rfl⟩
        · have hp' : p xs[k] = false := by simpa using hp
          clear hp
          have hn' : Hid (∀ i (hi : i < xs.length), i < k + 1 → p xs[i] = false) := fun i hi h => by
            by_cases e : i = k
            · subst e; exact hp'
            · exact hn.out i hi (by omega)
          generalize xs[k] = x at hc hp'
          go_wp2_with fail
          refine (HF.out _ _).mono ?_; rintro e w' ⟨rfl, rfl⟩
          go_wp2
          go_round
          case rel => exact ⟨k + 1, by omega, by go_num, hn'⟩
          case measure => simp [intOf]; omega
      · have hfin := Lib.hid (fidx_none p xs (fun i hi => hn.out i hi (by omega)))
        go_wp2
        go_ret
        exact ⟨ret_int hfin.out.symm, rfl⟩
theorem contByte_any (p : Int → Bool) (F : Nat) (v : Value) (xs : List Int) (w : World) (hv : SlAt w 1 RByte v xs) (eg : ∀ args w, (callFunc F args).run Tryz.prog w = .ok (.enter F args) w) (hF : ∀ (x : Int) (w : World), Calls Tryz.prog F #[.int .u8 x] w fun e w' => e = .returned (.bool (p x)) ∧ w = w') :
    Calls Tryz.prog 102 #[v, .func (.func F) #[] #[]] w fun e w' => e = .returned (.bool (xs.any p)) ∧ w = w' := by
  have HI := Lib.hid (idxByte_any p F v xs w hv eg hF)
  have HA := Lib.hid (fidx_any p xs)
  clear hF eg hv
  go_enter Tryz.func102, Tryz.ntmps102
  go_wp2_with fail
  refine HI.out.mono ?_; rintro e w' ⟨rfl, rfl⟩
  go_wp2
  go_ret
  exact ⟨ret_bool HA.out, rfl⟩
def letsB (s : ByteArray) : Bool := decide ((s.size : Int) ≤ 6) && (bl s).all letB
theorem any_not (p : Int → Bool) (l : List Int) : (l.any fun c => !p c) = !l.all p := by
  induction l with
  | nil => rfl
  | cons x l ih => simp only [List.any_cons, List.all_cons, ih]; cases p x <;> rfl
set_option maxRecDepth 100000 in
theorem letters_any (s : ByteArray) (w : World) (hs : s.size ≤ maxLen) :
    Calls Tryz.prog 98 #[.string s] w fun e w' => e = .returned (.bool (letsB s)) ∧ Below w.heap.size w w' := by
  have hs' := maxLen_eq _ hs
  by_cases h6 : s.size ≤ 6
  · have h6' : (s.size : Int) ≤ 6 := by omega
    have HR : Hid (letsB s = !((bl s).any fun c => !letB c)) := by
      show letsB s = _
      unfold letsB; rw [any_not, decide_eq_true h6']; simp
    have hcv := fun (w : World) => Lib.run_convert_string_bytes (P := Tryz.prog) w 9 157 5 s Tryz.underlying9 Tryz.underlying157 Tryz.underlying5
    have HS := Lib.hid (slAt_bytes w 5 s hs)
    clear hs
    go_enter Tryz.func98, Tryz.ntmps98
    go_wp2_with fail
    refine (contByte_any (fun c => !letB c) 148 _ _ _ HS.out (enters_of Tryz.func148 (by kernel_rfl) rfl) letters1_any).mono ?_; rintro e w' ⟨rfl, rfl⟩
    go_wp2
    go_ret
    exact ⟨ret_bool HR.out.symm, Joins.below_bytesWorld _ _ _ _ (Nat.le_refl _)⟩
  · have h6' : 6 < (s.size : Int) := by omega
    have HR : Hid (letsB s = false) := by
      show letsB s = false
      unfold letsB; rw [decide_eq_false (by omega)]; simp
    clear hs h6
    go_enter Tryz.func98, Tryz.ntmps98
    go_wp2
    go_ret
    exact ⟨ret_bool HR.out.symm, Below.refl _ _⟩
end Go.Proofs.YtbikdlcjbigafaaGreatDoor
namespace Go.Proofs.YtbikdlcjbigafaaGreatDoor
set_option linter.unusedVariables false
set_option linter.unusedSimpArgs false
open Go.ChangeShapes Go.WideShapes Go.ChangeAt Go.RowKit

theorem letter_lit (c : Int) (r : Bool) (w : World) (h : letB c = r) :
    Calls Tryz.prog 101 #[.int .u8 c] w fun e w' => e = .returned (.bool r) ∧ w = w' := h ▸ letter_any c w
theorem digit_lit (c : Int) (r : Bool) (w : World) (hr : digB c = r) :
    Calls Tryz.prog 104 #[.int .u8 c] w fun e w' => e = .returned (.bool r) ∧ w = w' := by
  have H := Lib.hid hr.symm
  clear hr
  go_enter Tryz.func104, Tryz.ntmps104
  go_wp2
  all_goals (go_ret; exact ⟨ret_bool (by go_light; rw [H.out]; unfold digB; first | (simp [*]; done) | (simp [*]; omega)), rfl⟩)
set_option maxRecDepth 100000 in
theorem slIndexByte_any (s : ByteArray) (c : Int) (w : World) :
    Calls Tryz.prog 151 #[.string s, .int .u8 c] w fun e w' => e = .returned (.int .i64 (Lib.indexByte s.data.toList c.toNat.toUInt8)) ∧ w = w' := by
  go_enter Tryz.func151, Tryz.ntmps151
  go_wp2
  rw [run_callFunc_extern Tryz.func179 (by kernel_rfl) (by kernel_rfl) (by kernel_rfl) (e := Extern.BytealgIndexByte.indexByte) (by kernel_rfl), Lib.run_indexByteString]
  simp only [Result.andThen]
  rw [Oper.upon_value]
  go_wp2
  go_ret
  exact ⟨rfl, rfl⟩
set_option maxRecDepth 100000 in
theorem sIndexByte_lit (s : ByteArray) (c : Int) (i : Int) (w : World) (h : Lib.indexByte s.data.toList c.toNat.toUInt8 = i) :
    Calls Tryz.prog 105 #[.string s, .int .u8 c] w fun e w' => e = .returned (.int .i64 i) ∧ w = w' := by
  subst h
  go_enter Tryz.func105, Tryz.ntmps105
  go_wp2_with (go_at_call 151; refine (slIndexByte_any _ _ _).mono ?_; rintro e w' ⟨rfl, rfl⟩)
  go_ret
  exact ⟨rfl, rfl⟩
def sgI (c : Int) : Int := Lib.indexByte [95, 47, 43, 45] c.toNat.toUInt8
def nm1 (c : Int) : Bool := !letB c && !digB c && decide (sgI c < 0)
def nm2 (c : Int) : Bool := letB c || digB c || decide (c = 95) || decide (c = 47) || decide (c = 43) || decide (c = 45)
set_option maxRecDepth 100000 in
theorem name1_any (c : Int) (w : World) :
    Calls Tryz.prog 103 #[.int .u8 c] w fun e w' => e = .returned (.bool (nm1 c)) ∧ w = w' := by
  obtain ⟨r, hr⟩ : ∃ r, r = nm1 c := ⟨_, rfl⟩
  rw [← hr]
  unfold nm1 at hr
  obtain ⟨i, hi⟩ : ∃ i, sgI c = i := ⟨_, rfl⟩
  rw [hi] at hr
  cases hl : letB c <;> cases hd : digB c <;> rw [hl, hd] at hr <;> (
    have HL := Lib.hid hl
    have HD := Lib.hid hd
    have HI := Lib.hid hi
    have HR := Lib.hid hr
    clear hl hd hi hr
    go_enter Tryz.func103, Tryz.ntmps103
    go_wp2_with (first
      | (go_at_call 101; refine (letter_lit _ _ _ HL.out).mono ?_; rintro e w' ⟨rfl, rfl⟩)
      | (go_at_call 104; refine (digit_lit _ _ _ HD.out).mono ?_; rintro e w' ⟨rfl, rfl⟩)
      | (go_at_call 105; refine (sIndexByte_lit _ _ i _ (by exact HI.out)).mono ?_; rintro e w' ⟨rfl, rfl⟩))
    all_goals (go_ret; exact ⟨ret_bool (by go_light; rw [HR.out]; first | (simp [*]; done) | (simp [*]; omega)), rfl⟩))
theorem nm_not (b : UInt8) : nm1 ((b.toNat : Nat) : Int) = !nm2 ((b.toNat : Nat) : Int) := by
  have h : ∀ n : Nat, n < 256 → nm1 (n : Int) = !nm2 (n : Int) := by decide +kernel
  exact h _ b.toNat_lt
theorem nm_any (s : ByteArray) : (bl s).any nm1 = !(bl s).all nm2 := by
  unfold bl
  induction s.data.toList with
  | nil => rfl
  | cons x l ih => simp only [List.map_cons, List.any_cons, List.all_cons, ih, nm_not]; cases nm2 (x.toNat : Int) <;> rfl
def firstB (s : ByteArray) : Int := (bl s).getD 0 0
def nameS (s : ByteArray) : Bool := decide (1 ≤ (s.size : Int) ∧ (s.size : Int) ≤ 20) && letB (firstB s) && (bl s).all nm2
theorem first_at (s : ByteArray) (h : 0 < s.size) : ((s[0]).toNat : Int) = firstB s := by
  unfold firstB
  have h' : 0 < (bl s).length := by rw [bl_len]; exact h
  rw [List.getD_eq_getElem?_getD, List.getElem?_eq_getElem h']
  simp [bl]; rfl
set_option maxRecDepth 100000 in
theorem name_lit (s : ByteArray) (w : World) (hs : s.size ≤ maxLen) :
    Calls Tryz.prog 62 #[.string s] w fun e w' => e = .returned (.bool (nameS s)) ∧ Below w.heap.size w w' := by
  have hs' := maxLen_eq _ hs
  obtain ⟨r, hr⟩ : ∃ r, r = nameS s := ⟨_, rfl⟩
  rw [← hr]
  unfold nameS at hr
  by_cases h0 : s.size = 0
  · have hf : r = false := by rw [hr, decide_eq_false (by omega)]; rfl
    subst hf
    obtain rfl : s = ByteArray.empty := ByteArray.ext (Array.eq_empty_of_size_eq_zero h0)
    clear hr hs hs' h0
    go_enter Tryz.func62, Tryz.ntmps62
    go_wp2
    go_ret
    exact ⟨rfl, Below.refl _ _⟩
  · have hne : ¬ s = ByteArray.empty := fun e => h0 (by rw [e]; rfl)
    have hnl : ¬ s.toList = [] := fun e => hne ((toList_nil_iff_emptyBytes s).1 e)
    have hie : s.toList.isEmpty = false := by cases hl : s.toList with
      | nil => exact absurd hl hnl
      | cons a l => rfl
    by_cases h20 : s.size ≤ 20
    · cases hl : letB (firstB s)
      · have hf : r = false := by rw [hr, hl]; simp
        subst hf
        have hx : ((s[0]'(by omega)).toNat : Int) = firstB s := first_at s (by omega)
        rw [← hx] at hl
        have HL := Lib.hid hl
        have h20' : (s.size : Int) ≤ 20 := by omega
        have h0' : 0 < (s.size : Int) := by omega
        clear hr hs hl hx
        go_enter Tryz.func62, Tryz.ntmps62
        go_wp2_with (go_at_call 101; refine (letter_lit _ _ _ HL.out).mono ?_; rintro e w' ⟨rfl, rfl⟩)
        go_ret
        exact ⟨rfl, Below.refl _ _⟩
      · have hf : r = !((bl s).any nm1) := by rw [hr, hl, decide_eq_true (by omega), nm_any]; simp
        have hx : ((s[0]'(by omega)).toNat : Int) = firstB s := first_at s (by omega)
        rw [← hx] at hl
        have HL := Lib.hid hl
        have HF := Lib.hid hf
        have h20' : (s.size : Int) ≤ 20 := by omega
        have h0' : 0 < (s.size : Int) := by omega
        have hcv := fun (w : World) => Lib.run_convert_string_bytes (P := Tryz.prog) w 9 157 5 s Tryz.underlying9 Tryz.underlying157 Tryz.underlying5
        have HS := Lib.hid (slAt_bytes w 5 s hs)
        clear hr hs hl hx hf
        go_enter Tryz.func62, Tryz.ntmps62
        go_wp2_with (first
          | (go_at_call 101; refine (letter_lit _ _ _ HL.out).mono ?_; rintro e w' ⟨rfl, rfl⟩)
          | (refine (contByte_any nm1 103 _ _ _ HS.out (enters_of Tryz.func103 (by kernel_rfl) rfl) name1_any).mono ?_; rintro e w' ⟨rfl, rfl⟩))
        go_ret
        exact ⟨ret_bool HF.out.symm, Joins.below_bytesWorld _ _ _ _ (Nat.le_refl _)⟩
    · have hf : r = false := by rw [hr, decide_eq_false (by omega)]; rfl
      subst hf
      have h20' : 20 < (s.size : Int) := by omega
      clear hr hs
      go_enter Tryz.func62, Tryz.ntmps62
      go_wp2
      go_ret
      exact ⟨rfl, Below.refl _ _⟩
end Go.Proofs.YtbikdlcjbigafaaGreatDoor
namespace Go.Proofs.YtbikdlcjbigafaaGreatDoor
set_option linter.unusedVariables false
set_option linter.unusedSimpArgs false
open Go.ChangeShapes Go.WideShapes Go.ChangeAt Go.RowKit

def sgB (c : Int) : Bool := letB c || digB c || decide (c = 43) || decide (c = 45)
set_option maxRecDepth 100000 in
theorem plain1_any (c : Int) (w : World) :
    Calls Tryz.prog 188 #[.int .u8 c] w fun e w' => e = .returned (.bool (!sgB c)) ∧ w = w' := by
  obtain ⟨r, hr⟩ : ∃ r, r = !sgB c := ⟨_, rfl⟩
  rw [← hr]
  unfold sgB at hr
  cases hl : letB c <;> cases hd : digB c <;> rw [hl, hd] at hr <;> (
    have HL := Lib.hid hl
    have HD := Lib.hid hd
    have HR := Lib.hid hr
    clear hl hd hr
    go_enter Tryz.func188, Tryz.ntmps188
    go_wp2_with (first
      | (go_at_call 101; refine (letter_lit _ _ _ HL.out).mono ?_; rintro e w' ⟨rfl, rfl⟩)
      | (go_at_call 104; refine (digit_lit _ _ _ HD.out).mono ?_; rintro e w' ⟨rfl, rfl⟩))
    all_goals (go_ret; exact ⟨ret_bool (by go_light; rw [HR.out]; first | (simp [*]; done) | (simp_all; done) | (by_cases h45 : c = 45 <;> simp_all; done) | (by_cases h43 : c = 43 <;> by_cases h45 : c = 45 <;> simp_all; done) | (simp [*]; omega)), rfl⟩))
/-- all bytes are signs. -/
def sgS (s : ByteArray) : Bool := (bl s).all sgB
def plS (s : ByteArray) : Bool := decide (0 < (s.size : Int)) && sgS s
theorem plain_any (s : ByteArray) (w : World) (hs : s.size ≤ maxLen) :
    Calls Tryz.prog 165 #[.string s] w fun e w' => e = .returned (.bool (plS s)) ∧ Below w.heap.size w w' := by
  have hs' := maxLen_eq _ hs
  obtain ⟨r, hr⟩ : ∃ r, r = plS s := ⟨_, rfl⟩
  rw [← hr]
  unfold plS sgS at hr
  by_cases h0 : s.size = 0
  · have hf : r = false := by rw [hr, decide_eq_false (by omega)]; rfl
    subst hf
    obtain rfl : s = ByteArray.empty := ByteArray.ext (Array.eq_empty_of_size_eq_zero h0)
    clear hr hs hs' h0
    go_enter Tryz.func165, Tryz.ntmps165
    go_wp2
    go_ret
    exact ⟨rfl, Below.refl _ _⟩
  · have hne : ¬ s = ByteArray.empty := fun e => h0 (by rw [e]; rfl)
    have hnl : ¬ s.toList = [] := fun e => hne ((toList_nil_iff_emptyBytes s).1 e)
    have hie : s.toList.isEmpty = false := by cases hl : s.toList with
      | nil => exact absurd hl hnl
      | cons a l => rfl
    have hf : r = !((bl s).any fun c => !sgB c) := by rw [hr, decide_eq_true (by omega), any_not]; simp
    have HF := Lib.hid hf
    have hcv := fun (w : World) => Lib.run_convert_string_bytes (P := Tryz.prog) w 9 157 5 s Tryz.underlying9 Tryz.underlying157 Tryz.underlying5
    have HS := Lib.hid (slAt_bytes w 5 s hs)
    clear hr hs hf
    go_enter Tryz.func165, Tryz.ntmps165
    go_wp2_with fail
    refine (contByte_any (fun c => !sgB c) 188 _ _ _ HS.out (enters_of Tryz.func188 (by kernel_rfl) rfl) plain1_any).mono ?_; rintro e w' ⟨rfl, rfl⟩
    go_wp2
    go_ret
    exact ⟨ret_bool HF.out.symm, Joins.below_bytesWorld _ _ _ _ (Nat.le_refl _)⟩
end Go.Proofs.YtbikdlcjbigafaaGreatDoor
namespace Go.Proofs.YtbikdlcjbigafaaGreatDoor
set_option linter.unusedVariables false
set_option linter.unusedSimpArgs false
open Go.ChangeShapes Go.WideShapes Go.ChangeAt Go.RowKit

def sgL (l : List UInt8) : Bool := l.all fun b => sgB (b.toNat : Int)
def plL (l : List UInt8) : Bool := !l.isEmpty && sgL l
theorem sgS_eq (s : ByteArray) : sgS s = sgL s.data.toList := by
  unfold sgS sgL bl; rw [List.all_map]; rfl
theorem plS_eq (s : ByteArray) : plS s = plL s.data.toList := by
  unfold plS plL
  rw [sgS_eq]
  have h : s.size = s.data.toList.length := by simp
  rw [h]
  cases s.data.toList with
  | nil => rfl
  | cons a l => simp
def slashAt (l : List UInt8) : Int := Lib.index l [47]
def markAt (l : List UInt8) : Int := Lib.index l [37, 115]
def fmtL (l : List UInt8) : Bool :=
  decide (1 ≤ (l.length : Int) ∧ (l.length : Int) ≤ 12) &&
  (bif decide (0 ≤ slashAt l) then plL (l.take (slashAt l).toNat) && plL (l.drop ((slashAt l).toNat + 1))
  else bif decide (0 ≤ markAt l) then sgL (l.take (markAt l).toNat) && sgL (l.drop ((markAt l).toNat + 2))
  else sgL l)
theorem occ2 (l : List UInt8) (a c : UInt8) (j : Nat) : Lib.occAt l [a, c] j = (l[j]? == some a && l[j + 1]? == some c) := by
  unfold Lib.occAt
  rw [← List.head?_drop, show l[j + 1]? = (l.drop j)[1]? by rw [List.getElem?_drop]]
  cases l.drop j with
  | nil => rfl
  | cons b t => cases t <;> simp [List.isPrefixOf, Bool.beq_eq_decide_eq, eq_comm]
theorem fmt_size {l : List UInt8} (h : ¬ (1 ≤ (l.length : Int) ∧ (l.length : Int) ≤ 12)) : fmtL l = false := by
  unfold fmtL; rw [decide_eq_false h]; rfl
theorem fmt_slash {l : List UInt8} {k : Nat} (h : 1 ≤ (l.length : Int) ∧ (l.length : Int) ≤ 12) (hi : Lib.index l [47] = k) : fmtL l = (plL (l.take k) && plL (l.drop (k + 1))) := by
  unfold fmtL slashAt
  rw [decide_eq_true h, hi, decide_eq_true (by omega)]
  simp
theorem fmt_mark {l : List UInt8} {k : Nat} (h : 1 ≤ (l.length : Int) ∧ (l.length : Int) ≤ 12) (hi : Lib.index l [47] = -1) (hm : Lib.index l [37, 115] = k) : fmtL l = (sgL (l.take k) && sgL (l.drop (k + 2))) := by
  unfold fmtL slashAt markAt
  rw [decide_eq_true h, hi, hm, decide_eq_true (show (0 : Int) ≤ k by omega)]
  simp
theorem fmt_plain {l : List UInt8} (h : 1 ≤ (l.length : Int) ∧ (l.length : Int) ≤ 12) (hi : Lib.index l [47] = -1) (hm : Lib.index l [37, 115] = -1) : fmtL l = sgL l := by
  unfold fmtL slashAt markAt
  rw [decide_eq_true h, hi, hm]
  simp
theorem cut_at {l sep : List UInt8} {k : Nat} (h : Lib.index l sep = k) : Lib.cut l sep = (l.take k, l.drop (k + sep.length), true) := by
  unfold Lib.cut
  rw [h, if_pos (by omega)]; simp
theorem cut_none {l sep : List UInt8} (h : Lib.index l sep = -1) : Lib.cut l sep = (l, [], false) := by
  unfold Lib.cut
  rw [h, if_neg (by omega)]
theorem ix_cases (l sep : List UInt8) : Lib.index l sep = -1 ∨ ∃ k : Nat, Lib.index l sep = k ∧ k + sep.length ≤ l.length := by
  have h1 := Lib.index_ge l sep
  by_cases h : Lib.index l sep = -1
  · exact .inl h
  · have h2 := Lib.index_room l sep (by omega)
    exact .inr ⟨(Lib.index l sep).toNat, by omega, by omega⟩
end Go.Proofs.YtbikdlcjbigafaaGreatDoor
