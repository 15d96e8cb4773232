/-
  A region that draws its order: what may be taken first under a condition that only some operations need keep; its forced end as a plain list.
-/
import Derived.OrdersHeld
import Derived.RegionTactic
import Derived.Deep.AppendLies
import Derived.Great.BuildSlice
import Derived.Laws.Rows
import Derived.Laws.Tables
import Derived.Defers
namespace Go.Proofs.YtbikdlcjbigafaaGreatDoor
set_option linter.unusedVariables false
set_option linter.unusedSimpArgs false

section
variable {P : Program} {ops : Array Oper} {Q : Exit → Act → World → Prop} {md : Region.Mode} {S : World → Prop} {B : List Nat}
/-- Whatever order is picked from here on; behind the operations of B the condition S is shown anew. -/
def wpAnyB (P : Program) (md : Region.Mode) (ops : Array Oper) (Q : Exit → Act → World → Prop) (S : World → Prop) (B : List Nat) : Nat → Array Bool → Act → World → Prop
  | 0, listed, a, w => Region.ready md ops listed = [] ∧ Q .normal a w
  | f + 1, listed, a, w =>
    (Region.ready md ops listed = [] → Q .normal a w) ∧
    ∀ i ∈ Region.ready md ops listed, wpOp P ops Q i (fun a' w' => (i ∈ B → S w') ∧ wpAnyB P md ops Q S B f (listed.setIfInBounds i true) a' w') a w
theorem wpAny_of_B : ∀ (f : Nat) (listed : Array Bool) (a : Act) (w : World), wpAnyB P md ops Q S B f listed a w → wpAny P md ops Q f listed a w
  | 0, _, _, _, h => h
  | f + 1, _, _, _, h => ⟨h.1, fun i hi => wpOp_mono (fun a' w' h' => wpAny_of_B f _ a' w' h'.2) (h.2 i hi)⟩
/-- The list D: each waits for i, or for one of D. -/
def depB (md : Region.Mode) (ops : Array Oper) (i : Nat) (D : List Nat) : Bool :=
  D.all fun d => match ops[d]? with
    | some o => o.after.any fun e => Region.binds md e && (e.on == i || D.contains e.on)
    | none => true
theorem depB_spec {i : Nat} {D : List Nat} (h : depB md ops i D = true) {d : Nat} (hd : d ∈ D) {o : Oper} (ho : ops[d]? = some o) : ∃ e ∈ o.after, Region.binds md e = true ∧ (e.on = i ∨ e.on ∈ D) := by
  have h1 := List.all_eq_true.1 h d hd
  simp only [ho] at h1
  obtain ⟨e, he, hb⟩ := Array.any_eq_true'.1 h1
  simp only [Bool.and_eq_true, Bool.or_eq_true, beq_iff_eq, List.contains_iff_mem] at hb
  exact ⟨e, he, hb.1, hb.2⟩
/-- None of D comes up while i has not. -/
theorem dep_not {i : Nat} {D : List Nat} {listed : Array Bool} (h : depB md ops i D = true) (hi : i ∈ Region.ready md ops listed) (hD : ∀ d ∈ D, listed.getD d false = false) {j : Nat} (hj : j ∈ Region.ready md ops listed) : j ∉ D := by
  intro hjD
  obtain ⟨_, oj, hoj, hall⟩ := mem_ready.1 hj
  obtain ⟨e, he, hb, h2⟩ := depB_spec h hjD hoj
  have h3 := hall e he hb
  rcases h2 with h2 | h2
  · have h4 := (mem_ready.1 hi).1
    rw [h2] at h3
    rcases Nat.lt_or_ge i listed.size with h' | h'
    · simp [h'] at h3 h4; rw [h4] at h3; cases h3
    · simp [Array.getElem?_eq_none h'] at h3
  · rw [hD _ h2] at h3; cases h3
theorem getDf_set_ne {listed : Array Bool} {j k : Nat} (h : j ≠ k) : (listed.setIfInBounds j true).getD k false = listed.getD k false := getD_set_ne false h
theorem wpAnyB_first {i : Nat} {oi : Oper} {v : Value} {D : List Nat} (hi : ops[i]? = some oi) (hsel : ∀ (j : Nat) (o : Oper) cs b, ops[j]? = some o → o.op ≠ .select cs b)
    (hQ : ∀ c a w, Q (.panic c) (a.put oi.dst v) w → Q (.panic c) a w) (hdep : depB md ops i D = true) (C : List Nat) (hBD : ∀ j, j < ops.size → (j ∈ B ∨ j ∈ D ∨ j = i) ∨ j ∈ C) :
    ∀ (fuel : Nat) (listed : Array Bool) (a : Act) (w : World), (∀ j ∈ C, listed.getD j true = true) →
      (∀ j oj, ops[j]? = some oj → j ≠ i → listed.getD j true = false → (∀ e ∈ oj.after, Region.binds md e = true → e.on ≠ i) → oi.apart ops oj = true) →
      (∀ d ∈ D, listed.getD d false = false) →
      i ∈ Region.ready md ops listed → YieldsIf P ops S oi v a → S w →
      wpAnyB P md ops Q S B fuel (listed.setIfInBounds i true) (a.put oi.dst v) w → wpAnyB P md ops Q S B (fuel + 1) listed a w := by
  intro fuel
  induction fuel with
  | zero =>
    intro listed a w _ _ _ hr hy hS H
    refine ⟨fun h => (by rw [h] at hr; cases hr), fun j hj => ?_⟩
    by_cases hji : j = i
    · subst hji; exact hy.wpOp hi hS ⟨fun _ => hS, H⟩
    · have := ready_mono hj hji
      rw [H.1] at this
      cases this
  | succ fuel ih =>
    intro listed a w hC hfree hD hr hy hS H
    refine ⟨fun h => (by rw [h] at hr; cases hr), fun j hj => ?_⟩
    by_cases hji : j = i
    · subst hji; exact hy.wpOp hi hS ⟨fun _ => hS, H⟩
    · have h1 := H.2 j (ready_mono hj hji)
      have hjD := dep_not hdep hr hD hj
      obtain ⟨hjun, oj, hoj, hall⟩ := mem_ready.1 hj
      have hjB : j ∈ B := by
        rcases hBD j (Array.getElem?_eq_some_iff.1 hoj).1 with (h | h | h) | h
        · exact h
        · exact absurd h hjD
        · exact absurd h hji
        · rw [hC j h] at hjun; cases hjun
      have hnot : ∀ e ∈ oj.after, Region.binds md e = true → e.on ≠ i := fun e he hb heq => by
        have h1 := hall e he hb
        have h0 := (mem_ready.1 hr).1
        rw [heq] at h1
        rcases Nat.lt_or_ge i listed.size with h' | h'
        · simp [h'] at h0 h1; rw [h0] at h1; cases h1
        · simp [Array.getElem?_eq_none h'] at h1
      have h2 := wpOp_putIf hoj (hfree j oj hoj hji hjun hnot) (fun cs b => hsel i oi cs b hi) (fun cs b => hsel j oj cs b hoj) hQ hy h1
      have hfree' : ∀ k ok, ops[k]? = some ok → k ≠ i → (listed.setIfInBounds j true).getD k true = false →
          (∀ e ∈ ok.after, Region.binds md e = true → e.on ≠ i) → oi.apart ops ok = true := fun k ok hk hki hun hno => by
        refine hfree k ok hk hki ?_ hno
        by_cases hjk : j = k
        · subst hjk; exact hjun
        · rw [getD_set_ne true hjk] at hun; exact hun
      have hD' : ∀ d ∈ D, (listed.setIfInBounds j true).getD d false = false := fun d hd => by
        rw [getDf_set_ne (fun e => hjD (by rw [e]; exact hd))]; exact hD d hd
      have hC' : ∀ k ∈ C, (listed.setIfInBounds j true).getD k true = true := fun k hk => by
        by_cases hjk : j = k
        · subst hjk; rw [hC j hk] at hjun; cases hjun
        · rw [getD_set_ne true hjk]; exact hC k hk
      refine wpOp_mono (fun a' w' h3 => ⟨fun _ => h3.2.1 hjB, ih (listed.setIfInBounds j true) a' w' hC' hfree' hD' (ready_mono hr (Ne.symm hji)) h3.1 (h3.2.1 hjB) ?_⟩) h2
      rw [Array.setIfInBounds_comm _ _ hji]
      exact h3.2.2
theorem wpAnyB_firstW {i : Nat} {oi : Oper} {v : Value} (hi : ops[i]? = some oi) (hsel : ∀ (j : Nat) (o : Oper) cs b, ops[j]? = some o → o.op ≠ .select cs b)
    (hQ : ∀ c a w, Q (.panic c) (a.put oi.dst v) w → Q (.panic c) a w) :
    ∀ (fuel : Nat) (listed : Array Bool) (a : Act) (w : World),
      (∀ j oj, ops[j]? = some oj → j ≠ i → listed.getD j true = false → (∀ e ∈ oj.after, Region.binds md e = true → e.on ≠ i) → oi.apart ops oj = true) →
      i ∈ Region.ready md ops listed → YieldsIf P ops (fun _ => True) oi v a → (i ∉ B) →
      wpAnyB P md ops Q S B fuel (listed.setIfInBounds i true) (a.put oi.dst v) w → wpAnyB P md ops Q S B (fuel + 1) listed a w := by
  intro fuel
  induction fuel with
  | zero =>
    intro listed a w _ hr hy hB H
    refine ⟨fun h => (by rw [h] at hr; cases hr), fun j hj => ?_⟩
    by_cases hji : j = i
    · subst hji; exact hy.wpOp hi trivial ⟨fun h => absurd h hB, H⟩
    · have := ready_mono hj hji
      rw [H.1] at this
      cases this
  | succ fuel ih =>
    intro listed a w hfree hr hy hB H
    refine ⟨fun h => (by rw [h] at hr; cases hr), fun j hj => ?_⟩
    by_cases hji : j = i
    · subst hji; exact hy.wpOp hi trivial ⟨fun h => absurd h hB, H⟩
    · have h1 := H.2 j (ready_mono hj hji)
      obtain ⟨hjun, oj, hoj, hall⟩ := mem_ready.1 hj
      have hnot : ∀ e ∈ oj.after, Region.binds md e = true → e.on ≠ i := fun e he hb heq => by
        have h1 := hall e he hb
        have h0 := (mem_ready.1 hr).1
        rw [heq] at h1
        rcases Nat.lt_or_ge i listed.size with h' | h'
        · simp [h'] at h0 h1; rw [h0] at h1; cases h1
        · simp [Array.getElem?_eq_none h'] at h1
      have h2 := wpOp_putIf hoj (hfree j oj hoj hji hjun hnot) (fun cs b => hsel i oi cs b hi) (fun cs b => hsel j oj cs b hoj) hQ hy h1
      have hfree' : ∀ k ok, ops[k]? = some ok → k ≠ i → (listed.setIfInBounds j true).getD k true = false →
          (∀ e ∈ ok.after, Region.binds md e = true → e.on ≠ i) → oi.apart ops ok = true := fun k ok hk hki hun hno => by
        refine hfree k ok hk hki ?_ hno
        by_cases hjk : j = k
        · subst hjk; exact hjun
        · rw [getD_set_ne true hjk] at hun; exact hun
      refine wpOp_mono (fun a' w' h3 => ⟨h3.2.1, ih (listed.setIfInBounds j true) a' w' hfree' (ready_mono hr (Ne.symm hji)) h3.1 hB ?_⟩) h2
      rw [Array.setIfInBounds_comm _ _ hji]
      exact h3.2.2
theorem get_drop {i : Nat} {o : Oper} (h : (ops.toList.drop i).head? = some o) : ops[i]? = some o := by
  rw [List.head?_drop] at h
  simpa using h
/-- What yields in whatever world, first. -/
theorem wpAnyB_takeW {i : Nat} {oi : Oper} {v : Value} {fuel : Nat} {listed : Array Bool} {a : Act} {w : World} (hi : (ops.toList.drop i).head? = some oi)
    (hs : Region.noSelect ops = true) (hf : Region.free md ops listed i = true) (hr : (Region.ready md ops listed).contains i = true) (hB : B.contains i = false)
    (hQ : ∀ c a w, Q (.panic c) (a.put oi.dst v) w → Q (.panic c) a w) (hw : Region.wanted oi (yielded ops a.tmps) = true) (hy : ∀ w, (execOp a.eval oi).run P w = .ok (.value v) w)
    (h : wpAnyB P md ops Q S B fuel (listed.setIfInBounds i true) (a.put oi.dst v) w) : wpAnyB P md ops Q S B (fuel + 1) listed a w :=
  wpAnyB_firstW (get_drop hi) (Region.noSelect_spec hs) hQ fuel listed a w (Region.free_spec (get_drop hi) hf) (by simpa using hr) (.inl ⟨hw, fun w _ => hy w⟩) (fun h => by rw [← List.contains_iff_mem, hB] at h; cases h) h
def coverB (B D : List Nat) (i n : Nat) (l : Array Bool) : Bool := (List.range n).all fun j => (B.contains j || D.contains j || j == i) || l.getD j true
theorem coverB_spec {D : List Nat} {i n : Nat} {l : Array Bool} (h : coverB B D i n l = true) (j : Nat) (hj : j < n) : (j ∈ B ∨ j ∈ D ∨ j = i) ∨ j ∈ (List.range n).filter fun k => l.getD k true := by
  have h1 := List.all_eq_true.1 h j (List.mem_range.2 hj)
  rw [Bool.or_eq_true] at h1
  rcases h1 with h1 | h1
  · simp only [Bool.or_eq_true, List.contains_iff_mem, beq_iff_eq] at h1
    rcases h1 with (h1 | h1) | h1
    · exact .inl (.inl h1)
    · exact .inl (.inr (.inl h1))
    · exact .inl (.inr (.inr h1))
  · exact .inr (List.mem_filter.2 ⟨List.mem_range.2 hj, h1⟩)
/-- Number i first. -/
theorem wpAnyB_take {i : Nat} {oi : Oper} (D : List Nat) {v : Value} {fuel : Nat} {listed : Array Bool} {a : Act} {w : World} (hi : (ops.toList.drop i).head? = some oi)
    (hs : Region.noSelect ops = true) (hf : Region.free md ops listed i = true) (hr : (Region.ready md ops listed).contains i = true)
    (hdep : depB md ops i D = true) (hcov : coverB B D i ops.size listed = true) (hD : (D.all fun d => !(listed.getD d false)) = true)
    (hQ : ∀ c a w, Q (.panic c) (a.put oi.dst v) w → Q (.panic c) a w) (hy : YieldsIf P ops S oi v a) (hS : S w)
    (h : wpAnyB P md ops Q S B fuel (listed.setIfInBounds i true) (a.put oi.dst v) w) : wpAnyB P md ops Q S B (fuel + 1) listed a w :=
  wpAnyB_first (get_drop hi) (Region.noSelect_spec hs) hQ hdep _ (coverB_spec hcov) fuel listed a w (fun j hj => (List.mem_filter.1 hj).2) (Region.free_spec (get_drop hi) hf) (fun d hd => by simpa using List.all_eq_true.1 hD d hd) (by simpa using hr) hy hS h
/-- One alone may come up. -/
theorem wpAnyB_one {i : Nat} {o : Oper} {fuel : Nat} {listed : Array Bool} {a : Act} {w : World} (hi : (ops.toList.drop i).head? = some o) (hr : Region.ready md ops listed = [i])
    (h : ∀ K : Act → World → Prop, (∀ a' w', (i ∈ B → S w') → wpAnyB P md ops Q S B fuel (listed.setIfInBounds i true) a' w' → K a' w') → if Region.wanted o (yielded ops a.tmps) = true then Oper.wp P o a w K Q else K (a.put o.dst undef) w) :
    wpAnyB P md ops Q S B (fuel + 1) listed a w := by
  refine ⟨fun h0 => (by rw [hr] at h0; cases h0), fun j hj => ?_⟩
  rw [hr, List.mem_singleton] at hj
  subst hj
  unfold wpOp
  simp only [get_drop hi]
  have h1 := h (fun a' w' => (j ∈ B → S w') ∧ wpAnyB P md ops Q S B fuel (listed.setIfInBounds j true) a' w') (fun a' w' h2 h3 => ⟨h2, h3⟩)
  split
  · rename_i hw; rw [if_pos hw] at h1; exact .inl h1
  · rename_i hw; rw [if_neg hw] at h1; exact h1
/-- From k on the order is forced. -/
def forcedB (md : Region.Mode) (ops : Array Oper) : Nat → Nat → Array Bool → Bool
  | 0, _, l => (Region.ready md ops l).isEmpty
  | n + 1, k, l => (match Region.ready md ops l with | [j] => j == k | _ => false) && forcedB md ops n (k + 1) (l.setIfInBounds k true)
theorem wpAnyB_tail : ∀ (n k : Nat) (listed : Array Bool) (L : List Oper) (a : Act) (w : World), forcedB md ops n k listed = true → ops.toList.drop k = L → L.length = n → (B.all fun j => decide (j < k)) = true →
    wpList P ops Q L a w → wpAnyB P md ops Q S B n listed a w
  | 0, k, listed, L, a, w, hf, hL, hn, hB, h => by
    have : L = [] := List.length_eq_zero_iff.1 hn
    subst this
    refine ⟨?_, h⟩
    simpa [forcedB] using hf
  | n + 1, k, listed, L, a, w, hf, hL, hn, hB, h => by
    obtain ⟨o, rest, rfl⟩ : ∃ o rest, L = o :: rest := by
      cases L with
      | nil => cases hn
      | cons o rest => exact ⟨o, rest, rfl⟩
    unfold forcedB at hf
    simp only [Bool.and_eq_true] at hf
    have hr : Region.ready md ops listed = [k] := by
      have h1 := hf.1
      split at h1
      · rename_i j hj; rw [hj, eq_of_beq h1]
      · cases h1
    have ho : ops[k]? = some o := by
      have h1 : (ops.toList.drop k)[0]? = some o := by rw [hL]; rfl
      simpa using h1
    have hrest : ops.toList.drop (k + 1) = rest := by
      have h1 : (ops.toList.drop k).drop 1 = rest := by rw [hL]; rfl
      rw [List.drop_drop] at h1
      exact h1
    have hkB : k ∉ B := fun hk => by
      have := List.all_eq_true.1 hB k hk
      simp at this
    have hB' : (B.all fun j => decide (j < k + 1)) = true := List.all_eq_true.2 fun j hj => by
      have := List.all_eq_true.1 hB j hj
      simp only [decide_eq_true_eq] at this ⊢
      omega
    refine ⟨fun h0 => (by rw [hr] at h0; cases h0), fun j hj => ?_⟩
    rw [hr, List.mem_singleton] at hj
    subst hj
    have ih := fun a' w' => wpAnyB_tail n (j + 1) (listed.setIfInBounds j true) rest a' w' hf.2 hrest (by simpa using hn) hB'
    unfold wpOp
    simp only [ho]
    unfold wpList at h
    split
    · rename_i hw
      rw [if_pos hw] at h
      rcases h with h | h
      · exact .inl (Oper.wp_mono (fun a' w' h2 => ⟨fun hk => absurd hk hkB, ih a' w' h2⟩) h)
      · exact .inr h
    · rename_i hw
      rw [if_neg hw] at h
      exact ⟨fun hk => absurd hk hkB, ih _ _ h⟩
/-- The beginning. -/
theorem wp_region_B (S : World → Prop) (B : List Nat) {id : Nat} {a : Act} {w : World} (hm : P.follows .mixedOrders = true)
    (h : wpAnyB P .any ops Q S B ops.size (Array.replicate ops.size false) a w.drew) : (Code.region id ops true).wp P Q a w :=
  wp_region_any hm (wpAny_of_B _ _ _ _ h)
/-- A load of a whole block. -/
theorem yieldsIf_row {o : Oper} {a : Act} (hw : Region.wanted o (yielded ops a.tmps) = true) (ty : TypeId) (x : Operand) (ho : o.op = .load ty x)
    (g : Nat) (hx : a.eval x = .pointer (some ⟨g, 0, none⟩)) (t : TypeId) (cs : Array Value) (fr : Nat × Nat) (d : TypeDesc) (hg : ∀ w, S w → w.heap[g]? = some (.cells cs t fr))
    (hu : P.underlying ty = some d) (hd : (match d with | .struct _ | .array _ _ => true | _ => false) = true) (hi : (P.info? ty).map (·.size) = some cs.size) : YieldsIf P ops S o (.agg cs) a :=
  .inl ⟨hw, fun w hS => by
    unfold execOp
    simp only [ho, hx, Instr.loadAt, Instr.sureAddr, Sem.run_bind, Sem.run_pure, Result.andThen_ok, run_loadVar_row w g t ty cs fr d (hg w hS) hu hd hi]⟩
/-- a row of one element, by a literal. -/
theorem wp_build1 {o : Oper} {a : Act} {w : World} {K : Act → World → Prop} (t e : TypeId) (x : Operand) (ho : o.op = .buildSlice t 1 #[(0, x)]) (cells : Array Value) (hx : a.eval x = .agg cells) (ie : TypeInfo) (z : Value)
    (hu : P.underlying t = some (.slice e)) (hie : P.info? e = some ie) (hz : ie.zero = some z) (hsmall : ¬ 1 * ie.size > 2 ^ 24) (hpos : ¬ 1 * ie.size = 0)
    (hf : Instr.fill (fun i => some (i * ie.size, ie.size)) ((Array.range (1 * ie.size)).map (z.cells[· % z.cells.size]!)) [(0, .agg cells)] = some cells)
    (h : K (a.put o.dst (.slice (some ⟨w.heap.size, 0, none⟩) 1 1)) (w.alloc (.cells cells e))) : o.wp P a w K Q :=
  wp_buildSlice t e 1 #[(0, x)] ho cells ie z hu hie hz hsmall hpos (by
    have e : (#[(0, x)].map fun (i, x) => (i, a.eval x)).toList = [(0, .agg cells)] := by simp [hx]
    rw [e]
    exact hf) h
theorem step_wp {o : Oper} {a : Act} {w : World} {K : Act → World → Prop} {E : Prop} (hg : o.guard = none) (h : Oper.wp P o a w K Q) : if Region.wanted o (yielded ops a.tmps) = true then Oper.wp P o a w K Q else E := by
  rw [if_pos (by simp [Region.wanted, hg])]
  exact h
end
end Go.Proofs.YtbikdlcjbigafaaGreatDoor
