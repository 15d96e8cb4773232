/-
  A region that draws its order, whatever the order, up to a forced end: the end as a plain list.
-/
import Derived.Test.YtbikdlcjbigafaaGreatDoorJOrdB
import Derived.Test.YtbikdlcjbigafaaGreatDoorJOrdF
namespace Go.Proofs.YtbikdlcjbigafaaGreatDoor
set_option linter.unusedVariables false
set_option linter.unusedSimpArgs false
open Go.ChangeShapes Go.WideShapes Go.ChangeAt Go.RowKit Civ

section
variable {P : Program} {ops : Array Oper} {Q : Exit → Act → World → Prop} {md : Region.Mode}
/-- Each ahead of i is awaited by i, or by another one between them. -/
def allB (md : Region.Mode) (ops : Array Oper) (i : Nat) : Bool :=
  (List.range i).all fun j => waitsB md ops i j || (List.range i).any fun j' => decide (j < j') && waitsB md ops j' j
def headB (k n : Nat) : Array Bool := ((List.range n).map fun j => decide (j < k)).toArray
theorem headB_at {k n j : Nat} : (headB k n).getD j false = (decide (j < n) && decide (j < k)) := by
  unfold headB
  rw [Array.getD_eq_getD_getElem?]
  simp only [List.getElem?_toArray, List.getElem?_map]
  by_cases h : j < n
  · simp [List.getElem?_range h, h]
  · rw [List.getElem?_eq_none (by simpa using h)]
    simp [h]
theorem wpAny_freeT {k : Nat} {a0 : Act} {w0 : World} {F : Nat → Value → World → Prop} (hk : k ≤ ops.size) (hok : freeOk md ops a0.tmps.size = true) (hcov : ((List.range ops.size).all fun i => decide (i < k) || allB md ops i) = true)
    (hst : ∀ i v w w', F i v w → Below w.heap.size w w' → F i v w')
    (hop : FreeAll P md ops a0 w0 F 0 (ops.toList.take k))
    (hQ : ∀ (val : Nat → Value) (w : World), Below w0.heap.size w0 w → (∀ j, j < k → F j (val j) w) → wpAny P md ops Q (ops.size - k) (headB k ops.size) (putAll (ops.toList.take k) 0 val a0) w) :
    ∀ (fuel : Nat) (listed : Array Bool) (val : Nat → Value) (a : Act) (w : World), FInv P md ops a0 w0 F listed val a w → (∀ j, k ≤ j → listed.getD j false = false) → unl listed.toList = fuel → wpAny P md ops Q fuel listed a w := by
  have hok' : ∀ i o, ops[i]? = some o → o.guard = none ∧ (∀ e ∈ o.after, Region.binds md e = true → e.on < i) ∧ ∀ t, o.dst = some t → t < a0.tmps.size ∧ ∀ j, j < i → writesB ops j t = false := by
    intro i o ho
    have h1 := List.all_eq_true.1 hok i (List.mem_range.2 (Array.getElem?_eq_some_iff.1 ho).1)
    simp only [ho, Bool.and_eq_true] at h1
    obtain ⟨⟨h2, h3⟩, h4⟩ := h1
    refine ⟨by simpa using h2, fun e he hb => ?_, fun t ht => ?_⟩
    · have := (Array.all_eq_true_iff_forall_mem.1 h3) e he
      simpa [hb] using this
    · rw [ht] at h4
      simp only [Bool.and_eq_true, decide_eq_true_eq, List.all_eq_true, List.mem_range, Bool.not_eq_true'] at h4
      exact ⟨h4.1, h4.2⟩
  have huniq : ∀ j j' t, writesB ops j t = true → writesB ops j' t = true → j = j' := by
    intro j j' t h1 h2
    obtain ⟨o, ho, hd⟩ := writesB_spec h1
    obtain ⟨o', ho', hd'⟩ := writesB_spec h2
    rcases Nat.lt_trichotomy j j' with h | h | h
    · have := ((hok' j' o' ho').2.2 t hd').2 j h
      rw [this] at h1; cases h1
    · exact h
    · have := ((hok' j o ho).2.2 t hd).2 j' h
      rw [this] at h2; cases h2
  have htl : ∀ j o, (ops.toList.take k)[j]? = some o → ops[j]? = some o ∧ j < k := fun j o h => by
    rw [List.getElem?_take] at h
    split at h
    · exact ⟨by simpa using h, by assumption⟩
    · cases h
  -- all of the head have come: the end is forced
  have hend : ∀ (fuel : Nat) (listed : Array Bool) (val : Nat → Value) (a : Act) (w : World), FInv P md ops a0 w0 F listed val a w → (∀ j, k ≤ j → listed.getD j false = false) → unl listed.toList = fuel → (∀ j, j < k → listed.getD j false = true) → wpAny P md ops Q fuel listed a w := by
    intro fuel listed val a w inv htail hu hall
    have hq := hQ val w inv.bl (fun j hj => inv.ph j (hall j hj))
    have hlis : listed = headB k ops.size := by
      refine Array.ext (by rw [inv.ls]; simp [headB]) fun j h1 h2 => ?_
      have e1 : listed[j] = listed.getD j false := by simp [h1]
      have e2 : (headB k ops.size)[j] = (headB k ops.size).getD j false := by simp [h2]
      rw [e1, e2, headB_at]
      have hj : j < ops.size := by rw [← inv.ls]; exact h1
      by_cases h : j < k
      · rw [hall j h]; simp [h, hj]
      · rw [htail j (by omega)]; simp [h]
    have hfu : fuel = ops.size - k := by
      rw [← hu, hlis]
      unfold unl headB
      have : ∀ n : Nat, ((List.range n).map fun j => decide (j < k)).count false = n - k := by
        intro n
        induction n with
        | zero => rw [Nat.zero_sub]; rfl
        | succ n ih =>
          rw [List.range_succ, List.map_append, List.count_append, ih]
          by_cases h : n < k
          · have : decide (n < k) = true := by simp [h]
            simp only [List.map_cons, List.map_nil, this]
            show n - k + 0 = _
            omega
          · have : decide (n < k) = false := by simp [h]
            simp only [List.map_cons, List.map_nil, this]
            show n - k + 1 = _
            omega
      exact this _
    have e : a = putAll (ops.toList.take k) 0 val a0 := by
      obtain ⟨s1, s2⟩ := putAll_size (ops.toList.take k) 0 val a0
      obtain ⟨t, d⟩ := a
      have ht : t = (putAll (ops.toList.take k) 0 val a0).tmps := by
        refine Array.ext (inv.sz.trans s1.symm) fun q h1 h2 => ?_
        have g : ∀ (x : Array Value) (h : q < x.size), x[q] = x.getD q undef := fun x h => by simp [h]
        rw [g _ h1, g _ h2]
        by_cases hw : ∃ j, j < k ∧ writesB ops j q = true
        · obtain ⟨j, hjk, hj⟩ := hw
          obtain ⟨o, ho, hd⟩ := writesB_spec hj
          have h3 := inv.wr j q hj (hall j hjk)
          have h4 := putAll_at (ops.toList.take k) 0 val a0 q j o (by rw [List.getElem?_take, if_pos hjk]; simpa using ho) hd (by rw [← inv.sz]; exact h1) (fun j' o' hj' hd' => by
            have := huniq j' j q (writesB_of (htl j' o' hj').1 hd') hj
            omega)
          rw [Nat.zero_add] at h4
          exact h3.trans h4.symm
        · have h3 := inv.un q (fun j hj => by
            by_cases h : j < k
            · exact absurd ⟨j, h, hj⟩ hw
            · exact htail j (by omega))
          have h4 := putAll_far (ops.toList.take k) 0 val a0 q (fun o ho e => by
            obtain ⟨j, hj, hj2⟩ := List.mem_iff_getElem.1 ho
            have h5 := htl j o (List.getElem?_eq_some_iff.2 ⟨hj, hj2⟩)
            exact hw ⟨j, h5.2, writesB_of h5.1 e⟩)
          exact h3.trans h4.symm
      have hd : d = (putAll (ops.toList.take k) 0 val a0).defers := (show d = a0.defers from inv.df).trans s2.symm
      rw [ht, hd]
    rw [e, hlis, hfu]
    exact hq
  -- none of the end comes up while one of the head has not
  have hwait : ∀ (listed : Array Bool) (val : Nat → Value) (a : Act) (w : World), FInv P md ops a0 w0 F listed val a w → ∀ i ∈ Region.ready md ops listed, k ≤ i → ∀ j, j < k → listed.getD j false = true := by
    intro listed val a w inv i hi hki
    obtain ⟨hun, o, ho, hall⟩ := mem_ready.1 hi
    have his : i < ops.size := (Array.getElem?_eq_some_iff.1 ho).1
    have h1 := List.all_eq_true.1 hcov i (List.mem_range.2 his)
    rw [Bool.or_eq_true] at h1
    have h2 : allB md ops i = true := by
      rcases h1 with h1 | h1
      · have := of_decide_eq_true h1; omega
      · exact h1
    have key : ∀ d j, j < i → i - j ≤ d → listed.getD j false = true := by
      intro d
      induction d with
      | zero => intro j hj hd; omega
      | succ d ih =>
        intro j hj hd
        have h3 := List.all_eq_true.1 h2 j (List.mem_range.2 hj)
        rw [Bool.or_eq_true] at h3
        rcases h3 with h3 | h3
        · obtain ⟨o', ho', e, he, hb, hon⟩ := waitsB_spec h3
          have : o' = o := Option.some.inj (ho'.symm.trans ho)
          subst this
          have := hall e he hb
          rwa [hon] at this
        · obtain ⟨j', hj', h4⟩ := List.any_eq_true.1 h3
          rw [Bool.and_eq_true, decide_eq_true_eq] at h4
          have hj' := List.mem_range.1 hj'
          exact inv.cl j' j (ih j' hj' (by omega)) h4.2
    intro j hj
    exact key (i - j) j (by omega) (Nat.le_refl _)
  -- nothing may come up: all of the head have
  have hstop : ∀ (listed : Array Bool) (val : Nat → Value) (a : Act) (w : World), FInv P md ops a0 w0 F listed val a w → Region.ready md ops listed = [] → ∀ j, j < k → listed.getD j false = true := by
    intro listed val a w inv hr i
    induction i using Nat.strongRecOn with
    | _ i ih =>
      intro hi
      cases hl : listed.getD i false with
      | true => rfl
      | false =>
        exfalso
        have his : i < ops.size := by omega
        have ho : ops[i]? = some ops[i] := by simp [his]
        have hm : i ∈ Region.ready md ops listed := by
          refine mem_ready.2 ⟨?_, ops[i], ho, fun e he hb => ?_⟩
          · have : i < listed.size := by rw [inv.ls]; exact his
            simp [this] at hl ⊢; exact hl
          · have hlt := (hok' i _ ho).2.1 e he hb
            exact ih e.on hlt (by omega)
        rw [hr] at hm
        cases hm
  intro fuel
  induction fuel with
  | zero =>
    intro listed val a w inv htail hu
    have hr : Region.ready md ops listed = [] := by
      cases hr : Region.ready md ops listed with
      | nil => rfl
      | cons i l =>
        exfalso
        have hm : i ∈ Region.ready md ops listed := by rw [hr]; simp
        obtain ⟨h1, h2⟩ := gd_tf (mem_ready.1 hm).1
        have h3 : listed.toList[i]? = some false := by simp [h2] at h1 ⊢; exact h1
        have := unl_set _ _ h3
        omega
    exact hend 0 listed val a w inv htail hu (hstop listed val a w inv hr)
  | succ fuel ih =>
    intro listed val a w inv htail hu
    by_cases hdone : ∀ j, j < k → listed.getD j false = true
    · exact hend _ listed val a w inv htail hu hdone
    · refine ⟨fun hr => absurd (hstop listed val a w inv hr) hdone, fun i hi => ?_⟩
      have hik : i < k := by
        rcases Nat.lt_or_ge i k with h | h
        · exact h
        · exact absurd (hwait listed val a w inv i hi h) hdone
      obtain ⟨hun, o, ho, hall⟩ := mem_ready.1 hi
      obtain ⟨hunf, his⟩ := gd_tf hun
      obtain ⟨hg, -, hdst⟩ := hok' i o ho
      have hF := FreeAll.get hop i o (by rw [List.getElem?_take, if_pos hik]; simpa using ho)
      rw [Nat.zero_add] at hF
      have hrun := hF a.eval w inv.bl (fun _ => rfl) (fun _ => rfl) (fun _ => rfl) (fun t j h => by
        have h : (writesB ops j t && waitsB md ops i j) = true := h
        rw [Bool.and_eq_true] at h
        obtain ⟨o', ho', e, he, hb, hon⟩ := waitsB_spec h.2
        have : o' = o := Option.some.inj (ho'.symm.trans ho)
        subst this
        have hl : listed.getD j false = true := by have := hall e he hb; rwa [hon] at this
        have h3 := inv.wr j t h.1 hl
        show F j (a.tmps.getD t undef) w
        rw [h3]
        exact inv.ph j hl) (fun t h => by
        refine inv.un t fun j hj => ?_
        have h1 := List.all_eq_true.1 h j (List.mem_range.2 (Array.getElem?_eq_some_iff.1 (writesB_spec hj).choose_spec.1).1)
        simp only [hj, Bool.not_true, Bool.false_or, Bool.or_eq_true, beq_iff_eq] at h1
        rcases h1 with rfl | h1
        · exact hunf
        · cases hl : listed.getD j false with
          | false => rfl
          | true =>
            have := inv.cl j i hl h1
            rw [hunf] at this
            cases this)
      unfold wpOp
      simp only [ho]
      have hw : Region.wanted o (yielded ops a.tmps) = true := by simp [Region.wanted, hg]
      rw [if_pos hw]
      refine .inl (hrun.wp fun v w' ⟨hv, hb⟩ => ih _ (fun j => if j = i then v else val j) _ _ ?_ ?_ ?_)
      · have gs : ∀ j, (listed.setIfInBounds i true).getD j false = if j = i then true else listed.getD j false := fun j => by
          by_cases h : i = j
          · subst h; simp [his]
          · rw [getD_set_ne false h, if_neg (fun e => h e.symm)]
        have hvi : ∀ j, listed.getD j false = true → j ≠ i := fun j h e => by subst e; rw [hunf] at h; cases h
        refine ⟨by simp [inv.ls], (put_size _ _ _).trans inv.sz, (put_defers _ _ _).trans inv.df, inv.bl.trans (hb.mono inv.bl.size), fun j hj => ?_, fun j t hj hl => ?_, fun t ht => ?_, fun j q hj hq => ?_⟩
        · rw [gs] at hj
          by_cases h : j = i
          · subst h; simpa using hv
          · rw [if_neg h] at hj
            simpa [h] using hst j _ _ _ (inv.ph j hj) hb
        · rw [gs] at hl
          rw [put_get]
          by_cases h : j = i
          · subst h
            obtain ⟨o', ho', hd'⟩ := writesB_spec hj
            have : o' = o := Option.some.inj (ho'.symm.trans ho)
            subst this
            rw [if_pos ⟨hd', by rw [inv.sz]; exact (hdst t hd').1⟩, if_pos rfl]
          · rw [if_neg h] at hl
            rw [if_neg (fun e => h (huniq j i t hj (writesB_of ho e.1))), if_neg h]
            exact inv.wr j t hj hl
        · rw [put_get, if_neg (fun e => ?_)]
          · refine inv.un t fun j hj => ?_
            have := ht j hj
            rw [gs] at this
            by_cases h : j = i
            · rw [if_pos h] at this; cases this
            · rwa [if_neg h] at this
          · have := ht i (writesB_of ho e.1)
            rw [gs, if_pos rfl] at this
            cases this
        · rw [gs] at hj ⊢
          by_cases h2 : q = i
          · rw [if_pos h2]
          · rw [if_neg h2]
            by_cases h : j = i
            · subst h
              obtain ⟨o', ho', e, he, hbd, hon⟩ := waitsB_spec hq
              have : o' = o := Option.some.inj (ho'.symm.trans ho)
              subst this
              have := hall e he hbd
              rwa [hon] at this
            · rw [if_neg h] at hj
              exact inv.cl j q hj hq
      · intro j hj
        rw [getD_set_ne false (show i ≠ j by omega)]
        exact htail j hj
      · have h3 : listed.toList[i]? = some false := by simp [his] at hunf ⊢; exact hunf
        have := unl_set _ _ h3
        rw [Array.toList_setIfInBounds]
        omega
/-- A region that draws its order up to number k; from there on the order is forced. -/
theorem wp_region_freeT {id : Nat} {a0 : Act} {w : World} (k : Nat) (F : Nat → Value → World → Prop) (hm : P.follows .mixedOrders = true) (n : Nat) (hn : a0.tmps.size = n) (hk : k ≤ ops.size) (hok : freeOk .any ops n = true) (hcov : ((List.range ops.size).all fun i => decide (i < k) || allB .any ops i) = true) (hforce : forcedB .any ops (ops.size - k) k (headB k ops.size) = true)
    (hst : ∀ i v w w', F i v w → Below w.heap.size w w' → F i v w') (hop : FreeAll P .any ops a0 w F 0 (ops.toList.take k))
    (L : List Oper) (hL : ops.toList.drop k = L)
    (hQ : ∀ (val : Nat → Value) (w' : World), Below w.heap.size w w' → (∀ j, j < k → F j (val j) w') → wpList P ops Q L (putAll (ops.toList.take k) 0 val a0) w') : (Code.region id ops true).wp P Q a0 w := by
  subst hn hL
  refine wp_region_any hm ?_
  refine wpAny_freeT hk hok hcov hst hop (fun val w' hb hf => ?_) _ _ (fun _ => undef) _ _ ⟨by simp, rfl, rfl, (Below.refl _ _).drew, fun j hj => ?_, fun j t _ hj => ?_, fun t _ => rfl, fun j i hj _ => ?_⟩ (fun j hj => ?_) (unl_rep _)
  · refine wpAny_of_B (S := fun _ => True) (B := []) _ _ _ _ (wpAnyB_tail _ k _ _ _ _ hforce rfl (by simp) rfl (hQ val w' hb hf))
  all_goals
    rcases Nat.lt_or_ge j ops.size with h | h
    · simp [h] at *
    · simp [Nat.not_lt.2 h] at *
end
end Go.Proofs.YtbikdlcjbigafaaGreatDoor
