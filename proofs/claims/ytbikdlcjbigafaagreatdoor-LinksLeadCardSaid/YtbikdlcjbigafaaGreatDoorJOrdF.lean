/-
  A region that draws its order, whatever the order: each operation on its own, out of what it reads; what each has left holds on.
-/
import Derived.Orders
import Derived.RegionTactic
import Derived.Test.YtbikdlcjbigafaaGreatDoorJBase
namespace Go.Proofs.YtbikdlcjbigafaaGreatDoor
set_option linter.unusedVariables false
set_option linter.unusedSimpArgs false
open Go.ChangeShapes Go.WideShapes Go.ChangeAt Go.RowKit Civ

section
variable {P : Program} {ops : Array Oper} {Q : Exit → Act → World → Prop} {md : Region.Mode}
/-- An operation runs to a value (or a call comes back), and what R says holds then. -/
def OpOk (P : Program) (o : Oper) (ev : Operand → Value) (w : World) (R : Value → World → Prop) : Prop :=
  match (execOp ev o).run P w with
  | .ok (.value v) w' => R v w'
  | .ok (.enter f args) w' => Calls P f args w' fun e w'' => ∃ v, e = .returned v ∧ R v w''
  | .ok .skip w' => R undef w'
  | _ => False
theorem OpOk.wp {o : Oper} {a : Act} {w : World} {R : Value → World → Prop} {K : Act → World → Prop} (h : OpOk P o a.eval w R) (hK : ∀ v w', R v w' → K (a.put o.dst v) w') : o.wp P a w K Q := by
  unfold OpOk at h
  unfold Oper.wp
  generalize (execOp a.eval o).run P w = r at *
  cases r with
  | ok n w' =>
    cases n <;> simp only [Oper.upon] at h ⊢
    case value v => exact hK _ _ h
    case skip => exact hK _ _ h
    case enter f args => exact h.mono fun e w'' ⟨v, he, hr⟩ => by subst he; exact hK _ _ hr
  | halt x w' => simp only at h
def waitsB (md : Region.Mode) (ops : Array Oper) (i j : Nat) : Bool := match ops[i]? with
  | some o => o.after.any fun e => Region.binds md e && e.on == j
  | none => false
theorem waitsB_spec {i j : Nat} (h : waitsB md ops i j = true) : ∃ o, ops[i]? = some o ∧ ∃ e ∈ o.after, Region.binds md e = true ∧ e.on = j := by
  unfold waitsB at h
  split at h
  · rename_i o ho
    obtain ⟨e, he, hb⟩ := Array.any_eq_true'.1 h
    simp only [Bool.and_eq_true, beq_iff_eq] at hb
    exact ⟨o, ho, e, he, hb.1, hb.2⟩
  · cases h
/-- who writes slot t. -/
def writesB (ops : Array Oper) (j t : Nat) : Bool := match ops[j]? with
  | some o => o.dst == some t
  | none => false
theorem writesB_of {j t : Nat} {o : Oper} (h : ops[j]? = some o) (hd : o.dst = some t) : writesB ops j t = true := by
  unfold writesB; rw [h]; simp [hd]
theorem writesB_spec {j t : Nat} (h : writesB ops j t = true) : ∃ o, ops[j]? = some o ∧ o.dst = some t := by
  unfold writesB at h
  split at h
  · rename_i o ho; exact ⟨o, ho, by simpa using h⟩
  · cases h
/-- From whom operation i has slot t: from operation j, for which it waits, or from ahead of the region. -/
def srcB (md : Region.Mode) (ops : Array Oper) (i t : Nat) : Option Nat → Bool
  | some j => writesB ops j t && waitsB md ops i j
  | none => (List.range ops.size).all fun j => !(writesB ops j t) || (j == i || waitsB md ops j i)
/-- the region may be taken so: no guards, no selects; edges lead back; each slot is written once, within the frame. -/
def freeOk (md : Region.Mode) (ops : Array Oper) (n : Nat) : Bool :=
  (List.range ops.size).all fun i => match ops[i]? with
    | none => false
    | some o => o.guard.isNone && (o.after.all fun e => !(Region.binds md e) || decide (e.on < i)) && (match o.dst with
        | some t => decide (t < n) && (List.range i).all fun j => !(writesB ops j t)
        | none => true)
/-- What operation i, of text o, is asked for. -/
def FreeOp (P : Program) (md : Region.Mode) (ops : Array Oper) (a0 : Act) (w0 : World) (F : Nat → Value → World → Prop) (i : Nat) (o : Oper) : Prop :=
  ∀ (ev : Operand → Value) (w : World), Below w0.heap.size w0 w → (∀ v, ev (.const v) = v) → (∀ f, ev (.func f) = .func (.func f) #[] #[]) → (∀ g, ev (.global g) = .pointer (some ⟨g, 0, none⟩)) →
    (∀ t j, srcB md ops i t (some j) = true → F j (ev (.tmp t)) w) → (∀ t, srcB md ops i t none = true → ev (.tmp t) = a0.tmps.getD t undef) →
    OpOk P o ev w fun v w' => F i v w' ∧ Below w.heap.size w w'
def FreeAll (P : Program) (md : Region.Mode) (ops : Array Oper) (a0 : Act) (w0 : World) (F : Nat → Value → World → Prop) : Nat → List Oper → Prop
  | _, [] => True
  | i, o :: l => FreeOp P md ops a0 w0 F i o ∧ FreeAll P md ops a0 w0 F (i + 1) l
theorem FreeAll.get {a0 : Act} {w0 : World} {F : Nat → Value → World → Prop} : ∀ {l : List Oper} {k : Nat}, FreeAll P md ops a0 w0 F k l → ∀ (i : Nat) (o : Oper), l[i]? = some o → FreeOp P md ops a0 w0 F (k + i) o
  | [], k, h, i, o, ho => by cases ho
  | x :: l, k, h, 0, o, ho => by
    have : x = o := by simpa using ho
    subst this
    exact h.1
  | x :: l, k, h, i + 1, o, ho => by
    have := FreeAll.get h.2 i o (by simpa using ho)
    rw [show k + (i + 1) = k + 1 + i by omega]
    exact this
/-- what stands in the frame behind it. -/
def putAll : List Oper → Nat → (Nat → Value) → Act → Act
  | [], _, _, a => a
  | o :: l, k, val, a => putAll l (k + 1) val (a.put o.dst (val k))
theorem put_size (a : Act) (d : Option Tmp) (v : Value) : (a.put d v).tmps.size = a.tmps.size := by
  cases d <;> simp [Act.put]
theorem put_defers (a : Act) (d : Option Tmp) (v : Value) : (a.put d v).defers = a.defers := by
  cases d <;> rfl
theorem put_get (a : Act) (d : Option Tmp) (v : Value) (t : Nat) : (a.put d v).tmps.getD t undef = if d = some t ∧ t < a.tmps.size then v else a.tmps.getD t undef := by
  cases d with
  | none => simp [Act.put]
  | some d =>
    simp only [Act.put, Array.getD_eq_getD_getElem?, Array.getElem?_setIfInBounds, Option.some.injEq]
    by_cases h : d = t
    · subst h
      by_cases h2 : d < a.tmps.size
      · simp [h2]
      · simp [h2]
    · simp [h]
theorem putAll_size : ∀ (l : List Oper) (k : Nat) (val : Nat → Value) (a : Act), (putAll l k val a).tmps.size = a.tmps.size ∧ (putAll l k val a).defers = a.defers
  | [], _, _, a => ⟨rfl, rfl⟩
  | o :: l, k, val, a => by
    obtain ⟨h1, h2⟩ := putAll_size l (k + 1) val (a.put o.dst (val k))
    exact ⟨h1.trans (put_size _ _ _), h2.trans (put_defers _ _ _)⟩
theorem putAll_far : ∀ (l : List Oper) (k : Nat) (val : Nat → Value) (a : Act) (t : Nat), (∀ o ∈ l, o.dst ≠ some t) → (putAll l k val a).tmps.getD t undef = a.tmps.getD t undef
  | [], _, _, a, t, _ => rfl
  | o :: l, k, val, a, t, h => by
    refine (putAll_far l (k + 1) val _ t fun o' ho' => h o' (List.mem_cons_of_mem _ ho')).trans ?_
    rw [put_get, if_neg (fun e => h o (List.mem_cons_self ..) e.1)]
theorem putAll_at : ∀ (l : List Oper) (k : Nat) (val : Nat → Value) (a : Act) (t i : Nat) (o : Oper), l[i]? = some o → o.dst = some t → t < a.tmps.size → (∀ j o', l[j]? = some o' → o'.dst = some t → j ≤ i) → (putAll l k val a).tmps.getD t undef = val (k + i)
  | [], _, _, a, t, i, o, ho, _, _, _ => by cases ho
  | x :: l, k, val, a, t, 0, o, ho, hd, ht, hu => by
    have : x = o := by simpa using ho
    subst this
    refine (putAll_far l (k + 1) val _ t fun o' ho' e => ?_).trans ?_
    · obtain ⟨j, hj, hj2⟩ := List.mem_iff_getElem.1 ho'
      have := hu (j + 1) o' (by simp [← hj2]) e
      omega
    · rw [put_get, if_pos ⟨hd, ht⟩]; rfl
  | x :: l, k, val, a, t, i + 1, o, ho, hd, ht, hu => by
    have := putAll_at l (k + 1) val (a.put x.dst (val k)) t i o (by simpa using ho) hd (by rw [put_size]; exact ht) (fun j o' hj he => by
      have := hu (j + 1) o' (by simpa using hj) he
      omega)
    rw [show k + (i + 1) = k + 1 + i by omega]
    exact this
def unl (l : List Bool) : Nat := l.count false
theorem unl_set : ∀ (l : List Bool) (i : Nat), l[i]? = some false → unl (l.set i true) + 1 = unl l
  | [], i, h => by cases h
  | x :: l, 0, h => by
    have : x = false := by simpa using h
    subst this
    simp [unl]
  | x :: l, i + 1, h => by
    have := unl_set l i (by simpa using h)
    unfold unl at *
    simp only [List.set_cons_succ, List.count_cons]
    omega
/-- the state between two operations. -/
structure FInv (P : Program) (md : Region.Mode) (ops : Array Oper) (a0 : Act) (w0 : World) (F : Nat → Value → World → Prop) (listed : Array Bool) (val : Nat → Value) (a : Act) (w : World) : Prop where
  ls : listed.size = ops.size
  sz : a.tmps.size = a0.tmps.size
  df : a.defers = a0.defers
  bl : Below w0.heap.size w0 w
  ph : ∀ j, listed.getD j false = true → F j (val j) w
  wr : ∀ j t, writesB ops j t = true → listed.getD j false = true → a.tmps.getD t undef = val j
  un : ∀ t, (∀ j, writesB ops j t = true → listed.getD j false = false) → a.tmps.getD t undef = a0.tmps.getD t undef
  cl : ∀ j i, listed.getD j false = true → waitsB md ops j i = true → listed.getD i false = true
theorem gd_tf {listed : Array Bool} {i : Nat} (h : listed.getD i true = false) : listed.getD i false = false ∧ i < listed.size := by
  rcases Nat.lt_or_ge i listed.size with h' | h'
  · simp [h'] at h ⊢; exact h
  · simp [Array.getElem?_eq_none h'] at h
theorem wpAny_free {a0 : Act} {w0 : World} {F : Nat → Value → World → Prop} (hok : freeOk md ops a0.tmps.size = true) (hst : ∀ i v w w', F i v w → Below w.heap.size w w' → F i v w')
    (hop : FreeAll P md ops a0 w0 F 0 ops.toList)
    (hQ : ∀ (val : Nat → Value) (w : World), Below w0.heap.size w0 w → (∀ j, j < ops.size → F j (val j) w) → Q .normal (putAll ops.toList 0 val a0) w) :
    ∀ (fuel : Nat) (listed : Array Bool) (val : Nat → Value) (a : Act) (w : World), FInv P md ops a0 w0 F listed val a w → unl listed.toList = fuel → wpAny P md ops Q fuel listed a w := by
  have hok' : ∀ i o, ops[i]? = some o → o.guard = none ∧ (∀ e ∈ o.after, Region.binds md e = true → e.on < i) ∧ ∀ t, o.dst = some t → t < a0.tmps.size ∧ ∀ j, j < i → writesB ops j t = false := by
    intro i o ho
    have h1 := List.all_eq_true.1 hok i (List.mem_range.2 (Array.getElem?_eq_some_iff.1 ho).1)
    simp only [ho, Bool.and_eq_true] at h1
    obtain ⟨⟨h2, h3⟩, h4⟩ := h1
    refine ⟨by simpa using h2, fun e he hb => ?_, fun t ht => ?_⟩
    · have := (Array.all_eq_true_iff_forall_mem.1 h3) e he
      simpa [hb] using this
    · rw [ht] at h4
      simp only [Bool.and_eq_true, decide_eq_true_eq, List.all_eq_true, List.mem_range, Bool.not_eq_true'] at h4
      exact ⟨h4.1, h4.2⟩
  have huniq : ∀ j j' t, writesB ops j t = true → writesB ops j' t = true → j = j' := by
    intro j j' t h1 h2
    obtain ⟨o, ho, hd⟩ := writesB_spec h1
    obtain ⟨o', ho', hd'⟩ := writesB_spec h2
    rcases Nat.lt_trichotomy j j' with h | h | h
    · have := ((hok' j' o' ho').2.2 t hd').2 j h
      rw [this] at h1; cases h1
    · exact h
    · have := ((hok' j o ho).2.2 t hd).2 j' h
      rw [this] at h2; cases h2
  -- nothing may come up: all have
  have hend : ∀ (listed : Array Bool) (val : Nat → Value) (a : Act) (w : World), FInv P md ops a0 w0 F listed val a w → Region.ready md ops listed = [] → Q .normal a w := by
    intro listed val a w inv hr
    have hall : ∀ i, i < ops.size → listed.getD i false = true := by
      intro i
      induction i using Nat.strongRecOn with
      | _ i ih =>
        intro hi
        cases hl : listed.getD i false with
        | true => rfl
        | false =>
          exfalso
          have ho : ops[i]? = some ops[i] := by simp [hi]
          have hm : i ∈ Region.ready md ops listed := by
            refine mem_ready.2 ⟨?_, ops[i], ho, fun e he hb => ?_⟩
            · have : i < listed.size := by rw [inv.ls]; exact hi
              simp [this] at hl ⊢; exact hl
            · have hlt := (hok' i _ ho).2.1 e he hb
              exact ih e.on hlt (by omega)
          rw [hr] at hm
          cases hm
    have hq := hQ val w inv.bl (fun j hj => inv.ph j (hall j hj))
    have e : a = putAll ops.toList 0 val a0 := by
      obtain ⟨s1, s2⟩ := putAll_size ops.toList 0 val a0
      obtain ⟨t, d⟩ := a
      have ht : t = (putAll ops.toList 0 val a0).tmps := by
        refine Array.ext (inv.sz.trans s1.symm) fun k h1 h2 => ?_
        have g : ∀ (x : Array Value) (h : k < x.size), x[k] = x.getD k undef := fun x h => by simp [h]
        rw [g _ h1, g _ h2]
        by_cases hw : ∃ j, writesB ops j k = true
        · obtain ⟨j, hj⟩ := hw
          obtain ⟨o, ho, hd⟩ := writesB_spec hj
          have hjs : j < ops.size := (Array.getElem?_eq_some_iff.1 ho).1
          have h3 := inv.wr j k hj (hall j hjs)
          have h4 := putAll_at ops.toList 0 val a0 k j o (by simpa using ho) hd (by rw [← inv.sz]; exact h1) (fun j' o' hj' hd' => by
            have := huniq j' j k (writesB_of (by simpa using hj') hd') hj
            omega)
          rw [Nat.zero_add] at h4
          exact h3.trans h4.symm
        · have h3 := inv.un k (fun j hj => absurd ⟨j, hj⟩ hw)
          have h4 := putAll_far ops.toList 0 val a0 k (fun o ho e => by
            obtain ⟨j, hj, hj2⟩ := List.mem_iff_getElem.1 ho
            exact hw ⟨j, writesB_of (o := o) (by rw [← hj2]; simp at hj ⊢) e⟩)
          exact h3.trans h4.symm
      have hd : d = (putAll ops.toList 0 val a0).defers := (show d = a0.defers from inv.df).trans s2.symm
      rw [ht, hd]
    rw [e]
    exact hq
  intro fuel
  induction fuel with
  | zero =>
    intro listed val a w inv hu
    have hr : Region.ready md ops listed = [] := by
      cases hr : Region.ready md ops listed with
      | nil => rfl
      | cons i l =>
        exfalso
        have hm : i ∈ Region.ready md ops listed := by rw [hr]; simp
        obtain ⟨h1, h2⟩ := gd_tf (mem_ready.1 hm).1
        have h3 : listed.toList[i]? = some false := by simp [h2] at h1 ⊢; exact h1
        have := unl_set _ _ h3
        omega
    exact ⟨hr, hend _ _ _ _ inv hr⟩
  | succ fuel ih =>
    intro listed val a w inv hu
    refine ⟨hend _ _ _ _ inv, fun i hi => ?_⟩
    obtain ⟨hun, o, ho, hall⟩ := mem_ready.1 hi
    obtain ⟨hunf, his⟩ := gd_tf hun
    obtain ⟨hg, -, hdst⟩ := hok' i o ho
    have hF := FreeAll.get hop i o (by simpa using ho)
    rw [Nat.zero_add] at hF
    have hrun := hF a.eval w inv.bl (fun _ => rfl) (fun _ => rfl) (fun _ => rfl) (fun t j h => by
      have h : (writesB ops j t && waitsB md ops i j) = true := h
      rw [Bool.and_eq_true] at h
      obtain ⟨o', ho', e, he, hb, hon⟩ := waitsB_spec h.2
      have : o' = o := Option.some.inj (ho'.symm.trans ho)
      subst this
      have hl : listed.getD j false = true := by have := hall e he hb; rwa [hon] at this
      have h3 := inv.wr j t h.1 hl
      show F j (a.tmps.getD t undef) w
      rw [h3]
      exact inv.ph j hl) (fun t h => by
      refine inv.un t fun j hj => ?_
      have h1 := List.all_eq_true.1 h j (List.mem_range.2 (Array.getElem?_eq_some_iff.1 (writesB_spec hj).choose_spec.1).1)
      simp only [hj, Bool.not_true, Bool.false_or, Bool.or_eq_true, beq_iff_eq] at h1
      rcases h1 with rfl | h1
      · exact hunf
      · cases hl : listed.getD j false with
        | false => rfl
        | true =>
          have := inv.cl j i hl h1
          rw [hunf] at this
          cases this)
    unfold wpOp
    simp only [ho]
    have hw : Region.wanted o (yielded ops a.tmps) = true := by simp [Region.wanted, hg]
    rw [if_pos hw]
    refine .inl (hrun.wp fun v w' ⟨hv, hb⟩ => ih _ (fun j => if j = i then v else val j) _ _ ?_ ?_)
    · have gs : ∀ j, (listed.setIfInBounds i true).getD j false = if j = i then true else listed.getD j false := fun j => by
        by_cases h : i = j
        · subst h; simp [his]
        · rw [getD_set_ne false h, if_neg (fun e => h e.symm)]
      have hvi : ∀ j, listed.getD j false = true → j ≠ i := fun j h e => by subst e; rw [hunf] at h; cases h
      refine ⟨by simp [inv.ls], (put_size _ _ _).trans inv.sz, (put_defers _ _ _).trans inv.df, inv.bl.trans (hb.mono inv.bl.size), fun j hj => ?_, fun j t hj hl => ?_, fun t ht => ?_, fun j k hj hk => ?_⟩
      · rw [gs] at hj
        by_cases h : j = i
        · subst h; simpa using hv
        · rw [if_neg h] at hj
          simpa [h] using hst j _ _ _ (inv.ph j hj) hb
      · rw [gs] at hl
        rw [put_get]
        by_cases h : j = i
        · subst h
          obtain ⟨o', ho', hd'⟩ := writesB_spec hj
          have : o' = o := Option.some.inj (ho'.symm.trans ho)
          subst this
          rw [if_pos ⟨hd', by rw [inv.sz]; exact (hdst t hd').1⟩, if_pos rfl]
        · rw [if_neg h] at hl
          rw [if_neg (fun e => h (huniq j i t hj (writesB_of ho e.1))), if_neg h]
          exact inv.wr j t hj hl
      · rw [put_get, if_neg (fun e => ?_)]
        · refine inv.un t fun j hj => ?_
          have := ht j hj
          rw [gs] at this
          by_cases h : j = i
          · rw [if_pos h] at this; cases this
          · rwa [if_neg h] at this
        · have := ht i (writesB_of ho e.1)
          rw [gs, if_pos rfl] at this
          cases this
      · rw [gs] at hj ⊢
        by_cases h2 : k = i
        · rw [if_pos h2]
        · rw [if_neg h2]
          by_cases h : j = i
          · subst h
            obtain ⟨o', ho', e, he, hbd, hon⟩ := waitsB_spec hk
            have : o' = o := Option.some.inj (ho'.symm.trans ho)
            subst this
            have := hall e he hbd
            rwa [hon] at this
          · rw [if_neg h] at hj
            exact inv.cl j k hj hk
    · have h3 : listed.toList[i]? = some false := by simp [his] at hunf ⊢; exact hunf
      have := unl_set _ _ h3
      rw [Array.toList_setIfInBounds]
      omega
theorem unl_rep (n : Nat) : unl (Array.replicate n false).toList = n := by
  unfold unl
  rw [Array.toList_replicate, List.count_replicate_self]
/-- A region that draws its order: each operation on its own. -/
theorem wp_region_free {id : Nat} {a0 : Act} {w : World} (F : Nat → Value → World → Prop) (hm : P.follows .mixedOrders = true) (n : Nat) (hn : a0.tmps.size = n) (hok : freeOk .any ops n = true)
    (hst : ∀ i v w w', F i v w → Below w.heap.size w w' → F i v w') (hop : FreeAll P .any ops a0 w F 0 ops.toList)
    (hQ : ∀ (val : Nat → Value) (w' : World), Below w.heap.size w w' → (∀ j, j < ops.size → F j (val j) w') → Q .normal (putAll ops.toList 0 val a0) w') : (Code.region id ops true).wp P Q a0 w := by
  subst hn
  refine wp_region_any hm ?_
  refine wpAny_free hok hst hop hQ _ _ (fun _ => undef) _ _ ⟨by simp, rfl, rfl, (Below.refl _ _).drew, fun j hj => ?_, fun j t _ hj => ?_, fun t _ => rfl, fun j i hj _ => ?_⟩ (unl_rep _)
  all_goals
    exfalso
    rcases Nat.lt_or_ge j ops.size with h | h
    · simp [h] at hj
    · simp [Nat.not_lt.2 h] at hj
end
end Go.Proofs.YtbikdlcjbigafaaGreatDoor
