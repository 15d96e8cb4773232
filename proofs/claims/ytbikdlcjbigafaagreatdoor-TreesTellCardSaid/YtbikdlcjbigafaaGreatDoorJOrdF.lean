/-
  A region that draws its order, whatever the order: each operation on its own, out of what it reads; what each has left holds on.
-/
import Derived.Orders
import Derived.RegionTactic
import Derived.Test.YtbikdlcjbigafaaGreatDoorJBase
namespace Go.Proofs.YtbikdlcjbigafaaGreatDoor
set_option linter.unusedVariables false
set_option linter.unusedSimpArgs false
open Go.ChangeShapes Go.WideShapes Go.ChangeAt Go.RowKit Civ

section
variable {P : Program} {ops : Array Oper} {Q : Exit → Act → World → Prop} {md : Region.Mode}
/-- An operation runs to a value (or a call comes back), and what R says holds then. -/
def OpOk (P : Program) (o : Oper) (ev : Operand → Value) (w : World) (R : Value → World → Prop) : Prop :=
  match (execOp ev o).run P w with
  | .ok (.value v) w' => R v w'
  | .ok (.enter f args) w' => Calls P f args w' fun e w'' => ∃ v, e = .returned v ∧ R v w''
  | .ok .skip w' => R undef w'
  | _ => False
theorem OpOk.wp {o : Oper} {a : Act} {w : World} {R : Value → World → Prop} {K : Act → World → Prop} (h : OpOk P o a.eval w R) (hK : ∀ v w', R v w' → K (a.put o.dst v) w') : o.wp P a w K Q := by
  unfold OpOk at h
  unfold Oper.wp
  generalize (execOp a.eval o).run P w = r at *
  cases r with
  | ok n w' =>
    cases n <;> simp only [Oper.upon] at h ⊢
    case value v => exact hK _ _ h
    case skip => exact hK _ _ h
    case enter f args => exact h.mono fun e w'' ⟨v, he, hr⟩ => by subst he; exact hK _ _ hr
  | halt x w' => simp only at h
def waitsB (md : Region.Mode) (ops : Array Oper) (i j : Nat) : Bool := match ops[i]? with
  | some o => o.after.any fun e => Region.binds md e && e.on == j
  | none => false
theorem waitsB_spec {i j : Nat} (h : waitsB md ops i j = true) : ∃ o, ops[i]? = some o ∧ ∃ e ∈ o.after, Region.binds md e = true ∧ e.on = j := by
  unfold waitsB at h
  split at h
  · rename_i o ho
    obtain ⟨e, he, hb⟩ := Array.any_eq_true'.1 h
    simp only [Bool.and_eq_true, beq_iff_eq] at hb
    exact ⟨o, ho, e, he, hb.1, hb.2⟩
  · cases h
/-- who writes slot t. -/
def writesB (ops : Array Oper) (j t : Nat) : Bool := match ops[j]? with
  | some o => o.dst == some t
  | none => false
theorem writesB_of {j t : Nat} {o : Oper} (h : ops[j]? = some o) (hd : o.dst = some t) : writesB ops j t = true := by
  unfold writesB; rw [h]; simp [hd]
theorem writesB_spec {j t : Nat} (h : writesB ops j t = true) : ∃ o, ops[j]? = some o ∧ o.dst = some t := by
  unfold writesB at h
  split at h
  · rename_i o ho; exact ⟨o, ho, by simpa using h⟩
  · cases h
/-- From whom operation i has slot t: from operation j, for which it waits, or from ahead of the region. -/
def srcB (md : Region.Mode) (ops : Array Oper) (i t : Nat) : Option Nat → Bool
  | some j => writesB ops j t && waitsB md ops i j
  | none => (List.range ops.size).all fun j => !(writesB ops j t) || (j == i || waitsB md ops j i)
/-- the region may be taken so: no guards, no selects; edges lead back; each slot is written once, within the frame. -/
def freeOk (md : Region.Mode) (ops : Array Oper) (n : Nat) : Bool :=
  (List.range ops.size).all fun i => match ops[i]? with
    | none => false
    | some o => o.guard.isNone && (o.after.all fun e => !(Region.binds md e) || decide (e.on < i)) && (match o.dst with
        | some t => decide (t < n) && (List.range i).all fun j => !(writesB ops j t)
        | none => true)
/-- What operation i, of text o, is asked for. -/
def FreeOp (P : Program) (md : Region.Mode) (ops : Array Oper) (a0 : Act) (w0 : World) (F : Nat → Value → World → Prop) (i : Nat) (o : Oper) : Prop :=
  ∀ (ev : Operand → Value) (w : World), Below w0.heap.size w0 w → (∀ v, ev (.const v) = v) → (∀ f, ev (.func f) = .func (.func f) #[] #[]) → (∀ g, ev (.global g) = .pointer (some ⟨g, 0, none⟩)) →
    (∀ t j, srcB md ops i t (some j) = true → F j (ev (.tmp t)) w) → (∀ t, srcB md ops i t none = true → ev (.tmp t) = a0.tmps.getD t undef) →
    OpOk P o ev w fun v w' => F i v w' ∧ Below w.heap.size w w'
def FreeAll (P : Program) (md : Region.Mode) (ops : Array Oper) (a0 : Act) (w0 : World) (F : Nat → Value → World → Prop) : Nat → List Oper → Prop
  | _, [] => True
  | i, o :: l => FreeOp P md ops a0 w0 F i o ∧ FreeAll P md ops a0 w0 F (i + 1) l
theorem FreeAll.get {a0 : Act} {w0 : World} {F : Nat → Value → World → Prop} : ∀ {l : List Oper} {k : Nat}, FreeAll P md ops a0 w0 F k l → ∀ (i : Nat) (o : Oper), l[i]? = some o → FreeOp P md ops a0 w0 F (k + i) o
  | [], k, h, i, o, ho => by cases ho
  | x :: l, k, h, 0, o, ho => by
    have : x = o := by simpa using ho
    subst this
    exact h.1
  | x :: l, k, h, i + 1, o, ho => by
    have := FreeAll.get h.2 i o (by simpa using ho)
    rw [show k + (i + 1) = k + 1 + i by omega]
    exact this
/-- what stands in the frame behind it. -/
def putAll : List Oper → Nat → (Nat → Value) → Act → Act
  | [], _, _, a => a
  | o :: l, k, val, a => putAll l (k + 1) val (a.put o.dst (val k))
theorem put_size (a : Act) (d : Option Tmp) (v : Value) : (a.put d v).tmps.size = a.tmps.size := by
  cases d <;> simp [Act.put]
theorem put_defers (a : Act) (d : Option Tmp) (v : Value) : (a.put d v).defers = a.defers := by
  cases d <;> rfl
theorem put_get (a : Act) (d : Option Tmp) (v : Value) (t : Nat) : (a.put d v).tmps.getD t undef = if d = some t ∧ t < a.tmps.size then v else a.tmps.getD t undef := by
  cases d with
  | none => simp [Act.put]
  | some d =>
    simp only [Act.put, Array.getD_eq_getD_getElem?, Array.getElem?_setIfInBounds, Option.some.injEq]
    by_cases h : d = t
    · subst h
      by_cases h2 : d < a.tmps.size
      · simp [h2]
      · simp [h2]
    · simp [h]
theorem putAll_size : ∀ (l : List Oper) (k : Nat) (val : Nat → Value) (a : Act), (putAll l k val a).tmps.size = a.tmps.size ∧ (putAll l k val a).defers = a.defers
  | [], _, _, a => ⟨rfl, rfl⟩
  | o :: l, k, val, a => by
    obtain ⟨h1, h2⟩ := putAll_size l (k + 1) val (a.put o.dst (val k))
    exact ⟨h1.trans (put_size _ _ _), h2.trans (put_defers _ _ _)⟩
theorem putAll_far : ∀ (l : List Oper) (k : Nat) (val : Nat → Value) (a : Act) (t : Nat), (∀ o ∈ l, o.dst ≠ some t) → (putAll l k val a).tmps.getD t undef = a.tmps.getD t undef
  | [], _, _, a, t, _ => rfl
  | o :: l, k, val, a, t, h => by
    refine (putAll_far l (k + 1) val _ t fun o' ho' => h o' (List.mem_cons_of_mem _ ho')).trans ?_
    rw [put_get, if_neg (fun e => h o (List.mem_cons_self ..) e.1)]
theorem putAll_at : ∀ (l : List Oper) (k : Nat) (val : Nat → Value) (a : Act) (t i : Nat) (o : Oper), l[i]? = some o → o.dst = some t → t < a.tmps.size → (∀ j o', l[j]? = some o' → o'.dst = some t → j ≤ i) → (putAll l k val a).tmps.getD t undef = val (k + i)
  | [], _, _, a, t, i, o, ho, _, _, _ => by cases ho
  | x :: l, k, val, a, t, 0, o, ho, hd, ht, hu => by
    have : x = o := by simpa using ho
    subst this
    refine (putAll_far l (k + 1) val _ t fun o' ho' e => ?_).trans ?_
    · obtain ⟨j, hj, hj2⟩ := List.mem_iff_getElem.1 ho'
      have := hu (j + 1) o' (by simp [← hj2]) e
      omega
    · rw [put_get, if_pos ⟨hd, ht⟩]; rfl
  | x :: l, k, val, a, t, i + 1, o, ho, hd, ht, hu => by
    have := putAll_at l (k + 1) val (a.put x.dst (val k)) t i o (by simpa using ho) hd (by rw [put_size]; exact ht) (fun j o' hj he => by
      have := hu (j + 1) o' (by simpa using hj) he
      omega)
    rw [show k + (i + 1) = k + 1 + i by omega]
    exact this
def unl (l : List Bool) : Nat := l.count false
theorem unl_set : ∀ (l : List Bool) (i : Nat), l[i]? = some false → unl (l.set i true) + 1 = unl l
  | [], i, h => by cases h
  | x :: l, 0, h => by
    have : x = false := by simpa using h
    subst this
    simp [unl]
  | x :: l, i + 1, h => by
    have := unl_set l i (by simpa using h)
    unfold unl at *
    simp only [List.set_cons_succ, List.count_cons]
    omega
/-- the state between two operations. -/
structure FInv (P : Program) (md : Region.Mode) (ops : Array Oper) (a0 : Act) (w0 : World) (F : Nat → Value → World → Prop) (listed : Array Bool) (val : Nat → Value) (a : Act) (w : World) : Prop where
  ls : listed.size = ops.size
  sz : a.tmps.size = a0.tmps.size
  df : a.defers = a0.defers
  bl : Below w0.heap.size w0 w
  ph : ∀ j, listed.getD j false = true → F j (val j) w
  wr : ∀ j t, writesB ops j t = true → listed.getD j false = true → a.tmps.getD t undef = val j
  un : ∀ t, (∀ j, writesB ops j t = true → listed.getD j false = false) → a.tmps.getD t undef = a0.tmps.getD t undef
  cl : ∀ j i, listed.getD j false = true → waitsB md ops j i = true → listed.getD i false = true
theorem gd_tf {listed : Array Bool} {i : Nat} (h : listed.getD i true = false) : listed.getD i false = false ∧ i < listed.size := by
  rcases Nat.lt_or_ge i listed.size with h' | h'
  · simp [h'] at h ⊢; exact h
  · simp [Array.getElem?_eq_none h'] at h
theorem unl_rep (n : Nat) : unl (Array.replicate n false).toList = n := by
  unfold unl
  rw [Array.toList_replicate, List.count_replicate_self]
end
end Go.Proofs.YtbikdlcjbigafaaGreatDoor
