/-
  Where an instruction may go on, by the document; maps of numbers.
-/
import Derived.Test.YtpnmaopompfalaaCodF
import Derived.Maps.OwnOps
import Derived.Maps.OwnSet
import Derived.Maps.Views
namespace Go.Proofs.Ytpnmaopompfalaa
set_option linter.unusedVariables false
set_option linter.unusedSimpArgs false
open Go.ChangeShapes Go.WideShapes Go.ChangeAt Go.RowKit

/-- a map literal's entry. -/
theorem wpList_insert_own {H : Type} {P : Program} (w : World) {ops : Array Oper} {rest : List Oper} {o : Oper} {a : Act} {Q : Exit → Act → World → Prop}
    (hg : o.guard = none) (m x v : Operand) (t : TypeId) (hop : o.op = Op.insert t m x v)
    (k e : TypeId) (K : Maps.Keyed P k) (ht : P.underlying t = some (.map k e)) (R : Value → Option (DataW H × List MemPlace)) (b n : Nat) (D : DataW H)
    (hm : a.eval m = .map (some b)) (hown : w.ownsMap P k R b n D) (hn : n < maxLen) (key val : Value) (kl : Lit) (hx : a.eval x = key) (hv : a.eval v = val) (hkey : keyOf P k key = some kl)
    (d : DataW H) (ps : List MemPlace) (hval : R val = some (d, ps))
    (hK : ∀ w', w'.ownsMap P k R b (n + 1) (D.put kl d) → w.grownBy w' (some b) → wpList P ops Q rest (a.put o.dst undef) w') :
    wpList P ops Q (o :: rest) a w := by
  refine wpList_plain hg fun K' hK' => ?_
  obtain ⟨w', hrun, r1, r2⟩ := hown.update K ht hn hkey hval
  unfold Oper.wp
  simp [execOp, hop, hm, hx, hv, hrun, Result.andThen]
  exact hK' _ _ (hK w' r1 r2)
theorem key_int (t : Int) (h : I64 t) : keyOf Try.prog 3 (.int .i64 t) = some (.int .i64 t) := by
  unfold keyOf mapKey
  simp only [Try.underlying3]
  have h' : (Lit.int .i64 t).wf = true := h
  simp [h']
def kI (t : Int) : Lit := .int .i64 t
def dI (t : Int) : DataW Unit := .lit (.int .i64 t)
/-- the map of depths. -/
def OnM (D : DataW Unit) (dl : List Int) : Prop := Maps.IsMap D ∧ ∀ t : Nat, t < dl.length → Maps.has D (kI t) = decide (gI dl t ≠ 0) ∧ (gI dl t ≠ 0 → D.atKey (kI t) (dI 0) = dI (gI dl t - 1))
def LoM (D : DataW Unit) (ll : List Int) : Prop := Maps.IsMap D ∧ ∀ t : Nat, t < ll.length → D.atKey (kI t) (dI 0) = dI (gI ll t)
theorem kI_key (t : Int) : WideAt.IsKeyLit (kI t) := trivial
theorem kI_ne {t u : Nat} (h : t ≠ u) : kI t ≠ kI u := by
  intro e
  unfold kI at e
  simp at e
  omega
theorem OnM.put {D : DataW Unit} {dl : List Int} (h : OnM D dl) (u : Nat) (a : Int) (ha : a + 1 ≠ 0) (hl : u < dl.length) : OnM (D.put (kI u) (dI a)) (dl.set u (a + 1)) := by
  refine ⟨h.1.put _ _, fun t ht => ?_⟩
  have hg := gI_set dl u (by omega) (by omega) (a + 1) t
  rw [Int.toNat_natCast] at hg
  rw [hg]
  by_cases e : t = u
  · subst e
    rw [if_pos rfl]
    refine ⟨by rw [Maps.has_put_same h.1 (kI_key _)]; simp [ha], fun _ => ?_⟩
    rw [Maps.atKey_put_same h.1 (kI_key _)]
    rw [show a + 1 - 1 = a from by omega]
  · rw [if_neg (fun e' => e (by omega))]
    obtain ⟨h1, h2⟩ := h.2 t (by rw [List.length_set] at ht; exact ht)
    refine ⟨by rw [Maps.has_put_other (kI_ne e)]; exact h1, fun hne => ?_⟩
    rw [Maps.atKey_put_other (kI_ne e)]
    exact h2 hne
theorem LoM.put {D : DataW Unit} {ll : List Int} (h : LoM D ll) (u : Nat) (a : Int) (hl : u < ll.length) : LoM (D.put (kI u) (dI a)) (ll.set u a) := by
  refine ⟨h.1.put _ _, fun t ht => ?_⟩
  have hg := gI_set ll u (by omega) (by omega) a t
  rw [Int.toNat_natCast] at hg
  rw [hg]
  by_cases e : t = u
  · subst e
    rw [if_pos rfl, Maps.atKey_put_same h.1 (kI_key _)]
  · rw [if_neg (fun e' => e (by omega)), Maps.atKey_put_other (kI_ne e)]
    exact h.2 t (by rw [List.length_set] at ht; exact ht)
theorem goes_any (p : Prg) (vc vp va : Value) (i : Nat) (w : World) (hp : PrgAt w vc vp va p) (hi : i < p.code.length) (hi8 : i ≤ 8000) (hn : 0 ≤ p.code[i].n) (hn8 : p.code[i].n ≤ 8000) (hop : p.code[i].op = 1 ∨ p.code[i].op = 2 ∨ p.code[i].op = 3 ∨ p.code[i].op = 4 ∨ p.code[i].op = 5 ∨ p.code[i].op = 6) :
    Calls Try.prog 81 #[.agg #[vc, vp, va], .int .i64 i] w fun e w' => ∃ v, e = .returned v ∧ w'.ownsRow w.heap.size 3 1 v (nextI i p.code[i]).length ((nextI i p.code[i]).flatMap encI) ∧ Below w.heap.size w w' := by
  obtain ⟨ac, cc, hvc, lc⟩ := hp.1.shape
  subst hvc
  obtain ⟨b, off, rfl, hbb, ⟨c0, c1⟩, _, _⟩ := elemIns hp.1 i hi
  have lc' := maxLen_eq _ lc
  have hs := size_alloc w (.cells #[.slice (some ⟨b, off, none⟩) p.code.length cc, vp, va] 58)
  have hle : w.heap.size ≤ w.heap.size + 1 := Nat.le_succ _
  generalize p.code[i] = x at *
  obtain ⟨op, n⟩ := x
  dsimp only at *
  have L1 := lit_one (w.alloc (.cells #[.slice (some ⟨b, off, none⟩) p.code.length cc, vp, va] 58)) ((i : Int) + 1)
  have L2 := lit_one (w.alloc (.cells #[.slice (some ⟨b, off, none⟩) p.code.length cc, vp, va] 58)) ((i : Int) + 1 + n)
  have L3 := lit_two (w.alloc (.cells #[.slice (some ⟨b, off, none⟩) p.code.length cc, vp, va] 58)) ((i : Int) + 1) ((i : Int) + 1 + n)
  rw [hs] at L1 L2 L3
  have M1 := Lib.hid (ownsRow_base hle L1)
  have M2 := Lib.hid (ownsRow_base hle L2)
  have M3 := Lib.hid (ownsRow_base hle L3)
  clear hs L1 L2 L3 hp lc
  have hi' : (i : Int) ≤ 8000 := by omega
  have hii : (i : Int) < (p.code.length : Int) := by omega
  rcases hop with rfl | rfl | rfl | rfl | rfl | rfl
  all_goals
    go_enter Try.func81, Try.ntmps81
    go_wp2
    go_ret
    first
      | exact ⟨_, rfl, M1.out, below_alloc2 (Nat.le_refl _) _ _⟩
      | exact ⟨_, rfl, M2.out, below_alloc2 (Nat.le_refl _) _ _⟩
      | exact ⟨_, rfl, M3.out, below_alloc2 (Nat.le_refl _) _ _⟩
      | exact ⟨_, rfl, World.ownsRow_nil _ _ _ _, (Below.refl _ _).alloc (Nat.le_refl _) _⟩
end Go.Proofs.Ytpnmaopompfalaa
