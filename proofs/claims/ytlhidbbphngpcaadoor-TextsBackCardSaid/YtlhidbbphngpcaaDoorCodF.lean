/-
  What an operator does to the stack; where an instruction may go on.
  code.Verify.
  Where an instruction may go on, by the document; maps of numbers.
  How a program runs that was verified: plain.
-/
import Derived.StillTailTactics
import Derived.Maps.OwnOps
import Derived.Maps.OwnSet
import Derived.Maps.Views
import Derived.Test.YtlhidbbphngpcaaDoorCodA
import Derived.Test.YtlhidbbphngpcaaDoorCodP0
import Derived.Test.YtlhidbbphngpcaaDoorTreeT
namespace Go.Proofs.YtlhidbbphngpcaaDoor
set_option linter.unusedVariables false
set_option linter.unusedSimpArgs false
open Go.ChangeShapes Go.WideShapes Go.ChangeAt Go.RowKit

theorem lit_one (w : World) (t : Int) : (w.alloc (.cells #[.int .i64 t] 3)).ownsRow w.heap.size 3 1 (.slice (some ⟨w.heap.size, 0, none⟩) 1 1) [t].length ([t].flatMap encI) :=
  World.ownsRow_lit w #[.int .i64 t] 1 (Nat.le_refl _) (by decide) rfl
theorem lit_two (w : World) (t u : Int) : (w.alloc (.cells #[.int .i64 t, .int .i64 u] 3)).ownsRow w.heap.size 3 1 (.slice (some ⟨w.heap.size, 0, none⟩) 2 2) [t, u].length ([t, u].flatMap encI) :=
  World.ownsRow_lit w #[.int .i64 t, .int .i64 u] 2 (Nat.le_refl _) (by decide) rfl
theorem next_64 (i : Nat) (op n : Int) (hi : i ≤ 8000) (hn : 0 ≤ n) (hn8 : n ≤ 8000) : ∀ t ∈ nextI i ⟨op, n⟩, I64 t ∧ t ≤ 16001 := by
  intro t ht
  have h : t = (i : Int) + 1 ∨ t = (i : Int) + 1 + n := by
    unfold nextI at ht
    split at ht
    · simp at ht
    · split at ht
      · exact .inr (by simpa using ht)
      · split at ht
        · simpa using ht
        · exact .inl (by simpa using ht)
  rcases h with rfl | rfl
  · exact ⟨i64_of (by omega) (by omega), by omega⟩
  · exact ⟨i64_of (by omega) (by omega), by omega⟩
end Go.Proofs.YtlhidbbphngpcaaDoor
namespace Go.Proofs.YtlhidbbphngpcaaDoor
set_option linter.unusedVariables false
set_option linter.unusedSimpArgs false
open Go.ChangeShapes Go.WideShapes Go.ChangeAt Go.RowKit

/-- what Verify answers: steps, stack, error. -/
def verE (p : Prg) : Int × Int × Int :=
  if prgE p ≠ 0 then (0, 0, prgE p) else match scan p.code p.code.length with
    | .inl e => (0, 0, e)
    | .inr st => (gI (sl p.code p.code.length) 0, st.stack, 0)
theorem prg_good {p : Prg} (h : prgE p = 0) : 0 < p.code.length ∧ p.code.length ≤ 8000 ∧ p.pool.length ≤ 2000 ∧ p.answers.length ≤ 2000 ∧ (∀ i (hi : i < p.answers.length), ansE p.answers[i] = 0) ∧ ∀ i (hi : i < p.code.length), insE1 p i p.code[i] = 0 := by
  unfold prgE at h
  by_cases h0 : p.code.length = 0
  · rw [if_pos h0] at h; omega
  · rw [if_neg h0] at h
    by_cases h1 : 8000 < p.code.length ∨ 2000 < p.pool.length ∨ 2000 < p.answers.length
    · rw [if_pos h1] at h; omega
    · rw [if_neg h1] at h
      by_cases h2 : anssE p.answers = 0
      · rw [if_neg (by simpa using h2)] at h
        refine ⟨by omega, by omega, by omega, by omega, fun i hi => ?_, fun i hi => ?_⟩
        · exact ferr_all _ _ _ h2 i hi
        · have := ferr_all _ _ _ h i hi; simpa using this
      · rw [if_pos h2] at h; exact absurd h h2
theorem ins_good {p : Prg} {i : Nat} {x : Ins} (h : insE1 p i x = 0) : (x.op = 1 ∨ x.op = 2 ∨ x.op = 3 ∨ x.op = 4 ∨ x.op = 5 ∨ x.op = 6) ∧ 0 ≤ x.n ∧ x.n ≤ mostI p i x.op := by
  rcases insE1_kind p i x with ⟨_, h'⟩ | ⟨_, _, h'⟩ | ⟨hop, ⟨_, h'⟩ | ⟨_, _, h'⟩ | ⟨q1, q2, _⟩⟩
  · omega
  · omega
  · omega
  · omega
  · exact ⟨hop, q1, q2⟩
theorem ins_n8 {p : Prg} (hg : prgE p = 0) {i : Nat} (hi : i < p.code.length) : (p.code[i].op = 1 ∨ p.code[i].op = 2 ∨ p.code[i].op = 3 ∨ p.code[i].op = 4 ∨ p.code[i].op = 5 ∨ p.code[i].op = 6) ∧ 0 ≤ p.code[i].n ∧ p.code[i].n ≤ 8000 := by
  obtain ⟨g0, g1, g2, g3, g4, g5⟩ := prg_good hg
  obtain ⟨h1, h2, h3⟩ := ins_good (g5 i hi)
  obtain ⟨m1, m3, m2, m6, m4, m5⟩ := most_at p i p.code[i].op
  refine ⟨h1, h2, ?_⟩
  rcases h1 with h | h | h | h | h | h
  · rw [m1 h] at h3; omega
  · rw [m2 h] at h3; omega
  · rw [m3 h] at h3; omega
  · rw [m4 h] at h3; omega
  · rw [m5 h] at h3; omega
  · rw [m6 h] at h3; omega
/-- block D is a row of numbers. -/
def RowI (w : World) (D : Nat) (l : List Int) : Prop := w.ownsRow D 3 1 (.slice (some ⟨D, 0, none⟩) l.length l.length) l.length (l.map (Value.int .i64))
theorem RowI.cell {w : World} {D : Nat} {l : List Int} (h : RowI w D l) (t : Nat) (ht : t < l.length) : w.cell? ⟨D, t, none⟩ = some (.int .i64 (gI l t)) := by
  have := World.ownsRow.cellAt h t (by omega)
  rw [this, List.getElem?_map, List.getElem?_eq_getElem ht]
  unfold gI
  rw [Int.toNat_natCast, List.getD_eq_getElem?_getD, List.getElem?_eq_getElem ht]
  rfl
theorem RowI.frz {w : World} {D : Nat} {l : List Int} (h : RowI w D l) (t : Nat) : w.frozen? ⟨D, t, none⟩ = false := World.ownsRow.frozenAt h t
theorem RowI.set {w : World} {D : Nat} {l : List Int} (h : RowI w D l) (t : Nat) (v : Int) : RowI (w.setCell ⟨D, t, none⟩ (.int .i64 v)) D (l.set t v) := by
  have := (World.ownsRow.stored h t (.int .i64 v)).1
  unfold RowI
  rw [List.length_set, List.map_set]
  exact this
theorem RowI.lt {w : World} {D : Nat} {l : List Int} (h : RowI w D l) : D < w.heap.size := (World.ownsRow.lt h D rfl).2
theorem RowI.keep {w w' : World} {D : Nat} {l : List Int} (h : RowI w D l) (hb : Below w.heap.size w w') : RowI w' D l := ownsRow_below h hb (Nat.le_refl _)
theorem RowI.drew {w : World} {D : Nat} {l : List Int} (h : RowI w D l) : RowI w.drew D l := World.ownsRow.drew h
theorem RowI.made {w : World} {D n : Nat} (h : w.ownsRow D 3 1 (.slice (some ⟨D, 0, none⟩) n n) n (madeCells (Value.int .i64 0).cells (n * 1)).toList) : RowI w D (List.replicate n 0) := by
  unfold RowI
  rw [List.length_replicate, List.map_replicate]
  have e : (madeCells (Value.int .i64 0).cells (n * 1)).toList = List.replicate n (Value.int .i64 0) := by rw [Nat.mul_one]; exact toList_madeCells_one _ _
  rw [e] at h
  exact h
theorem rep_zero (n : Nat) (j : Nat) : gI (List.replicate n 0) j = 0 := by
  unfold gI; rw [Int.toNat_natCast, List.getD_eq_getElem?_getD, List.getElem?_replicate]; split <;> rfl
theorem need_bd (op : Int) : 0 ≤ needI op ∧ needI op ≤ 2 := by unfold needI; split <;> (try split) <;> omega
theorem more_bd (op : Int) : -1 ≤ moreI op ∧ moreI op ≤ 1 := by unfold moreI; split <;> (try split) <;> omega
theorem ver_err {p : Prg} {e : Int} (hg : prgE p = 0) (h : scan p.code p.code.length = .inl e) : verE p = (0, 0, e) := by
  unfold verE; rw [if_neg (by simpa using hg), h]
theorem below_in2 {w w1 w2 : World} (h : Below w.heap.size w w1) (g : Below w1.heap.size w1 w2) : Below w.heap.size w w2 := h.trans (g.mono h.size)
end Go.Proofs.YtlhidbbphngpcaaDoor
namespace Go.Proofs.YtlhidbbphngpcaaDoor
set_option linter.unusedVariables false
set_option linter.unusedSimpArgs false
open Go.ChangeShapes Go.WideShapes Go.ChangeAt Go.RowKit

/-- a map literal's entry. -/
theorem wpList_insert_own {H : Type} {P : Program} (w : World) {ops : Array Oper} {rest : List Oper} {o : Oper} {a : Act} {Q : Exit → Act → World → Prop}
    (hg : o.guard = none) (m x v : Operand) (t : TypeId) (hop : o.op = Op.insert t m x v)
    (k e : TypeId) (K : Maps.Keyed P k) (ht : P.underlying t = some (.map k e)) (R : Value → Option (DataW H × List MemPlace)) (b n : Nat) (D : DataW H)
    (hm : a.eval m = .map (some b)) (hown : w.ownsMap P k R b n D) (hn : n < maxLen) (key val : Value) (kl : Lit) (hx : a.eval x = key) (hv : a.eval v = val) (hkey : keyOf P k key = some kl)
    (d : DataW H) (ps : List MemPlace) (hval : R val = some (d, ps))
    (hK : ∀ w', w'.ownsMap P k R b (n + 1) (D.put kl d) → w.grownBy w' (some b) → wpList P ops Q rest (a.put o.dst undef) w') :
    wpList P ops Q (o :: rest) a w := by
  refine wpList_plain hg fun K' hK' => ?_
  obtain ⟨w', hrun, r1, r2⟩ := hown.update K ht hn hkey hval
  unfold Oper.wp
  simp [execOp, hop, hm, hx, hv, hrun, Result.andThen]
  exact hK' _ _ (hK w' r1 r2)
theorem key_int (t : Int) (h : I64 t) : keyOf Tryd.prog 3 (.int .i64 t) = some (.int .i64 t) := by
  unfold keyOf mapKey
  simp only [Tryd.underlying3]
  have h' : (Lit.int .i64 t).wf = true := h
  simp [h']
def kI (t : Int) : Lit := .int .i64 t
def dI (t : Int) : DataW Unit := .lit (.int .i64 t)
/-- the map of depths. -/
def OnM (D : DataW Unit) (dl : List Int) : Prop := Maps.IsMap D ∧ ∀ t : Nat, t < dl.length → Maps.has D (kI t) = decide (gI dl t ≠ 0) ∧ (gI dl t ≠ 0 → D.atKey (kI t) (dI 0) = dI (gI dl t - 1))
def LoM (D : DataW Unit) (ll : List Int) : Prop := Maps.IsMap D ∧ ∀ t : Nat, t < ll.length → D.atKey (kI t) (dI 0) = dI (gI ll t)
theorem kI_key (t : Int) : WideAt.IsKeyLit (kI t) := trivial
theorem kI_ne {t u : Nat} (h : t ≠ u) : kI t ≠ kI u := by
  intro e
  unfold kI at e
  simp at e
  omega
theorem OnM.put {D : DataW Unit} {dl : List Int} (h : OnM D dl) (u : Nat) (a : Int) (ha : a + 1 ≠ 0) (hl : u < dl.length) : OnM (D.put (kI u) (dI a)) (dl.set u (a + 1)) := by
  refine ⟨h.1.put _ _, fun t ht => ?_⟩
  have hg := gI_set dl u (by omega) (by omega) (a + 1) t
  rw [Int.toNat_natCast] at hg
  rw [hg]
  by_cases e : t = u
  · subst e
    rw [if_pos rfl]
    refine ⟨by rw [Maps.has_put_same h.1 (kI_key _)]; simp [ha], fun _ => ?_⟩
    rw [Maps.atKey_put_same h.1 (kI_key _)]
    rw [show a + 1 - 1 = a from by omega]
  · rw [if_neg (fun e' => e (by omega))]
    obtain ⟨h1, h2⟩ := h.2 t (by rw [List.length_set] at ht; exact ht)
    refine ⟨by rw [Maps.has_put_other (kI_ne e)]; exact h1, fun hne => ?_⟩
    rw [Maps.atKey_put_other (kI_ne e)]
    exact h2 hne
theorem LoM.put {D : DataW Unit} {ll : List Int} (h : LoM D ll) (u : Nat) (a : Int) (hl : u < ll.length) : LoM (D.put (kI u) (dI a)) (ll.set u a) := by
  refine ⟨h.1.put _ _, fun t ht => ?_⟩
  have hg := gI_set ll u (by omega) (by omega) a t
  rw [Int.toNat_natCast] at hg
  rw [hg]
  by_cases e : t = u
  · subst e
    rw [if_pos rfl, Maps.atKey_put_same h.1 (kI_key _)]
  · rw [if_neg (fun e' => e (by omega)), Maps.atKey_put_other (kI_ne e)]
    exact h.2 t (by rw [List.length_set] at ht; exact ht)
end Go.Proofs.YtlhidbbphngpcaaDoor
namespace Go.Proofs.YtlhidbbphngpcaaDoor
set_option linter.unusedVariables false
set_option linter.unusedSimpArgs false
open Go.ChangeShapes Go.WideShapes Go.ChangeAt Go.RowKit

/-- what is on the stack once stays: a place that is marked keeps its mark. -/
theorem vgo_keep {n a lg : Int} : ∀ {ts : List Int} {st st' : Vst}, vgo n a lg st ts = .inr st' → (∀ t ∈ ts, 0 ≤ t) → (st.dl.length : Int) = n → a + 1 ≠ 0 → ∀ j : Nat, gI st.dl j ≠ 0 → gI st'.dl j = gI st.dl j
  | [], st, st', h, _, _, _ => by
    unfold vgo at h
    obtain rfl := Sum.inr.inj h
    exact fun _ _ => rfl
  | t :: ts, st, st', h, h0, hd, ha => by
    unfold vgo at h
    split at h
    · cases h
    · rename_i c1
      split at h
      · cases h
      · rename_i c2
        have ht := h0 t List.mem_cons_self
        have ih := vgo_keep h (fun u hu => h0 u (List.mem_cons_of_mem _ hu)) (by show ((st.dl.set _ _).length : Int) = n; rw [List.length_set]; exact hd) ha
        have ed : ∀ j : Nat, gI (vone st a lg t).dl j = if t = j then a + 1 else gI st.dl j := fun j => gI_set _ _ ht (by omega) _ _
        intro j hj
        have h1 : gI (vone st a lg t).dl j = gI st.dl j := by
          rw [ed]
          by_cases e : t = j
          · rw [if_pos e]
            rw [e] at c2
            by_cases e2 : gI st.dl j = a + 1
            · exact e2.symm
            · exact absurd ⟨hj, e2⟩ c2
          · rw [if_neg e]
        rw [ih j (by rw [h1]; exact hj), h1]
/-- each marked place leads on to places that are marked. -/
def Leads (c : List Ins) (k : Nat) (dl : List Int) : Prop :=
  ∀ i : Nat, i < k → ∀ hi : i < c.length, gI dl i ≠ 0 → needI c[i].op ≤ gI dl i - 1 ∧ gI dl i - 1 + moreI c[i].op ≤ 8 ∧ ∀ t ∈ nextI i c[i], t < c.length ∧ gI dl t = gI dl i - 1 + moreI c[i].op + 1
theorem leads_step {c : List Ins} {k : Nat} {st st' : Vst} (hv : Vinv c k st) (h : Leads c k st.dl) (hk : k < c.length) (hn : ∀ x ∈ c, 0 ≤ x.n) (hs : vstep c.length k c[k] st = .inr st') : Leads c (k + 1) st'.dl := by
  unfold vstep at hs
  split at hs
  · rename_i h0
    obtain rfl := Sum.inr.inj hs
    intro i hi hil hne
    by_cases e : i = k
    · subst e; exact absurd h0 hne
    · exact h i (by omega) hil hne
  · rename_i h0
    split at hs
    · cases hs
    · rename_i hlim
      have hx := hn _ (List.getElem_mem hk)
      have hgt := nextI_gt (i := k) hx
      have hp : ∀ t ∈ nextI k c[k], 0 ≤ t := fun t ht => by have := hgt t ht; omega
      have ha : gI st.dl k - 1 + moreI c[k].op + 1 ≠ 0 := by
        have h1 : ¬ gI st.dl k - 1 < needI c[k].op := fun e => hlim (.inl e)
        have h2 := hv.dpos k
        unfold needI at h1
        unfold moreI
        split at h1 <;> split <;> (try split at h1) <;> (try split) <;> omega
      have hkeep := vgo_keep hs hp (by show ((st.dl.length : Nat) : Int) = _; rw [hv.dlen]) ha
      obtain ⟨_, _, _, _, g5, g6, g7, _, _⟩ := vgo_spec hs hp (by show ((st.dl.length : Nat) : Int) = _; rw [hv.dlen]) (by show ((st.ll.length : Nat) : Int) = _; rw [hv.llen])
      dsimp only at hkeep g5
      have hsame : ∀ i : Nat, i ≤ k → gI st'.dl i = gI st.dl i := fun i hi => g5 i (fun hm => by have := hgt _ hm; omega)
      intro i hi hil hne
      have hne' : gI st.dl i ≠ 0 := by rw [← hsame i (by omega)]; exact hne
      rw [hsame i (by omega)]
      by_cases e : i = k
      · subst e
        refine ⟨by omega, by omega, fun t ht => ⟨g6 t ht, ?_⟩⟩
        have h3 := hgt t ht
        obtain ⟨u, rfl⟩ : ∃ u : Nat, t = u := ⟨t.toNat, by omega⟩
        exact (g7 u ht).1
      · obtain ⟨q1, q2, q3⟩ := h i (by omega) hil hne'
        refine ⟨q1, q2, fun t ht => ?_⟩
        obtain ⟨r1, r2⟩ := q3 t ht
        refine ⟨r1, ?_⟩
        have h3 := nextI_gt (i := i) (hn _ (List.getElem_mem hil)) t ht
        obtain ⟨u, rfl⟩ : ∃ u : Nat, t = u := ⟨t.toNat, by omega⟩
        rw [hkeep u ?_, r2]
        rw [r2]
        have h1 := hv.dpos i
        have hneed : needI c[i].op ≤ gI st.dl i - 1 := q1
        unfold needI at hneed
        unfold moreI
        split at hneed <;> split <;> (try split at hneed) <;> (try split) <;> omega
theorem scan_all {c : List Ins} (hc : 0 < c.length) (hn : ∀ x ∈ c, 0 ≤ x.n) : ∀ (k : Nat) (st : Vst), k ≤ c.length → scan c k = .inr st → Vinv c k st ∧ Leads c k st.dl ∧ gI st.dl 0 = 1 := by
  intro k
  induction k with
  | zero =>
    intro st _ h
    obtain rfl := Sum.inr.inj h
    refine ⟨vinv_start c hc, fun i hi => by omega, ?_⟩
    exact (gI_one (c.length - 1) 0).trans (if_pos rfl)
  | succ k ih =>
    intro st hk h
    have hk' : k < c.length := by omega
    unfold scan at h
    rw [List.getElem?_eq_getElem hk'] at h
    dsimp only at h
    match hs : scan c k, h with
    | .inl e, h => exact absurd h (by simp [vnext])
    | .inr s0, h =>
      obtain ⟨i1, i2, i3⟩ := ih s0 (by omega) hs
      have h' : vstep c.length k c[k] s0 = .inr st := h
      refine ⟨vinv_step i1 hk' hn h', leads_step i1 i2 hk' hn h', ?_⟩
      have hgt := nextI_gt (i := k) (hn _ (List.getElem_mem hk'))
      unfold vstep at h'
      split at h'
      · obtain rfl := Sum.inr.inj h'; exact i3
      · split at h'
        · cases h'
        · obtain ⟨_, _, _, _, g5, _, _, _, _⟩ := vgo_spec h' (fun t ht => by have := hgt t ht; omega) (by show ((s0.dl.length : Nat) : Int) = _; rw [i1.dlen]) (by show ((s0.ll.length : Nat) : Int) = _; rw [i1.llen])
          rw [show (0 : Int) = ((0 : Nat) : Int) from rfl, g5 0 (fun hm => by have := hgt _ hm; omega)]
          exact i3
/-- a run: from place i, with l on the stack (its top last) and s steps done, it ends at answer a with k steps. -/
inductive Rn (p : Prg) (t : Int) : Nat → List Int → Int → Nat → Int → Prop
  | tell {i : Nat} {l : List Int} {s : Int} {a : Nat} (hi : i < p.code.length) (ho : p.code[i].op = 6) (hn : p.code[i].n = a) (ha : a < p.answers.length) (h8 : l.length ≤ 8) (hs : 0 ≤ s ∧ s ≤ i) : Rn p t i l s a (s + 1)
  | arg {i : Nat} {l : List Int} {s : Int} {a : Nat} {k : Int} (hi : i < p.code.length) (ho : p.code[i].op = 1) (h8 : l.length ≤ 8) (hs : 0 ≤ s ∧ s ≤ i) (h : Rn p t (i + 1) (l ++ [t]) (s + 1) a k) : Rn p t i l s a k
  | push {i : Nat} {l : List Int} {s : Int} {a : Nat} {k : Int} {m : Nat} (hi : i < p.code.length) (ho : p.code[i].op = 2) (hn : p.code[i].n = m) (hm : m < p.pool.length) (h8 : l.length ≤ 8) (hs : 0 ≤ s ∧ s ≤ i) (h : Rn p t (i + 1) (l ++ [p.pool[m]]) (s + 1) a k) : Rn p t i l s a k
  | less {i : Nat} {l : List Int} {s : Int} {a : Nat} {k : Int} {x y : Int} (hi : i < p.code.length) (ho : p.code[i].op = 3) (h8 : (l ++ [x, y]).length ≤ 8) (hs : 0 ≤ s ∧ s ≤ i) (h : Rn p t (i + 1) (l ++ [if x < y then 1 else 0]) (s + 1) a k) : Rn p t i (l ++ [x, y]) s a k
  | skip {i : Nat} {l : List Int} {s : Int} {a : Nat} {k : Int} {v : Int} {m : Nat} (hi : i < p.code.length) (ho : p.code[i].op = 4) (hn : p.code[i].n = m) (h8 : (l ++ [v]).length ≤ 8) (hs : 0 ≤ s ∧ s ≤ i) (h : Rn p t (if v = 0 then i + 1 + m else i + 1) l (s + 1) a k) : Rn p t i (l ++ [v]) s a k
  | go {i : Nat} {l : List Int} {s : Int} {a : Nat} {k : Int} {m : Nat} (hi : i < p.code.length) (ho : p.code[i].op = 5) (hn : p.code[i].n = m) (h8 : l.length ≤ 8) (hs : 0 ≤ s ∧ s ≤ i) (h : Rn p t (i + 1 + m) l (s + 1) a k) : Rn p t i l s a k
theorem last_two (l : List Int) (h : 2 ≤ l.length) : ∃ l' x y, l = l' ++ [x, y] := by
  refine ⟨l.take (l.length - 2), l[l.length - 2], l[l.length - 1], ?_⟩
  have h1 := List.take_append_drop (l.length - 2) l
  have h2 : l.drop (l.length - 2) = [l[l.length - 2], l[l.length - 1]] := by
    rw [List.drop_eq_getElem_cons (by omega), List.drop_eq_getElem_cons (by omega), List.drop_eq_nil_of_le (by omega)]
    congr 2
    congr 1
    omega
  rw [h2] at h1
  exact h1.symm
theorem last_one (l : List Int) (h : 1 ≤ l.length) : ∃ l' x, l = l' ++ [x] := by
  refine ⟨l.take (l.length - 1), l[l.length - 1], ?_⟩
  have h1 := List.take_append_drop (l.length - 1) l
  rw [List.drop_eq_getElem_cons (by omega), List.drop_eq_nil_of_le (by omega)] at h1
  exact h1.symm
theorem run_ex (p : Prg) (t : Int) (hg : prgE p = 0) {st : Vst} (hs : scan p.code p.code.length = .inr st) : ∀ (d i : Nat) (l : List Int) (s : Int), p.code.length - i = d → i < p.code.length → gI st.dl i = l.length + 1 → 0 ≤ s → s ≤ i → ∃ a k, Rn p t i l s a k ∧ a < p.answers.length ∧ 0 ≤ k ∧ k ≤ p.code.length := by
  obtain ⟨g0, g1, g2, g3, g4, g5⟩ := prg_good hg
  have hn : ∀ x ∈ p.code, 0 ≤ x.n := fun x hx => by
    obtain ⟨i, hi, rfl⟩ := List.mem_iff_getElem.1 hx
    exact (ins_n8 hg hi).2.1
  obtain ⟨i1, i2, i3⟩ := scan_all g0 hn _ _ (Nat.le_refl _) hs
  intro d
  induction d using Nat.strongRecOn with
  | _ d ih =>
    intro i l s hd hi hl h0 hsi
    obtain ⟨q1, q2, q3⟩ := i2 i hi hi (by omega)
    have hdl := i1.dle i
    have hs8 := i1.s8
    have h8 : l.length ≤ 8 := by omega
    have hgt := nextI_gt (i := i) (hn _ (List.getElem_mem hi))
    obtain ⟨hop, n0, n8⟩ := ins_n8 hg hi
    obtain ⟨_, _, hmost⟩ := ins_good (g5 i hi)
    obtain ⟨m1, m3, m2, m6, m4, m5⟩ := most_at p i p.code[i].op
    obtain ⟨m, hm⟩ : ∃ m : Nat, p.code[i].n = m := ⟨p.code[i].n.toNat, by omega⟩
    rcases hop with ho | ho | ho | ho | ho | ho
    · have hnx : nextI i p.code[i] = [(i : Int) + 1] := by unfold nextI; simp [ho]
      have hmo : moreI p.code[i].op = 1 := by rw [ho]; rfl
      rw [hnx, hmo] at q3
      obtain ⟨r1, r2⟩ := q3 _ List.mem_cons_self
      obtain ⟨a, k, h1, h2, h3⟩ := ih _ (by omega) (i + 1) (l ++ [t]) (s + 1) rfl (by omega) (by rw [List.length_append]; simp; simp at r2; omega) (by omega) (by omega)
      exact ⟨a, k, .arg hi ho h8 ⟨h0, hsi⟩ h1, h2, h3⟩
    · have hnx : nextI i p.code[i] = [(i : Int) + 1] := by unfold nextI; simp [ho]
      have hmo : moreI p.code[i].op = 1 := by rw [ho]; rfl
      rw [hnx, hmo] at q3
      obtain ⟨r1, r2⟩ := q3 _ List.mem_cons_self
      have hml : m < p.pool.length := by rw [m2 ho] at hmost; omega
      obtain ⟨a, k, h1, h2, h3⟩ := ih _ (by omega) (i + 1) (l ++ [p.pool[m]]) (s + 1) rfl (by omega) (by rw [List.length_append]; simp; simp at r2; omega) (by omega) (by omega)
      exact ⟨a, k, .push hi ho hm hml h8 ⟨h0, hsi⟩ h1, h2, h3⟩
    · have hnx : nextI i p.code[i] = [(i : Int) + 1] := by unfold nextI; simp [ho]
      have hmo : moreI p.code[i].op = -1 := by rw [ho]; rfl
      have hne : needI p.code[i].op = 2 := by rw [ho]; rfl
      rw [hnx, hmo] at q3
      rw [hne] at q1
      obtain ⟨r1, r2⟩ := q3 _ List.mem_cons_self
      obtain ⟨l', x, y, rfl⟩ := last_two l (by omega)
      rw [List.length_append] at hl
      simp at hl r2
      obtain ⟨a, k, h1, h2, h3⟩ := ih _ (by omega) (i + 1) (l' ++ [if x < y then 1 else 0]) (s + 1) rfl (by omega) (by rw [List.length_append]; simp; omega) (by omega) (by omega)
      exact ⟨a, k, .less hi ho h8 ⟨h0, hsi⟩ h1, h2, h3⟩
    · have hnx : nextI i p.code[i] = [(i : Int) + 1, (i : Int) + 1 + p.code[i].n] := by unfold nextI; simp [ho]
      have hmo : moreI p.code[i].op = -1 := by rw [ho]; rfl
      have hne : needI p.code[i].op = 1 := by rw [ho]; rfl
      rw [hnx, hmo] at q3
      rw [hne] at q1
      obtain ⟨r1, r2⟩ := q3 _ List.mem_cons_self
      obtain ⟨r3, r4⟩ := q3 _ (List.mem_cons_of_mem _ List.mem_cons_self)
      rw [hm] at r3 r4
      obtain ⟨l', v, rfl⟩ := last_one l (by omega)
      rw [List.length_append] at hl
      simp at hl r2
      obtain ⟨a, k, h1, h2, h3⟩ := ih (p.code.length - (if v = 0 then i + 1 + m else i + 1)) (by split <;> omega) (if v = 0 then i + 1 + m else i + 1) l' (s + 1) rfl (by split <;> omega) (by
        split
        · rw [show ((i + 1 + m : Nat) : Int) = (i : Int) + 1 + m from by omega, r4]; omega
        · rw [show ((i + 1 : Nat) : Int) = (i : Int) + 1 from by omega, r2]; omega) (by omega) (by split <;> omega)
      exact ⟨a, k, .skip hi ho hm h8 ⟨h0, hsi⟩ h1, h2, h3⟩
    · have hnx : nextI i p.code[i] = [(i : Int) + 1 + p.code[i].n] := by unfold nextI; simp [ho]
      have hmo : moreI p.code[i].op = 0 := by rw [ho]; rfl
      rw [hnx, hmo] at q3
      obtain ⟨r1, r2⟩ := q3 _ List.mem_cons_self
      rw [hm] at r1 r2
      obtain ⟨a, k, h1, h2, h3⟩ := ih (p.code.length - (i + 1 + m)) (by omega) (i + 1 + m) l (s + 1) rfl (by omega) (by rw [show ((i + 1 + m : Nat) : Int) = (i : Int) + 1 + m from by omega, r2]; omega) (by omega) (by omega)
      exact ⟨a, k, .go hi ho hm h8 ⟨h0, hsi⟩ h1, h2, h3⟩
    · have hml : m < p.answers.length := by rw [m6 ho] at hmost; omega
      exact ⟨m, s + 1, .tell hi ho hm hml h8 ⟨h0, hsi⟩, hml, by omega, by omega⟩
end Go.Proofs.YtlhidbbphngpcaaDoor
