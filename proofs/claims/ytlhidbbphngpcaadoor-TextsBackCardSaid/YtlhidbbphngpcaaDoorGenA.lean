/-
  Code of a forest, plain: code whose stack is told for each place is verified; code that is laid out after a tree runs to the tree's answer.
  Code of a forest, plain: what Gen computes is laid out after the tree.
  Code of a forest, plain: what Gen computes is laid out after the tree.
  Code of a forest, plain: it is verified, and it runs to the tree's answer.
  Code of a forest, plain: the whole.
  code.following.
  Which nodes of a forest are asked, plain.
-/
import Derived.Test.YtlhidbbphngpcaaDoorCodF
import Derived.Test.YtlhidbbphngpcaaDoorTreeT
namespace Go.Proofs.YtlhidbbphngpcaaDoor
set_option linter.unusedVariables false
set_option linter.unusedSimpArgs false
open Go.ChangeShapes Go.WideShapes Go.ChangeAt Go.RowKit

def DlOk (D : Nat → Int) (dl : List Int) : Prop := ∀ j : Nat, gI dl j = 0 ∨ gI dl j = D j
theorem gI_setN (l : List Int) (t : Nat) (v : Int) (j : Nat) : gI (l.set t v) j = if t = j ∧ t < l.length then v else gI l j := by
  unfold gI
  rw [Int.toNat_natCast, getD_set_]
theorem vgo_typed {n a lg : Int} {D : Nat → Int} : ∀ (ts : List Int) (st : Vst), (∀ t ∈ ts, 0 ≤ t ∧ t < n ∧ D t.toNat = a + 1) → DlOk D st.dl → ∃ st', vgo n a lg st ts = .inr st' ∧ DlOk D st'.dl
  | [], st, _, h => ⟨st, rfl, h⟩
  | t :: ts, st, ht, h => by
    obtain ⟨h1, h2, h3⟩ := ht t List.mem_cons_self
    have hone : DlOk D (vone st a lg t).dl := fun j => by
      show gI (st.dl.set t.toNat (a + 1)) j = 0 ∨ gI (st.dl.set t.toNat (a + 1)) j = D j
      rw [gI_setN]
      split
      · rename_i hj
        right
        rw [← hj.1, h3]
      · exact h j
    obtain ⟨st', e1, e2⟩ := vgo_typed ts (vone st a lg t) (fun u hu => ht u (List.mem_cons_of_mem _ hu)) hone
    refine ⟨st', ?_, e2⟩
    have hg : gI st.dl t = 0 ∨ gI st.dl t = a + 1 := by
      have := h t.toNat
      rw [Int.toNat_of_nonneg h1] at this
      rw [← h3]
      exact this
    unfold vgo
    rw [if_neg (by omega), if_neg (by rcases hg with q | q <;> omega)]
    exact e1
theorem scan_typed (c : List Ins) (D : Nat → Int) (h0 : D 0 = 1) (hk : ∀ k (h : k < c.length), needI c[k].op ≤ D k - 1 ∧ D k - 1 + moreI c[k].op ≤ 8 ∧ ∀ t ∈ nextI k c[k], 0 ≤ t ∧ t < c.length ∧ D t.toNat = D k + moreI c[k].op) :
    ∀ k, k ≤ c.length → ∃ st, scan c k = .inr st ∧ DlOk D st.dl
  | 0, _ => by
    refine ⟨v0 c.length, rfl, fun j => ?_⟩
    show gI (1 :: List.replicate (c.length - 1) 0) j = 0 ∨ _
    unfold gI
    rw [Int.toNat_natCast]
    cases j with
    | zero => right; rw [h0]; rfl
    | succ j =>
      left
      rw [List.getD_cons_succ, List.getD_eq_getElem?_getD, List.getElem?_replicate]
      split <;> rfl
  | k + 1, h => by
    obtain ⟨st, e1, e2⟩ := scan_typed c D h0 hk k (by omega)
    have hkl : k < c.length := by omega
    obtain ⟨a1, a2, a3⟩ := hk k hkl
    by_cases hz : gI st.dl k = 0
    · refine ⟨st, scan_ok hkl e1 ?_, e2⟩
      unfold vstep
      rw [if_pos hz]
    · have hd : gI st.dl k = D k := (e2 k).resolve_left hz
      obtain ⟨st', g1, g2⟩ := vgo_typed (n := c.length) (a := gI st.dl k - 1 + moreI c[k].op) (lg := gI st.ll k) (D := D) (nextI k c[k]) ⟨st.dl, st.ll, mx st.stack (gI st.dl k - 1 + moreI c[k].op), mx st.steps (gI st.ll k)⟩ (fun t ht => by
        obtain ⟨b1, b2, b3⟩ := a3 t ht
        exact ⟨b1, b2, by rw [b3, hd]; omega⟩) e2
      refine ⟨st', scan_ok hkl e1 ?_, g2⟩
      unfold vstep
      rw [if_neg hz, if_neg (by rw [hd]; omega)]
      exact g1
/-- the code of a tree: node i's part begins at place S i. -/
def Lay (p : Prg) (ns : List Nod) (S : Nat → Nat) (A : Nat → Bool) : Prop := ∀ i (hi : i < ns.length), A i = true →
  (ns[i].lf = true → p.code[S i]? = some ⟨6, ns[i].an⟩) ∧
  (ns[i].lf = false → ∃ l m k d : Nat, ns[i].ls = l ∧ ns[i].mr = m ∧ A l = true ∧ A m = true ∧ p.pool[k]? = some ns[i].bd ∧ p.code[S i]? = some ⟨1, 0⟩ ∧ p.code[S i + 1]? = some ⟨2, k⟩ ∧ p.code[S i + 2]? = some ⟨3, 0⟩ ∧ p.code[S i + 3]? = some ⟨4, d⟩ ∧ S i + 3 + 1 + d = S m ∧ ((∃ d2 : Nat, p.code[S i + 4]? = some ⟨5, d2⟩ ∧ S i + 4 + 1 + d2 = S l) ∨ S l = S i + 4))
theorem at_code {p : Prg} {i : Nat} {x : Ins} (h : p.code[i]? = some x) : ∃ hi : i < p.code.length, p.code[i] = x := by
  obtain ⟨h1, h2⟩ := List.getElem?_eq_some_iff.1 h
  exact ⟨h1, h2⟩
theorem lay_run {p : Prg} {ns : List Nod} {S : Nat → Nat} {A : Nat → Bool} (hL : Lay p ns S A) {t : Int} {i : Nat} {a : Int} (h : Lf ns t i a) : A i = true → ∀ (n : Nat), a = n → n < p.answers.length → ∀ s : Int, 0 ≤ s → s ≤ S i → ∃ k, Rn p t (S i) [] s n k ∧ 0 ≤ k ∧ k ≤ p.code.length := by
  induction h with
  | leaf i hi e =>
    intro hA n hn hnl s h0 h1
    obtain ⟨hc, hx⟩ := at_code ((hL i hi hA).1 e)
    exact ⟨s + 1, .tell hc (by rw [hx]) (by rw [hx]; exact hn) hnl (by simp) ⟨h0, h1⟩, by omega, by omega⟩
  | less i k a hi e c hk hl r ih =>
    intro hA n hn hnl s h0 h1
    obtain ⟨l, m, kp, d, e1, e2, A1, A2, hp, q0, q1, q2, q3, hm, hless⟩ := (hL i hi hA).2 e
    obtain ⟨c0, x0⟩ := at_code q0
    obtain ⟨c1, x1⟩ := at_code q1
    obtain ⟨c2, x2⟩ := at_code q2
    obtain ⟨c3, x3⟩ := at_code q3
    obtain ⟨pk, px⟩ := List.getElem?_eq_some_iff.1 hp
    have hkl : k = l := by omega
    subst hkl
    have hcmp : (if t < p.pool[kp] then (1 : Int) else 0) = 1 := by rw [px, if_pos c]
    have fin : ∀ (s' : Int), s' ≤ S i + 5 → 0 ≤ s' → s' ≤ S k → (∀ (k' : Int), Rn p t (S k) [] s' n k' → True) → ∃ k', Rn p t (S k) [] s' n k' ∧ 0 ≤ k' ∧ k' ≤ p.code.length := fun s' _ g0 g1 _ => ih A1 n hn hnl s' g0 g1
    have main : ∃ k', Rn p t (S i + 3 + 1) [] (s + 1 + 1 + 1 + 1) n k' ∧ 0 ≤ k' ∧ k' ≤ p.code.length := by
      rcases hless with ⟨d2, q4, hd2⟩ | hd2
      · obtain ⟨c4, x4⟩ := at_code q4
        obtain ⟨k', r1, r2, r3⟩ := ih A1 n hn hnl (s + 1 + 1 + 1 + 1 + 1) (by omega) (by omega)
        refine ⟨k', .go (m := d2) c4 (by show p.code[S i + 4].op = 5; rw [x4]) (by show p.code[S i + 4].n = d2; rw [x4]) (by simp) ⟨by omega, by omega⟩ ?_, r2, r3⟩
        rw [show S i + 3 + 1 + 1 + d2 = S k by omega]
        exact r1
      · obtain ⟨k', r1, r2, r3⟩ := ih A1 n hn hnl (s + 1 + 1 + 1 + 1) (by omega) (by omega)
        refine ⟨k', ?_, r2, r3⟩
        rw [show S i + 3 + 1 = S k by omega]
        exact r1
    obtain ⟨k', r1, r2, r3⟩ := main
    refine ⟨k', .arg c0 (by rw [x0]) (by simp) ⟨h0, h1⟩ (.push (m := kp) c1 (by rw [x1]) (by rw [x1]) pk (by simp) ⟨by omega, by omega⟩ ?_), r2, r3⟩
    refine .less (l := []) (x := t) (y := p.pool[kp]) c2 (by rw [x2]) (by simp) ⟨by omega, by omega⟩ ?_
    rw [hcmp]
    refine .skip (l := []) (v := 1) (m := d) c3 (by rw [x3]) (by rw [x3]) (by simp) ⟨by omega, by omega⟩ ?_
    rw [if_neg (by decide)]
    exact r1
  | more i k a hi e c hk hl r ih =>
    intro hA n hn hnl s h0 h1
    obtain ⟨l, m, kp, d, e1, e2, A1, A2, hp, q0, q1, q2, q3, hm, hless⟩ := (hL i hi hA).2 e
    obtain ⟨c0, x0⟩ := at_code q0
    obtain ⟨c1, x1⟩ := at_code q1
    obtain ⟨c2, x2⟩ := at_code q2
    obtain ⟨c3, x3⟩ := at_code q3
    obtain ⟨pk, px⟩ := List.getElem?_eq_some_iff.1 hp
    have hkm : k = m := by omega
    subst hkm
    have hcmp : (if t < p.pool[kp] then (1 : Int) else 0) = 0 := by rw [px, if_neg (by omega)]
    obtain ⟨k', r1, r2, r3⟩ := ih A2 n hn hnl (s + 1 + 1 + 1 + 1) (by omega) (by omega)
    refine ⟨k', .arg c0 (by rw [x0]) (by simp) ⟨h0, h1⟩ (.push (m := kp) c1 (by rw [x1]) (by rw [x1]) pk (by simp) ⟨by omega, by omega⟩ ?_), r2, r3⟩
    refine .less (l := []) (x := t) (y := p.pool[kp]) c2 (by rw [x2]) (by simp) ⟨by omega, by omega⟩ ?_
    rw [hcmp]
    refine .skip (l := []) (v := 0) (m := d) c3 (by rw [x3]) (by rw [x3]) (by simp) ⟨by omega, by omega⟩ ?_
    rw [if_pos rfl, show S i + 1 + 1 + 1 + 1 + d = S k by omega]
    exact r1
end Go.Proofs.YtlhidbbphngpcaaDoor
namespace Go.Proofs.YtlhidbbphngpcaaDoor
set_option linter.unusedVariables false
set_option linter.unusedSimpArgs false
open Go.ChangeShapes Go.WideShapes Go.ChangeAt Go.RowKit

structure Gs where
  code : List Ins
  pool : List Int
  start : List Int
  holes : List (Nat × Nat)
def askd (ak : List Bool) (i : Nat) : Bool := ak.getD i false
/-- the node that is written behind node i: the next below it that is asked, or -1. -/
def fol (ak : List Bool) : Nat → Int
  | 0 => -1
  | i + 1 => if askd ak i = true then i else fol ak i
def poolK (pool : List Int) (b : Int) : Nat := if b ∈ pool then pool.idxOf b else pool.length
def poolP (pool : List Int) (b : Int) : List Int := if b ∈ pool then pool else pool ++ [b]
def gAsk (ak : List Bool) (i : Nat) (n : Nod) (g : Gs) : Gs :=
  if fol ak i ≠ n.ls then ⟨g.code ++ [⟨1, 0⟩, ⟨2, poolK g.pool n.bd⟩, ⟨3, 0⟩, ⟨4, 0⟩, ⟨5, 0⟩], poolP g.pool n.bd, g.start.set i g.code.length, g.holes ++ [(g.code.length + 3, n.mr.toNat), (g.code.length + 4, n.ls.toNat)]⟩
  else ⟨g.code ++ [⟨1, 0⟩, ⟨2, poolK g.pool n.bd⟩, ⟨3, 0⟩, ⟨4, 0⟩], poolP g.pool n.bd, g.start.set i g.code.length, g.holes ++ [(g.code.length + 3, n.mr.toNat)]⟩
def gStep (ns : List Nod) (ak : List Bool) (i : Nat) (g : Gs) : Gs :=
  if askd ak i = true then match ns[i]? with
    | none => g
    | some n => if n.lf = true then ⟨g.code ++ [⟨6, n.an⟩], g.pool, g.start.set i g.code.length, g.holes⟩ else gAsk ak i n g
  else g
def gen (ns : List Nod) (ak : List Bool) : Nat → Gs → Gs
  | 0, g => g
  | i + 1, g => gen ns ak i (gStep ns ak i g)
def patch1 (start : List Int) (c : List Ins) (h : Nat × Nat) : List Ins := c.set h.1 ⟨(c.getD h.1 ⟨0, 0⟩).op, start.getD h.2 0 - h.1 - 1⟩
def patch (start : List Int) (c : List Ins) (hs : List (Nat × Nat)) : List Ins := hs.foldl (patch1 start) c

/-- the second is the first and more. -/
def Ext (k : Nat) (g g' : Gs) : Prop := g.code <+: g'.code ∧ g.pool <+: g'.pool ∧ g.holes <+: g'.holes ∧ g'.start.length = g.start.length ∧ ∀ j, k ≤ j → g'.start.getD j 0 = g.start.getD j 0
theorem Ext.refl (k : Nat) (g : Gs) : Ext k g g := ⟨List.prefix_rfl, List.prefix_rfl, List.prefix_rfl, rfl, fun _ _ => rfl⟩
theorem Ext.trans {k : Nat} {a b c : Gs} (h : Ext k a b) (g : Ext k b c) : Ext k a c :=
  ⟨h.1.trans g.1, h.2.1.trans g.2.1, h.2.2.1.trans g.2.2.1, g.2.2.2.1.trans h.2.2.2.1, fun j hj => (g.2.2.2.2 j hj).trans (h.2.2.2.2 j hj)⟩
theorem Ext.mono {k k' : Nat} {a b : Gs} (h : Ext k a b) (hk : k ≤ k') : Ext k' a b := ⟨h.1, h.2.1, h.2.2.1, h.2.2.2.1, fun j hj => h.2.2.2.2 j (by omega)⟩
theorem start_set (l : List Int) (i j : Nat) (v : Int) (h : i ≠ j) : (l.set i v).getD j 0 = l.getD j 0 := by
  rw [List.getD_eq_getElem?_getD, List.getElem?_set_ne h, List.getD_eq_getElem?_getD]
theorem poolP_pre (pool : List Int) (b : Int) : pool <+: poolP pool b := by
  unfold poolP
  split
  · exact List.prefix_rfl
  · exact List.prefix_append _ _
theorem poolK_at (pool : List Int) (b : Int) : (poolP pool b)[poolK pool b]? = some b := by
  unfold poolP poolK
  by_cases h : b ∈ pool
  · rw [if_pos h, if_pos h]
    rw [List.getElem?_eq_getElem (List.idxOf_lt_length_of_mem h), List.getElem_idxOf]
  · rw [if_neg h, if_neg h, List.getElem?_append_right (Nat.le_refl _), Nat.sub_self]
    rfl
theorem step_ext (ns : List Nod) (ak : List Bool) (i : Nat) (g : Gs) : Ext (i + 1) g (gStep ns ak i g) := by
  unfold gStep
  split
  · split
    · exact Ext.refl _ _
    · split
      · exact ⟨List.prefix_append _ _, List.prefix_rfl, List.prefix_rfl, List.length_set .., fun j hj => start_set _ _ _ _ (by omega)⟩
      · unfold gAsk
        split
        · exact ⟨List.prefix_append _ _, poolP_pre _ _, List.prefix_append _ _, List.length_set .., fun j hj => start_set _ _ _ _ (by omega)⟩
        · exact ⟨List.prefix_append _ _, poolP_pre _ _, List.prefix_append _ _, List.length_set .., fun j hj => start_set _ _ _ _ (by omega)⟩
  · exact Ext.refl _ _
theorem gen_ext (ns : List Nod) (ak : List Bool) : ∀ (k : Nat) (g : Gs), Ext k g (gen ns ak k g)
  | 0, g => Ext.refl _ _
  | k + 1, g => (step_ext ns ak k g).trans ((gen_ext ns ak k (gStep ns ak k g)).mono (Nat.le_succ k))
/-- an asked node's part begins where the code ended. -/
theorem step_start {ns : List Nod} {ak : List Bool} {i : Nat} {g : Gs} (ha : askd ak i = true) (hi : i < ns.length) (hl : g.start.length = ns.length) : (gStep ns ak i g).start.getD i 0 = g.code.length := by
  have hs : (g.start.set i (g.code.length : Int)).getD i 0 = g.code.length := by
    rw [List.getD_eq_getElem?_getD, List.getElem?_set_self (by omega)]; rfl
  unfold gStep
  rw [if_pos ha, List.getElem?_eq_getElem hi]
  dsimp only
  split
  · exact hs
  · unfold gAsk
    split
    · exact hs
    · exact hs
/-- where the next asked node's part begins. -/
theorem gen_fol {ns : List Nod} {ak : List Bool} : ∀ (k : Nat) (g : Gs) (f : Nat), k ≤ ns.length → g.start.length = ns.length → fol ak k = f → (gen ns ak k g).start.getD f 0 = g.code.length
  | 0, g, f, _, _, h => by unfold fol at h; omega
  | k + 1, g, f, hk, hl, h => by
    unfold fol at h
    by_cases ha : askd ak k = true
    · rw [if_pos ha] at h
      obtain rfl : k = f := by omega
      show (gen ns ak k (gStep ns ak k g)).start.getD k 0 = _
      rw [(gen_ext ns ak k _).2.2.2.2 k (Nat.le_refl _)]
      exact step_start ha (by omega) hl
    · rw [if_neg ha] at h
      have hs : gStep ns ak k g = g := by unfold gStep; rw [if_neg ha]
      show (gen ns ak k (gStep ns ak k g)).start.getD f 0 = _
      rw [hs]
      exact gen_fol k g f (by omega) hl h
/-- what is written later lies behind. -/
theorem gen_ge {ns : List Nod} {ak : List Bool} : ∀ (k : Nat) (g : Gs) (v : Nat), k ≤ ns.length → g.start.length = ns.length → v < k → askd ak v = true → (g.code.length : Int) ≤ (gen ns ak k g).start.getD v 0
  | k + 1, g, v, hk, hl, hv, ha => by
    have e := step_ext ns ak k g
    have hlen : g.code.length ≤ (gStep ns ak k g).code.length := e.1.length_le
    rcases Nat.lt_or_ge v k with h | h
    · have := gen_ge (ns := ns) (ak := ak) k (gStep ns ak k g) v (by omega) (by rw [e.2.2.2.1]; exact hl) h ha
      show (g.code.length : Int) ≤ (gen ns ak k (gStep ns ak k g)).start.getD v 0
      omega
    · obtain rfl : v = k := by omega
      show (g.code.length : Int) ≤ (gen ns ak v (gStep ns ak v g)).start.getD v 0
      rw [(gen_ext ns ak v _).2.2.2.2 v (Nat.le_refl _), step_start (ns := ns) ha (by omega) hl]
      exact Int.le_refl _
/-- each hole is an instruction without its number; they lie one behind the other. -/
def HOk (g : Gs) : Prop := g.holes.Pairwise (fun a b => a.1 < b.1) ∧ ∀ h ∈ g.holes, h.1 < g.code.length ∧ (g.code[h.1]? = some ⟨4, 0⟩ ∨ g.code[h.1]? = some ⟨5, 0⟩)
theorem hok_more {g : Gs} {c : List Ins} {pl st : List Int} (h : HOk g) (hs : List (Nat × Nat)) (hp : hs.Pairwise (fun a b => a.1 < b.1)) (hl : ∀ a ∈ hs, g.code.length ≤ a.1 ∧ a.1 < g.code.length + c.length ∧ (c[a.1 - g.code.length]? = some ⟨4, 0⟩ ∨ c[a.1 - g.code.length]? = some ⟨5, 0⟩)) : HOk ⟨g.code ++ c, pl, st, g.holes ++ hs⟩ := by
  obtain ⟨h1, h2⟩ := h
  refine ⟨List.pairwise_append.2 ⟨h1, hp, fun a ha b hb => Nat.lt_of_lt_of_le (h2 a ha).1 (hl b hb).1⟩, fun a ha => ?_⟩
  show a.1 < (g.code ++ c).length ∧ ((g.code ++ c)[a.1]? = _ ∨ (g.code ++ c)[a.1]? = _)
  rw [List.length_append]
  rcases List.mem_append.1 ha with ha | ha
  · obtain ⟨g1, g2⟩ := h2 a ha
    rw [List.getElem?_append_left g1]
    exact ⟨by omega, g2⟩
  · obtain ⟨g1, g2, g3⟩ := hl a ha
    rw [List.getElem?_append_right g1]
    exact ⟨g2, g3⟩
theorem step_hok {ns : List Nod} {ak : List Bool} {i : Nat} {g : Gs} (h : HOk g) : HOk (gStep ns ak i g) := by
  unfold gStep
  split
  · split
    · exact h
    · split
      · have := hok_more (c := [⟨6, (by assumption : Nod).an⟩]) (pl := g.pool) (st := g.start.set i g.code.length) h [] List.Pairwise.nil (fun a ha => by simp at ha)
        simpa using this
      · unfold gAsk
        split
        · refine hok_more h _ (by simp) (fun a ha => ?_)
          simp at ha
          rcases ha with rfl | rfl
          · simp
          · simp
        · refine hok_more h _ (by simp) (fun a ha => ?_)
          simp at ha
          subst ha
          simp
  · exact h
theorem gen_hok {ns : List Nod} {ak : List Bool} : ∀ (k : Nat) (g : Gs), HOk g → HOk (gen ns ak k g)
  | 0, g, h => h
  | k + 1, g, h => gen_hok k _ (step_hok h)
end Go.Proofs.YtlhidbbphngpcaaDoor
namespace Go.Proofs.YtlhidbbphngpcaaDoor
set_option linter.unusedVariables false
set_option linter.unusedSimpArgs false
open Go.ChangeShapes Go.WideShapes Go.ChangeAt Go.RowKit

theorem patch_no {st : List Int} : ∀ (hs : List (Nat × Nat)) (c : List Ins) (j : Nat), (∀ h ∈ hs, h.1 ≠ j) → (patch st c hs)[j]? = c[j]?
  | [], c, j, _ => rfl
  | h :: hs, c, j, hn => by
    show (patch st (patch1 st c h) hs)[j]? = _
    rw [patch_no hs _ j (fun a ha => hn a (List.mem_cons_of_mem _ ha))]
    unfold patch1
    rw [List.getElem?_set_ne (hn h List.mem_cons_self)]
theorem patch_yes {st : List Int} : ∀ (hs : List (Nat × Nat)) (c : List Ins) (a v : Nat) (x : Ins), hs.Pairwise (fun a b => a.1 < b.1) → (a, v) ∈ hs → c[a]? = some x → (patch st c hs)[a]? = some ⟨x.op, st.getD v 0 - a - 1⟩
  | h :: hs, c, a, v, x, hp, hm, hx => by
    obtain ⟨p1, p2⟩ := List.pairwise_cons.1 hp
    show (patch st (patch1 st c h) hs)[a]? = _
    have hac : a < c.length := (List.getElem?_eq_some_iff.1 hx).1
    rcases List.mem_cons.1 hm with e | e
    · rw [patch_no hs _ a (fun b hb => by have := p1 b hb; rw [← e] at this; exact Nat.ne_of_gt this), ← e]
      unfold patch1
      rw [List.getElem?_set_self hac, List.getD_eq_getElem?_getD, hx]
      rfl
    · have hlt := p1 _ e
      refine patch_yes hs _ a v x p2 e ?_
      unfold patch1
      rw [List.getElem?_set_ne (Nat.ne_of_lt hlt)]
      exact hx
theorem patch_len {st : List Int} : ∀ (hs : List (Nat × Nat)) (c : List Ins), (patch st c hs).length = c.length
  | [], c => rfl
  | h :: hs, c => by
    show (patch st (patch1 st c h) hs).length = _
    rw [patch_len hs]
    unfold patch1
    rw [List.length_set]
/-- each stage of the making. -/
theorem gen_at {ns : List Nod} {ak : List Bool} {g0 : Gs} (h1 : g0.start.length = ns.length) (h2 : HOk g0) : ∀ d, d ≤ ns.length → ∃ g, gen ns ak ns.length g0 = gen ns ak (ns.length - d) g ∧ g.start.length = ns.length ∧ HOk g
  | 0, _ => ⟨g0, rfl, h1, h2⟩
  | d + 1, hd => by
    obtain ⟨g, e1, e2, e3⟩ := gen_at h1 h2 d (by omega)
    refine ⟨gStep ns ak (ns.length - (d + 1)) g, ?_, ?_, step_hok e3⟩
    · rw [e1, show ns.length - d = (ns.length - (d + 1)) + 1 by omega]
      rfl
    · rw [(step_ext ns ak _ g).2.2.2.1, e2]
def gen0 (n : Nat) : Gs := ⟨[], [], List.replicate n 0, []⟩
def genAll (ns : List Nod) (ak : List Bool) : Gs := gen ns ak ns.length (gen0 ns.length)
def genP (ns : List Nod) (ak : List Bool) (az : List Ans) : Prg := ⟨patch (genAll ns ak).start (genAll ns ak).code (genAll ns ak).holes, (genAll ns ak).pool, az⟩
def genS (ns : List Nod) (ak : List Bool) (i : Nat) : Nat := ((genAll ns ak).start.getD i 0).toNat
/-- which nodes are asked: with a node both that it leads to. -/
def AkOk (ns : List Nod) (ak : List Bool) : Prop := ∀ i (hi : i < ns.length), askd ak i = true → ns[i].lf = false → ∃ l m : Nat, ns[i].ls = l ∧ ns[i].mr = m ∧ l < i ∧ m < i ∧ askd ak l = true ∧ askd ak m = true
theorem pre_at {α : Type} {a b : List α} (h : a <+: b) {j : Nat} {x : α} (hx : a[j]? = some x) : b[j]? = some x := by
  obtain ⟨t, rfl⟩ := h
  rw [List.getElem?_append_left (List.getElem?_eq_some_iff.1 hx).1]
  exact hx
theorem lay_gen (ns : List Nod) (ak : List Bool) (az : List Ans) (hak : AkOk ns ak) : Lay (genP ns ak az) ns (genS ns ak) (askd ak) := by
  intro i hi ha
  have h0 : HOk (gen0 ns.length) := ⟨List.Pairwise.nil, fun h hh => by simp [gen0] at hh⟩
  obtain ⟨g, e1, e2, e3⟩ := gen_at (ns := ns) (ak := ak) (g0 := gen0 ns.length) (by simp [gen0]) h0 (ns.length - i - 1) (by omega)
  rw [show ns.length - (ns.length - i - 1) = i + 1 by omega] at e1
  have hG : genAll ns ak = gen ns ak i (gStep ns ak i g) := e1
  have hext := gen_ext ns ak i (gStep ns ak i g)
  rw [← hG] at hext
  obtain ⟨x1, x2, x3, x4, x5⟩ := hext
  have hHO : HOk (genAll ns ak) := gen_hok _ _ h0
  have hS : (genAll ns ak).start.getD i 0 = g.code.length := by rw [x5 i (Nat.le_refl _), step_start ha hi e2]
  have hSi : genS ns ak i = g.code.length := by unfold genS; rw [hS]; rfl
  have hlen1 : (gStep ns ak i g).start.length = ns.length := by rw [(step_ext ns ak i g).2.2.2.1, e2]
  have hge : ∀ v, v < i → askd ak v = true → ((gStep ns ak i g).code.length : Int) ≤ (genAll ns ak).start.getD v 0 := fun v hv hav => by
    rw [hG]; exact gen_ge (ns := ns) i _ v (by omega) hlen1 hv hav
  have hfol : ∀ f : Nat, fol ak i = f → (genAll ns ak).start.getD f 0 = (gStep ns ak i g).code.length := fun f hf => by
    rw [hG]; exact gen_fol i _ f (by omega) hlen1 hf
  -- what is no hole stays
  have keep : ∀ {j : Nat} {x : Ins}, (gStep ns ak i g).code[j]? = some x → x.op ≠ 4 → x.op ≠ 5 → (genP ns ak az).code[j]? = some x := fun {j x} hx h4 h5 => by
    have hx' := pre_at x1 hx
    show (patch _ _ _)[j]? = _
    rw [patch_no _ _ j (fun h hh e => by
      obtain ⟨_, q⟩ := hHO.2 h hh
      rw [e, hx'] at q
      rcases q with q | q
      · exact h4 (by rw [Option.some.inj q])
      · exact h5 (by rw [Option.some.inj q]))]
    exact hx'
  have fill : ∀ {j v : Nat} {x : Ins}, (gStep ns ak i g).code[j]? = some x → (j, v) ∈ (gStep ns ak i g).holes → (genP ns ak az).code[j]? = some ⟨x.op, (genAll ns ak).start.getD v 0 - j - 1⟩ := fun {j v x} hx hm => by
    show (patch _ _ _)[j]? = _
    exact patch_yes _ _ j v x hHO.1 (x3.subset hm) (pre_at x1 hx)
  rw [hSi]
  refine ⟨fun hlf => ?_, fun hlf => ?_⟩
  · have hst : gStep ns ak i g = ⟨g.code ++ [⟨6, ns[i].an⟩], g.pool, g.start.set i g.code.length, g.holes⟩ := by
      unfold gStep
      rw [if_pos ha, List.getElem?_eq_getElem hi]
      dsimp only
      rw [if_pos hlf]
    refine keep (x := ⟨6, ns[i].an⟩) ?_ (by simp) (by simp)
    rw [hst]
    show (g.code ++ _)[g.code.length]? = _
    rw [List.getElem?_append_right (Nat.le_refl _), Nat.sub_self]
    rfl
  · obtain ⟨l, m, hl, hm, hli, hmi, al, am⟩ := hak i hi ha hlf
    have hst : gStep ns ak i g = gAsk ak i ns[i] g := by
      unfold gStep
      rw [if_pos ha, List.getElem?_eq_getElem hi]
      dsimp only
      rw [if_neg (by simp [hlf])]
    have gm := hge m hmi am
    have gl := hge l hli al
    have hSm : genS ns ak m = ((genAll ns ak).start.getD m 0).toNat := rfl
    have hSl : genS ns ak l = ((genAll ns ak).start.getD l 0).toNat := rfl
    by_cases hf : fol ak i = ns[i].ls
    · have hst2 : gStep ns ak i g = ⟨g.code ++ [⟨1, 0⟩, ⟨2, poolK g.pool ns[i].bd⟩, ⟨3, 0⟩, ⟨4, 0⟩], poolP g.pool ns[i].bd, g.start.set i g.code.length, g.holes ++ [(g.code.length + 3, ns[i].mr.toNat)]⟩ := by
        rw [hst]; unfold gAsk; rw [if_neg (by simp [hf])]
      have hcode : ∀ o, (gStep ns ak i g).code[g.code.length + o]? = [(⟨1, 0⟩ : Ins), ⟨2, poolK g.pool ns[i].bd⟩, ⟨3, 0⟩, ⟨4, 0⟩][o]? := fun o => by
        rw [hst2]
        show (g.code ++ _)[_]? = _
        rw [List.getElem?_append_right (by omega), Nat.add_sub_cancel_left]
      have hclen : (gStep ns ak i g).code.length = g.code.length + 4 := by rw [hst2]; simp
      rw [hclen] at gm gl
      have hmem : (g.code.length + 3, m) ∈ (gStep ns ak i g).holes := by rw [hst2]; simp [hm]
      have h3 := fill (hcode 3) hmem
      have hfl := hfol l (by rw [hf, hl])
      rw [hclen] at hfl
      refine ⟨l, m, poolK g.pool ns[i].bd, genS ns ak m - (g.code.length + 4), hl, hm, al, am, pre_at x2 (by rw [hst2]; exact poolK_at _ _), keep (hcode 0) (by simp) (by simp), keep (hcode 1) (by simp) (by simp), keep (hcode 2) (by simp) (by simp), ?_, by omega, .inr (by omega)⟩
      rw [h3]
      congr 2
      omega
    · have hst2 : gStep ns ak i g = ⟨g.code ++ [⟨1, 0⟩, ⟨2, poolK g.pool ns[i].bd⟩, ⟨3, 0⟩, ⟨4, 0⟩, ⟨5, 0⟩], poolP g.pool ns[i].bd, g.start.set i g.code.length, g.holes ++ [(g.code.length + 3, ns[i].mr.toNat), (g.code.length + 4, ns[i].ls.toNat)]⟩ := by
        rw [hst]; unfold gAsk; rw [if_pos hf]
      have hcode : ∀ o, (gStep ns ak i g).code[g.code.length + o]? = [(⟨1, 0⟩ : Ins), ⟨2, poolK g.pool ns[i].bd⟩, ⟨3, 0⟩, ⟨4, 0⟩, ⟨5, 0⟩][o]? := fun o => by
        rw [hst2]
        show (g.code ++ _)[_]? = _
        rw [List.getElem?_append_right (by omega), Nat.add_sub_cancel_left]
      have hclen : (gStep ns ak i g).code.length = g.code.length + 5 := by rw [hst2]; simp
      rw [hclen] at gm gl
      have hmem : (g.code.length + 3, m) ∈ (gStep ns ak i g).holes := by rw [hst2]; simp [hm]
      have hmem2 : (g.code.length + 4, l) ∈ (gStep ns ak i g).holes := by rw [hst2]; simp [hl]
      have h3 := fill (hcode 3) hmem
      have h4 := fill (hcode 4) hmem2
      refine ⟨l, m, poolK g.pool ns[i].bd, genS ns ak m - (g.code.length + 4), hl, hm, al, am, pre_at x2 (by rw [hst2]; exact poolK_at _ _), keep (hcode 0) (by simp) (by simp), keep (hcode 1) (by simp) (by simp), keep (hcode 2) (by simp) (by simp), ?_, by omega, .inl ⟨genS ns ak l - (g.code.length + 5), ?_, by omega⟩⟩
      · rw [h3]
        congr 2
        omega
      · rw [h4]
        congr 2
        omega
end Go.Proofs.YtlhidbbphngpcaaDoor
namespace Go.Proofs.YtlhidbbphngpcaaDoor
set_option linter.unusedVariables false
set_option linter.unusedSimpArgs false
open Go.ChangeShapes Go.WideShapes Go.ChangeAt Go.RowKit

theorem step_more {ns : List Nod} {ak : List Bool} {i : Nat} {g : Gs} (hi : i < ns.length) : (askd ak i = true ∧ ∃ c : Nat, (gStep ns ak i g).code.length = g.code.length + c ∧ (ns[i].lf = true → c = 1) ∧ (ns[i].lf = false → c ≤ 5)) ∨ gStep ns ak i g = g := by
  by_cases ha : askd ak i = true
  · left
    refine ⟨ha, ?_⟩
    unfold gStep
    rw [if_pos ha, List.getElem?_eq_getElem hi]
    dsimp only
    by_cases hl : ns[i].lf = true
    · rw [if_pos hl]
      exact ⟨1, by simp, fun _ => rfl, fun h => by rw [hl] at h; cases h⟩
    · rw [if_neg hl]
      unfold gAsk
      split
      · exact ⟨5, by simp, fun h => absurd h hl, fun _ => Nat.le_refl _⟩
      · exact ⟨4, by simp, fun h => absurd h hl, fun _ => by omega⟩
  · right
    unfold gStep
    rw [if_neg ha]
/-- each place of the code belongs to an asked node. -/
theorem gen_cov {ns : List Nod} {ak : List Bool} : ∀ (k : Nat) (g : Gs), k ≤ ns.length → g.start.length = ns.length → ∀ j, g.code.length ≤ j → j < (gen ns ak k g).code.length → ∃ i, ∃ hi : i < ns.length, askd ak i = true ∧ ∃ o : Nat, (gen ns ak k g).start.getD i 0 + o = j ∧ (ns[i].lf = true → o = 0) ∧ (ns[i].lf = false → o ≤ 4)
  | 0, g, hk, hl, j, h1, h2 => by exact absurd h2 (by show ¬ j < g.code.length; omega)
  | k + 1, g, hk, hl, j, h1, h2 => by
    have e := step_ext ns ak k g
    have hl2 : (gStep ns ak k g).start.length = ns.length := by rw [e.2.2.2.1, hl]
    rcases Nat.lt_or_ge j (gStep ns ak k g).code.length with h | h
    · rcases step_more (ns := ns) (ak := ak) (i := k) (g := g) (by omega) with ⟨ha, c, c1, c2, c3⟩ | hs
      · refine ⟨k, by omega, ha, j - g.code.length, ?_, fun hlf => by have := c2 hlf; omega, fun hlf => by have := c3 hlf; omega⟩
        show (gen ns ak k (gStep ns ak k g)).start.getD k 0 + _ = _
        rw [(gen_ext ns ak k _).2.2.2.2 k (Nat.le_refl _), step_start ha (by omega) hl]
        omega
      · rw [hs] at h; omega
    · exact gen_cov k (gStep ns ak k g) (by omega) hl2 j h h2
def dOf (op : Int) : Int := if op = 2 then 2 else if op = 3 then 3 else if op = 4 then 2 else 1
def dAt (c : List Ins) (k : Nat) : Int := dOf (c.getD k ⟨0, 0⟩).op
theorem dAt_of {c : List Ins} {k : Nat} {x : Ins} (h : c[k]? = some x) : dAt c k = dOf x.op := by
  unfold dAt
  rw [List.getD_eq_getElem?_getD, h]
  rfl
theorem lay_first {p : Prg} {ns : List Nod} {S : Nat → Nat} {A : Nat → Bool} (hL : Lay p ns S A) {i : Nat} (hi : i < ns.length) (ha : A i = true) : S i < p.code.length ∧ dAt p.code (S i) = 1 := by
  cases hlf : ns[i].lf with
  | true =>
    have h := (hL i hi ha).1 hlf
    exact ⟨(List.getElem?_eq_some_iff.1 h).1, by rw [dAt_of h]; rfl⟩
  | false =>
    obtain ⟨l, m, k, d, _, _, _, _, _, h, _⟩ := (hL i hi ha).2 hlf
    exact ⟨(List.getElem?_eq_some_iff.1 h).1, by rw [dAt_of h]; rfl⟩
/-- what is told of a place of the code. -/
def PlOk (p : Prg) (k : Nat) (x : Ins) : Prop := insE1 p k x = 0 ∧ needI x.op ≤ dAt p.code k - 1 ∧ dAt p.code k - 1 + moreI x.op ≤ 8 ∧ ∀ t ∈ nextI k x, 0 ≤ t ∧ t < p.code.length ∧ dAt p.code t.toNat = dAt p.code k + moreI x.op
theorem ins_ok {p : Prg} {k : Nat} {x : Ins} (h1 : 1 ≤ x.op ∧ x.op ≤ 6) (h2 : 0 ≤ x.n ∧ x.n ≤ mostI p k x.op) : insE1 p k x = 0 := by
  unfold insE1
  rw [if_neg (by omega), if_neg (by omega)]
theorem pl_ok {p : Prg} {ns : List Nod} {S : Nat → Nat} {A : Nat → Bool} (hL : Lay p ns S A) (hn : ∀ i (hi : i < ns.length), nodE p.answers.length (i : Nat) ns[i] = 0) {i : Nat} (hi : i < ns.length) (ha : A i = true) (o : Nat) (h1 : ns[i].lf = true → o = 0) (h2 : ns[i].lf = false → o ≤ 4) {x : Ins} (hx : p.code[S i + o]? = some x) (hlt : S i + o < p.code.length) : PlOk p (S i + o) x := by
  cases hlf : ns[i].lf with
  | true =>
    obtain rfl := h1 hlf
    have hc := (hL i hi ha).1 hlf
    rw [Nat.add_zero, hc] at hx
    cases hx
    have hni := hn i hi
    unfold nodE at hni
    rw [if_pos hlf] at hni
    have hb : 0 ≤ ns[i].an ∧ ns[i].an < p.answers.length := by
      by_cases q : ns[i].an < 0 ∨ (p.answers.length : Int) ≤ ns[i].an
      · rw [if_pos q] at hni; exact absurd hni (by decide)
      · omega
    refine ⟨ins_ok ⟨by simp, by simp⟩ ⟨hb.1, ?_⟩, ?_, ?_, fun t ht => ?_⟩
    · unfold mostI; rw [if_neg (by simp), if_pos rfl]; show ns[i].an ≤ _; omega
    · rw [Nat.add_zero, dAt_of hc]; unfold needI dOf; simp
    · rw [Nat.add_zero, dAt_of hc]; unfold moreI dOf; simp
    · unfold nextI at ht; simp at ht
  | false =>
    obtain ⟨l, m, k, d, e1, e2, A1, A2, hp, q0, q1, q2, q3, hm, hless⟩ := (hL i hi ha).2 hlf
    have b1 := (List.getElem?_eq_some_iff.1 q1).1
    have b2 := (List.getElem?_eq_some_iff.1 q2).1
    have b3 := (List.getElem?_eq_some_iff.1 q3).1
    have bk := (List.getElem?_eq_some_iff.1 hp).1
    have hni := hn i hi
    unfold nodE at hni
    rw [if_neg (by simp [hlf])] at hni
    have hlm : 0 ≤ ns[i].ls ∧ ns[i].ls < i ∧ 0 ≤ ns[i].mr ∧ ns[i].mr < i := by
      by_cases q : ns[i].an ≠ 0
      · rw [if_pos q] at hni; exact absurd hni (by decide)
      · rw [if_neg q] at hni
        by_cases q' : ns[i].ls < 0 ∨ (i : Int) ≤ ns[i].ls ∨ ns[i].mr < 0 ∨ (i : Int) ≤ ns[i].mr
        · rw [if_pos q'] at hni; exact absurd hni (by decide)
        · omega
    obtain ⟨fm, gm⟩ := lay_first hL (i := m) (by omega) A2
    obtain ⟨fl, gl⟩ := lay_first hL (i := l) (by omega) A1
    have ho := h2 hlf
    rcases (show o = 0 ∨ o = 1 ∨ o = 2 ∨ o = 3 ∨ o = 4 by omega) with rfl | rfl | rfl | rfl | rfl
    · rw [Nat.add_zero, q0] at hx
      cases hx
      refine ⟨ins_ok ⟨by simp, by simp⟩ ⟨by simp, by simp [mostI]⟩, ?_, ?_, fun t ht => ?_⟩
      · rw [Nat.add_zero, dAt_of q0]; simp [needI, dOf]
      · rw [Nat.add_zero, dAt_of q0]; simp [moreI, dOf]
      · have ht' : t = ((S i + 1 : Nat) : Int) := by simpa [nextI] using ht
        subst ht'
        have z : dAt p.code (S i + 0) = 1 := dAt_of (x := ⟨1, 0⟩) q0
        rw [Int.toNat_natCast, z, dAt_of q1]
        exact ⟨by omega, by omega, by simp [dOf, moreI]⟩
    · rw [q1] at hx
      cases hx
      refine ⟨ins_ok ⟨by simp, by simp⟩ ⟨by simp, by simp [mostI]; omega⟩, ?_, ?_, fun t ht => ?_⟩
      · rw [dAt_of q1]; simp [needI, dOf]
      · rw [dAt_of q1]; simp [moreI, dOf]
      · have ht' : t = ((S i + 2 : Nat) : Int) := by
          have : t = ((S i + 1 : Nat) : Int) + 1 := by simpa [nextI] using ht
          omega
        subst ht'
        rw [Int.toNat_natCast, dAt_of q1, dAt_of q2]
        exact ⟨by omega, by omega, by simp [dOf, moreI]⟩
    · rw [q2] at hx
      cases hx
      refine ⟨ins_ok ⟨by simp, by simp⟩ ⟨by simp, by simp [mostI]⟩, ?_, ?_, fun t ht => ?_⟩
      · rw [dAt_of q2]; simp [needI, dOf]
      · rw [dAt_of q2]; simp [moreI, dOf]
      · have ht' : t = ((S i + 3 : Nat) : Int) := by
          have : t = ((S i + 2 : Nat) : Int) + 1 := by simpa [nextI] using ht
          omega
        subst ht'
        rw [Int.toNat_natCast, dAt_of q2, dAt_of q3]
        exact ⟨by omega, by omega, by simp [dOf, moreI]⟩
    · rw [q3] at hx
      cases hx
      refine ⟨ins_ok ⟨by simp, by simp⟩ ⟨by simp, by simp [mostI]; omega⟩, ?_, ?_, fun t ht => ?_⟩
      · rw [dAt_of q3]; simp [needI, dOf]
      · rw [dAt_of q3]; simp [moreI, dOf]
      · have ht' : t = ((S i + 4 : Nat) : Int) ∨ t = ((S m : Nat) : Int) := by
          have : t = ((S i + 3 : Nat) : Int) + 1 ∨ t = ((S i + 3 : Nat) : Int) + 1 + d := by simpa [nextI] using ht
          omega
        have hd3 : dAt p.code (S i + 3) + moreI 4 = 1 := by rw [dAt_of q3]; simp [dOf, moreI]
        rcases ht' with rfl | rfl
        · rw [Int.toNat_natCast]
          rcases hless with ⟨d2, q4, _⟩ | q4
          · have b4 := (List.getElem?_eq_some_iff.1 q4).1
            exact ⟨by omega, by omega, by rw [hd3, dAt_of q4]; simp [dOf]⟩
          · rw [← q4]
            exact ⟨by omega, by omega, by rw [hd3]; exact gl⟩
        · rw [Int.toNat_natCast]
          exact ⟨by omega, by omega, by rw [hd3]; exact gm⟩
    · rcases hless with ⟨d2, q4, hd2⟩ | q4
      · rw [q4] at hx
        cases hx
        refine ⟨ins_ok ⟨by simp, by simp⟩ ⟨by simp, by simp [mostI]; omega⟩, ?_, ?_, fun t ht => ?_⟩
        · rw [dAt_of q4]; simp [needI, dOf]
        · rw [dAt_of q4]; simp [moreI, dOf]
        · have ht' : t = ((S l : Nat) : Int) := by
            have : t = ((S i + 4 : Nat) : Int) + 1 + d2 := by simpa [nextI] using ht
            omega
          subst ht'
          rw [Int.toNat_natCast, dAt_of q4]
          exact ⟨by omega, by omega, by rw [gl]; simp [dOf, moreI]⟩
      · rw [← q4] at hx ⊢
        exact pl_ok hL hn (i := l) (by omega) A1 0 (fun _ => rfl) (fun _ => by omega) hx (by omega)
termination_by i * 8 + o
decreasing_by omega
end Go.Proofs.YtlhidbbphngpcaaDoor
namespace Go.Proofs.YtlhidbbphngpcaaDoor
set_option linter.unusedVariables false
set_option linter.unusedSimpArgs false
open Go.ChangeShapes Go.WideShapes Go.ChangeAt Go.RowKit

theorem gen_root {ns : List Nod} {ak : List Bool} (h0 : 0 < ns.length) (hr : askd ak (ns.length - 1) = true) : genS ns ak (ns.length - 1) = 0 := by
  have hf : fol ak ns.length = ((ns.length - 1 : Nat) : Int) := by
    obtain ⟨m, hm⟩ : ∃ m, ns.length = m + 1 := ⟨ns.length - 1, by omega⟩
    rw [hm] at hr ⊢
    have hr' : askd ak m = true := hr
    show (if askd ak m = true then (m : Int) else fol ak m) = _
    rw [if_pos hr']
    rfl
  have h := gen_fol (ns := ns) (ak := ak) ns.length (gen0 ns.length) (ns.length - 1) (Nat.le_refl _) (by simp [gen0]) hf
  unfold genS genAll
  rw [h]
  rfl
theorem genP_len (ns : List Nod) (ak : List Bool) (az : List Ans) : (genP ns ak az).code.length = (genAll ns ak).code.length := patch_len _ _
/-- the code of a forest that may be: it may be run. -/
theorem gen_good (f : Frs) (ak : List Bool) (h0 : frsE f = 0) (hak : AkOk f.nodes ak) (hr : askd ak (f.nodes.length - 1) = true) (h1 : (genAll f.nodes ak).code.length ≤ 8000) (h2 : (genAll f.nodes ak).pool.length ≤ 2000) : ∃ x y, verE (genP f.nodes ak f.answers) = (x, y, 0) := by
  obtain ⟨g0, g1, g2, g3, g4⟩ := frs_good h0
  have hL := lay_gen f.nodes ak f.answers hak
  obtain ⟨p, hp⟩ : ∃ p, p = genP f.nodes ak f.answers := ⟨_, rfl⟩
  have hlen : p.code.length ≤ 8000 := by rw [hp, genP_len]; exact h1
  have hans : p.answers = f.answers := by rw [hp]; rfl
  have hpool : p.pool.length ≤ 2000 := by rw [hp]; exact h2
  have hcov : ∀ k (hk : k < p.code.length), PlOk p k p.code[k] := fun k hk => by
    have hk' : k < (genAll f.nodes ak).code.length := by rw [← genP_len f.nodes ak f.answers, ← hp]; exact hk
    obtain ⟨i, hi, ha, o, e1, e2, e3⟩ := gen_cov (ns := f.nodes) (ak := ak) f.nodes.length (gen0 f.nodes.length) (Nat.le_refl _) (by simp [gen0]) k (Nat.zero_le _) hk'
    have hS : genS f.nodes ak i + o = k := by
      have h : ((genAll f.nodes ak).start.getD i 0) + (o : Int) = k := e1
      have hge : 0 ≤ (genAll f.nodes ak).start.getD i 0 := by
        have := gen_ge (ns := f.nodes) (ak := ak) f.nodes.length (gen0 f.nodes.length) i (Nat.le_refl _) (by simp [gen0]) hi ha
        exact Int.le_trans (Int.natCast_nonneg _) this
      unfold genS
      omega
    rw [← hp] at hL
    have hx : p.code[genS f.nodes ak i + o]? = some p.code[k] := by rw [hS]; exact List.getElem?_eq_getElem hk
    have := pl_ok hL (fun i hi => by rw [hans]; exact g4 i hi) hi ha o e2 e3 hx (by omega)
    rw [hS] at this
    exact this
  rw [← hp] at hL
  obtain ⟨r1, r2⟩ := lay_first hL (i := f.nodes.length - 1) (by omega) hr
  rw [gen_root g0 hr] at r1 r2
  have hprg : prgE p = 0 := by
    unfold prgE
    rw [if_neg (by omega), if_neg (by rw [hans]; omega)]
    have ha : anssE p.answers = 0 := by
      unfold anssE
      rw [hans]
      exact ferr_none _ _ _ fun i hi => g3 i hi
    rw [if_neg (by rw [ha]; simp)]
    exact ferr_none _ _ _ fun i hi => by rw [Nat.zero_add]; exact (hcov i hi).1
  obtain ⟨st, hs, _⟩ := scan_typed p.code (dAt p.code) r2 (fun k hk => (hcov k hk).2) p.code.length (Nat.le_refl _)
  rw [← hp]
  unfold verE
  rw [if_neg (by rw [hprg]; simp), hs]
  exact ⟨_, _, rfl⟩
/-- it runs to the tree's answer. -/
theorem gen_run (f : Frs) (ak : List Bool) (hak : AkOk f.nodes ak) (h0 : 0 < f.nodes.length) (hr : askd ak (f.nodes.length - 1) = true) (h1 : (genAll f.nodes ak).code.length ≤ 8000) {t : Int} {a : Nat} (hL : Lf f.nodes t (f.nodes.length - 1) a) (ha : a < f.answers.length) : ∃ k, Rn (genP f.nodes ak f.answers) t 0 [] 0 a k ∧ 0 ≤ k ∧ k ≤ 8000 := by
  obtain ⟨k, e1, e2, e3⟩ := lay_run (lay_gen f.nodes ak f.answers hak) hL hr a rfl ha 0 (Int.le_refl _) (by omega)
  rw [gen_root h0 hr] at e1
  exact ⟨k, e1, e2, by rw [genP_len] at e3; omega⟩
/-- a small forest's code is not too long. -/
theorem step_small {ns : List Nod} {ak : List Bool} {i : Nat} {g : Gs} : (gStep ns ak i g).code.length ≤ g.code.length + 5 ∧ (gStep ns ak i g).pool.length ≤ g.pool.length + 1 := by
  have hp : ∀ b, (poolP g.pool b).length ≤ g.pool.length + 1 := fun b => by unfold poolP; split <;> simp
  unfold gStep
  split
  · split
    · exact ⟨by omega, by omega⟩
    · split
      · exact ⟨by simp, by simp⟩
      · unfold gAsk
        split
        · exact ⟨by simp, hp _⟩
        · exact ⟨by simp, hp _⟩
  · exact ⟨by omega, by omega⟩
theorem gen_small {ns : List Nod} {ak : List Bool} : ∀ (k : Nat) (g : Gs), (gen ns ak k g).code.length ≤ g.code.length + 5 * k ∧ (gen ns ak k g).pool.length ≤ g.pool.length + k
  | 0, g => ⟨by show g.code.length ≤ _; omega, by show g.pool.length ≤ _; omega⟩
  | k + 1, g => by
    obtain ⟨h1, h2⟩ := gen_small (ns := ns) (ak := ak) k (gStep ns ak k g)
    obtain ⟨h3, h4⟩ := step_small (ns := ns) (ak := ak) (i := k) (g := g)
    exact ⟨by show (gen ns ak k (gStep ns ak k g)).code.length ≤ _; omega, by show (gen ns ak k (gStep ns ak k g)).pool.length ≤ _; omega⟩
theorem genAll_small (ns : List Nod) (ak : List Bool) : (genAll ns ak).code.length ≤ 5 * ns.length ∧ (genAll ns ak).pool.length ≤ ns.length := by
  have h := gen_small (ns := ns) (ak := ak) ns.length (gen0 ns.length)
  have e1 : (gen0 ns.length).code.length = 0 := rfl
  have e2 : (gen0 ns.length).pool.length = 0 := rfl
  rw [e1, e2, Nat.zero_add, Nat.zero_add] at h
  exact h
end Go.Proofs.YtlhidbbphngpcaaDoor
namespace Go.Proofs.YtlhidbbphngpcaaDoor
set_option linter.unusedVariables false
set_option linter.unusedSimpArgs false
open Go.ChangeShapes Go.WideShapes Go.ChangeAt Go.RowKit

def RBol (cs : List Value) (x : Bool) : Prop := cs = [.bool x]
theorem elemBol {w : World} {aa : Option Addr} {n ca : Nat} {xs : List Bool} (h : SlAt w 1 RBol (.slice aa n ca) xs) (k : Nat) (hk : k < xs.length) :
    ∃ b off, aa = some ⟨b, off, none⟩ ∧ b < w.heap.size ∧ w.cell? ⟨b, off + k, none⟩ = some (.bool xs[k]) := by
  rcases h with ⟨a, cap, hv, rfl⟩ | ⟨b, off, cap, hv, h0, h1, h2, h3, h4⟩
  · simp at hk
  · obtain ⟨cs, _, rfl, c3⟩ := h4 k hk
    simp only [Value.slice.injEq] at hv
    have := c3 0 (by omega)
    rw [Nat.mul_one, Nat.add_zero] at this
    exact ⟨b, off, hv.1, h3, this⟩
theorem fol_hit {ak : List Bool} {j : Nat} (h : askd ak j = true) : fol ak (j + 1) = j := by
  show (if askd ak j = true then (j : Int) else fol ak j) = _
  rw [if_pos h]
theorem fol_miss {ak : List Bool} {j : Nat} (h : askd ak j = false) : fol ak (j + 1) = fol ak j := by
  show (if askd ak j = true then (j : Int) else fol ak j) = _
  rw [if_neg (by rw [h]; simp)]
set_option maxHeartbeats 1000000 in
theorem following_any (v : Value) (ak : List Bool) (i : Nat) (w : World) (hv : SlAt w 1 RBol v ak) (hi : i < ak.length) :
    Calls Tryd.prog 47 #[v, .int .i64 i] w fun e w' => e = .returned (.int .i64 (fol ak i)) ∧ w' = w := by
  obtain ⟨av, cv, rfl, hl⟩ := hv.shape
  have hm := maxLen_eq _ hl
  have HV := Lib.hid hv
  have hi9 : (i : Int) < 9223372036854775807 := by omega
  obtain ⟨r, hr⟩ : ∃ r, r = fol ak i := ⟨_, rfl⟩
  rw [← hr]
  have HR := Lib.hid hr
  have HI := Lib.hid hi
  have HM := Lib.hid hm
  clear hv hl hr hi hm
  go_enter Tryd.func47, Tryd.ntmps47
  go_wp2
  clear hi9
  go_loopw [1] (fun t wr => ∃ (j : Nat) (J : Int), t = .int .i64 J ∧ Hid (J = (j : Int) - 1) ∧ j ≤ i ∧ Hid (r = fol ak j) ∧ wr = w) (fun t _ => (intOf t + 1).toNat)
  case atStart => exact ⟨i, _, rfl, Lib.hid rfl, Nat.le_refl _, HR, rfl⟩
  case round =>
    obtain ⟨j, J, rfl, hJ, hj, hf, rfl⟩ := hrel
    cases j with
    | zero =>
      have hr : r = -1 := hf.out
      obtain rfl : J = -1 := by have := hJ.out; omega
      subst hr
      go_wp2
      go_ret
      exact ⟨rfl, rfl⟩
    | succ j =>
      obtain rfl : J = (j : Int) := by have := hJ.out; omega
      have hjl : j < ak.length := by have := HI.out; omega
      obtain ⟨b, off, rfl, hb, hc⟩ := elemBol HV.out j hjl
      have hask : askd ak j = ak[j] := by unfold askd; rw [List.getD_eq_getElem?_getD, List.getElem?_eq_getElem hjl]; rfl
      have hjli : (j : Int) < (ak.length : Int) := by omega
      cases hx : ak[j] with
      | true =>
        rw [hx] at hc hask
        have hr : r = j := by rw [hf.out, fol_hit hask]
        subst hr
        clear hask hx
        go_wp2
        go_ret
        exact ⟨rfl, rfl⟩
      | false =>
        rw [hx] at hc hask
        have HF : Hid (r = fol ak j) := by show _ = _; rw [hf.out, fol_miss hask]
        clear hask hx
        have hw : wrap64 ((j : Int) - 1) = (j : Int) - 1 := IntWalk.wrap64_in _ (by have := HM.out; omega)
        have HW := Lib.hid hw
        clear hw
        go_wp2
        go_roundw
        case rel => exact ⟨j, _, rfl, HW, by omega, HF, by first | rfl | trivial⟩
        case measure => simp [intOf, HW.out]
end Go.Proofs.YtlhidbbphngpcaaDoor
namespace Go.Proofs.YtlhidbbphngpcaaDoor
set_option linter.unusedVariables false
set_option linter.unusedSimpArgs false
open Go.ChangeShapes Go.WideShapes Go.ChangeAt Go.RowKit

def rStep (ns : List Nod) (i : Nat) (o : List Bool) : List Bool := match ns[i]? with
  | none => o
  | some n => if askd o i = true ∧ n.lf = false then (o.set n.ls.toNat true).set n.mr.toNat true else o
/-- the nodes below k, the highest first. -/
def rch (ns : List Nod) : Nat → List Bool → List Bool
  | 0, o => o
  | k + 1, o => rch ns k (rStep ns k o)
/-- the nodes that are asked from the root. -/
def reachD (ns : List Nod) : List Bool := rch ns ns.length ((List.replicate ns.length false).set (ns.length - 1) true)
def Chl (ns : List Nod) : Prop := ∀ i (hi : i < ns.length), ns[i].lf = false → 0 ≤ ns[i].ls ∧ ns[i].ls < i ∧ 0 ≤ ns[i].mr ∧ ns[i].mr < i
theorem askd_set (o : List Bool) (i j : Nat) : askd (o.set i true) j = if i = j ∧ i < o.length then true else askd o j := by
  unfold askd
  simp only [List.getD_eq_getElem?_getD, List.getElem?_set]
  by_cases h : i = j
  · subst h
    by_cases h2 : i < o.length
    · simp [h2]
    · simp [h2, List.getElem?_eq_none (Nat.le_of_not_lt h2)]
  · simp [h]
theorem rStep_len (ns : List Nod) (i : Nat) (o : List Bool) : (rStep ns i o).length = o.length := by
  unfold rStep
  split
  · rfl
  · split
    · simp
    · rfl
theorem rch_len (ns : List Nod) : ∀ (k : Nat) (o : List Bool), (rch ns k o).length = o.length
  | 0, o => rfl
  | k + 1, o => by
    show (rch ns k (rStep ns k o)).length = _
    rw [rch_len ns k, rStep_len]
theorem rStep_keep {ns : List Nod} {i j : Nat} {o : List Bool} (h : askd o j = true) : askd (rStep ns i o) j = true := by
  unfold rStep
  split
  · exact h
  · split
    · rw [askd_set]; split
      · rfl
      · rw [askd_set]; split
        · rfl
        · exact h
    · exact h
theorem rch_keep {ns : List Nod} : ∀ (k : Nat) {j : Nat} {o : List Bool}, askd o j = true → askd (rch ns k o) j = true
  | 0, j, o, h => h
  | k + 1, j, o, h => rch_keep k (rStep_keep h)
theorem rStep_above {ns : List Nod} (hc : Chl ns) {i j : Nat} {o : List Bool} (hj : i ≤ j) : askd (rStep ns i o) j = askd o j := by
  unfold rStep
  split
  · rfl
  · rename_i n hn
    obtain ⟨hi, he⟩ := List.getElem?_eq_some_iff.1 hn
    split
    · rename_i hh
      have := hc i hi (by rw [he]; exact hh.2)
      rw [he] at this
      rw [askd_set, if_neg (by omega), askd_set, if_neg (by omega)]
    · rfl
theorem rch_above {ns : List Nod} (hc : Chl ns) : ∀ (k : Nat) {j : Nat} {o : List Bool}, k ≤ j → askd (rch ns k o) j = askd o j
  | 0, j, o, h => rfl
  | k + 1, j, o, h => by
    show askd (rch ns k (rStep ns k o)) j = _
    rw [rch_above hc k (by omega), rStep_above hc (by omega)]
theorem rch_ok {ns : List Nod} (hc : Chl ns) : ∀ (k : Nat) (o : List Bool), k ≤ ns.length → o.length = ns.length → ∀ i (hi : i < ns.length), i < k → askd (rch ns k o) i = true → ns[i].lf = false → askd (rch ns k o) ns[i].ls.toNat = true ∧ askd (rch ns k o) ns[i].mr.toNat = true
  | k + 1, o, hk, ho, i, hi, hik, ha, hl => by
    have ho2 : (rStep ns k o).length = ns.length := by rw [rStep_len, ho]
    rcases Nat.lt_or_ge i k with h | h
    · exact rch_ok hc k (rStep ns k o) (by omega) ho2 i hi h ha hl
    · obtain rfl : i = k := by omega
      have ha2 : askd (rch ns i (rStep ns i o)) i = true := ha
      rw [rch_above hc i (Nat.le_refl _), rStep_above hc (Nat.le_refl _)] at ha2
      obtain ⟨c1, c2, c3, c4⟩ := hc i hi hl
      have hs : rStep ns i o = (o.set ns[i].ls.toNat true).set ns[i].mr.toNat true := by
        unfold rStep
        rw [List.getElem?_eq_getElem hi]
        dsimp only
        rw [if_pos ⟨ha2, hl⟩]
      refine ⟨rch_keep i ?_, rch_keep i ?_⟩
      · rw [hs, askd_set]
        split
        · rfl
        · rw [askd_set, if_pos ⟨rfl, by omega⟩]
      · rw [hs, askd_set, if_pos ⟨rfl, by simp; omega⟩]
theorem reach_ok {ns : List Nod} (hc : Chl ns) : AkOk ns (reachD ns) := fun i hi ha hl => by
  obtain ⟨c1, c2, c3, c4⟩ := hc i hi hl
  obtain ⟨h1, h2⟩ := rch_ok hc ns.length _ (Nat.le_refl _) (by simp) i hi hi ha hl
  exact ⟨ns[i].ls.toNat, ns[i].mr.toNat, by omega, by omega, by omega, by omega, h1, h2⟩
theorem reach_root {ns : List Nod} (h0 : 0 < ns.length) : askd (reachD ns) (ns.length - 1) = true :=
  rch_keep _ (by rw [askd_set, if_pos ⟨rfl, by simp; omega⟩])
theorem reach_len (ns : List Nod) : (reachD ns).length = ns.length := by unfold reachD; rw [rch_len]; simp
/-- of a forest that may be. -/
theorem frs_chl {f : Frs} (h : frsE f = 0) : Chl f.nodes := fun i hi hl => by
  obtain ⟨_, _, _, _, g4⟩ := frs_good h
  have hni := g4 i hi
  unfold nodE at hni
  rw [if_neg (by simp [hl])] at hni
  by_cases q : f.nodes[i].an ≠ 0
  · rw [if_pos q] at hni; exact absurd hni (by decide)
  · rw [if_neg q] at hni
    by_cases q' : f.nodes[i].ls < 0 ∨ (i : Int) ≤ f.nodes[i].ls ∨ f.nodes[i].mr < 0 ∨ (i : Int) ≤ f.nodes[i].mr
    · rw [if_pos q'] at hni; exact absurd hni (by decide)
    · omega
end Go.Proofs.YtlhidbbphngpcaaDoor
