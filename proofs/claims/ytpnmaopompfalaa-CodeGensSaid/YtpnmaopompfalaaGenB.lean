/-
  Code of a forest, plain: what Gen computes is laid out after the tree.
-/
import Derived.Test.YtpnmaopompfalaaGenA
namespace Go.Proofs.Ytpnmaopompfalaa
set_option linter.unusedVariables false
set_option linter.unusedSimpArgs false
open Go.ChangeShapes Go.WideShapes Go.ChangeAt Go.RowKit

structure Gs where
  code : List Ins
  pool : List Int
  start : List Int
  holes : List (Nat × Nat)
def askd (ak : List Bool) (i : Nat) : Bool := ak.getD i false
/-- the node that is written behind node i: the next below it that is asked, or -1. -/
def fol (ak : List Bool) : Nat → Int
  | 0 => -1
  | i + 1 => if askd ak i = true then i else fol ak i
def poolK (pool : List Int) (b : Int) : Nat := if b ∈ pool then pool.idxOf b else pool.length
def poolP (pool : List Int) (b : Int) : List Int := if b ∈ pool then pool else pool ++ [b]
def gAsk (ak : List Bool) (i : Nat) (n : Nod) (g : Gs) : Gs :=
  if fol ak i ≠ n.ls then ⟨g.code ++ [⟨1, 0⟩, ⟨2, poolK g.pool n.bd⟩, ⟨3, 0⟩, ⟨4, 0⟩, ⟨5, 0⟩], poolP g.pool n.bd, g.start.set i g.code.length, g.holes ++ [(g.code.length + 3, n.mr.toNat), (g.code.length + 4, n.ls.toNat)]⟩
  else ⟨g.code ++ [⟨1, 0⟩, ⟨2, poolK g.pool n.bd⟩, ⟨3, 0⟩, ⟨4, 0⟩], poolP g.pool n.bd, g.start.set i g.code.length, g.holes ++ [(g.code.length + 3, n.mr.toNat)]⟩
def gStep (ns : List Nod) (ak : List Bool) (i : Nat) (g : Gs) : Gs :=
  if askd ak i = true then match ns[i]? with
    | none => g
    | some n => if n.lf = true then ⟨g.code ++ [⟨6, n.an⟩], g.pool, g.start.set i g.code.length, g.holes⟩ else gAsk ak i n g
  else g
def gen (ns : List Nod) (ak : List Bool) : Nat → Gs → Gs
  | 0, g => g
  | i + 1, g => gen ns ak i (gStep ns ak i g)
def patch1 (start : List Int) (c : List Ins) (h : Nat × Nat) : List Ins := c.set h.1 ⟨(c.getD h.1 ⟨0, 0⟩).op, start.getD h.2 0 - h.1 - 1⟩
def patch (start : List Int) (c : List Ins) (hs : List (Nat × Nat)) : List Ins := hs.foldl (patch1 start) c

/-- the second is the first and more. -/
def Ext (k : Nat) (g g' : Gs) : Prop := g.code <+: g'.code ∧ g.pool <+: g'.pool ∧ g.holes <+: g'.holes ∧ g'.start.length = g.start.length ∧ ∀ j, k ≤ j → g'.start.getD j 0 = g.start.getD j 0
theorem Ext.refl (k : Nat) (g : Gs) : Ext k g g := ⟨List.prefix_rfl, List.prefix_rfl, List.prefix_rfl, rfl, fun _ _ => rfl⟩
theorem Ext.trans {k : Nat} {a b c : Gs} (h : Ext k a b) (g : Ext k b c) : Ext k a c :=
  ⟨h.1.trans g.1, h.2.1.trans g.2.1, h.2.2.1.trans g.2.2.1, g.2.2.2.1.trans h.2.2.2.1, fun j hj => (g.2.2.2.2 j hj).trans (h.2.2.2.2 j hj)⟩
theorem Ext.mono {k k' : Nat} {a b : Gs} (h : Ext k a b) (hk : k ≤ k') : Ext k' a b := ⟨h.1, h.2.1, h.2.2.1, h.2.2.2.1, fun j hj => h.2.2.2.2 j (by omega)⟩
theorem start_set (l : List Int) (i j : Nat) (v : Int) (h : i ≠ j) : (l.set i v).getD j 0 = l.getD j 0 := by
  rw [List.getD_eq_getElem?_getD, List.getElem?_set_ne h, List.getD_eq_getElem?_getD]
theorem poolP_pre (pool : List Int) (b : Int) : pool <+: poolP pool b := by
  unfold poolP
  split
  · exact List.prefix_rfl
  · exact List.prefix_append _ _
theorem poolK_at (pool : List Int) (b : Int) : (poolP pool b)[poolK pool b]? = some b := by
  unfold poolP poolK
  by_cases h : b ∈ pool
  · rw [if_pos h, if_pos h]
    rw [List.getElem?_eq_getElem (List.idxOf_lt_length_of_mem h), List.getElem_idxOf]
  · rw [if_neg h, if_neg h, List.getElem?_append_right (Nat.le_refl _), Nat.sub_self]
    rfl
theorem step_ext (ns : List Nod) (ak : List Bool) (i : Nat) (g : Gs) : Ext (i + 1) g (gStep ns ak i g) := by
  unfold gStep
  split
  · split
    · exact Ext.refl _ _
    · split
      · exact ⟨List.prefix_append _ _, List.prefix_rfl, List.prefix_rfl, List.length_set .., fun j hj => start_set _ _ _ _ (by omega)⟩
      · unfold gAsk
        split
        · exact ⟨List.prefix_append _ _, poolP_pre _ _, List.prefix_append _ _, List.length_set .., fun j hj => start_set _ _ _ _ (by omega)⟩
        · exact ⟨List.prefix_append _ _, poolP_pre _ _, List.prefix_append _ _, List.length_set .., fun j hj => start_set _ _ _ _ (by omega)⟩
  · exact Ext.refl _ _
theorem gen_ext (ns : List Nod) (ak : List Bool) : ∀ (k : Nat) (g : Gs), Ext k g (gen ns ak k g)
  | 0, g => Ext.refl _ _
  | k + 1, g => (step_ext ns ak k g).trans ((gen_ext ns ak k (gStep ns ak k g)).mono (Nat.le_succ k))
/-- an asked node's part begins where the code ended. -/
theorem step_start {ns : List Nod} {ak : List Bool} {i : Nat} {g : Gs} (ha : askd ak i = true) (hi : i < ns.length) (hl : g.start.length = ns.length) : (gStep ns ak i g).start.getD i 0 = g.code.length := by
  have hs : (g.start.set i (g.code.length : Int)).getD i 0 = g.code.length := by
    rw [List.getD_eq_getElem?_getD, List.getElem?_set_self (by omega)]; rfl
  unfold gStep
  rw [if_pos ha, List.getElem?_eq_getElem hi]
  dsimp only
  split
  · exact hs
  · unfold gAsk
    split
    · exact hs
    · exact hs
/-- where the next asked node's part begins. -/
theorem gen_fol {ns : List Nod} {ak : List Bool} : ∀ (k : Nat) (g : Gs) (f : Nat), k ≤ ns.length → g.start.length = ns.length → fol ak k = f → (gen ns ak k g).start.getD f 0 = g.code.length
  | 0, g, f, _, _, h => by unfold fol at h; omega
  | k + 1, g, f, hk, hl, h => by
    unfold fol at h
    by_cases ha : askd ak k = true
    · rw [if_pos ha] at h
      obtain rfl : k = f := by omega
      show (gen ns ak k (gStep ns ak k g)).start.getD k 0 = _
      rw [(gen_ext ns ak k _).2.2.2.2 k (Nat.le_refl _)]
      exact step_start ha (by omega) hl
    · rw [if_neg ha] at h
      have hs : gStep ns ak k g = g := by unfold gStep; rw [if_neg ha]
      show (gen ns ak k (gStep ns ak k g)).start.getD f 0 = _
      rw [hs]
      exact gen_fol k g f (by omega) hl h
/-- what is written later lies behind. -/
theorem gen_ge {ns : List Nod} {ak : List Bool} : ∀ (k : Nat) (g : Gs) (v : Nat), k ≤ ns.length → g.start.length = ns.length → v < k → askd ak v = true → (g.code.length : Int) ≤ (gen ns ak k g).start.getD v 0
  | k + 1, g, v, hk, hl, hv, ha => by
    have e := step_ext ns ak k g
    have hlen : g.code.length ≤ (gStep ns ak k g).code.length := e.1.length_le
    rcases Nat.lt_or_ge v k with h | h
    · have := gen_ge (ns := ns) (ak := ak) k (gStep ns ak k g) v (by omega) (by rw [e.2.2.2.1]; exact hl) h ha
      show (g.code.length : Int) ≤ (gen ns ak k (gStep ns ak k g)).start.getD v 0
      omega
    · obtain rfl : v = k := by omega
      show (g.code.length : Int) ≤ (gen ns ak v (gStep ns ak v g)).start.getD v 0
      rw [(gen_ext ns ak v _).2.2.2.2 v (Nat.le_refl _), step_start (ns := ns) ha (by omega) hl]
      exact Int.le_refl _
/-- each hole is an instruction without its number; they lie one behind the other. -/
def HOk (g : Gs) : Prop := g.holes.Pairwise (fun a b => a.1 < b.1) ∧ ∀ h ∈ g.holes, h.1 < g.code.length ∧ (g.code[h.1]? = some ⟨4, 0⟩ ∨ g.code[h.1]? = some ⟨5, 0⟩)
theorem hok_more {g : Gs} {c : List Ins} {pl st : List Int} (h : HOk g) (hs : List (Nat × Nat)) (hp : hs.Pairwise (fun a b => a.1 < b.1)) (hl : ∀ a ∈ hs, g.code.length ≤ a.1 ∧ a.1 < g.code.length + c.length ∧ (c[a.1 - g.code.length]? = some ⟨4, 0⟩ ∨ c[a.1 - g.code.length]? = some ⟨5, 0⟩)) : HOk ⟨g.code ++ c, pl, st, g.holes ++ hs⟩ := by
  obtain ⟨h1, h2⟩ := h
  refine ⟨List.pairwise_append.2 ⟨h1, hp, fun a ha b hb => Nat.lt_of_lt_of_le (h2 a ha).1 (hl b hb).1⟩, fun a ha => ?_⟩
  show a.1 < (g.code ++ c).length ∧ ((g.code ++ c)[a.1]? = _ ∨ (g.code ++ c)[a.1]? = _)
  rw [List.length_append]
  rcases List.mem_append.1 ha with ha | ha
  · obtain ⟨g1, g2⟩ := h2 a ha
    rw [List.getElem?_append_left g1]
    exact ⟨by omega, g2⟩
  · obtain ⟨g1, g2, g3⟩ := hl a ha
    rw [List.getElem?_append_right g1]
    exact ⟨g2, g3⟩
theorem step_hok {ns : List Nod} {ak : List Bool} {i : Nat} {g : Gs} (h : HOk g) : HOk (gStep ns ak i g) := by
  unfold gStep
  split
  · split
    · exact h
    · split
      · have := hok_more (c := [⟨6, (by assumption : Nod).an⟩]) (pl := g.pool) (st := g.start.set i g.code.length) h [] List.Pairwise.nil (fun a ha => by simp at ha)
        simpa using this
      · unfold gAsk
        split
        · refine hok_more h _ (by simp) (fun a ha => ?_)
          simp at ha
          rcases ha with rfl | rfl
          · simp
          · simp
        · refine hok_more h _ (by simp) (fun a ha => ?_)
          simp at ha
          subst ha
          simp
  · exact h
theorem gen_hok {ns : List Nod} {ak : List Bool} : ∀ (k : Nat) (g : Gs), HOk g → HOk (gen ns ak k g)
  | 0, g, h => h
  | k + 1, g, h => gen_hok k _ (step_hok h)
end Go.Proofs.Ytpnmaopompfalaa
