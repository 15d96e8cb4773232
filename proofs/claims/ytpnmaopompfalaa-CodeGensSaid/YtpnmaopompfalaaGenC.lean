/-
  Code of a forest, plain: what Gen computes is laid out after the tree.
-/
import Derived.Test.YtpnmaopompfalaaGenB
namespace Go.Proofs.Ytpnmaopompfalaa
set_option linter.unusedVariables false
set_option linter.unusedSimpArgs false
open Go.ChangeShapes Go.WideShapes Go.ChangeAt Go.RowKit

theorem patch_no {st : List Int} : ∀ (hs : List (Nat × Nat)) (c : List Ins) (j : Nat), (∀ h ∈ hs, h.1 ≠ j) → (patch st c hs)[j]? = c[j]?
  | [], c, j, _ => rfl
  | h :: hs, c, j, hn => by
    show (patch st (patch1 st c h) hs)[j]? = _
    rw [patch_no hs _ j (fun a ha => hn a (List.mem_cons_of_mem _ ha))]
    unfold patch1
    rw [List.getElem?_set_ne (hn h List.mem_cons_self)]
theorem patch_yes {st : List Int} : ∀ (hs : List (Nat × Nat)) (c : List Ins) (a v : Nat) (x : Ins), hs.Pairwise (fun a b => a.1 < b.1) → (a, v) ∈ hs → c[a]? = some x → (patch st c hs)[a]? = some ⟨x.op, st.getD v 0 - a - 1⟩
  | h :: hs, c, a, v, x, hp, hm, hx => by
    obtain ⟨p1, p2⟩ := List.pairwise_cons.1 hp
    show (patch st (patch1 st c h) hs)[a]? = _
    have hac : a < c.length := (List.getElem?_eq_some_iff.1 hx).1
    rcases List.mem_cons.1 hm with e | e
    · rw [patch_no hs _ a (fun b hb => by have := p1 b hb; rw [← e] at this; exact Nat.ne_of_gt this), ← e]
      unfold patch1
      rw [List.getElem?_set_self hac, List.getD_eq_getElem?_getD, hx]
      rfl
    · have hlt := p1 _ e
      refine patch_yes hs _ a v x p2 e ?_
      unfold patch1
      rw [List.getElem?_set_ne (Nat.ne_of_lt hlt)]
      exact hx
theorem patch_len {st : List Int} : ∀ (hs : List (Nat × Nat)) (c : List Ins), (patch st c hs).length = c.length
  | [], c => rfl
  | h :: hs, c => by
    show (patch st (patch1 st c h) hs).length = _
    rw [patch_len hs]
    unfold patch1
    rw [List.length_set]
/-- each stage of the making. -/
theorem gen_at {ns : List Nod} {ak : List Bool} {g0 : Gs} (h1 : g0.start.length = ns.length) (h2 : HOk g0) : ∀ d, d ≤ ns.length → ∃ g, gen ns ak ns.length g0 = gen ns ak (ns.length - d) g ∧ g.start.length = ns.length ∧ HOk g
  | 0, _ => ⟨g0, rfl, h1, h2⟩
  | d + 1, hd => by
    obtain ⟨g, e1, e2, e3⟩ := gen_at h1 h2 d (by omega)
    refine ⟨gStep ns ak (ns.length - (d + 1)) g, ?_, ?_, step_hok e3⟩
    · rw [e1, show ns.length - d = (ns.length - (d + 1)) + 1 by omega]
      rfl
    · rw [(step_ext ns ak _ g).2.2.2.1, e2]
def gen0 (n : Nat) : Gs := ⟨[], [], List.replicate n 0, []⟩
def genAll (ns : List Nod) (ak : List Bool) : Gs := gen ns ak ns.length (gen0 ns.length)
def genP (ns : List Nod) (ak : List Bool) (az : List Ans) : Prg := ⟨patch (genAll ns ak).start (genAll ns ak).code (genAll ns ak).holes, (genAll ns ak).pool, az⟩
def genS (ns : List Nod) (ak : List Bool) (i : Nat) : Nat := ((genAll ns ak).start.getD i 0).toNat
/-- which nodes are asked: with a node both that it leads to. -/
def AkOk (ns : List Nod) (ak : List Bool) : Prop := ∀ i (hi : i < ns.length), askd ak i = true → ns[i].lf = false → ∃ l m : Nat, ns[i].ls = l ∧ ns[i].mr = m ∧ l < i ∧ m < i ∧ askd ak l = true ∧ askd ak m = true
theorem pre_at {α : Type} {a b : List α} (h : a <+: b) {j : Nat} {x : α} (hx : a[j]? = some x) : b[j]? = some x := by
  obtain ⟨t, rfl⟩ := h
  rw [List.getElem?_append_left (List.getElem?_eq_some_iff.1 hx).1]
  exact hx
theorem lay_gen (ns : List Nod) (ak : List Bool) (az : List Ans) (hak : AkOk ns ak) : Lay (genP ns ak az) ns (genS ns ak) (askd ak) := by
  intro i hi ha
  have h0 : HOk (gen0 ns.length) := ⟨List.Pairwise.nil, fun h hh => by simp [gen0] at hh⟩
  obtain ⟨g, e1, e2, e3⟩ := gen_at (ns := ns) (ak := ak) (g0 := gen0 ns.length) (by simp [gen0]) h0 (ns.length - i - 1) (by omega)
  rw [show ns.length - (ns.length - i - 1) = i + 1 by omega] at e1
  have hG : genAll ns ak = gen ns ak i (gStep ns ak i g) := e1
  have hext := gen_ext ns ak i (gStep ns ak i g)
  rw [← hG] at hext
  obtain ⟨x1, x2, x3, x4, x5⟩ := hext
  have hHO : HOk (genAll ns ak) := gen_hok _ _ h0
  have hS : (genAll ns ak).start.getD i 0 = g.code.length := by rw [x5 i (Nat.le_refl _), step_start ha hi e2]
  have hSi : genS ns ak i = g.code.length := by unfold genS; rw [hS]; rfl
  have hlen1 : (gStep ns ak i g).start.length = ns.length := by rw [(step_ext ns ak i g).2.2.2.1, e2]
  have hge : ∀ v, v < i → askd ak v = true → ((gStep ns ak i g).code.length : Int) ≤ (genAll ns ak).start.getD v 0 := fun v hv hav => by
    rw [hG]; exact gen_ge (ns := ns) i _ v (by omega) hlen1 hv hav
  have hfol : ∀ f : Nat, fol ak i = f → (genAll ns ak).start.getD f 0 = (gStep ns ak i g).code.length := fun f hf => by
    rw [hG]; exact gen_fol i _ f (by omega) hlen1 hf
  -- what is no hole stays
  have keep : ∀ {j : Nat} {x : Ins}, (gStep ns ak i g).code[j]? = some x → x.op ≠ 4 → x.op ≠ 5 → (genP ns ak az).code[j]? = some x := fun {j x} hx h4 h5 => by
    have hx' := pre_at x1 hx
    show (patch _ _ _)[j]? = _
    rw [patch_no _ _ j (fun h hh e => by
      obtain ⟨_, q⟩ := hHO.2 h hh
      rw [e, hx'] at q
      rcases q with q | q
      · exact h4 (by rw [Option.some.inj q])
      · exact h5 (by rw [Option.some.inj q]))]
    exact hx'
  have fill : ∀ {j v : Nat} {x : Ins}, (gStep ns ak i g).code[j]? = some x → (j, v) ∈ (gStep ns ak i g).holes → (genP ns ak az).code[j]? = some ⟨x.op, (genAll ns ak).start.getD v 0 - j - 1⟩ := fun {j v x} hx hm => by
    show (patch _ _ _)[j]? = _
    exact patch_yes _ _ j v x hHO.1 (x3.subset hm) (pre_at x1 hx)
  rw [hSi]
  refine ⟨fun hlf => ?_, fun hlf => ?_⟩
  · have hst : gStep ns ak i g = ⟨g.code ++ [⟨6, ns[i].an⟩], g.pool, g.start.set i g.code.length, g.holes⟩ := by
      unfold gStep
      rw [if_pos ha, List.getElem?_eq_getElem hi]
      dsimp only
      rw [if_pos hlf]
    refine keep (x := ⟨6, ns[i].an⟩) ?_ (by simp) (by simp)
    rw [hst]
    show (g.code ++ _)[g.code.length]? = _
    rw [List.getElem?_append_right (Nat.le_refl _), Nat.sub_self]
    rfl
  · obtain ⟨l, m, hl, hm, hli, hmi, al, am⟩ := hak i hi ha hlf
    have hst : gStep ns ak i g = gAsk ak i ns[i] g := by
      unfold gStep
      rw [if_pos ha, List.getElem?_eq_getElem hi]
      dsimp only
      rw [if_neg (by simp [hlf])]
    have gm := hge m hmi am
    have gl := hge l hli al
    have hSm : genS ns ak m = ((genAll ns ak).start.getD m 0).toNat := rfl
    have hSl : genS ns ak l = ((genAll ns ak).start.getD l 0).toNat := rfl
    by_cases hf : fol ak i = ns[i].ls
    · have hst2 : gStep ns ak i g = ⟨g.code ++ [⟨1, 0⟩, ⟨2, poolK g.pool ns[i].bd⟩, ⟨3, 0⟩, ⟨4, 0⟩], poolP g.pool ns[i].bd, g.start.set i g.code.length, g.holes ++ [(g.code.length + 3, ns[i].mr.toNat)]⟩ := by
        rw [hst]; unfold gAsk; rw [if_neg (by simp [hf])]
      have hcode : ∀ o, (gStep ns ak i g).code[g.code.length + o]? = [(⟨1, 0⟩ : Ins), ⟨2, poolK g.pool ns[i].bd⟩, ⟨3, 0⟩, ⟨4, 0⟩][o]? := fun o => by
        rw [hst2]
        show (g.code ++ _)[_]? = _
        rw [List.getElem?_append_right (by omega), Nat.add_sub_cancel_left]
      have hclen : (gStep ns ak i g).code.length = g.code.length + 4 := by rw [hst2]; simp
      rw [hclen] at gm gl
      have hmem : (g.code.length + 3, m) ∈ (gStep ns ak i g).holes := by rw [hst2]; simp [hm]
      have h3 := fill (hcode 3) hmem
      have hfl := hfol l (by rw [hf, hl])
      rw [hclen] at hfl
      refine ⟨l, m, poolK g.pool ns[i].bd, genS ns ak m - (g.code.length + 4), hl, hm, al, am, pre_at x2 (by rw [hst2]; exact poolK_at _ _), keep (hcode 0) (by simp) (by simp), keep (hcode 1) (by simp) (by simp), keep (hcode 2) (by simp) (by simp), ?_, by omega, .inr (by omega)⟩
      rw [h3]
      congr 2
      omega
    · have hst2 : gStep ns ak i g = ⟨g.code ++ [⟨1, 0⟩, ⟨2, poolK g.pool ns[i].bd⟩, ⟨3, 0⟩, ⟨4, 0⟩, ⟨5, 0⟩], poolP g.pool ns[i].bd, g.start.set i g.code.length, g.holes ++ [(g.code.length + 3, ns[i].mr.toNat), (g.code.length + 4, ns[i].ls.toNat)]⟩ := by
        rw [hst]; unfold gAsk; rw [if_pos hf]
      have hcode : ∀ o, (gStep ns ak i g).code[g.code.length + o]? = [(⟨1, 0⟩ : Ins), ⟨2, poolK g.pool ns[i].bd⟩, ⟨3, 0⟩, ⟨4, 0⟩, ⟨5, 0⟩][o]? := fun o => by
        rw [hst2]
        show (g.code ++ _)[_]? = _
        rw [List.getElem?_append_right (by omega), Nat.add_sub_cancel_left]
      have hclen : (gStep ns ak i g).code.length = g.code.length + 5 := by rw [hst2]; simp
      rw [hclen] at gm gl
      have hmem : (g.code.length + 3, m) ∈ (gStep ns ak i g).holes := by rw [hst2]; simp [hm]
      have hmem2 : (g.code.length + 4, l) ∈ (gStep ns ak i g).holes := by rw [hst2]; simp [hl]
      have h3 := fill (hcode 3) hmem
      have h4 := fill (hcode 4) hmem2
      refine ⟨l, m, poolK g.pool ns[i].bd, genS ns ak m - (g.code.length + 4), hl, hm, al, am, pre_at x2 (by rw [hst2]; exact poolK_at _ _), keep (hcode 0) (by simp) (by simp), keep (hcode 1) (by simp) (by simp), keep (hcode 2) (by simp) (by simp), ?_, by omega, .inl ⟨genS ns ak l - (g.code.length + 5), ?_, by omega⟩⟩
      · rw [h3]
        congr 2
        omega
      · rw [h4]
        congr 2
        omega
end Go.Proofs.Ytpnmaopompfalaa
