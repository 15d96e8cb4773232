/-
  tree.Opt, plain: what the forest that is made less tells, its size, its depth.
-/
import Derived.Test.YtlhidbbphngpcaaOptE
namespace Go.Proofs.Ytlhidbbphngpcaa
set_option linter.unusedVariables false
set_option linter.unusedSimpArgs false
open Go.ChangeShapes Go.WideShapes Go.ChangeAt Go.RowKit

def pcsM (f : Frs) (F : Int → Int) : List Pc := (pcsOf f.nodes F).map fun p => ⟨p.fr, nowAt (mg f.answers).2 p.an⟩
def optP (f : Frs) (F : Int → Int) (m : Bool) : List Pc := if m = true then ddp (pcsM f F) else pcsOf f.nodes F
def optAns (f : Frs) (m : Bool) : List Ans := if m = true then (mg f.answers).1 else f.answers
/-- g is what Opt makes of f: m: merged, s: shared, b: balanced. -/
structure OptIs (f : Frs) (F : Int → Int) (m s b : Bool) (g : Frs) : Prop where
  ans : g.answers = optAns f m
  nods : if s = true then ∃ now, ShI (optN b (optP f F m)) (optN b (optP f F m)).length g.nodes now else g.nodes = optN b (optP f F m)
/-- F tells what f tells. -/
structure Tells (f : Frs) (F : Int → Int) : Prop where
  ok : frsE f = 0
  lf : ∀ t, Lf f.nodes t (f.nodes.length - 1) (F t)
  bd : ∀ n ∈ f.nodes, minI ≤ n.bd
theorem tells_ex {f : Frs} (h : frsE f = 0) (hb : ∀ n ∈ f.nodes, minI ≤ n.bd) : ∃ F, Tells f F := by
  obtain ⟨h0, h1, h2, h3, h4⟩ := frs_good h
  have hex : ∀ t : Int, ∃ a : Int, Lf f.nodes t (f.nodes.length - 1) a := fun t => by
    obtain ⟨a, ha, _⟩ := lf_ex f.nodes f.answers.length t h4 f.nodes.length (f.nodes.length - 1) (by omega) (by omega)
    exact ⟨a, ha⟩
  obtain ⟨F, hF⟩ := Classical.axiomOfChoice hex
  exact ⟨F, h, hF, hb⟩
theorem Tells.lt {f : Frs} {F : Int → Int} (h : Tells f F) (t : Int) : 0 ≤ F t ∧ F t < f.answers.length := by
  obtain ⟨h0, h1, h2, h3, h4⟩ := frs_good h.ok
  obtain ⟨a, ha, b1, b2⟩ := lf_ex f.nodes f.answers.length t h4 f.nodes.length (f.nodes.length - 1) (by omega) (by omega)
  rw [(h.lf t).one ha]
  exact ⟨b1, b2⟩
theorem pcsM_len (f : Frs) (F : Int → Int) : (pcsM f F).length = (pcsOf f.nodes F).length := by simp [pcsM]
theorem pcsM_rise (f : Frs) (F : Int → Int) : RiseP (pcsM f F) := by
  have := rise_pair.1 (pcsOf_rise f.nodes F)
  refine rise_pair.2 ?_
  unfold pcsM
  rw [← List.map_drop, List.map_map]
  exact this
theorem atPc_M {f : Frs} {F : Int → Int} {t : Int} {i : Nat} : AtPc (pcsM f F) t i ↔ AtPc (pcsOf f.nodes F) t i := by
  unfold AtPc pcsM
  simp only [List.length_map, List.getElem_map]
theorem optP_pos (f : Frs) (F : Int → Int) (m : Bool) : 0 < (optP f F m).length := by
  unfold optP
  cases m
  · simp [pcsOf]
  · simp only [if_true]
    exact (ddp_inv _ (pcsM f F) rfl).pos (by rw [pcsM_len]; simp [pcsOf])
theorem optP_rise (f : Frs) (F : Int → Int) (m : Bool) : RiseP (optP f F m) := by
  unfold optP
  cases m
  · simp only [Bool.false_eq_true, if_false]; exact pcsOf_rise _ _
  · simp only [if_true]; exact (ddp_inv _ (pcsM f F) rfl).rise (pcsM_rise f F)
theorem optP_le (f : Frs) (F : Int → Int) (m : Bool) : (optP f F m).length ≤ (cuts f.nodes).length + 1 := by
  unfold optP
  cases m
  · simp only [Bool.false_eq_true, if_false]; rw [pcsOf_len]; exact Nat.le_refl _
  · simp only [if_true]
    have := (ddp_inv _ (pcsM f F) rfl).le
    rw [pcsM_len, pcsOf_len] at this
    exact this
theorem pcsOf_an {f : Frs} {F : Int → Int} (h : Tells f F) : ∀ p ∈ pcsOf f.nodes F, 0 ≤ p.an ∧ p.an < f.answers.length := by
  intro p hp
  unfold pcsOf at hp
  rcases List.mem_cons.1 hp with rfl | hp
  · exact h.lt _
  · obtain ⟨x, _, rfl⟩ := List.mem_map.1 hp
    exact h.lt _
theorem now_img {f : Frs} {a : Int} (h0 : 0 ≤ a) (h1 : a < f.answers.length) : 0 ≤ nowAt (mg f.answers).2 a ∧ ∃ h2 : (nowAt (mg f.answers).2 a).toNat < (mg f.answers).1.length, (mg f.answers).1[(nowAt (mg f.answers).2 a).toNat] = f.answers[a.toNat]'(by omega) := by
  obtain ⟨g1, g2, g3, g4⟩ := (mg_inv _ f.answers rfl).img a.toNat (by omega)
  have e : nowAt (mg f.answers).2 a = (mg f.answers).2[a.toNat] := by
    unfold nowAt
    rw [List.getD_eq_getElem?_getD, List.getElem?_eq_getElem g1]; rfl
  simp only [e]
  exact ⟨g2, g3, g4⟩
theorem optP_an {f : Frs} {F : Int → Int} (h : Tells f F) (m : Bool) : ∀ p ∈ optP f F m, 0 ≤ p.an ∧ p.an < (optAns f m).length := by
  intro p hp
  unfold optP at hp
  unfold optAns
  cases m
  · simp only [Bool.false_eq_true, if_false] at hp ⊢; exact pcsOf_an h p hp
  · simp only [if_true] at hp ⊢
    have := (ddp_inv _ (pcsM f F) rfl).mem p hp
    obtain ⟨q, hq, rfl⟩ := List.mem_map.1 this
    obtain ⟨a, b⟩ := pcsOf_an h q hq
    obtain ⟨c, d, _⟩ := now_img a b
    dsimp only
    omega
/-- the piece at t tells what the forest tells. -/
theorem optP_tells {f : Frs} {F : Int → Int} (h : Tells f F) (m : Bool) {t : Int} (ht : minI ≤ t) : ∃ i, ∃ hi : i < (optP f F m).length, AtPc (optP f F m) t i ∧ ∃ h2 : ((optP f F m)[i].an).toNat < (optAns f m).length, (optAns f m)[((optP f F m)[i].an).toNat] = f.answers[(F t).toNat]'(by have := h.lt t; omega) := by
  obtain ⟨i, hi, hat⟩ := atPc_ex (ps := pcsOf f.nodes F) (by simp [pcsOf]) (pcsOf_rise _ _) t
  have he := pcsOf_tells h.bd h.lf ht hi hat
  have hF := h.lt t
  unfold optP optAns
  cases m
  · simp only [Bool.false_eq_true, if_false]
    refine ⟨i, hi, hat, ?_⟩
    simp only [he]
    exact ⟨by omega, trivial⟩
  · simp only [if_true]
    obtain ⟨j, hj, hat', e⟩ := (ddp_inv _ (pcsM f F) rfl).at_ t i (by rw [pcsM_len]; exact hi) (atPc_M.2 hat)
    refine ⟨j, hj, hat', ?_⟩
    have e2 : (pcsM f F)[i]'(by rw [pcsM_len]; exact hi) = ⟨(pcsOf f.nodes F)[i].fr, nowAt (mg f.answers).2 (F t)⟩ := by
      unfold pcsM; rw [List.getElem_map, he]
    rw [e2] at e
    simp only [e]
    exact (now_img hF.1 hF.2).2
theorem optN_ok {f : Frs} {F : Int → Int} (h : Tells f F) (m b : Bool) : ∀ i (hi : i < (optN b (optP f F m)).length), nodE ((optAns f m).length : Int) (i : Nat) (optN b (optP f F m))[i] = 0 :=
  optN_good b _ (optP_pos f F m) (optP_an h m)
theorem optN_rootAt {ps : List Pc} (b : Bool) (h0 : 0 < ps.length) : (optN b ps).length - 1 = 2 * ps.length - 2 := by rw [optN_len b h0]; omega
theorem OptIs.root {f g : Frs} {F : Int → Int} {m s b : Bool} (h : Tells f F) (hg : OptIs f F m s b g) {t : Int} {a : Int} {n : Nat} (hL : Lp (optN b (optP f F m)) t ((optN b (optP f F m)).length - 1) a n) : Lp g.nodes t (g.nodes.length - 1) a n := by
  have hn := hg.nods
  cases s
  · simp only [Bool.false_eq_true, if_false] at hn; rw [hn]; exact hL
  · simp only [if_true] at hn
    obtain ⟨now, hs⟩ := hn
    have hr := hs.root (optN_ok h m b) (optN_askU b (optP_pos f F m) (optP_rise f F m)) (optN_root b (optP_pos f F m))
    have := hs.lp (optN_ok h m b) hL
    rw [hr.2] at this
    exact this
theorem OptIs.tells {f g : Frs} {F : Int → Int} {m s b : Bool} (h : Tells f F) (hg : OptIs f F m s b g) {t : Int} (ht : minI ≤ t) :
    ∃ (j : Nat) (n : Nat), Lp g.nodes t (g.nodes.length - 1) j n ∧ (∃ h2 : j < g.answers.length, g.answers[j] = f.answers[(F t).toNat]'(by have := h.lt t; omega)) ∧ (b = true → ∀ q, (cuts f.nodes).length + 1 ≤ 2 ^ q → n ≤ q + 1) := by
  obtain ⟨i, hi, hat, h2, h3⟩ := optP_tells h m ht
  obtain ⟨n, hn, hb⟩ := optN_lp b hi hat
  have ha := (optP_an h m _ (List.getElem_mem hi)).1
  refine ⟨((optP f F m)[i].an).toNat, n, ?_, ?_, fun e q hq => hb e q (Nat.le_trans (optP_le f F m) hq)⟩
  · rw [Int.toNat_of_nonneg ha]
    exact hg.root h hn
  · simp only [hg.ans]
    exact ⟨h2, h3⟩
theorem OptIs.nodes_ok {f g : Frs} {F : Int → Int} {m s b : Bool} (h : Tells f F) (hg : OptIs f F m s b g) : 0 < g.nodes.length ∧ ∀ i (hi : i < g.nodes.length), nodE (g.answers.length : Int) (i : Nat) g.nodes[i] = 0 := by
  have hn := hg.nods
  have ok := optN_ok h m b
  have hp := optP_pos f F m
  rw [hg.ans]
  cases s
  · simp only [Bool.false_eq_true, if_false] at hn
    rw [hn]
    exact ⟨by rw [optN_len b hp]; omega, ok⟩
  · simp only [if_true] at hn
    obtain ⟨now, hs⟩ := hn
    have hr := hs.root ok (optN_askU b hp (optP_rise f F m)) (optN_root b hp)
    exact ⟨hr.1, hs.good ok⟩
theorem optAns_mem {f : Frs} {m : Bool} : ∀ a ∈ optAns f m, a ∈ f.answers := by
  intro a ha
  unfold optAns at ha
  cases m
  · simpa using ha
  · simp only [if_true] at ha
    obtain ⟨i, hi, rfl⟩ := List.mem_iff_getElem.1 ha
    exact (mg_inv _ f.answers rfl).src i hi
theorem optAns_le (f : Frs) (m : Bool) : (optAns f m).length ≤ f.answers.length := by
  unfold optAns
  cases m
  · simp
  · simp only [if_true]; exact (mg_inv _ f.answers rfl).le
theorem OptIs.good {f g : Frs} {F : Int → Int} {m s b : Bool} (h : Tells f F) (hg : OptIs f F m s b g) (h8 : g.nodes.length ≤ 8000) : frsE g = 0 := by
  obtain ⟨h0, h1, h2, h3, h4⟩ := frs_good h.ok
  obtain ⟨n0, n1⟩ := hg.nodes_ok h
  have hl : g.answers.length ≤ f.answers.length := by rw [hg.ans]; exact optAns_le f m
  unfold frsE
  rw [if_neg (by omega), if_neg (by omega)]
  have ha : anssE g.answers = 0 := ferr_none _ _ _ fun i hi => by
    have hm : g.answers[i] ∈ optAns f m := by rw [← hg.ans]; exact List.getElem_mem hi
    obtain ⟨j, hj, e⟩ := List.mem_iff_getElem.1 (optAns_mem _ hm)
    rw [← e]
    exact h3 j hj
  rw [if_neg (by simpa using ha)]
  refine ferr_none _ _ _ fun i hi => ?_
  rw [Nat.zero_add]
  exact n1 i hi
def szP (s : Bool) (ps : List Pc) : Nat := if s = true then (ps.length - 1) + (srtC (ps.map Pc.an)).length else 2 * ps.length - 1
theorem OptIs.size {f g : Frs} {F : Int → Int} {m s b : Bool} (h : Tells f F) (hg : OptIs f F m s b g) : g.nodes.length = szP s (optP f F m) := by
  have hn := hg.nods
  have hp := optP_pos f F m
  unfold szP
  cases s
  · simp only [Bool.false_eq_true, if_false] at hn ⊢
    rw [hn, optN_len b hp]
  · simp only [if_true] at hn ⊢
    obtain ⟨now, hs⟩ := hn
    rw [hs.size (optN_ok h m b) (optN_askU b hp (optP_rise f F m)), (optN_bnds b hp).length_eq, List.length_map, List.length_drop, srtC_len_eq (optN_lvs b hp)]
theorem srtC_pos {l : List Int} (h : 0 < l.length) : 0 < (srtC l).length := by
  cases l with
  | nil => simp at h
  | cons a l => exact List.length_pos_of_mem ((srtC_mem (a :: l) a).2 (by simp))
theorem szP_le (s : Bool) (ps : List Pc) : szP s ps ≤ 2 * ps.length - 1 := by
  unfold szP
  cases s
  · simp
  · simp only [if_true]
    have := srtC_len (ps.map Pc.an)
    rw [List.length_map] at this
    omega
theorem sz_merge (f : Frs) (F : Int → Int) (s : Bool) : szP s (optP f F true) ≤ szP s (optP f F false) := by
  have h1 : (optP f F true).length ≤ (optP f F false).length := by
    have := optP_le f F true
    have e : (optP f F false).length = (cuts f.nodes).length + 1 := pcsOf_len _ _
    omega
  have h2 : (srtC ((optP f F true).map Pc.an)).length ≤ (srtC ((optP f F false).map Pc.an)).length := by
    refine Nat.le_trans (srtC_len_le (m := ((optP f F false).map Pc.an).map (nowAt (mg f.answers).2)) fun x hx => ?_) (srtC_map_le _)
    obtain ⟨p, hp, rfl⟩ := List.mem_map.1 hx
    have := (ddp_inv _ (pcsM f F) rfl).mem p hp
    obtain ⟨q, hq, rfl⟩ := List.mem_map.1 this
    exact List.mem_map.2 ⟨q.an, List.mem_map.2 ⟨q, hq, rfl⟩, rfl⟩
  unfold szP
  cases s
  · simp only [Bool.false_eq_true, if_false]; omega
  · simp only [if_true]; omega
theorem OptIs.ans_dup {f g : Frs} {F : Int → Int} {s b : Bool} (hg : OptIs f F true s b g) : ∀ i j (hi : i < g.answers.length) (hj : j < g.answers.length), i ≠ j → g.answers[i] ≠ g.answers[j] := by
  rw [hg.ans]
  exact (mg_inv _ f.answers rfl).dup
theorem OptIs.nod_dup {f g : Frs} {F : Int → Int} {m b : Bool} (hg : OptIs f F m true b g) : ∀ i j (hi : i < g.nodes.length) (hj : j < g.nodes.length), i ≠ j → g.nodes[i] ≠ g.nodes[j] := by
  obtain ⟨now, hs⟩ := hg.nods
  exact hs.dup
end Go.Proofs.Ytlhidbbphngpcaa
