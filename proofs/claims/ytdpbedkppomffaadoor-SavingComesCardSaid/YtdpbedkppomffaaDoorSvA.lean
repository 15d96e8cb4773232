/-
  SavingComes, plain: two rules, each year anew; what is saved at their turns.
-/
import Derived.Test.YtdpbedkppomffaaDoorAtE
namespace Go.Proofs.YtdpbedkppomffaaDoor
set_option linter.unusedVariables false
set_option linter.unusedSimpArgs false
open Go.ChangeShapes Go.WideShapes Go.ChangeAt Go.RowKit Civ

/-- a year's turn of a rule, as a member of its turns. -/
def TrnOf (r : Rul) (c : Trn) : Prop := ∃ y, r.fr ≤ y ∧ y ≤ r.to ∧ c.r = r ∧ c.no = fdN r y * 86400 + r.at'.t
theorem addK_of {r : Rul} {l : List Trn} : ∀ (k : Nat) (c : Trn), c ∈ addK r l k → c ∈ l ∨ ∃ i : Nat, i < k ∧ c.r = r ∧ c.no = fdN r (r.fr + i) * 86400 + r.at'.t
  | 0, c, h => .inl h
  | k + 1, c, h => by
    have e : addK r l (k + 1) = addY r (addK r l k) (r.fr + k) := rfl
    rw [e] at h
    unfold addY at h
    have hr : c ∈ addK r l k → c ∈ l ∨ ∃ i : Nat, i < k + 1 ∧ c.r = r ∧ c.no = fdN r (r.fr + i) * 86400 + r.at'.t := fun h => by
      rcases addK_of k c h with h | ⟨i, hi, h⟩
      · exact .inl h
      · exact .inr ⟨i, by omega, h⟩
    split at h
    · rcases List.mem_append.1 h with h | h
      · exact hr h
      · obtain rfl := List.mem_singleton.1 h
        exact .inr ⟨k, by omega, rfl, rfl⟩
    · exact hr h
theorem addK_sub {r : Rul} {l : List Trn} {c : Trn} (h : c ∈ l) : ∀ k : Nat, c ∈ addK r l k
  | 0 => h
  | k + 1 => by
    have e : addK r l (k + 1) = addY r (addK r l k) (r.fr + k) := rfl
    rw [e]
    unfold addY
    split
    · exact List.mem_append_left _ (addK_sub h k)
    · exact addK_sub h k
theorem addK_has {r : Rul} {l : List Trn} : ∀ (k i : Nat), i < k → fdE r (r.fr + i) = 0 → ∃ c ∈ addK r l k, c.r = r ∧ c.no = fdN r (r.fr + i) * 86400 + r.at'.t
  | 0, i, hi, _ => by omega
  | k + 1, i, hi, h => by
    have e : addK r l (k + 1) = addY r (addK r l k) (r.fr + k) := rfl
    rw [e]
    by_cases hk : i = k
    · subst hk
      unfold addY
      rw [if_pos h]
      exact ⟨_, List.mem_append_right _ (List.mem_singleton.2 rfl), rfl, rfl⟩
    · obtain ⟨c, hc, h2⟩ := addK_has (l := l) k i (by omega) h
      refine ⟨c, ?_, h2⟩
      unfold addY
      split
      · exact List.mem_append_left _ hc
      · exact hc
theorem atZ_of (o : Int) : ∀ (l : List Trn) (s : Int) (x : Trn), x ∈ atZ o s l → ∃ y ∈ l, ∃ s', x = ⟨y.r, y.no, y.tg, insT' o s' y⟩
  | [], _, x, h => by cases h
  | y :: l, s, x, h => by
    have h' : x ∈ (⟨y.r, y.no, y.tg, insT' o s y⟩ : Trn) :: atZ o y.r.sv l := h
    rcases List.mem_cons.1 h' with rfl | h2
    · exact ⟨y, List.mem_cons_self, s, rfl⟩
    · obtain ⟨z, hz, h3⟩ := atZ_of o l _ x h2
      exact ⟨z, List.mem_cons_of_mem _ hz, h3⟩
theorem atZ_has (o : Int) : ∀ (l : List Trn) (s : Int) (y : Trn), y ∈ l → ∃ x ∈ atZ o s l, x.r = y.r ∧ x.no = y.no
  | [], _, y, h => by cases h
  | z :: l, s, y, h => by
    show ∃ x ∈ (⟨z.r, z.no, z.tg, insT' o s z⟩ : Trn) :: atZ o z.r.sv l, _
    rcases List.mem_cons.1 h with rfl | h
    · exact ⟨_, List.mem_cons_self, rfl, rfl⟩
    · obtain ⟨x, hx, h2⟩ := atZ_has o l z.r.sv y h
      exact ⟨x, List.mem_cons_of_mem _ hx, h2⟩
theorem atZ_sd (o : Int) : ∀ (l : List Trn) (s : Int), l.Pairwise (fun a b => a.no ≤ b.no) → (atZ o s l).Pairwise fun a b => a.no ≤ b.no
  | [], _, _ => List.Pairwise.nil
  | y :: l, s, h => by
    have h1 := List.pairwise_cons.1 h
    show ((⟨y.r, y.no, y.tg, insT' o s y⟩ : Trn) :: atZ o y.r.sv l).Pairwise _
    refine List.pairwise_cons.2 ⟨fun x hx => ?_, atZ_sd o l _ h1.2⟩
    obtain ⟨z, hz, s', rfl⟩ := atZ_of o l _ x hx
    exact h1.1 z hz
theorem so_no (l : List Trn) : (so l).Pairwise fun a b => a.no ≤ b.no := (so_le l).imp fun {a b} h => by unfold tLt at h; omega
/-- the last turn that has come. -/
theorem lastT_is {l : List Trn} (hs : l.Pairwise fun a b => a.no ≤ b.no) {t : Int} (hi : ∀ c ∈ l, c.ins = c.no) {m : Trn} (hm : m ∈ l) (hmt : m.no ≤ t) : ∃ d ∈ l, lastT l t = some d ∧ d.no ≤ t ∧ m.no ≤ d.no := by
  unfold lastT
  have hh : (l.reverse.find? fun c => decide (c.ins ≤ t)).isSome := by
    rw [List.find?_isSome]
    exact ⟨m, List.mem_reverse.2 hm, by rw [hi m hm]; simpa using hmt⟩
  obtain ⟨d, hd⟩ := Option.isSome_iff_exists.1 hh
  obtain ⟨h1, as', bs, h2, h3⟩ := List.find?_eq_some_iff_append.1 hd
  have hdl : d ∈ l := List.mem_reverse.1 (List.mem_of_find?_eq_some hd)
  refine ⟨d, hdl, hd, by have := of_decide_eq_true h1; rwa [hi d hdl] at this, ?_⟩
  have h4 : l = bs.reverse ++ d :: as'.reverse := by
    have := congrArg List.reverse h2
    rw [List.reverse_reverse] at this
    rw [this]
    simp
  have hm2 : m ∈ as' ++ d :: bs := by rw [← h2]; exact List.mem_reverse.2 hm
  rcases List.mem_append.1 hm2 with h5 | h5
  · have := h3 m h5
    rw [hi m hm] at this
    simp at this
    omega
  · rcases List.mem_cons.1 h5 with rfl | h5
    · exact Int.le_refl _
    · rw [h4] at hs
      exact (List.pairwise_append.1 hs).2.2 m (List.mem_reverse.2 h5) d List.mem_cons_self
theorem lastT_no {l : List Trn} {t : Int} (h : ∀ c ∈ l, t < c.ins) : lastT l t = none := by
  unfold lastT
  rw [List.find?_eq_none]
  intro c hc
  have := h c (List.mem_reverse.1 hc)
  simp
  omega
def svR1 (k : Int) : Rul := ⟨⟨#[114]⟩, 1980, 2099, ⟨4, 1, 0, 1, 0, 2⟩, k, ⟨#[83]⟩⟩
def svR2 : Rul := ⟨⟨#[114]⟩, 1980, 2099, ⟨10, 1, 0, 1, 0, 2⟩, 0, ⟨#[87]⟩⟩
def svX : Ero := ⟨0, ⟨#[114]⟩, 0, ⟨#[69, 37, 115, 84]⟩, false, 0, ⟨0, 0, 0, 0, 0, 0⟩⟩
def svS (k : Int) : Src := ⟨[svR1 k, svR2], [⟨⟨#[122]⟩, [svX]⟩], []⟩
def sApr (y : Int) : Int := num y 4 1
def sOct (y : Int) : Int := num y 10 1
theorem sv_num (y : Int) : sApr y = fst y + 90 + lp y ∧ sOct y = fst y + 273 + lp y := by
  unfold sApr sOct num ah lp mon
  simp
  constructor <;> omega
theorem sv_mono {y z : Int} (h : y < z) : sOct y < sApr z := by
  have h1 := fst_mono (y + 1) z (by omega)
  have h2 := fst_succ y
  have h3 := (sv_num y).2
  have h4 := (sv_num z).1
  have h5 := lp_01 y
  have h6 := lp_01 z
  omega
theorem sv_ao (y : Int) : sApr y < sOct y := by
  have h3 := sv_num y
  omega
theorem sv_fdN (k y : Int) : fdN (svR1 k) y * 86400 + (svR1 k).at'.t = sApr y * 86400 ∧ fdN svR2 y * 86400 + svR2.at'.t = sOct y * 86400 := by
  have e : ∀ m : Int, fnd y m 1 0 1 = num y m 1 := fun m => by unfold fnd num; rw [if_pos rfl]; omega
  show fnd y 4 1 0 1 * 86400 + 0 = _ ∧ fnd y 10 1 0 1 * 86400 + 0 = _
  rw [e, e, Int.add_zero, Int.add_zero]
  exact ⟨rfl, rfl⟩
theorem sv_fdE (k y : Int) (h : 1980 ≤ y ∧ y ≤ 2099) : fdE (svR1 k) y = 0 ∧ fdE svR2 y = 0 := by
  have e : ∀ m : Int, (m = 4 ∨ m = 10) → fndE y m 1 0 1 = 0 := fun m hm => by
    unfold fndE
    rw [show chk 1 0 1 = 0 from by decide, if_neg (by simp), if_neg (by omega), if_neg]
    rw [dim_eq y m (by omega) (by omega)]
    rcases hm with rfl | rfl <;> simp
  exact ⟨e 4 (.inl rfl), e 10 (.inr rfl)⟩
/-- the turns. -/
def svT (k : Int) : List Trn := trE (svS k).rules svX
theorem sv_trn0 (k : Int) : trn0 [svR1 k, svR2] ⟨#[114]⟩ = addK svR2 (addK (svR1 k) [] 120) 120 := by
  unfold trn0
  rw [List.foldl_cons, List.foldl_cons, List.foldl_nil]
  unfold addR
  rw [if_pos (show svR2.nm = ⟨#[114]⟩ from rfl), if_pos (show (svR1 k).nm = ⟨#[114]⟩ from rfl)]
  rfl
theorem sv_mem {k : Int} {c : Trn} (h : c ∈ svT k) : c.ins = c.no ∧ ∃ y, 1980 ≤ y ∧ y ≤ 2099 ∧ ((c.r = svR1 k ∧ c.no = sApr y * 86400) ∨ (c.r = svR2 ∧ c.no = sOct y * 86400)) := by
  have h0 : c ∈ atZ 0 0 (so (trn0 [svR1 k, svR2] ⟨#[114]⟩)) := h
  obtain ⟨z, hz, s', rfl⟩ := atZ_of _ _ _ _ h0
  have h1 := so_mem hz
  rw [sv_trn0] at h1
  have h2 : ∃ y, 1980 ≤ y ∧ y ≤ 2099 ∧ ((z.r = svR1 k ∧ z.no = sApr y * 86400) ∨ (z.r = svR2 ∧ z.no = sOct y * 86400)) := by
    rcases addK_of _ _ h1 with h1 | ⟨i, hi, h2, h3⟩
    · rcases addK_of _ _ h1 with h1 | ⟨i, hi, h2, h3⟩
      · cases h1
      · exact ⟨1980 + i, by omega, by omega, .inl ⟨h2, by rw [h3]; exact (sv_fdN k _).1⟩⟩
    · exact ⟨1980 + i, by omega, by omega, .inr ⟨h2, by rw [h3]; exact (sv_fdN k _).2⟩⟩
  refine ⟨?_, h2⟩
  show insT' 0 s' z = z.no
  unfold insT'
  obtain ⟨y, -, -, h3⟩ := h2
  have h4 : z.r.at'.c = 2 := by rcases h3 with ⟨h3, -⟩ | ⟨h3, -⟩ <;> rw [h3] <;> rfl
  rw [h4]
  simp
theorem sv_has {k y : Int} (h : 1980 ≤ y ∧ y ≤ 2099) : (∃ c ∈ svT k, c.no = sApr y * 86400) ∧ ∃ c ∈ svT k, c.no = sOct y * 86400 := by
  have up : ∀ c ∈ trn0 [svR1 k, svR2] ⟨#[114]⟩, ∃ x ∈ svT k, x.no = c.no := fun c hc => by
    obtain ⟨x, hx, -, h2⟩ := atZ_has 0 (so (trn0 [svR1 k, svR2] ⟨#[114]⟩)) 0 c ((so_perm _).mem_iff.2 hc)
    exact ⟨x, hx, h2⟩
  obtain ⟨i, hi⟩ : ∃ i : Nat, y = 1980 + i := ⟨(y - 1980).toNat, by omega⟩
  subst hi
  constructor
  · obtain ⟨c, hc, -, h2⟩ := addK_has (r := svR1 k) (l := []) 120 i (by omega) (sv_fdE k _ h).1
    obtain ⟨x, hx, h3⟩ := up c (by rw [sv_trn0]; exact addK_sub hc _)
    exact ⟨x, hx, by rw [h3, h2]; exact (sv_fdN k _).1⟩
  · obtain ⟨c, hc, -, h2⟩ := addK_has (r := svR2) (l := addK (svR1 k) [] 120) 120 i (by omega) (sv_fdE k _ h).2
    obtain ⟨x, hx, h3⟩ := up c (by rw [sv_trn0]; exact hc)
    exact ⟨x, hx, by rw [h3, h2]; exact (sv_fdN k _).2⟩
theorem sv_sd (k : Int) : (svT k).Pairwise fun a b => a.no ≤ b.no := atZ_sd _ _ _ (so_no _)
theorem sv_st {k t : Int} {d : Trn} (h : lastT (svT k) t = some d) : stL (svS k).rules svX (svT k) t = (d.r.sv, d.r.lt) := by
  unfold stL
  rw [if_neg (show ¬ svX.rl = ByteArray.empty from fun e => by have := congrArg ByteArray.size e; exact absurd this (by decide)), h]
theorem sv_in {k a : Int} (h : 1980 ≤ a ∧ a ≤ 2099) : stL (svS k).rules svX (svT k) (sApr a * 86400) = (k, ⟨#[83]⟩) := by
  obtain ⟨m, hm, hn⟩ := (sv_has (k := k) h).1
  obtain ⟨d, hd, h1, h2, h3⟩ := lastT_is (t := sApr a * 86400) (sv_sd k) (fun c hc => (sv_mem hc).1) hm (by omega)
  rw [sv_st h1]
  obtain ⟨-, y, -, -, ⟨e, -⟩ | ⟨e, e2⟩⟩ := sv_mem hd
  · rw [e]; rfl
  · exfalso
    rcases Int.lt_trichotomy y a with hy | hy | hy
    · have := sv_mono hy; omega
    · subst hy; have := sv_ao y; omega
    · have := sv_mono hy; have := sv_ao a; have := sv_ao y; omega
theorem sv_ahead {k a : Int} (h : 1981 ≤ a ∧ a ≤ 2099) : stL (svS k).rules svX (svT k) (sApr a * 86400 - 1) = (0, ⟨#[87]⟩) := by
  obtain ⟨m, hm, hn⟩ := (sv_has (k := k) (y := a - 1) (by omega)).2
  have hlt := sv_mono (show a - 1 < a by omega)
  obtain ⟨d, hd, h1, h2, h3⟩ := lastT_is (t := sApr a * 86400 - 1) (sv_sd k) (fun c hc => (sv_mem hc).1) hm (by omega)
  rw [sv_st h1]
  obtain ⟨-, y, -, -, ⟨e, e2⟩ | ⟨e, e2⟩⟩ := sv_mem hd
  · exfalso
    rcases Int.lt_trichotomy y a with hy | hy | hy
    · by_cases e3 : y = a - 1
      · subst e3; have := sv_ao (a - 1); omega
      · have := sv_mono (show y < a - 1 by omega); have := sv_ao y; have := sv_ao (a - 1); omega
    · subst hy; omega
    · have := sv_mono hy; have := sv_ao a; omega
  · rw [e]; rfl
theorem sv_out {k a : Int} (h : 1980 ≤ a ∧ a ≤ 2099) : stL (svS k).rules svX (svT k) (sOct a * 86400) = (0, ⟨#[87]⟩) := by
  obtain ⟨m, hm, hn⟩ := (sv_has (k := k) h).2
  obtain ⟨d, hd, h1, h2, h3⟩ := lastT_is (t := sOct a * 86400) (sv_sd k) (fun c hc => (sv_mem hc).1) hm (by omega)
  rw [sv_st h1]
  obtain ⟨-, y, -, -, ⟨e, e2⟩ | ⟨e, e2⟩⟩ := sv_mem hd
  · exfalso
    rcases Int.lt_trichotomy y a with hy | hy | hy
    · have := sv_mono hy; have := sv_ao a; have := sv_ao y; omega
    · subst hy; have := sv_ao y; omega
    · have := sv_mono hy; omega
  · rw [e]; rfl
theorem sv_first {k : Int} (hk : 1 ≤ k) : stL (svS k).rules svX (svT k) 0 = (0, ⟨#[87]⟩) := by
  have h : lastT (svT k) 0 = none := lastT_no fun c hc => by
    obtain ⟨e, y, h1, h2, h3⟩ := sv_mem hc
    rw [e]
    have h4 := fst_mono 1970 y (by omega)
    have h5 := sv_num y
    have h6 := lp_01 y
    have h7 := fst_1970
    rcases h3 with ⟨-, h3⟩ | ⟨-, h3⟩ <;> omega
  unfold stL
  rw [if_neg (show ¬ svX.rl = ByteArray.empty from fun e => by have := congrArg ByteArray.size e; exact absurd this (by decide)), h]
  show (0, firstL [svR1 k, svR2] ⟨#[114]⟩) = _
  unfold firstL
  rw [List.find?_cons, decide_eq_false (show ¬ ((svR1 k).nm = ⟨#[114]⟩ ∧ (svR1 k).sv = 0) from fun h => by have : k = 0 := h.2; omega)]
  rw [List.find?_cons, decide_eq_true (show svR2.nm = ⟨#[114]⟩ ∧ svR2.sv = 0 from ⟨rfl, rfl⟩)]
  rfl
theorem sv_src {k : Int} (hk : 1 ≤ k ∧ k ≤ 7200) : srcE (svS k) = 0 := by
  have h1 : rulE (svR1 k) = 0 := by
    unfold rulE
    rw [if_neg (show ¬ (nameS (svR1 k).nm = false ∨ letsB (svR1 k).lt = false) from by show ¬ (nameS ⟨#[114]⟩ = false ∨ letsB ⟨#[83]⟩ = false); decide)]
    rw [if_neg (show ¬ ((svR1 k).fr < 1900 ∨ 2099 < (svR1 k).to ∨ 2099 < (svR1 k).fr ∨ (svR1 k).to < 1900 ∨ (svR1 k).sv < -86400 ∨ 86400 < (svR1 k).sv) from by simp only [svR1]; omega)]
    rw [if_neg (show ¬ (svR1 k).to < (svR1 k).fr from by simp only [svR1]; omega)]
    show chkM 4 1 0 1 0 2 = 0
    decide
  have h2 : rulE svR2 = 0 := by decide +kernel
  have h3 : rulsE (svS k) = 0 := by
    refine ferr_none _ _ _ fun i hi => ?_
    rcases i with _ | _ | i
    · exact h1
    · exact h2
    · simp only [svS, List.length_cons, List.length_nil] at hi; omega
  have h4 : eroE [svR1 k, svR2] svX true = 0 := by
    unfold eroE
    rw [show eroF svX true = false from by decide +kernel, if_neg (by simp), if_neg (show ¬ (svX.off < -86400 ∨ 86400 < svX.off ∨ svX.sv < -86400 ∨ 86400 < svX.sv) from by decide),
      if_neg (show ¬ (svX.rl ≠ ByteArray.empty ∧ namedB [svR1 k, svR2] svX.rl = false) from fun h => by
        have : namedB [svR1 k, svR2] svX.rl = true := by unfold namedB; rw [List.any_cons, decide_eq_true (show (svR1 k).nm = svX.rl from rfl), Bool.true_or]
        rw [this] at h
        cases h.2), if_pos rfl]
  have h5 : erosE [svR1 k, svR2] [svX] = 0 := by
    refine ferr_none _ _ _ fun i hi => ?_
    rcases i with _ | i
    · exact h4
    · simp only [List.length_cons, List.length_nil] at hi; omega
  have h6 : zonE [svR1 k, svR2] ⟨⟨#[122]⟩, [svX]⟩ = 0 := by
    rw [zonE_d (show nameS ⟨#[122]⟩ = true from by decide) (by simp) h5]
    rfl
  have h7 : zonsE (svS k) = 0 := by
    refine ferr_none _ _ _ fun i hi => ?_
    rcases i with _ | i
    · show zonF (svS k) 0 ⟨⟨#[122]⟩, [svX]⟩ = 0
      unfold zonF
      rw [show (svS k).rules = [svR1 k, svR2] from rfl, h6]
      rfl
    · simp only [svS, List.length_cons, List.length_nil] at hi; omega
  unfold srcE
  rw [h3, h7]
  rfl
theorem svF (k : Int) : folL (svS k) 8 ⟨#[122]⟩ = 0 := by
  have h : zIdx (svS k) ⟨#[122]⟩ = 0 := fidx_at _ _ 0 (by simp [svS]) (fun i hi => by omega) (decide_eq_true rfl)
  unfold folL
  rw [h]
  rfl
theorem sv_at {k t : Int} (hk : 1 ≤ k ∧ k ≤ 7200) (ht : -2208988800 ≤ t ∧ t < 4102444800) : atE (svS k) ⟨#[122]⟩ t = 0 ∧ atC (svS k) ⟨#[122]⟩ t = clkE svX (stL (svS k).rules svX (svT k) t) := by
  have hF : fndS (svS k) ⟨#[122]⟩ = 0 := by unfold fndS; rw [sv_src hk, svF]; rfl
  have hE : atE (svS k) ⟨#[122]⟩ t = 0 := atE_z hF (by omega)
  refine ⟨hE, ?_⟩
  rw [atC_z hE (i := 0) (by simp [svS]) (svF k)]
  rfl
theorem sv_clk1 {k : Int} (hk : 1 ≤ k) : clkE svX (k, ⟨#[83]⟩) = ⟨k, true, ⟨#[69, 83, 84]⟩⟩ := by
  unfold clkE
  dsimp only
  rw [decide_eq_false (show ¬ k = 0 by omega)]
  show (⟨0 + k, true, ⟨(fmtN [69, 37, 115, 84] [83] true).toArray⟩⟩ : Clk) = _
  rw [show fmtN [69, 37, 115, 84] [83] true = [69, 83, 84] from by decide, Int.zero_add]
theorem sv_clk2 : clkE svX (0, ⟨#[87]⟩) = ⟨0, false, ⟨#[69, 87, 84]⟩⟩ := by
  show (⟨0 + 0, false, ⟨(fmtN [69, 37, 115, 84] [87] false).toArray⟩⟩ : Clk) = _
  rw [show fmtN [69, 37, 115, 84] [87] false = [69, 87, 84] from by decide]
  rfl
end Go.Proofs.YtdpbedkppomffaaDoor
