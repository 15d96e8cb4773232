/-
  Plain facts on years, months and days (no program in sight).
-/
namespace Go.Proofs.Ytlhidbbphngpcaa.Civ
set_option linter.unusedVariables false
set_option linter.unusedSimpArgs false

/-- has a year a day more? -/
def leapB (y : Int) : Bool := decide (y % 4 = 0 ∧ (y % 100 ≠ 0 ∨ y % 400 = 0))
def lp (y : Int) : Int := if leapB y = true then 1 else 0

theorem tm0 (y k : Int) : y.tmod k = 0 ↔ y % k = 0 := by
  rw [← Int.dvd_iff_tmod_eq_zero, ← Int.dvd_iff_emod_eq_zero]
theorem leap_tmod (y : Int) : leapB y = (y.tmod 4 == 0 && (y.tmod 100 != 0 || y.tmod 400 == 0)) := by
  unfold leapB
  rw [Bool.eq_iff_iff]
  simp [tm0]
theorem leap_tmod' (y : Int) : leapB y = (y.tmod 400 == 0 || (y.tmod 4 == 0 && y.tmod 100 != 0)) := by
  unfold leapB
  rw [Bool.eq_iff_iff]
  simp [tm0]
  omega
theorem leap_emod (y : Int) : leapB y = (y % 4 == 0 && (y % 100 != 0 || y % 400 == 0)) := by
  unfold leapB
  rw [Bool.eq_iff_iff]
  simp
theorem leap_emod' (y : Int) : leapB y = (y % 400 == 0 || (y % 4 == 0 && y % 100 != 0)) := by
  unfold leapB
  rw [Bool.eq_iff_iff]
  simp
  omega
/-- days ahead of month i + 1 in a year that is no leap year. -/
def mon : Nat → Int
  | 0 => 0 | 1 => 31 | 2 => 59 | 3 => 90 | 4 => 120 | 5 => 151 | 6 => 181 | 7 => 212 | 8 => 243 | 9 => 273 | 10 => 304 | 11 => 334 | 12 => 365 | _ => 0
theorem mon_bd (i : Nat) : 0 ≤ mon i ∧ mon i ≤ 365 := by
  unfold mon; split <;> omega
/-- days of a month. -/
def dim (y m : Int) : Int := mon m.toNat - mon (m.toNat - 1) + if m = 2 ∧ leapB y = true then 1 else 0
/-- days ahead of a month. -/
def ah (y m : Int) : Int := mon (m.toNat - 1) + if 2 < m ∧ leapB y = true then 1 else 0
/-- the first day of a year. -/
def fst (y : Int) : Int := 365 * (y - 1) + (y - 1) / 4 - (y - 1) / 100 + (y - 1) / 400 - 719162
/-- the number of a day. -/
def num (y m d : Int) : Int := fst y + ah y m + d - 1
theorem lp_01 (y : Int) : 0 ≤ lp y ∧ lp y ≤ 1 := by unfold lp; split <;> omega
theorem m12 {m : Int} (h1 : 1 ≤ m) (h2 : m ≤ 12) : m = 1 ∨ m = 2 ∨ m = 3 ∨ m = 4 ∨ m = 5 ∨ m = 6 ∨ m = 7 ∨ m = 8 ∨ m = 9 ∨ m = 10 ∨ m = 11 ∨ m = 12 := by omega
theorem dim_eq (y m : Int) (h1 : 1 ≤ m) (h2 : m ≤ 12) : dim y m = if m = 2 then 28 + lp y else if m = 4 ∨ m = 6 ∨ m = 9 ∨ m = 11 then 30 else 31 := by
  unfold dim lp
  rcases m12 h1 h2 with rfl | rfl | rfl | rfl | rfl | rfl | rfl | rfl | rfl | rfl | rfl | rfl <;> cases h : leapB y <;> simp [mon, h]
theorem dim_bd (y m : Int) (h1 : 1 ≤ m) (h2 : m ≤ 12) : 28 ≤ dim y m ∧ dim y m ≤ 31 := by
  rw [dim_eq y m h1 h2]; have := lp_01 y; split <;> (try split) <;> omega
theorem ah_succ (y m : Int) (h1 : 1 ≤ m) (h2 : m ≤ 12) : ah y (m + 1) = ah y m + dim y m := by
  unfold dim ah
  rcases m12 h1 h2 with rfl | rfl | rfl | rfl | rfl | rfl | rfl | rfl | rfl | rfl | rfl | rfl <;> cases h : leapB y <;> simp [mon, h]
theorem ah_one (y : Int) : ah y 1 = 0 := by simp [ah, mon]
theorem ah_13 (y : Int) : ah y 13 = 365 + lp y := by unfold ah lp; cases h : leapB y <;> simp [mon, h]
theorem ah_bd (y m : Int) (h1 : 1 ≤ m) (h2 : m ≤ 13) : 0 ≤ ah y m ∧ ah y m ≤ 366 := by
  unfold ah; have := mon_bd (m.toNat - 1); split <;> omega
theorem fst_succ (y : Int) : fst (y + 1) = fst y + 365 + lp y := by
  unfold fst lp
  have h : leapB y = true ↔ (y % 4 = 0 ∧ (y % 100 ≠ 0 ∨ y % 400 = 0)) := by unfold leapB; simp
  split <;> rename_i g <;> rw [h] at g <;> omega
theorem fst_bd (y : Int) (h1 : 1 ≤ y) (h2 : y ≤ 10000) : -719162 ≤ fst y ∧ fst y ≤ 3652059 := by
  unfold fst; omega
/-- the weekday of a day's number. -/
def wd (n : Int) : Int := (n + 4) % 7
theorem tmod7 (x : Int) : -7 < x.tmod 7 ∧ x.tmod 7 < 7 := by
  constructor
  · have := Int.lt_tmod_of_pos x (b := 7) (by omega); omega
  · have := Int.tmod_lt_of_pos x (b := 7) (by omega); omega
theorem tmod_emod (x : Int) : (x.tmod 7 - x) % 7 = 0 := by
  have := Int.tmod_add_mul_tdiv x 7; omega
theorem wd_a (n : Int) : ((n + 4).tmod 7 + 7) % 7 = wd n := by
  unfold wd; have := tmod_emod (n + 4); omega
theorem wd_b (n : Int) (h : n.tmod 7 < 0) : (n.tmod 7 + 7 + 4) % 7 = wd n := by
  unfold wd; have := tmod_emod n; omega
theorem wd_c (n : Int) : (n.tmod 7 + 4) % 7 = wd n := by
  unfold wd; have := tmod_emod n; omega
theorem wd_bd (n : Int) : 0 ≤ wd n ∧ wd n ≤ 6 := by unfold wd; omega
/-- what is wrong with a day of a month. -/
def chk (k a n : Int) : Int :=
  if k < 1 ∨ 4 < k then 3 else if a < 0 ∨ 6 < a ∨ n < 0 ∨ 31 < n ∨ ¬ (k = 2 ↔ n = 0) ∨ (k = 1 ∧ a ≠ 0) then 2 else 0
/-- what is wrong with a moment. -/
def chkM (mo k a n t c : Int) : Int :=
  if chk k a n ≠ 0 then chk k a n else if c < 0 ∨ 2 < c then 3 else if mo < 1 ∨ 12 < mo ∨ t < 0 ∨ 604800 < t then 2 else 0
theorem fst_1970 : fst 1970 = 0 := by decide
theorem fst_mono (a b : Int) (h : a ≤ b) : fst a ≤ fst b := by unfold fst; omega
/-- is it a day? -/
def numOk (y m d : Int) : Prop := 1899 ≤ y ∧ y ≤ 2100 ∧ 1 ≤ m ∧ m ≤ 12 ∧ 1 ≤ d ∧ d ≤ dim y m
theorem fst_1899 : fst 1899 = -25932 := by decide
theorem fst_1900 : fst 1900 = -25567 := by decide
theorem fst_2100 : fst 2100 = 47482 := by decide
theorem fst_2101 : fst 2101 = 47847 := by decide
theorem ah_le (y m : Int) (h1 : 1 ≤ m) : ∀ k : Nat, m + k ≤ 13 → ah y m ≤ ah y (m + k)
  | 0, _ => by simp
  | k + 1, h => by
    have ih := ah_le y m h1 k (by omega)
    have hs := ah_succ y (m + k) (by omega) (by omega)
    have hd := dim_bd y (m + k) (by omega) (by omega)
    rw [show m + ((k + 1 : Nat) : Int) = m + k + 1 from by omega, hs]; omega
theorem ah_mono (y m m' : Int) (h1 : 1 ≤ m) (h2 : m < m') (h3 : m' ≤ 12) : ah y m + dim y m ≤ ah y m' := by
  rw [← ah_succ y m h1 (by omega)]
  have := ah_le y (m + 1) (by omega) (m' - m - 1).toNat (by omega)
  rw [show m + 1 + ((m' - m - 1).toNat : Int) = m' from by omega] at this
  exact this
theorem num_lt (y m d : Int) (h : numOk y m d) : fst y ≤ num y m d ∧ num y m d < fst (y + 1) := by
  obtain ⟨h1, h2, h3, h4, h5, h6⟩ := h
  have hb := ah_bd y m h3 (by omega)
  have hs := fst_succ y
  have hl := ah_le y (m + 1) (by omega) (12 - m).toNat (by omega)
  rw [show m + 1 + ((12 - m).toNat : Int) = 13 from by omega, ah_13, ah_succ y m h3 h4] at hl
  unfold num; omega
theorem num_inj {y m d y' m' d' : Int} (h : numOk y m d) (h' : numOk y' m' d') (e : num y m d = num y' m' d') : y = y' ∧ m = m' ∧ d = d' := by
  have a := num_lt y m d h
  have b := num_lt y' m' d' h'
  have hy : y = y' := by
    rcases Int.lt_trichotomy y y' with c | c | c
    · have := fst_mono (y + 1) y' (by omega); omega
    · exact c
    · have := fst_mono (y' + 1) y (by omega); omega
  subst hy
  obtain ⟨h1, h2, h3, h4, h5, h6⟩ := h
  obtain ⟨_, _, h3', h4', h5', h6'⟩ := h'
  unfold num at e
  have hm : m = m' := by
    rcases Int.lt_trichotomy m m' with c | c | c
    · have := ah_mono y m m' h3 c h4'; omega
    · exact c
    · have := ah_mono y m' m h3' c h4; omega
  subst hm
  exact ⟨rfl, rfl, by omega⟩
/-- days of the document's range. -/
theorem num_bd (y m d : Int) (h : numOk y m d) : -25932 ≤ num y m d ∧ num y m d < 47847 := by
  have a := num_lt y m d h
  have b := fst_mono 1899 y h.1
  have c := fst_mono (y + 1) 2101 (by have := h.2.1; omega)
  rw [fst_1899] at b; rw [fst_2101] at c; omega
theorem tdiv_366 (n : Int) (h1 : -25932 ≤ n) (h2 : n < 47847) : fst (1970 + n.tdiv 366 - 2) ≤ n ∧ -71 ≤ n.tdiv 366 ∧ n.tdiv 366 ≤ 131 := by
  have h := Int.tmod_add_mul_tdiv n 366
  have a := Int.lt_tmod_of_pos n (b := 366) (by omega)
  have b := Int.tmod_lt_of_pos n (b := 366) (by omega)
  generalize n.tdiv 366 = q at *
  generalize n.tmod 366 = r at *
  unfold fst; omega
theorem chk_zero {k a n : Int} (h : chk k a n = 0) : 1 ≤ k ∧ k ≤ 4 ∧ 0 ≤ a ∧ a ≤ 6 ∧ 0 ≤ n ∧ n ≤ 31 ∧ (k = 2 ↔ n = 0) ∧ (k = 1 → a = 0) := by
  unfold chk at h; split at h <;> (try split at h) <;> omega
/-- what is wrong with a day of a month of a year. -/
def fndE (y m k a n : Int) : Int :=
  if chk k a n ≠ 0 then chk k a n else if ¬ (1899 ≤ y ∧ y ≤ 2100 ∧ 1 ≤ m ∧ m ≤ 12) then 2 else if dim y m < n then 2 else 0
/-- the number of a day of a month of a year. -/
def fnd (y m k a n : Int) : Int :=
  if k = 1 then fst y + ah y m - 1 + n
  else if k = 3 then fst y + ah y m - 1 + n + (a - wd (fst y + ah y m - 1 + n) + 7) % 7
  else if k = 4 then fst y + ah y m - 1 + n - (wd (fst y + ah y m - 1 + n) - a + 7) % 7
  else fst y + ah y m - 1 + dim y m - (wd (fst y + ah y m - 1 + dim y m) - a + 7) % 7
theorem fndE_zero {y m k a n : Int} (h : fndE y m k a n = 0) : chk k a n = 0 ∧ 1899 ≤ y ∧ y ≤ 2100 ∧ 1 ≤ m ∧ m ≤ 12 ∧ n ≤ dim y m := by
  unfold fndE at h; split at h
  · omega
  · split at h
    · omega
    · split at h <;> omega
theorem chkM_zero {mo k a n t c : Int} (h : chkM mo k a n t c = 0) : chk k a n = 0 ∧ 0 ≤ c ∧ c ≤ 2 ∧ 1 ≤ mo ∧ mo ≤ 12 ∧ 0 ≤ t ∧ t ≤ 604800 := by
  unfold chkM at h; split at h
  · omega
  · split at h
    · omega
    · split at h <;> omega
/-- what is wrong with a moment of a year, an offset and what is saved. -/
def insE (y mo k a n t c o s : Int) : Int :=
  if chkM mo k a n t c ≠ 0 then chkM mo k a n t c else if ¬ (-86400 ≤ o ∧ o ≤ 86400 ∧ -86400 ≤ s ∧ s ≤ 86400) then 2 else fndE y mo k a n
/-- the instant of a moment of a year. -/
def ins (y mo k a n t c o s : Int) : Int :=
  if c = 0 then fnd y mo k a n * 86400 + t - (o + s) else if c = 1 then fnd y mo k a n * 86400 + t - o else fnd y mo k a n * 86400 + t
theorem insE_zero {y mo k a n t c o s : Int} (h : insE y mo k a n t c o s = 0) : chkM mo k a n t c = 0 ∧ -86400 ≤ o ∧ o ≤ 86400 ∧ -86400 ≤ s ∧ s ≤ 86400 ∧ fndE y mo k a n = 0 := by
  unfold insE at h; split at h
  · omega
  · split at h
    · omega
    · rename_i h1 h2; exact ⟨by omega, by omega, by omega, by omega, by omega, h⟩
theorem fnd_bd (y m k a n : Int) (h : fndE y m k a n = 0) : -26000 ≤ fnd y m k a n ∧ fnd y m k a n ≤ 48000 := by
  obtain ⟨hk, h1, h2, h3, h4, h5⟩ := fndE_zero h
  obtain ⟨g1, g2, g3, g4, g5, g6, g7, g8⟩ := chk_zero hk
  have hd := dim_bd y m h3 h4
  have ha := ah_bd y m h3 (by omega)
  have b1 := fst_mono 1899 y h1
  have b2 := fst_mono y 2100 h2
  rw [fst_1899] at b1; rw [fst_2100] at b2
  unfold fnd
  split
  · omega
  · split
    · omega
    · split <;> omega
theorem wd_up (N a j : Int) (a1 : 0 ≤ a) (a2 : a ≤ 6) (j1 : 0 ≤ j) (j2 : j ≤ (a - wd N + 7) % 7) : wd (N + j) = a ↔ j = (a - wd N + 7) % 7 := by
  unfold wd at *; omega
theorem wd_down (N a j : Int) (a1 : 0 ≤ a) (a2 : a ≤ 6) (j1 : 0 ≤ j) (j2 : j ≤ (wd N - a + 7) % 7) : wd (N + -j) = a ↔ j = (wd N - a + 7) % 7 := by
  unfold wd at *; omega
theorem num_one (y : Int) : num y 1 1 = fst y := by unfold num; rw [ah_one]; omega
theorem dim_feb (y : Int) : dim y 2 = 28 + lp y := by rw [dim_eq y 2 (by omega) (by omega)]; simp
/-- the day behind a day. -/
theorem next_day {y m d a b c k : Int} (h : numOk y m d) (e : num y m d = k) (h' : numOk a b c) (e' : num a b c = k + 1) (hk : k + 1 < 47483) :
    (a = y ∧ b = m ∧ c = d + 1 ∧ d < dim y m) ∨ (a = y ∧ b = m + 1 ∧ c = 1 ∧ d = dim y m) ∨ (a = y + 1 ∧ b = 1 ∧ c = 1 ∧ m = 12 ∧ d = 31 ∧ dim y m = 31) := by
  have hy : y ≤ 2099 := by
    have := num_lt y m d h
    rcases Int.lt_or_le 2099 y with c' | c'
    · have h2 := h.2.1
      have := fst_mono 2100 y (by omega)
      rw [fst_2100] at this; omega
    · exact c'
  obtain ⟨h1, h2, h3, h4, h5, h6⟩ := h
  by_cases hd : d < dim y m
  · left
    have := num_inj h' (show numOk y m (d + 1) from ⟨h1, h2, h3, h4, by omega, by omega⟩) (by rw [e']; unfold num at e ⊢; omega)
    exact ⟨this.1, this.2.1, this.2.2, hd⟩
  · right
    by_cases hm : m = 12
    · right
      subst hm
      have h31 : dim y 12 = 31 := by rw [dim_eq y 12 (by omega) (by omega)]; simp
      have h13 : ah y 13 = ah y 12 + dim y 12 := ah_succ y 12 (by omega) (by omega)
      have hl := ah_13 y
      have hs := fst_succ y
      have h1d := dim_bd (y + 1) 1 (by omega) (by omega)
      have := num_inj h' (show numOk (y + 1) 1 1 from ⟨by omega, by omega, by omega, by omega, by omega, by omega⟩) (by rw [e', num_one]; unfold num at e; omega)
      exact ⟨this.1, this.2.1, this.2.2, rfl, by omega, h31⟩
    · left
      have hs := ah_succ y m h3 h4
      have h1d := dim_bd y (m + 1) (by omega) (by omega)
      have := num_inj h' (show numOk y (m + 1) 1 from ⟨h1, h2, by omega, by omega, by omega, by omega⟩) (by rw [e']; unfold num at e ⊢; omega)
      exact ⟨this.1, this.2.1, this.2.2, by omega⟩
theorem fndE_ok {y m k a n : Int} (h1 : 1899 ≤ y) (h2 : y ≤ 2100) (h3 : 1 ≤ m) (h4 : m ≤ 12) (h5 : n ≤ dim y m) (hk : chk k a n = 0) : fndE y m k a n = 0 := by
  unfold fndE; rw [if_neg (by omega), if_neg (by omega), if_neg (by omega)]
theorem chk_ok {k a n : Int} (h1 : 1 ≤ k) (h2 : k ≤ 4) (h3 : 0 ≤ a) (h4 : a ≤ 6) (h5 : 0 ≤ n) (h6 : n ≤ 31) (h7 : k = 2 ↔ n = 0) (h8 : k = 1 → a = 0) : chk k a n = 0 := by
  unfold chk; rw [if_neg (by omega), if_neg (by omega)]
/-- the weekday that is told is found. -/
theorem fnd_wd {y m k a n : Int} (h : fndE y m k a n = 0) (hk : k ≠ 1) : wd (fnd y m k a n) = a := by
  obtain ⟨hc, _⟩ := fndE_zero h
  obtain ⟨g1, g2, g3, g4, _⟩ := chk_zero hc
  unfold fnd
  rw [if_neg hk]
  split
  · exact (wd_up _ a _ g3 g4 (by omega) (Int.le_refl _)).2 rfl
  · split
    · rw [Int.sub_eq_add_neg]; exact (wd_down _ a _ g3 g4 (by omega) (Int.le_refl _)).2 rfl
    · rw [Int.sub_eq_add_neg]; exact (wd_down _ a _ g3 g4 (by omega) (Int.le_refl _)).2 rfl
theorem fnd_on (y m a n : Int) : fnd y m 1 a n = num y m n := by unfold fnd num; simp; omega
theorem fnd_after (y m a n : Int) : num y m n ≤ fnd y m 3 a n ∧ fnd y m 3 a n < num y m n + 7 := by
  have : fnd y m 3 a n = fst y + ah y m - 1 + n + (a - wd (fst y + ah y m - 1 + n) + 7) % 7 := by unfold fnd; rw [if_neg (by omega), if_pos rfl]
  rw [this]; unfold num; omega
theorem fnd_before (y m a n : Int) : fnd y m 4 a n ≤ num y m n ∧ num y m n - 7 < fnd y m 4 a n := by
  have : fnd y m 4 a n = fst y + ah y m - 1 + n - (wd (fst y + ah y m - 1 + n) - a + 7) % 7 := by unfold fnd; rw [if_neg (by omega), if_neg (by omega), if_pos rfl]
  rw [this]; unfold num; omega
theorem fnd_last (y m a n : Int) : fnd y m 2 a n ≤ num y m (dim y m) ∧ num y m (dim y m) - 7 < fnd y m 2 a n := by
  have : fnd y m 2 a n = fst y + ah y m - 1 + dim y m - (wd (fst y + ah y m - 1 + dim y m) - a + 7) % 7 := by unfold fnd; rw [if_neg (by omega), if_neg (by omega), if_neg (by omega)]
  rw [this]; unfold num; omega
end Go.Proofs.Ytlhidbbphngpcaa.Civ
