/-
  zones.named, zones.first; what is wrong with a rule.
-/
import Derived.Test.YtdpbedkppomffaaDoorZonC
namespace Go.Proofs.YtdpbedkppomffaaDoor
set_option linter.unusedVariables false
set_option linter.unusedSimpArgs false
open Go.ChangeShapes Go.WideShapes Go.ChangeAt Go.RowKit Civ

theorem blk_z {w : World} {b o : Nat} {v : Value} (h : w.cell? ⟨b, o, none⟩ = some v) : b < w.heap.size := by
  rcases Nat.lt_or_ge b w.heap.size with q | q
  · exact q
  · simp [World.cell?, Array.getElem?_eq_none q] at h
theorem streq (a b : ByteArray) : (a.toList == b.toList) = decide (a = b) := by
  rw [Bool.eq_iff_iff, beq_iff_eq, decide_eq_true_iff]
  constructor
  · intro h
    rw [ByteArray.toList_eq, ByteArray.toList_eq] at h
    exact Go.WideShapes.bytes_inj h
  · rintro rfl; rfl
theorem strne (a b : ByteArray) : (a.toList != b.toList) = !decide (a = b) := by rw [← streq]; rfl
set_option maxHeartbeats 1000000 in
theorem named1_any (x : Rul) (n : ByteArray) (b : Nat) (w : World) (hc : w.cell? ⟨b, 0, none⟩ = some (.string n)) :
    Calls Tryd.prog 132 #[.agg #[.string x.nm, .int .i64 x.fr, .int .i64 x.to, .int .i64 x.at'.mo, .int .i64 x.at'.k, .int .i64 x.at'.a, .int .i64 x.at'.n, .int .i64 x.at'.t, .int .i64 x.at'.c, .int .i64 x.sv, .string x.lt], .pointer (some ⟨b, 0, none⟩)] w fun e w' => e = .returned (.bool (decide (x.nm = n))) ∧ Below w.heap.size w w' := by
  have hb := blk_z hc
  go_enter Tryd.func132, Tryd.ntmps132
  go_wp2
  go_ret
  exact ⟨ret_bool (streq _ _), (Below.refl _ _).alloc (Nat.le_refl _) _⟩
theorem named1_enters (args : Array Value) (w : World) : (callFunc 132 args).run Tryd.prog w = .ok (.enter 132 args) w := enters_of Tryd.func132 (by kernel_rfl) rfl args w
set_option maxHeartbeats 1000000 in
theorem named_any (s : Src) (vr vz vl : Value) (n : ByteArray) (w : World) (hs : SrcAt w vr vz vl s) :
    Calls Tryd.prog 95 #[.agg #[vr, vz, vl], .string n] w fun e w' => e = .returned (.bool (namedB s.rules n)) ∧ Below w.heap.size w w' := by
  have b1 : Below w.heap.size w ((w.alloc (.cells #[vr, vz, vl] 26)).alloc (.cells #[.string n] 9)) := ((Below.refl _ _).alloc (Nat.le_refl _) _).alloc (by simp) _
  have c0 : ((w.alloc (.cells #[vr, vz, vl] 26)).alloc (.cells #[.string n] 9)).cell? ⟨w.heap.size + 1, 0, none⟩ = some (.string n) := (World.cell?_alloc_at (w := w.alloc _) _ _ (w.heap.size + 1) 0 (size_alloc _ _).symm).trans rfl
  have HI := Lib.hid (contRul_any (fun r => decide (r.nm = n)) 132 (.pointer (some ⟨w.heap.size + 1, 0, none⟩)) vr s.rules _ (hs.1.mono b1 fun _ _ h => h) named1_enters
    (fun x _ w1 hb => named1_any x n (w.heap.size + 1) w1 ((hb.cell (p := ⟨_, 0, none⟩) (blk_z c0)).trans c0)))
  have HB := Lib.hid b1
  have hmf : ∀ (fn : Fn) (first cap : Array Value) (w : World), (Instr.makeFunc fn first cap).run Tryd.prog w = .ok (.func fn first cap) w := fun _ _ _ _ => rfl
  clear hs b1 c0
  go_enter Tryd.func95, Tryd.ntmps95
  go_wp2_with fail
  refine HI.out.mono ?_; rintro e w1 ⟨rfl, hb1⟩
  have HB1 := Lib.hid (HB.out.trans (hb1.mono HB.out.size))
  clear hb1 HI HB
  go_wp2
  go_ret
  exact ⟨rfl, HB1.out⟩
def frP (n : ByteArray) (r : Rul) : Bool := decide (r.nm = n ∧ r.sv = 0)
set_option maxHeartbeats 1000000 in
theorem first1_any (x : Rul) (n : ByteArray) (b : Nat) (w : World) (hc : w.cell? ⟨b, 1, none⟩ = some (.string n)) :
    Calls Tryd.prog 111 #[.agg #[.string x.nm, .int .i64 x.fr, .int .i64 x.to, .int .i64 x.at'.mo, .int .i64 x.at'.k, .int .i64 x.at'.a, .int .i64 x.at'.n, .int .i64 x.at'.t, .int .i64 x.at'.c, .int .i64 x.sv, .string x.lt], .pointer (some ⟨b, 0, none⟩)] w fun e w' => e = .returned (.bool (frP n x)) ∧ Below w.heap.size w w' := by
  have hb := blk_z hc
  by_cases h : x.nm = n
  · have hx : (x.nm.toList == n.toList) = true := by rw [streq]; simpa using h
    have HP : Hid (frP n x = (x.sv == 0)) := by show _ = _; unfold frP; rw [Bool.eq_iff_iff]; simp [h]
    clear h
    go_enter Tryd.func111, Tryd.ntmps111
    go_wp2
    go_ret
    exact ⟨ret_bool HP.out.symm, (Below.refl _ _).alloc (Nat.le_refl _) _⟩
  · have hx : (x.nm.toList == n.toList) = false := by rw [streq]; simpa using h
    have HP : Hid (frP n x = false) := by show _ = _; unfold frP; simp [h]
    clear h
    go_enter Tryd.func111, Tryd.ntmps111
    go_wp2
    go_ret
    exact ⟨ret_bool HP.out.symm, (Below.refl _ _).alloc (Nat.le_refl _) _⟩
theorem first1_enters (args : Array Value) (w : World) : (callFunc 111 args).run Tryd.prog w = .ok (.enter 111 args) w := enters_of Tryd.func111 (by kernel_rfl) rfl args w
theorem firstL_nil (n : ByteArray) : firstL [] n = ByteArray.empty := rfl
theorem first_fidx (n : ByteArray) : ∀ (rules : List Rul), (fidx (frP n) rules < 0 ∧ firstL rules n = ByteArray.empty) ∨ ∃ k : Nat, ∃ h : k < rules.length, fidx (frP n) rules = (k : Int) ∧ firstL rules n = rules[k].lt
  | [] => .inl ⟨by show (-1 : Int) < 0; decide, rfl⟩
  | r :: l => by
    by_cases h : frP n r = true
    · right
      refine ⟨0, by simp, by simp [fidx, h], ?_⟩
      have e : (r :: l).find? (fun r => decide (r.nm = n ∧ r.sv = 0)) = some r := List.find?_cons_of_pos h
      unfold firstL
      rw [e]
      rfl
    · have h' : frP n r = false := by simpa using h
      have e1 : firstL (r :: l) n = firstL l n := by
        unfold firstL
        rw [List.find?_cons_of_neg (by exact h)]
      rcases first_fidx n l with ⟨a, b⟩ | ⟨k, hk, a, b⟩
      · left
        refine ⟨?_, by rw [e1, b]⟩
        have := fidx_lo (frP n) l
        simp only [fidx, h']
        split <;> simp_all
      · right
        refine ⟨k + 1, by simpa using hk, ?_, by rw [e1, b]; rfl⟩
        simp only [fidx, h', a]
        split <;> simp_all
        omega
set_option maxHeartbeats 2000000 in
theorem first_any_z (s : Src) (x : Ero) (vr vz vl : Value) (w : World) (hs : SrcAt w vr vz vl s) :
    Calls Tryd.prog 75 #[.agg #[vr, vz, vl], .agg #[.int .i64 x.off, .string x.rl, .int .i64 x.sv, .string x.fm, .bool x.en, .int .i64 x.yr, .int .i64 x.un.mo, .int .i64 x.un.k, .int .i64 x.un.a, .int .i64 x.un.n, .int .i64 x.un.t, .int .i64 x.un.c]] w fun e w' => e = .returned (.string (firstL s.rules x.rl)) ∧ Below w.heap.size w w' := by
  have b1 : Below w.heap.size w ((w.alloc (.cells #[vr, vz, vl] 26)).alloc (.cells #[.int .i64 x.off, .string x.rl, .int .i64 x.sv, .string x.fm, .bool x.en, .int .i64 x.yr, .int .i64 x.un.mo, .int .i64 x.un.k, .int .i64 x.un.a, .int .i64 x.un.n, .int .i64 x.un.t, .int .i64 x.un.c] 36)) := ((Below.refl _ _).alloc (Nat.le_refl _) _).alloc (by simp) _
  obtain ⟨W1, hW1⟩ : ∃ W1, W1 = (w.alloc (.cells #[vr, vz, vl] 26)).alloc (.cells #[.int .i64 x.off, .string x.rl, .int .i64 x.sv, .string x.fm, .bool x.en, .int .i64 x.yr, .int .i64 x.un.mo, .int .i64 x.un.k, .int .i64 x.un.a, .int .i64 x.un.n, .int .i64 x.un.t, .int .i64 x.un.c] 36) := ⟨_, rfl⟩
  have c0 : W1.cell? ⟨w.heap.size, 0, none⟩ = some vr := by
    rw [hW1]
    refine (World.cell?_alloc_past _ _ _ (by rw [size_alloc]; exact Nat.lt_succ_self _)).trans ?_
    exact (World.cell?_alloc_at (w := w) _ _ w.heap.size 0 rfl).trans rfl
  have c1 : W1.cell? ⟨w.heap.size + 1, 1, none⟩ = some (.string x.rl) := by
    rw [hW1]
    exact (World.cell?_alloc_at (w := w.alloc _) _ _ (w.heap.size + 1) 1 (size_alloc _ _).symm).trans rfl
  rw [← hW1] at b1
  have HI := Lib.hid (idxRul_any (frP x.rl) 111 (.pointer (some ⟨w.heap.size + 1, 0, none⟩)) vr s.rules W1 (hs.1.mono b1 fun _ _ h => h) first1_enters
    (fun r _ w1 hb => first1_any r x.rl (w.heap.size + 1) w1 ((hb.cell (p := ⟨_, 1, none⟩) (blk_z c1)).trans c1)))
  have HS := Lib.hid (hs.1.mono b1 fun _ _ h => h)
  have HB := Lib.hid b1
  obtain ⟨ar, cr, rfl, hl⟩ := hs.1.shape
  have hm := maxLen_eq _ hl
  have hmf : ∀ (fn : Fn) (first cap : Array Value) (w : World), (Instr.makeFunc fn first cap).run Tryd.prog w = .ok (.func fn first cap) w := fun _ _ _ _ => rfl
  have HW := Lib.hid hW1
  have C0 := Lib.hid c0
  clear hs b1 c0 c1 hl hW1
  go_enter Tryd.func75, Tryd.ntmps75
  go_wp2_with fail
  rw [← HW.out]
  refine HI.out.mono ?_; rintro e w1 ⟨rfl, hb1⟩
  have HB1 := Lib.hid (HB.out.trans (hb1.mono HB.out.size))
  have HS1 := Lib.hid (HS.out.mono hb1 fun _ _ h => h)
  have c0 := (hb1.cell (p := ⟨w.heap.size, 0, none⟩) (blk_z C0.out)).trans C0.out
  clear hb1 HI HB HS
  rcases first_fidx x.rl s.rules with ⟨h1, h2⟩ | ⟨k, hk, h1, h2⟩
  · have H2 := Lib.hid h2
    generalize fidx (frP x.rl) s.rules = i at *
    clear h2
    go_wp2
    go_ret
    exact ⟨by rw [H2.out]; rfl, HB1.out⟩
  · obtain ⟨b, off, rfl, hb, ⟨-, -, -, -, -, -, -, -, -, -, d10⟩, -⟩ := elemRul HS1.out k hk
    rw [h1]
    have H2 := Lib.hid h2
    have hki : (k : Int) < (s.rules.length : Int) := by omega
    have hk0 : ¬ (k : Int) < 0 := by omega
    clear h1 h2
    go_wp2
    go_ret
    exact ⟨by rw [H2.out]; rfl, HB1.out⟩
end Go.Proofs.YtdpbedkppomffaaDoor
