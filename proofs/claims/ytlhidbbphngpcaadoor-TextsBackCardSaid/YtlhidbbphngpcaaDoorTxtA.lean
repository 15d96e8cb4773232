/-
  A code's text: plain; sundialref.dec and opName; the lines.
-/
import Derived.Lib.ItoaMem
import Derived.Lib.ItoaLen
import Derived.Test.YtlhidbbphngpcaaDoorNam
import Derived.Test.YtlhidbbphngpcaaDoorBld
namespace Go.Proofs.YtlhidbbphngpcaaDoor
set_option linter.unusedVariables false
set_option linter.unusedSimpArgs false
open Go.ChangeShapes Go.WideShapes Go.ChangeAt Go.RowKit

def barT (op : Int) : Bool := op == 1 || op == 3
/-- the text of one instruction. -/
def linB (x : Ins) : List UInt8 := nmS.getD x.op.toNat [] ++ ((if barT x.op then [] else 32 :: Lib.itoa x.n) ++ [10])
def insT (x : Ins) : Int := if x.op < 1 ∨ 6 < x.op then 3 else if x.n < 0 ∨ 8000 < x.n ∨ (barT x.op = true ∧ x.n ≠ 0) then 2 else 0
def txtF : List Ins → Int
  | [] => 0
  | x :: l => if insT x = 0 then txtF l else insT x
def txtB (l : List Ins) : List UInt8 := l.flatMap linB
def txtE (l : List Ins) : Int := if 8000 < l.length then 1 else txtF l
def txtS (l : List Ins) : List UInt8 := if txtE l = 0 then txtB l else []
theorem txtF_at : ∀ (l : List Ins) (k : Nat) (hk : k < l.length), (∀ i (hi : i < l.length), i < k → insT l[i] = 0) → insT l[k] ≠ 0 → txtF l = insT l[k]
  | [], k, hk, _, _ => by simp at hk
  | x :: l, 0, _, _, h => by show (if insT x = 0 then _ else _) = _; exact if_neg h
  | x :: l, k + 1, hk, h, h' => by
    show (if insT x = 0 then _ else _) = _
    have h0 : insT x = 0 := h 0 (by simp) (by omega)
    rw [if_pos h0]
    exact txtF_at l k (by simpa using hk) (fun i hi hik => h (i + 1) (by simpa using hi) (by omega)) h'
theorem txtF_none : ∀ (l : List Ins), (∀ i (hi : i < l.length), insT l[i] = 0) → txtF l = 0
  | [], _ => rfl
  | x :: l, h => by
    show (if insT x = 0 then _ else _) = _
    rw [if_pos (show insT x = 0 from h 0 (by simp))]
    exact txtF_none l fun i hi => h (i + 1) (by simpa using hi)
theorem dec_len : ∀ u : Nat, u < 10000 → (Lib.decDigits u).length ≤ 4 := by
  intro u hu
  rw [Lib.decDigits_eq, List.length_map, List.length_range]
  by_cases h0 : u = 0
  · subst h0; rw [Lib.nDigits_small (by decide)]; decide
  · rcases Nat.lt_or_ge u 10 with a | a
    · rw [Lib.nDigits_small a]; decide
    · rcases Nat.lt_or_ge u 100 with b | b
      · rw [Lib.nDigits_unique 1 u (by omega) (by omega)]; decide
      · rcases Nat.lt_or_ge u 1000 with c | c
        · rw [Lib.nDigits_unique 2 u (by omega) (by omega)]; decide
        · rw [Lib.nDigits_unique 3 u (by omega) (by omega)]; decide
theorem ins_name {x : Ins} (h : insT x = 0) : 1 ≤ x.op ∧ x.op ≤ 6 ∧ 0 ≤ x.n ∧ x.n ≤ 8000 ∧ (barT x.op = true → x.n = 0) := by
  unfold insT at h
  split at h
  · cases h
  · split at h
    · cases h
    · rename_i a b
      refine ⟨by omega, by omega, by omega, by omega, fun hb => ?_⟩
      rcases Decidable.em (x.n = 0) with e | e
      · exact e
      · exact absurd (.inr (.inr ⟨hb, e⟩)) b
theorem lin_len {x : Ins} (h : insT x = 0) : (linB x).length ≤ 11 := by
  obtain ⟨a, b, c, d, _⟩ := ins_name h
  have h1 : (nmS.getD x.op.toNat []).length ≤ 5 := by
    have : ∀ i : Nat, i < 7 → (nmS.getD i []).length ≤ 5 := by decide
    exact this _ (by omega)
  have h2 : (Lib.itoa x.n).length ≤ 4 := by
    obtain ⟨u, hu⟩ : ∃ u : Nat, x.n = u := ⟨x.n.toNat, by omega⟩
    rw [hu, Lib.itoa_nonneg]
    exact dec_len u (by omega)
  unfold linB
  rw [List.length_append, List.length_append]
  split
  · rw [List.length_nil, List.length_singleton]; omega
  · rw [List.length_cons, List.length_singleton]; omega
theorem txtB_snoc (l : List Ins) (k : Nat) (hk : k < l.length) : txtB (l.take (k + 1)) = txtB (l.take k) ++ linB l[k] := by
  unfold txtB
  rw [List.take_succ_eq_append_getElem hk, List.flatMap_append]
  simp
theorem txtB_len : ∀ (l : List Ins), (∀ i (hi : i < l.length), insT l[i] = 0) → (txtB l).length ≤ 11 * l.length
  | [], _ => by simp [txtB]
  | x :: l, h => by
    have h1 := lin_len (h 0 (by simp))
    have h2 := txtB_len l fun i hi => h (i + 1) (by simpa using hi)
    unfold txtB at *
    rw [List.flatMap_cons, List.length_append, List.length_cons]
    have h3 : (linB ((x :: l)[0])).length = (linB x).length := rfl
    omega
theorem bareT_lit (op : Int) (r : Bool) (w : World) (hr : barT op = r) :
    Calls Tryd.prog 13 #[.int .i64 op] w fun e w' => e = .returned (.bool r) ∧ w = w' := by
  have H := Lib.hid hr.symm
  clear hr
  go_enter Tryd.func13, Tryd.ntmps13
  go_wp2
  all_goals (go_ret; exact ⟨ret_bool (by go_light; rw [H.out]; unfold barT; first | (simp [*]; done) | rfl | (simp [*]; omega)), rfl⟩)
theorem hasT_lit (op : Int) (r : Bool) (w : World) (hr : barT op = r) :
    Calls Tryd.prog 19 #[.int .i64 op] w fun e w' => e = .returned (.bool (!r)) ∧ w = w' := by
  have H := Lib.hid hr.symm
  clear hr
  go_enter Tryd.func19, Tryd.ntmps19
  go_wp2
  all_goals (go_ret; exact ⟨ret_bool (by go_light; rw [H.out]; unfold barT; first | (simp [*]; done) | rfl | (simp [*]; omega) | (simp [bne]; done) | (by_cases h1 : op = 1 <;> by_cases h3 : op = 3 <;> simp_all [bne]; done)), rfl⟩)
set_option maxRecDepth 100000 in
theorem opName_any (op : Int) (w : World) (h0 : 0 ≤ op) (h6 : op ≤ 6) :
    Calls Tryd.prog 20 #[.int .i64 op] w fun e w' => e = .returned (.string ⟨(nmS.getD op.toNat []).toArray⟩) ∧ Below w.heap.size w w' := by
  have hx : op = 0 ∨ op = 1 ∨ op = 2 ∨ op = 3 ∨ op = 4 ∨ op = 5 ∨ op = 6 := by omega
  rcases hx with rfl | rfl | rfl | rfl | rfl | rfl | rfl
  all_goals
    go_enter Tryd.func20, Tryd.ntmps20
    go_wp2
    go_ret
    exact ⟨rfl, (Below.refl _ _).alloc (Nat.le_refl _) _⟩
set_option maxRecDepth 100000 in
theorem dec_any : ∀ (f u : Nat) (w : World), u < f → u < 1000000 →
    Calls Tryd.prog 21 #[.int .i64 u] w fun e w' => e = .returned (.string ⟨(Lib.decDigits u).toArray⟩) ∧ Below w.heap.size w w'
  | 0, u, w, h, _ => absurd h (by omega)
  | f + 1, u, w, hf, hu => by
    by_cases h : u < 10
    · have HD : Hid (Lib.decDigits u = [UInt8.ofNat (48 + u)]) := by show _ = _; rw [Lib.decDigits, dif_pos h]
      clear hf
      go_enter Tryd.func21, Tryd.ntmps21
      obtain ⟨D, hD⟩ : ∃ D : List UInt8, D = [UInt8.ofNat (48 + u)] := ⟨_, rfl⟩
      have hcv : (convert 42 9 (.slice (some ⟨w.heap.size, 0, none⟩) 1 1)).run Tryd.prog (w.alloc (.cells #[.int .u8 (48 + (u : Int))] 5)) = .ok (.string ⟨D.toArray⟩) (w.alloc (.cells #[.int .u8 (48 + (u : Int))] 5)) := by
        have := run_convert_bytes_back (P := Tryd.prog) (w.alloc (.cells #[.int .u8 (48 + (u : Int))] 5)) 42 9 5 ⟨w.heap.size, 0, none⟩ 1 D Tryd.underlying42 Tryd.underlying5 Tryd.underlying9 (fun j hj => by
          subst hD
          obtain rfl : j = 0 := by simpa using hj
          refine (World.cell?_alloc_at (w := w) _ _ w.heap.size 0 rfl).trans ?_
          have : ((UInt8.ofNat (48 + u)).toNat : Int) = 48 + (u : Int) := by rw [UInt8.toNat_ofNat']; omega
          show some (Value.int .u8 (48 + (u : Int))) = some (.int .u8 ((UInt8.ofNat (48 + u)).toNat : Int))
          rw [this])
        rw [hD] at this ⊢
        exact this
      rw [← hD] at HD
      clear hD
      go_wp2
      go_ret
      exact ⟨by rw [HD.out]; rfl, (Below.refl _ _).alloc (Nat.le_refl _) _⟩
    · have HD : Hid (Lib.decDigits u = Lib.decDigits (u / 10) ++ Lib.decDigits (u % 10)) := by
        show _ = _
        rw [Lib.decDigits, dif_neg h, Lib.decDigits.eq_1 (u % 10), dif_pos (Nat.mod_lt _ (by decide))]
      have hlen : ∀ v : Nat, v < 1000000 → (Lib.decDigits v).length ≤ 21 := fun v hv => by
        rw [← Lib.itoa_nonneg]; exact Lib.itoa_length_le _ (by omega) (by omega)
      have IH := dec_any f
      obtain ⟨q, hq⟩ : ∃ q : Nat, q = u / 10 := ⟨_, rfl⟩
      obtain ⟨r, hr⟩ : ∃ r : Nat, r = u % 10 := ⟨_, rfl⟩
      have eq1 : (u : Int) / 10 = q := by omega
      have er1 : (u : Int) % 10 = r := by omega
      rw [← hq, ← hr] at HD
      have hA := hlen q (by omega)
      have hB := hlen r (by omega)
      have IA := Lib.hid (fun w => IH q w (by omega) (by omega))
      have IB := Lib.hid (fun w => IH r w (by omega) (by omega))
      clear IH hlen hq hr
      generalize Lib.decDigits q = DA at *
      generalize Lib.decDigits r = DB at *
      have HA : Hid (DA.length ≤ 21) := hA
      have HB : Hid (DB.length ≤ 21) := hB
      have ca := fun w1 : World => run_string_add_lists (P := Tryd.prog) w1 DA DB (by have := HA.out; omega) (by have := HB.out; omega)
      clear hA hB
      go_enter Tryd.func21, Tryd.ntmps21
      go_wp2_with fail
      refine (IA.out _).mono ?_; rintro e w1 ⟨rfl, hb1⟩
      go_wp2_with fail
      refine (IB.out _).mono ?_; rintro e w2 ⟨rfl, hb2⟩
      go_wp2
      go_ret
      exact ⟨by rw [HD.out]; rfl, hb1.trans (hb2.mono hb1.size)⟩
end Go.Proofs.YtlhidbbphngpcaaDoor
