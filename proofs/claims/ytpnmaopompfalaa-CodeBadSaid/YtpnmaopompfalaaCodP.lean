/-
  What may not be run is refused.
-/
import Derived.Test.YtpnmaopompfalaaCodL
import Derived.Test.YtpnmaopompfalaaPick
import Derived.Test.YtpnmaopompfalaaFwdC
namespace Go.Proofs.Ytpnmaopompfalaa
set_option linter.unusedVariables false
set_option linter.unusedSimpArgs false
open Go.ChangeShapes Go.WideShapes Go.ChangeAt Go.RowKit

set_option maxRecDepth 100000 in
set_option maxHeartbeats 2000000 in
theorem encode_bad (p : Prg) (vc vp va : Value) (w : World) (hp : PrgAt w vc vp va p) {a b c : Int} (h : verE p = (a, b, c)) (hc : c ≠ 0) :
    Calls Try.prog 47 #[.agg #[vc, vp, va]] w fun e w' => e = .returned (.tuple #[.slice none 0 0, .int .i64 c]) ∧ Below w.heap.size w w' := by
  have HP := Lib.hid hp
  have HV := Lib.hid h
  have hne : (c != 0) = true := by rw [bne_iff_ne]; exact hc
  have bw : Below w.heap.size w (w.alloc (.cells #[vc, vp, va] 58)) := (Below.refl _ _).alloc (Nat.le_refl _) _
  clear hp h hc
  go_enter Try.func47, Try.ntmps47
  go_wp2_with fail
  refine (verify_any p vc vp va _ (HP.out.mono bw) HV.out).mono ?_; rintro e w1 ⟨rfl, hb1⟩
  go_wp2
  go_ret2
  exact ⟨rfl, below_in hb1⟩
/-- blocks laid one behind the other. -/
def laysW (w : World) : List (Array Value × TypeId) → World
  | [] => w
  | (c, e) :: l => laysW (w.alloc (.cells c e)) l
theorem laysW_size : ∀ (l : List (Array Value × TypeId)) (w : World), (laysW w l).heap.size = w.heap.size + l.length
  | [], w => rfl
  | (c, e) :: l, w => by
    show (laysW (w.alloc (.cells c e)) l).heap.size = _
    rw [laysW_size l, size_alloc, List.length_cons]; omega
theorem laysW_below : ∀ (l : List (Array Value × TypeId)) (w : World), Below w.heap.size w (laysW w l)
  | [], w => Below.refl _ _
  | (c, e) :: l, w => ((Below.refl _ _).alloc (Nat.le_refl _) _).trans ((laysW_below l _).mono (by rw [size_alloc]; omega))
theorem laysW_cell : ∀ (l : List (Array Value × TypeId)) (w : World) (i j : Nat) (hi : i < l.length), (laysW w l).cell? ⟨w.heap.size + i, j, none⟩ = l[i].1[j]?
  | (c, e) :: l, w, 0, j, _ => by
    show (laysW (w.alloc (.cells c e)) l).cell? ⟨w.heap.size + 0, j, none⟩ = _
    rw [(laysW_below l _).cell (p := ⟨w.heap.size + 0, j, none⟩) (by rw [size_alloc]; exact Nat.lt_succ_self _)]
    exact World.cell?_alloc_at (w := w) _ _ w.heap.size j rfl
  | (c, e) :: l, w, i + 1, j, hi => by
    have := laysW_cell l (w.alloc (.cells c e)) i j (by simpa using hi)
    rw [size_alloc] at this
    show (laysW (w.alloc (.cells c e)) l).cell? ⟨w.heap.size + (i + 1), j, none⟩ = _
    rw [show w.heap.size + (i + 1) = w.heap.size + 1 + i from by omega, this]
    rfl
def encS (x : Ins) : List Value := [.int .i64 x.op, .int .i64 x.n]
theorem ins_lit {W : World} {b : Nat} {l : List Ins} (hb : b < W.heap.size) (h0 : 0 < l.length) (h9 : l.length ≤ 9) (h64 : ∀ x ∈ l, I64 x.op ∧ I64 x.n) (hc : ∀ j, W.cell? ⟨b, j, none⟩ = (l.flatMap encS)[j]?) : SlAt W 2 RIns (.slice (some ⟨b, 0, none⟩) l.length l.length) l := by
  refine .inr ⟨b, 0, l.length, rfl, h0, Nat.le_refl _, by unfold maxLen; omega, hb, fun i hi => ⟨encS l[i], rfl, ⟨rfl, h64 _ (List.getElem_mem hi)⟩, fun j hj => ?_⟩⟩
  rw [Nat.zero_add, hc]
  exact flat_at (enc := encS) (sz := 2) (fun _ => rfl) l i j hi hj
def bdA : Ans := ⟨⟨0, false, ⟨#[]⟩⟩, [], 0⟩
def bdP : Nat → Prg
  | 0 => ⟨[], [], []⟩
  | 1 => ⟨[⟨7, 0⟩], [], []⟩
  | 2 => ⟨[⟨6, 0⟩], [], []⟩
  | 3 => ⟨[⟨1, 0⟩], [], [bdA]⟩
  | 4 => ⟨[⟨3, 0⟩, ⟨6, 0⟩], [], [bdA]⟩
  | 5 => ⟨[⟨5, 1⟩, ⟨6, 0⟩], [], [bdA]⟩
  | 6 => ⟨[⟨2, 0⟩, ⟨6, 0⟩], [], [bdA]⟩
  | 7 => ⟨[⟨1, 0⟩, ⟨4, 1⟩, ⟨1, 0⟩, ⟨6, 0⟩], [], [bdA]⟩
  | _ => ⟨[⟨1, 1⟩, ⟨6, 0⟩], [], [bdA]⟩
def bdE : Nat → Int
  | 0 => 6
  | 1 => 3
  | 2 => 2
  | 3 => 5
  | 4 => 10
  | 5 => 2
  | 6 => 2
  | 7 => 4
  | _ => 2
theorem bd_ver (k : Nat) (hk : k < 9) : verE (bdP k) = (0, 0, bdE k) ∧ bdE k ≠ 0 := by
  match k, hk with
  | 0, _ => exact ⟨by decide +kernel, by decide⟩
  | 1, _ => exact ⟨by decide +kernel, by decide⟩
  | 2, _ => exact ⟨by decide +kernel, by decide⟩
  | 3, _ => exact ⟨by decide +kernel, by decide⟩
  | 4, _ => exact ⟨by decide +kernel, by decide⟩
  | 5, _ => exact ⟨by decide +kernel, by decide⟩
  | 6, _ => exact ⟨by decide +kernel, by decide⟩
  | 7, _ => exact ⟨by decide +kernel, by decide⟩
  | 8, _ => exact ⟨by decide +kernel, by decide⟩
def bdC (B : Nat) : Nat → Value
  | 0 => .slice none 0 0
  | k + 1 => .slice (some ⟨B + (k + 1), 0, none⟩) (bdP (k + 1)).code.length (bdP (k + 1)).code.length
def bdV (B : Nat) (k : Nat) : Value := if k < 3 then .slice none 0 0 else .slice (some ⟨B, 0, none⟩) 1 1
def bdL (B : Nat) : List (Array Value × TypeId) :=
  [(#[.int .i64 0, .bool false, .string ⟨#[]⟩, .slice none 0 0, .int .i64 0], 27),
   (#[.int .i64 7, .int .i64 0], 71), (#[.int .i64 6, .int .i64 0], 71), (#[.int .i64 1, .int .i64 0], 71),
   (#[.int .i64 3, .int .i64 0, .int .i64 6, .int .i64 0], 71), (#[.int .i64 5, .int .i64 1, .int .i64 6, .int .i64 0], 71),
   (#[.int .i64 2, .int .i64 0, .int .i64 6, .int .i64 0], 71), (#[.int .i64 1, .int .i64 0, .int .i64 4, .int .i64 1, .int .i64 1, .int .i64 0, .int .i64 6, .int .i64 0], 71),
   (#[.int .i64 1, .int .i64 1, .int .i64 6, .int .i64 0], 71),
   (#[.slice none 0 0, .slice none 0 0, .slice none 0 0,
      .slice (some ⟨B + 1, 0, none⟩) 1 1, .slice none 0 0, .slice none 0 0,
      .slice (some ⟨B + 2, 0, none⟩) 1 1, .slice none 0 0, .slice none 0 0,
      .slice (some ⟨B + 3, 0, none⟩) 1 1, .slice none 0 0, .slice (some ⟨B, 0, none⟩) 1 1,
      .slice (some ⟨B + 4, 0, none⟩) 2 2, .slice none 0 0, .slice (some ⟨B, 0, none⟩) 1 1,
      .slice (some ⟨B + 5, 0, none⟩) 2 2, .slice none 0 0, .slice (some ⟨B, 0, none⟩) 1 1,
      .slice (some ⟨B + 6, 0, none⟩) 2 2, .slice none 0 0, .slice (some ⟨B, 0, none⟩) 1 1,
      .slice (some ⟨B + 7, 0, none⟩) 4 4, .slice none 0 0, .slice (some ⟨B, 0, none⟩) 1 1,
      .slice (some ⟨B + 8, 0, none⟩) 2 2, .slice none 0 0, .slice (some ⟨B, 0, none⟩) 1 1], 58),
   (#[.int .i64 6, .int .i64 3, .int .i64 2, .int .i64 5, .int .i64 10, .int .i64 2, .int .i64 2, .int .i64 4, .int .i64 2], 28)]
theorem bd_code (w : World) (k : Nat) (hk : k < 9) : SlAt (laysW w (bdL w.heap.size)) 2 RIns (bdC w.heap.size k) (bdP k).code := by
  have hs : (laysW w (bdL w.heap.size)).heap.size = w.heap.size + 11 := laysW_size _ _
  have hc : ∀ i j (hi : i < (bdL w.heap.size).length), _ = _ := fun i j hi => laysW_cell (bdL w.heap.size) w i j hi
  have h0 := i64_zero
  have h1 : I64 1 := i64_nat 1 (by decide)
  have h2 : I64 2 := i64_nat 2 (by decide)
  have h3 : I64 3 := i64_nat 3 (by decide)
  have h4 : I64 4 := i64_nat 4 (by decide)
  have h5 : I64 5 := i64_nat 5 (by decide)
  have h6 : I64 6 := i64_nat 6 (by decide)
  have h7 : I64 7 := i64_nat 7 (by decide)
  match k, hk with
  | 0, _ => exact .inl ⟨none, 0, rfl, rfl⟩
  | 1, _ => exact ins_lit (by rw [hs]; exact Nat.add_lt_add_left (by decide) _) (by decide) (by decide) (by simp [bdP, *]) fun j => (hc 1 j (by show 1 < 11; decide)).trans (by simp [bdL, bdP, encS])
  | 2, _ => exact ins_lit (by rw [hs]; exact Nat.add_lt_add_left (by decide) _) (by decide) (by decide) (by simp [bdP, *]) fun j => (hc 2 j (by show 2 < 11; decide)).trans (by simp [bdL, bdP, encS])
  | 3, _ => exact ins_lit (by rw [hs]; exact Nat.add_lt_add_left (by decide) _) (by decide) (by decide) (by simp [bdP, *]) fun j => (hc 3 j (by show 3 < 11; decide)).trans (by simp [bdL, bdP, encS])
  | 4, _ => exact ins_lit (by rw [hs]; exact Nat.add_lt_add_left (by decide) _) (by decide) (by decide) (by simp [bdP, *]) fun j => (hc 4 j (by show 4 < 11; decide)).trans (by simp [bdL, bdP, encS])
  | 5, _ => exact ins_lit (by rw [hs]; exact Nat.add_lt_add_left (by decide) _) (by decide) (by decide) (by simp [bdP, *]) fun j => (hc 5 j (by show 5 < 11; decide)).trans (by simp [bdL, bdP, encS])
  | 6, _ => exact ins_lit (by rw [hs]; exact Nat.add_lt_add_left (by decide) _) (by decide) (by decide) (by simp [bdP, *]) fun j => (hc 6 j (by show 6 < 11; decide)).trans (by simp [bdL, bdP, encS])
  | 7, _ => exact ins_lit (by rw [hs]; exact Nat.add_lt_add_left (by decide) _) (by decide) (by decide) (by simp [bdP, *]) fun j => (hc 7 j (by show 7 < 11; decide)).trans (by simp [bdL, bdP, encS])
  | 8, _ => exact ins_lit (by rw [hs]; exact Nat.add_lt_add_left (by decide) _) (by decide) (by decide) (by simp [bdP, *]) fun j => (hc 8 j (by show 8 < 11; decide)).trans (by simp [bdL, bdP, encS])
theorem bd_ans (w : World) (k : Nat) (hk : k < 9) : SlAt (laysW w (bdL w.heap.size)) 5 (RAns (laysW w (bdL w.heap.size))) (bdV w.heap.size k) (bdP k).answers := by
  have hs : (laysW w (bdL w.heap.size)).heap.size = w.heap.size + 11 := laysW_size _ _
  have hc : ∀ j, (laysW w (bdL w.heap.size)).cell? ⟨w.heap.size, j, none⟩ = _ := fun j => laysW_cell (bdL w.heap.size) w 0 j (by show 0 < 11; decide)
  have hnil : SlAt (laysW w (bdL w.heap.size)) 5 (RAns (laysW w (bdL w.heap.size))) (.slice none 0 0) [] := .inl ⟨none, 0, rfl, rfl⟩
  have hone : SlAt (laysW w (bdL w.heap.size)) 5 (RAns (laysW w (bdL w.heap.size))) (.slice (some ⟨w.heap.size, 0, none⟩) 1 1) [bdA] := by
    refine .inr ⟨w.heap.size, 0, 1, rfl, by decide, by decide, by unfold maxLen; omega, by omega, fun i hi => ?_⟩
    obtain rfl : i = 0 := by simpa using hi
    exact ⟨[.int .i64 0, .bool false, .string ⟨#[]⟩, .slice none 0 0, .int .i64 0], rfl, ⟨_, rfl, .inl ⟨none, 0, rfl, rfl⟩, i64_zero, i64_zero, Nat.zero_le _⟩, fun j hj => by rw [hc]; match j, hj with | 0, _ => rfl | 1, _ => rfl | 2, _ => rfl | 3, _ => rfl | 4, _ => rfl⟩
  match k, hk with
  | 0, _ => exact hnil
  | 1, _ => exact hnil
  | 2, _ => exact hnil
  | 3, _ => exact hone
  | 4, _ => exact hone
  | 5, _ => exact hone
  | 6, _ => exact hone
  | 7, _ => exact hone
  | 8, _ => exact hone
theorem bd_cells (w : World) (k : Nat) (hk : k < 9) : (laysW w (bdL w.heap.size)).cell? ⟨w.heap.size + 9, k * 3, none⟩ = some (bdC w.heap.size k) ∧ (laysW w (bdL w.heap.size)).cell? ⟨w.heap.size + 9, k * 3 + 1, none⟩ = some (.slice none 0 0) ∧ (laysW w (bdL w.heap.size)).cell? ⟨w.heap.size + 9, k * 3 + 2, none⟩ = some (bdV w.heap.size k) ∧ (laysW w (bdL w.heap.size)).cell? ⟨w.heap.size + 10, k, none⟩ = some (.int .i64 (bdE k)) := by
  have hc : ∀ j, (laysW w (bdL w.heap.size)).cell? ⟨w.heap.size + 9, j, none⟩ = _ := fun j => laysW_cell (bdL w.heap.size) w 9 j (by show 9 < 11; decide)
  have he : ∀ j, (laysW w (bdL w.heap.size)).cell? ⟨w.heap.size + 10, j, none⟩ = _ := fun j => laysW_cell (bdL w.heap.size) w 10 j (by show 10 < 11; decide)
  rw [hc, hc, hc, he]
  match k, hk with
  | 0, _ => exact ⟨rfl, rfl, rfl, rfl⟩
  | 1, _ => exact ⟨rfl, rfl, rfl, rfl⟩
  | 2, _ => exact ⟨rfl, rfl, rfl, rfl⟩
  | 3, _ => exact ⟨rfl, rfl, rfl, rfl⟩
  | 4, _ => exact ⟨rfl, rfl, rfl, rfl⟩
  | 5, _ => exact ⟨rfl, rfl, rfl, rfl⟩
  | 6, _ => exact ⟨rfl, rfl, rfl, rfl⟩
  | 7, _ => exact ⟨rfl, rfl, rfl, rfl⟩
  | 8, _ => exact ⟨rfl, rfl, rfl, rfl⟩
theorem bd_at (w : World) (k : Nat) (hk : k < 9) : PrgAt (laysW w (bdL w.heap.size)) (bdC w.heap.size k) (.slice none 0 0) (bdV w.heap.size k) (bdP k) := by
  refine ⟨bd_code w k hk, ?_, bd_ans w k hk⟩
  match k, hk with
  | 0, _ => exact .inl ⟨none, 0, rfl, rfl⟩
  | 1, _ => exact .inl ⟨none, 0, rfl, rfl⟩
  | 2, _ => exact .inl ⟨none, 0, rfl, rfl⟩
  | 3, _ => exact .inl ⟨none, 0, rfl, rfl⟩
  | 4, _ => exact .inl ⟨none, 0, rfl, rfl⟩
  | 5, _ => exact .inl ⟨none, 0, rfl, rfl⟩
  | 6, _ => exact .inl ⟨none, 0, rfl, rfl⟩
  | 7, _ => exact .inl ⟨none, 0, rfl, rfl⟩
  | 8, _ => exact .inl ⟨none, 0, rfl, rfl⟩
end Go.Proofs.Ytpnmaopompfalaa
