/-
  ProgramOf.
-/
import Derived.Test.YtpnmaopompfalaaDecL
import Derived.Test.YtpnmaopompfalaaDecK
import Derived.Deep.CutBlock
namespace Go.Proofs.Ytpnmaopompfalaa
set_option linter.unusedVariables false
set_option linter.unusedSimpArgs false
open Go.ChangeShapes Go.WideShapes Go.ChangeAt Go.RowKit

theorem res_new (w : World) : Below w.heap.size w (w.alloc (.cells #[.slice none 0 0, .slice none 0 0, .slice none 0 0] 58)) ∧ (∀ j, (w.alloc (.cells #[.slice none 0 0, .slice none 0 0, .slice none 0 0] 58)).cell? ⟨w.heap.size, j, none⟩ = #[Value.slice none 0 0, .slice none 0 0, .slice none 0 0][j]?) ∧ w.heap.size < (w.alloc (.cells #[.slice none 0 0, .slice none 0 0, .slice none 0 0] 58)).heap.size :=
  ⟨(Below.refl _ _).alloc (Nat.le_refl _) _, fun j => World.cell?_alloc_at (w := w) _ _ w.heap.size j rfl, by rw [size_alloc]; omega⟩
set_option maxRecDepth 100000 in
set_option maxHeartbeats 1000000 in
theorem programOf_long (ad : Option Addr) (n cap : Nat) (w : World) (hn : (200000 : Int) < (n : Int)) :
    Calls Try.prog 51 #[.slice ad n cap] w fun r w' => r = .returned (.tuple #[.agg #[.slice none 0 0, .slice none 0 0, .slice none 0 0], .int .i64 1]) ∧ Below w.heap.size w w' := by
  obtain ⟨bw, e0, hz⟩ := res_new w
  go_enter Try.func51, Try.ntmps51
  go_wp2
  refine bodyPost_ret (v := .tuple #[.agg #[.slice none 0 0, .slice none 0 0, .slice none 0 0], .int .i64 1]) (by simp [results, Try.results51, go_sem]) rfl ⟨rfl, ?_⟩
  first
    | exact ((bw.setCell (Nat.le_refl _) _).setCell (Nat.le_refl _) _).setCell (Nat.le_refl _) _
    | exact bw
set_option maxRecDepth 100000 in
set_option maxHeartbeats 1000000 in
theorem programOf_short (ad : Option Addr) (n cap : Nat) (w : World) (hn : (n : Int) < 3) :
    Calls Try.prog 51 #[.slice ad n cap] w fun r w' => r = .returned (.tuple #[.agg #[.slice none 0 0, .slice none 0 0, .slice none 0 0], .int .i64 5]) ∧ Below w.heap.size w w' := by
  obtain ⟨bw, e0, hz⟩ := res_new w
  go_enter Try.func51, Try.ntmps51
  go_wp2
  refine bodyPost_ret (v := .tuple #[.agg #[.slice none 0 0, .slice none 0 0, .slice none 0 0], .int .i64 5]) (by simp [results, Try.results51, go_sem]) rfl ⟨rfl, ?_⟩
  first
    | exact ((bw.setCell (Nat.le_refl _) _).setCell (Nat.le_refl _) _).setCell (Nat.le_refl _) _
    | exact bw
/-- the first three bytes as a string. -/
theorem head_str {w : World} {b : List Int} {g off : Nat} (hcell : ∀ i (h : i < b.length), w.cell? ⟨g, off + i, none⟩ = some (.int .u8 b[i])) (h3 : 3 ≤ b.length) (c : Nat) : (convert 66 9 (.slice (some ⟨g, off, none⟩) 3 c)).run Try.prog w = .ok (.string (strOfNums (b.take 3))) w :=
  run_convert_bytes_arg (P := Try.prog) w 66 5 Try.underlying66 Try.underlying5 g off 3 c (b.take 3) (by rw [List.length_take]; omega) (fun i hi => by
    rw [hcell i (by omega), List.getD_eq_getElem?_getD, List.getElem?_take_of_lt hi, List.getElem?_eq_getElem (by omega)]; rfl) 9 Try.underlying9
theorem head_cmp {b : List Int} (hb : Byt b) : ((strOfNums (b.take 3)).toList == [115, 100, 49]) = decide (b.take 3 = [115, 100, 49]) := by
  by_cases hp : b.take 3 = [115, 100, 49]
  · rw [hp]; decide +kernel
  · rw [decide_eq_false hp, beq_eq_false_iff_ne, Lib.strOfNums_toList]
    intro q
    exact hp (nums_inj (fun c hc => hb c (List.mem_of_mem_take hc)) (by intro c hc; simp at hc; omega) (q.trans rfl))
set_option maxRecDepth 100000 in
set_option maxHeartbeats 1000000 in
theorem programOf_form (b : List Int) (g off cap : Nat) (w : World) (hcell : ∀ i (h : i < b.length), w.cell? ⟨g, off + i, none⟩ = some (.int .u8 b[i])) (hcap : b.length ≤ cap ∧ cap ≤ maxLen) (hg : g < w.heap.size) (hb : Byt b) (h3 : 3 ≤ b.length) (hbig : b.length ≤ 200000) (hf : b.take 3 ≠ [115, 100, 49]) :
    Calls Try.prog 51 #[.slice (some ⟨g, off, none⟩) b.length cap] w fun r w' => r = .returned (.tuple #[.agg #[.slice none 0 0, .slice none 0 0, .slice none 0 0], .int .i64 4]) ∧ Below w.heap.size w w' := by
  obtain ⟨bw, e0, hz⟩ := res_new w
  have hcv := head_str (w := w.alloc (.cells #[.slice none 0 0, .slice none 0 0, .slice none 0 0] 58)) (fun i hi => (bw.cell (p := ⟨g, off + i, none⟩) hg).trans (hcell i hi)) h3
  have hcm := head_cmp hb
  rw [decide_eq_false hf] at hcm
  obtain ⟨sx, hsx⟩ : ∃ sx, sx = strOfNums (b.take 3) := ⟨_, rfl⟩
  rw [← hsx] at hcv hcm
  have h3i : (3 : Int) ≤ (b.length : Int) := by omega
  have hbi : (b.length : Int) ≤ 200000 := by omega
  have hci : (b.length : Int) ≤ (cap : Int) := by omega
  have hc3 : 3 ≤ cap := by omega
  have hc3i : (3 : Int) ≤ (cap : Int) := by omega
  clear hcell hcap hb hf hsx hbig
  go_enter Try.func51, Try.ntmps51
  go_wp2
  refine bodyPost_ret (v := .tuple #[.agg #[.slice none 0 0, .slice none 0 0, .slice none 0 0], .int .i64 4]) (by simp [results, Try.results51, go_sem]) rfl ⟨rfl, ?_⟩
  first
    | exact ((bw.setCell (Nat.le_refl _) _).setCell (Nat.le_refl _) _).setCell (Nat.le_refl _) _
    | exact bw
end Go.Proofs.Ytpnmaopompfalaa
