/-
  A program as bytes, by the document.
-/
import Derived.Test.YtpnmaopompfalaaEncC
import Derived.Deep.DeepCutAuto
import Derived.Deep.CutRange
import Derived.Deep.CutBlock
namespace Go.Proofs.Ytpnmaopompfalaa
set_option linter.unusedVariables false
set_option linter.unusedSimpArgs false
open Go.ChangeShapes Go.WideShapes Go.ChangeAt Go.RowKit

theorem hasnum_lit (op : Int) (r : Bool) (w : World) (hr : barB op = r) :
    Calls Try.prog 92 #[.int .i64 op] w fun e w' => e = .returned (.bool (!r)) ∧ w = w' := by
  have H := Lib.hid hr.symm
  clear hr
  go_enter Try.func92, Try.ntmps92
  go_wp2
  all_goals (go_ret; exact ⟨ret_bool (by go_light; rw [H.out]; unfold barB; first | (simp [*]; done) | rfl | (simp [*]; omega) | (simp [bne]; done) | (by_cases h1 : op = 1 <;> by_cases h3 : op = 3 <;> simp_all [bne]; done)), rfl⟩)
def RwB (w : World) (B : Nat) (v : Value) (l : List Int) : Prop := w.ownsRow B 5 1 v l.length (l.flatMap encB)
theorem RwB.up {w w' : World} {B : Nat} {v : Value} {l : List Int} (h : RwB w B v l) (hb : Below w.heap.size w w') : RwB w' B v l := ownsRow_below h hb (Nat.le_refl _)
theorem RwB.shape {w : World} {B : Nat} {v : Value} {l : List Int} (h : RwB w B v l) : ∃ a c, v = .slice a l.length c := own_shape h
theorem kp_below {P : Nat} {w w' : World} (h : Below w.heap.size w w') : Kp P w w' := fun b c e fz h1 _ _ => (h.block b (heap_lt h1)).trans h1
theorem rw_cells {w : World} {B n cap : Nat} {a : Option Addr} {l : List Int} (h : w.ownsRow B 5 1 (.slice a n cap) n (l.flatMap encB)) (hn : 0 < n) : ∃ g, a = some ⟨g, 0, none⟩ ∧ ∀ j u, (l.flatMap encB)[j]? = some u → w.cell? ((⟨g, 0, none⟩ : Addr).add j) = some u := by
  have h' := h
  obtain ⟨h1, h2⟩ := h
  rcases h2 with ⟨hv, h0⟩ | ⟨g, cap', cur, hv, hb, hh, hc, hm', hs, ht⟩
  · omega
  · simp only [Value.slice.injEq] at hv
    obtain ⟨rfl, _, rfl⟩ := hv
    exact ⟨g, rfl, World.ownsRow.cells h' (g := g) rfl⟩
theorem flat_one (l : List Int) : ∀ u ∈ l.flatMap encB, u.oneCell' = true := by
  intro u hu
  obtain ⟨x, _, hx⟩ := List.mem_flatMap.1 hu
  simp [encB] at hx
  subst hx
  rfl
/-- append(out, more...): two rows of bytes. -/
theorem wpList_append_rows {w : World} {ops : Array Oper} {rest : List Oper} {o : Oper} {a : Act} {Q : Exit → Act → World → Prop} (hgd : o.guard = none) (s x : Operand)
    (ho : o.op = .call { callee := .builtin .append, args := #[s, x], argTypes := #[66, 66] })
    (B B2 : Nat) (i : TypeInfo) (hi : Try.prog.info? 5 = some i) (hz : i.zero = some (.int .u8 0)) (hsize : i.size = 1) (hby : i.bytes = 1)
    (v u : Value) (l m : List Int) (hs : a.eval s = v) (hrow : RwB w B v l) (hx : a.eval x = u) (hu : RwB w B2 u m)
    (hm : 0 < m.length) (h63 : l.length + m.length ≤ 1000000000) (hbase : B ≤ w.heap.size)
    (h : ∀ v' w' (L : List Int), L = l ++ m → RwB w' B v' L → Kp B w w' → Below B w w' → wpList Try.prog ops Q rest (a.put o.dst v') w') : wpList Try.prog ops Q (o :: rest) a w := by
  obtain ⟨au, cu, rfl⟩ := hu.shape
  obtain ⟨g, rfl, hc⟩ := rw_cells hu hm
  refine wpList_append_own w hgd s x 66 ho B 5 i (.int .u8 0) 1 1 Try.underlying66 hi hz hsize hby rfl (by decide) v _ _ hs hrow ⟨g, 0, none⟩ m.length cu (m.flatMap encB) hx (by rw [encB_len, Nat.mul_one]) hc (flat_one m) (by unfold maxLen; omega) (by omega) hbase fun v' w' h2 h3 _ => h v' w' (l ++ m) rfl ?_ ?_ ?_
  · show w'.ownsRow B 5 1 v' (l ++ m).length ((l ++ m).flatMap encB)
    rw [List.length_append, List.flatMap_append]
    exact h2
  · exact fun b c e fz h1 h2 _ => kp_grown (own_T hrow) (Below.refl _ _) h3 b c e fz h1 h2
  · exact (Below.refl B w).grown h3 hbase (fun g hg => (hrow.lt g hg).1)
/-- append(out, s...): a row of bytes and a string. -/
theorem wpList_append_strs {w : World} {ops : Array Oper} {rest : List Oper} {o : Oper} {a : Act} {Q : Exit → Act → World → Prop} (hgd : o.guard = none) (s x : Operand)
    (ho : o.op = .call { callee := .builtin .append, args := #[s, x], argTypes := #[66, 9] })
    (B : Nat) (i : TypeInfo) (hi : Try.prog.info? 5 = some i) (hz : i.zero = some (.int .u8 0)) (hsize : i.size = 1) (hby : i.bytes = 1)
    (v : Value) (t : ByteArray) (l : List Int) (hs : a.eval s = v) (hrow : RwB w B v l) (hx : a.eval x = .string t)
    (h63 : l.length + t.size ≤ 1000000000) (hbase : B ≤ w.heap.size)
    (h : ∀ v' w' (L : List Int), L = l ++ strL t → RwB w' B v' L → Kp B w w' → Below B w w' → wpList Try.prog ops Q rest (a.put o.dst v') w') : wpList Try.prog ops Q (o :: rest) a w := by
  refine Lib.wpList_append_own_string w hgd s x 66 9 ho B 5 i Try.underlying66 Try.underlying9 hi hz hsize hby v _ _ hs hrow t hx (by unfold maxLen; omega) (by omega) hbase fun v' w' h2 h3 _ => h v' w' (l ++ strL t) rfl ?_ ?_ ?_
  · exact own_str h2
  · exact fun b c e fz h1 h2 _ => kp_grown (own_T hrow) (Below.refl _ _) h3 b c e fz h1 h2
  · exact (Below.refl B w).grown h3 hbase (fun g hg => (hrow.lt g hg).1)
/-- append(out, x): one byte more, in a block of its own. -/
theorem wpList_append_byteR (w : World) {W : World} {ops : Array Oper} {rest : List Oper} {o : Oper} {a : Act} {Q : Exit → Act → World → Prop} (hgd : o.guard = none) (s x : Operand)
    (ho : o.op = .call { callee := .builtin .append, args := #[s, x], argTypes := #[66, 66] })
    (B H : Nat) (i : TypeInfo) (hi : Try.prog.info? 5 = some i) (hz : i.zero = some (.int .u8 0)) (hsize : i.size = 1) (hby : i.bytes = 1)
    (v : Value) (y : Int) (l : List Int) (hs : a.eval s = v) (hrow : RwB w B v l) (hH : w.heap.size = H) (hx : a.eval x = .slice (some ⟨H, 0, none⟩) 1 1)
    (h63 : l.length ≤ 900000000) (hbase : B ≤ w.heap.size) (hW : W = w.alloc (.cells #[.int .u8 y] 5))
    (h : ∀ v' w' (L : List Int), L = l ++ [y] → RwB w' B v' L → Kp B w w' → Below B w w' → wpList Try.prog ops Q rest (a.put o.dst v') w') : wpList Try.prog ops Q (o :: rest) a W := by
  subst hH
  subst hW
  have hA : Below w.heap.size w (w.alloc (.cells #[.int .u8 y] 5)) := (Below.refl _ _).alloc (Nat.le_refl _) _
  refine wpList_append_own _ hgd s x 66 ho B 5 i (.int .u8 0) 1 1 Try.underlying66 hi hz hsize hby rfl (by decide) v _ _ hs (World.ownsRow.alloc hrow _) ⟨w.heap.size, 0, none⟩ 1 1 (encB y) hx rfl (cells_at _ _ _ _ _ rfl rfl) (by intro u hu; simp [encB] at hu; subst hu; rfl) (by unfold maxLen; omega) (by omega) (by rw [size_alloc]; omega) fun v' w' h2 h3 _ => h v' w' (l ++ [y]) rfl (own_snocG h2) ?_ ?_
  · exact fun b c e fz h1 h2 _ => kp_grown (own_T hrow) hA h3 b c e fz h1 h2
  · exact (hA.mono hbase).trans ((Below.refl B _).grown h3 (by rw [size_alloc]; omega) (fun g hg => (hrow.lt g hg).1))
end Go.Proofs.Ytpnmaopompfalaa
