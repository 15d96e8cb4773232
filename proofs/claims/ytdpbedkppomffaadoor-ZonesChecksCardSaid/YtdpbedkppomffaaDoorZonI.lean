/-
  Rows of turns with their rules; sundialref.inOrder (written by ziogen.py).
-/
import Derived.Test.YtdpbedkppomffaaDoorZonG
import Derived.Test.YtdpbedkppomffaaDoorZonH
namespace Go.Proofs.YtdpbedkppomffaaDoor
set_option linter.unusedVariables false
set_option linter.unusedSimpArgs false
open Go.ChangeShapes Go.WideShapes Go.ChangeAt Go.RowKit Civ

theorem info_tur : (Tryd.prog.info? 169).map (fun i => (i.zero, i.size, i.bytes)) = some (some (.agg #[.string ⟨#[]⟩, .int .i64 0, .int .i64 0, .int .i64 0, .int .i64 0, .int .i64 0, .int .i64 0, .int .i64 0, .int .i64 0, .int .i64 0, .string ⟨#[]⟩, .int .i64 0, .int .i64 0]), 13, 120) := by kernel_rfl
def turV (x : Trn) : List Value := [.string x.r.nm, .int .i64 x.r.fr, .int .i64 x.r.to, .int .i64 x.r.at'.mo, .int .i64 x.r.at'.k, .int .i64 x.r.at'.a, .int .i64 x.r.at'.n, .int .i64 x.r.at'.t, .int .i64 x.r.at'.c, .int .i64 x.r.sv, .string x.r.lt, .int .i64 x.no, .int .i64 x.ins]
def TurAt (w : World) (b o : Nat) (x : Trn) : Prop := w.cell? ⟨b, o, none⟩ = some (.string x.r.nm) ∧ w.cell? ⟨b, o + 1, none⟩ = some (.int .i64 x.r.fr) ∧ w.cell? ⟨b, o + 2, none⟩ = some (.int .i64 x.r.to) ∧ w.cell? ⟨b, o + 3, none⟩ = some (.int .i64 x.r.at'.mo) ∧ w.cell? ⟨b, o + 4, none⟩ = some (.int .i64 x.r.at'.k) ∧ w.cell? ⟨b, o + 5, none⟩ = some (.int .i64 x.r.at'.a) ∧ w.cell? ⟨b, o + 6, none⟩ = some (.int .i64 x.r.at'.n) ∧ w.cell? ⟨b, o + 7, none⟩ = some (.int .i64 x.r.at'.t) ∧ w.cell? ⟨b, o + 8, none⟩ = some (.int .i64 x.r.at'.c) ∧ w.cell? ⟨b, o + 9, none⟩ = some (.int .i64 x.r.sv) ∧ w.cell? ⟨b, o + 10, none⟩ = some (.string x.r.lt) ∧ w.cell? ⟨b, o + 11, none⟩ = some (.int .i64 x.no) ∧ w.cell? ⟨b, o + 12, none⟩ = some (.int .i64 x.ins)
theorem TurAt.block {w w' : World} {b o : Nat} {x : Trn} (h : TurAt w b o x) (e : w'.heap[b]? = w.heap[b]?) : TurAt w' b o x := by
  obtain ⟨h0, h1, h2, h3, h4, h5, h6, h7, h8, h9, h10, h11, h12⟩ := h
  exact ⟨(World.cell?_of_block (a := ⟨b, _, none⟩) e).trans h0, (World.cell?_of_block (a := ⟨b, _, none⟩) e).trans h1, (World.cell?_of_block (a := ⟨b, _, none⟩) e).trans h2, (World.cell?_of_block (a := ⟨b, _, none⟩) e).trans h3, (World.cell?_of_block (a := ⟨b, _, none⟩) e).trans h4, (World.cell?_of_block (a := ⟨b, _, none⟩) e).trans h5, (World.cell?_of_block (a := ⟨b, _, none⟩) e).trans h6, (World.cell?_of_block (a := ⟨b, _, none⟩) e).trans h7, (World.cell?_of_block (a := ⟨b, _, none⟩) e).trans h8, (World.cell?_of_block (a := ⟨b, _, none⟩) e).trans h9, (World.cell?_of_block (a := ⟨b, _, none⟩) e).trans h10, (World.cell?_of_block (a := ⟨b, _, none⟩) e).trans h11, (World.cell?_of_block (a := ⟨b, _, none⟩) e).trans h12⟩
theorem turV_one (x : Trn) : ∀ u ∈ turV x, u.oneCell' = true := by
  intro u hu
  simp [turV] at hu
  rcases hu with rfl | rfl | rfl | rfl | rfl | rfl | rfl | rfl | rfl | rfl | rfl | rfl | rfl <;> rfl
/-- the block D holds turns with their rules from off on, and may be written. -/
def RowT (w : World) (D off : Nat) (l : List Trn) : Prop := (∀ i (h : i < l.length), TurAt w D (off + i * 13) l[i]) ∧ (∀ o, w.frozen? ⟨D, o, none⟩ = false) ∧ D < w.heap.size
theorem RowT.block {w w' : World} {D off : Nat} {l : List Trn} (h : RowT w D off l) (e : w'.heap[D]? = w.heap[D]?) (hz : D < w'.heap.size) : RowT w' D off l :=
  ⟨fun i hi => (h.1 i hi).block e, fun o => (World.frozen?_of_block (a := ⟨D, o, none⟩) e).trans (h.2.1 o), hz⟩
theorem RowT.below {w w' : World} {D off : Nat} {l : List Trn} (h : RowT w D off l) (hb : Below w.heap.size w w') : RowT w' D off l := h.block (hb.block D h.2.2) (Nat.lt_of_lt_of_le h.2.2 hb.size)
theorem RowT.at {w : World} {D off : Nat} {l : List Trn} (h : RowT w D off l) {i : Nat} {x : Trn} (hx : l[i]? = some x) : TurAt w D (off + i * 13) x := by
  obtain ⟨hi, rfl⟩ := List.getElem?_eq_some_iff.1 hx
  exact h.1 i hi
theorem RowT.take {w : World} {D off : Nat} {l : List Trn} (h : RowT w D off l) (k : Nat) : RowT w D off (l.take k) :=
  ⟨fun i hi => by rw [List.length_take] at hi; rw [List.getElem_take]; exact h.1 i (by omega), h.2⟩
theorem RowT.drop {w : World} {D off : Nat} {l : List Trn} (h : RowT w D off l) (k : Nat) : RowT w D (off + k * 13) (l.drop k) :=
  ⟨fun i hi => by
    rw [List.length_drop] at hi
    rw [List.getElem_drop, show off + k * 13 + i * 13 = off + (k + i) * 13 by rw [Nat.add_mul]; omega]
    exact h.1 (k + i) (by omega), h.2⟩
/-- a slice of turns: none, or a row from block B on. -/
def SlT (w : World) (B : Nat) (v : Value) (l : List Trn) : Prop := ∃ a c, v = .slice a l.length c ∧ l.length ≤ c ∧ c ≤ maxLen ∧ (l = [] ∨ ∃ D off, a = some ⟨D, off, none⟩ ∧ RowT w D off l ∧ B ≤ D)
theorem tur_of_own {w : World} {B co : Nat} {ao : Option Addr} {L : List Trn} (h : w.ownsRow B 169 13 (.slice ao L.length co) L.length (L.flatMap turV)) : SlT w B (.slice ao L.length co) L := by
  rcases h.2 with ⟨e, h0⟩ | ⟨g, cap, cur, e, hb, hh, hc, hm, hs', ht⟩
  · simp only [Value.slice.injEq] at e
    obtain ⟨rfl, -, rfl⟩ := e
    exact ⟨none, 0, rfl, by omega, Nat.zero_le _, .inl (List.length_eq_zero_iff.1 h0)⟩
  · simp only [Value.slice.injEq] at e
    obtain ⟨rfl, -, rfl⟩ := e
    refine ⟨_, _, rfl, hc, hm, .inr ⟨g, 0, rfl, ⟨fun i hi => ?_, fun o => h.frozenAt o, (h.lt g rfl).2⟩, hb⟩⟩
    have k : ∀ j, j < 13 → w.cell? ⟨g, 0 + i * 13 + j, none⟩ = (turV L[i])[j]? := fun j hj => by
      rw [Nat.zero_add, h.cellAt _ (by omega)]
      exact flat_at (sz := 13) (fun _ => rfl) L i j hi hj
    exact ⟨k 0 (by omega), k 1 (by omega), k 2 (by omega), k 3 (by omega), k 4 (by omega), k 5 (by omega), k 6 (by omega), k 7 (by omega), k 8 (by omega), k 9 (by omega), k 10 (by omega), k 11 (by omega), k 12 (by omega)⟩
theorem SlT.below {w w' : World} {B : Nat} {v : Value} {l : List Trn} (h : SlT w B v l) (hb : Below w.heap.size w w') : SlT w' B v l := by
  obtain ⟨a, c, e, h0, h1, h2⟩ := h
  refine ⟨a, c, e, h0, h1, ?_⟩
  rcases h2 with h2 | ⟨D, off, e2, h3, h4⟩
  · exact .inl h2
  · exact .inr ⟨D, off, e2, h3.below hb, h4⟩
/-- two lists in order, put together as far as i and k. -/
structure MgJ (A B : List Trn) (i k : Nat) (O : List Trn) : Prop where
  pm : O.Perm (A.take i ++ B.take k)
  sd : Sd O
  la : Lo O (A.drop i)
  lb : Lo O (B.drop k)
theorem MgJ.start (A B : List Trn) : MgJ A B 0 0 [] := ⟨List.Perm.refl _, List.Pairwise.nil, lo_nil_l _, lo_nil_l _⟩
theorem sd_at {A : List Trn} (h : Sd A) {i : Nat} {x : Trn} (hx : A[i]? = some x) : ∃ hi : i < A.length, A.drop i = x :: A.drop (i + 1) ∧ (∀ y ∈ A.drop (i + 1), tLt x y) ∧ A.take (i + 1) = A.take i ++ [x] := by
  obtain ⟨hi, rfl⟩ := List.getElem?_eq_some_iff.1 hx
  have e : A.drop i = A[i] :: A.drop (i + 1) := List.drop_eq_getElem_cons hi
  refine ⟨hi, e, fun y hy => ?_, by rw [List.take_succ_eq_append_getElem hi]⟩
  have : Sd (A.drop i) := List.Pairwise.sublist (List.drop_sublist _ _) h
  rw [e] at this
  exact (List.pairwise_cons.1 this).1 y hy
theorem MgJ.left {A B O : List Trn} {i k : Nat} {x y : Trn} (h : MgJ A B i k O) (hA : Sd A) (hB : Sd B) (hx : A[i]? = some x) (hy : B[k]? = some y) (hxy : tLt x y) : MgJ A B (i + 1) k (O ++ [x]) := by
  obtain ⟨hi, a1, a2, a3⟩ := sd_at hA hx
  obtain ⟨hk, b1, b2, b3⟩ := sd_at hB hy
  refine ⟨?_, sd_app.2 ⟨h.sd, List.pairwise_singleton _ _, fun u hu v hv => ?_⟩, fun u hu v hv => ?_, fun u hu v hv => ?_⟩
  · rw [a3, List.append_assoc]
    refine (h.pm.append_right [x]).trans ?_
    rw [List.append_assoc]
    exact List.Perm.append_left _ List.perm_append_comm
  · obtain rfl := List.mem_singleton.1 hv
    exact h.la u hu v (by rw [a1]; simp)
  · rcases List.mem_append.1 hu with hu | hu
    · exact h.la u hu v (by rw [a1]; exact List.mem_cons_of_mem _ hv)
    · obtain rfl := List.mem_singleton.1 hu
      exact a2 v hv
  · rcases List.mem_append.1 hu with hu | hu
    · exact h.lb u hu v hv
    · obtain rfl := List.mem_singleton.1 hu
      rw [b1] at hv
      rcases List.mem_cons.1 hv with rfl | hv
      · exact hxy
      · exact tLt_trans hxy (b2 v hv)
theorem MgJ.right {A B O : List Trn} {i k : Nat} {y : Trn} (h : MgJ A B i k O) (hA : Sd A) (hB : Sd B) (hy : B[k]? = some y) (hxy : ∀ x, A[i]? = some x → tLt y x) : MgJ A B i (k + 1) (O ++ [y]) := by
  obtain ⟨hk, b1, b2, b3⟩ := sd_at hB hy
  refine ⟨?_, sd_app.2 ⟨h.sd, List.pairwise_singleton _ _, fun u hu v hv => ?_⟩, fun u hu v hv => ?_, fun u hu v hv => ?_⟩
  · rw [b3, ← List.append_assoc]
    exact h.pm.append_right [y]
  · obtain rfl := List.mem_singleton.1 hv
    exact h.lb u hu v (by rw [b1]; simp)
  · rcases List.mem_append.1 hu with hu | hu
    · exact h.la u hu v hv
    · obtain rfl := List.mem_singleton.1 hu
      rcases hx : A[i]? with _ | x
      · rw [List.drop_of_length_le (List.getElem?_eq_none_iff.1 hx)] at hv; cases hv
      · obtain ⟨hi, a1, a2, a3⟩ := sd_at hA hx
        rw [a1] at hv
        rcases List.mem_cons.1 hv with rfl | hv
        · exact hxy _ hx
        · exact tLt_trans (hxy _ hx) (a2 v hv)
  · rcases List.mem_append.1 hu with hu | hu
    · exact h.lb u hu v (by rw [b1]; exact List.mem_cons_of_mem _ hv)
    · obtain rfl := List.mem_singleton.1 hu
      exact b2 v hv
theorem MgJ.done {A B O : List Trn} {i : Nat} (h : MgJ A B i B.length O) (hA : Sd A) : so (A ++ B) = O ++ A.drop i := by
  refine so_eq ?_ (sd_app.2 ⟨h.sd, List.Pairwise.sublist (List.drop_sublist _ _) hA, h.la⟩)
  have h1 := h.pm.append_right (A.drop i)
  rw [List.take_length] at h1
  refine (List.Perm.trans ?_ h1.symm)
  rw [List.append_assoc]
  refine List.Perm.trans ?_ (List.Perm.append_left _ List.perm_append_comm)
  rw [← List.append_assoc, List.take_append_drop]
end Go.Proofs.YtdpbedkppomffaaDoor
