/-
  code.Decode: its state.
-/
import Derived.Test.YtpnmaopompfalaaDecI
namespace Go.Proofs.Ytpnmaopompfalaa
set_option linter.unusedVariables false
set_option linter.unusedSimpArgs false
open Go.ChangeShapes Go.WideShapes Go.ChangeAt Go.RowKit

def Bx3 (w : World) (b : Nat) (v0 v1 v2 : Value) : Prop := w.cell? ⟨b, 0, none⟩ = some v0 ∧ w.cell? ⟨b, 1, none⟩ = some v1 ∧ w.cell? ⟨b, 2, none⟩ = some v2 ∧ ∀ j, w.frozen? ⟨b, j, none⟩ = false
theorem Bx3.lt {w : World} {b : Nat} {v0 v1 v2 : Value} (h : Bx3 w b v0 v1 v2) : b < w.heap.size := cell_lt h.1
theorem Bx3.keep {w w' : World} {b : Nat} {v0 v1 v2 : Value} (h : Bx3 w b v0 v1 v2) (h1 : w'.heap[b]? = w.heap[b]?) : Bx3 w' b v0 v1 v2 := by
  obtain ⟨c0, c1, c2, f⟩ := h
  exact ⟨(cell_blk h1 _).trans c0, (cell_blk h1 _).trans c1, (cell_blk h1 _).trans c2, fun j => (froz_blk h1 _).trans (f j)⟩
theorem set_oth {w : World} {b i j : Nat} {u v : Value} (hne : j ≠ i) (hc : w.cell? ⟨b, j, none⟩ = some v) : (w.setCell ⟨b, i, none⟩ u).cell? ⟨b, j, none⟩ = some v := by
  rw [World.cell?_setCell_other (h := by simp [hne])]; exact hc
theorem set_same {w : World} {b i : Nat} {u v : Value} (hc : w.cell? ⟨b, i, none⟩ = some v) : (w.setCell ⟨b, i, none⟩ u).cell? ⟨b, i, none⟩ = some u := World.cell?_setCell_same (h := hc) ..
theorem set_fz {w : World} {b i : Nat} {u : Value} (f : ∀ j, w.frozen? ⟨b, j, none⟩ = false) : ∀ j, (w.setCell ⟨b, i, none⟩ u).frozen? ⟨b, j, none⟩ = false := fun j => by rw [World.frozen?_setCell]; exact f j
theorem Bx3.set {w : World} {b : Nat} {v0 v1 v2 : Value} (h : Bx3 w b v0 v1 v2) (u : Value) :
    Bx3 (w.setCell ⟨b, 0, none⟩ u) b u v1 v2 ∧ Bx3 (w.setCell ⟨b, 1, none⟩ u) b v0 u v2 ∧ Bx3 (w.setCell ⟨b, 2, none⟩ u) b v0 v1 u := by
  obtain ⟨c0, c1, c2, f⟩ := h
  exact ⟨⟨set_same c0, set_oth (by omega) c1, set_oth (by omega) c2, set_fz f⟩, ⟨set_oth (by omega) c0, set_same c1, set_oth (by omega) c2, set_fz f⟩, ⟨set_oth (by omega) c0, set_oth (by omega) c1, set_same c2, set_fz f⟩⟩
def Bx2 (w : World) (b : Nat) (v0 v1 : Value) : Prop := w.cell? ⟨b, 0, none⟩ = some v0 ∧ w.cell? ⟨b, 1, none⟩ = some v1 ∧ ∀ j, w.frozen? ⟨b, j, none⟩ = false
theorem Bx2.lt {w : World} {b : Nat} {v0 v1 : Value} (h : Bx2 w b v0 v1) : b < w.heap.size := cell_lt h.1
theorem Bx2.keep {w w' : World} {b : Nat} {v0 v1 : Value} (h : Bx2 w b v0 v1) (h1 : w'.heap[b]? = w.heap[b]?) : Bx2 w' b v0 v1 := by
  obtain ⟨c0, c1, f⟩ := h
  exact ⟨(cell_blk h1 _).trans c0, (cell_blk h1 _).trans c1, fun j => (froz_blk h1 _).trans (f j)⟩
theorem Bx2.set {w : World} {b : Nat} {v0 v1 : Value} (h : Bx2 w b v0 v1) (u : Value) : Bx2 (w.setCell ⟨b, 0, none⟩ u) b u v1 ∧ Bx2 (w.setCell ⟨b, 1, none⟩ u) b v0 u := by
  obtain ⟨c0, c1, f⟩ := h
  exact ⟨⟨set_same c0, set_oth (by omega) c1, set_fz f⟩, ⟨set_oth (by omega) c0, set_same c1, set_fz f⟩⟩
/-- the state of Decode: block q the result, q + 1 the reader, Q the program. -/
def DcS (w : World) (g q Q : Nat) (wx : World) (bs : List Int) (e : Int) (v0 v1 v2 : Value) : Prop :=
  RdAt wx (q + 1) g bs e ∧ Bx3 wx q (.slice none 0 0) (.slice none 0 0) (.slice none 0 0) ∧ Bx3 wx Q v0 v1 v2 ∧ Below q w wx ∧ w.heap.size = q ∧ g < q ∧ q + 2 ≤ Q
theorem DcS.below {w wx w' : World} {g q Q : Nat} {bs : List Int} {e : Int} {v0 v1 v2 : Value} (h : DcS w g q Q wx bs e v0 v1 v2) (hB : Below (Q + 1) wx w') : DcS w g q Q w' bs e v0 v1 v2 := by
  obtain ⟨h1, h2, h3, h4, h5, h6, h7⟩ := h
  exact ⟨h1.keep (hB.block _ (by omega)) (hB.block _ (by omega)), h2.keep (hB.block _ (by omega)), h3.keep (hB.block _ (by omega)), h4.trans (hB.mono (by omega)), h5, h6, h7⟩
theorem DcS.call {w wx w' : World} {g q Q : Nat} {bs b1 : List Int} {e e1 : Int} {v0 v1 v2 : Value} (h : DcS w g q Q wx bs e v0 v1 v2) (hr : RdAt w' (q + 1) g b1 e1) (hg : wx.grownBy w' (some (q + 1))) : DcS w g q Q w' b1 e1 v0 v1 v2 := by
  obtain ⟨h1, h2, h3, h4, h5, h6, h7⟩ := h
  exact ⟨hr, h2.keep (hg.block _ h2.lt (fun e => by have := Option.some.inj e; omega)), h3.keep (hg.block _ h3.lt (fun e => by have := Option.some.inj e; omega)), h4.grown hg (by have := h2.lt; omega) (fun k e => by have := Option.some.inj e; omega), h5, h6, h7⟩
theorem DcS.put {w wx : World} {g q Q o : Nat} {bs : List Int} {e : Int} {v0 v1 v2 u0 u1 u2 v : Value} (h : DcS w g q Q wx bs e v0 v1 v2) (hb : Bx3 (wx.setCell ⟨Q, o, none⟩ v) Q u0 u1 u2) : DcS w g q Q (wx.setCell ⟨Q, o, none⟩ v) bs e u0 u1 u2 := by
  obtain ⟨h1, h2, h3, h4, h5, h6, h7⟩ := h
  exact ⟨h1.set (by omega) (by omega), h2.keep (heap_sx (by omega)), hb, h4.setCell (by show q ≤ Q; omega) _, h5, h6, h7⟩
theorem DcS.lt {w wx : World} {g q Q : Nat} {bs : List Int} {e : Int} {v0 v1 v2 : Value} (h : DcS w g q Q wx bs e v0 v1 v2) : Q < wx.heap.size := h.2.2.1.lt
theorem DcS.facts {w wx : World} {g q Q : Nat} {bs : List Int} {e : Int} {v0 v1 v2 : Value} (h : DcS w g q Q wx bs e v0 v1 v2) : wx.cell? ⟨q + 1, 1, none⟩ = some (.int .i64 e) ∧ wx.cell? ⟨Q, 0, none⟩ = some v0 ∧ wx.cell? ⟨Q, 1, none⟩ = some v1 ∧ wx.cell? ⟨Q, 2, none⟩ = some v2 ∧ (∀ j, wx.frozen? ⟨Q, j, none⟩ = false) ∧ Q < wx.heap.size ∧ q + 1 < wx.heap.size := by
  have hl := h.lt
  obtain ⟨⟨off, cap, a1, a2, a3, a4, a5, a6, a7⟩, h2, ⟨c0, c1, c2, f⟩, h4, h5, h6, h7⟩ := h
  exact ⟨a4, c0, c1, c2, f, hl, by omega⟩
theorem DcS.res {w wx : World} {g q Q : Nat} {bs : List Int} {e : Int} {v0 v1 v2 : Value} (h : DcS w g q Q wx bs e v0 v1 v2) : wx.cell? ⟨q, 0, none⟩ = some (.slice none 0 0) ∧ wx.cell? ⟨q, 1, none⟩ = some (.slice none 0 0) ∧ wx.cell? ⟨q, 2, none⟩ = some (.slice none 0 0) ∧ (∀ j, wx.frozen? ⟨q, j, none⟩ = false) ∧ q < wx.heap.size :=
  ⟨h.2.1.1, h.2.1.2.1, h.2.1.2.2.1, h.2.1.2.2.2, h.2.1.lt⟩
/-- all below a base stays through one more of a row. -/
theorem row_below {wo wx w' : World} {B n sz : Nat} {t : TypeId} {v : Value} {xs : List Value} {o : Obj} (hown : wo.ownsRow B t sz v n xs) (hz : B ≤ wx.heap.size) (hg : (wx.alloc o).grownBy w' v.ownBlock) : Below B wx w' :=
  ((Below.refl B wx).alloc hz o).grown hg (Nat.le_trans hz (size_le_push_ wx o)) (fun k hk => (hown.lt k hk).1)
def encX (x : Ins) : List Value := [.int .i64 x.op, .int .i64 x.n]
theorem encX_one (x : Ins) : ∀ u ∈ encX x, u.oneCell' = true := by
  intro u hu
  simp [encX] at hu
  rcases hu with rfl | rfl <;> rfl
theorem info_ins : (Try.prog.info? 71).map (fun i => (i.zero, i.size, i.bytes)) = some (some (.agg #[.int .i64 0, .int .i64 0]), 2, 16) := by kernel_rfl
theorem info_an2 : (Try.prog.info? 27).map (fun i => (i.zero, i.size, i.bytes)) = some (some (.agg #[.int .i64 0, .bool false, .string ⟨#[]⟩, .slice none 0 0, .int .i64 0]), 5, 64) := by kernel_rfl
/-- one round of the code: the instruction lies in block X. -/
def DxS (w : World) (g q Q : Nat) (wx : World) (bs : List Int) (e : Int) (vc : Value) (X : Nat) (c n : Int) (acc : List Ins) : Prop :=
  DcS w g q Q wx bs e vc (.slice none 0 0) (.slice none 0 0) ∧ Bx2 wx X (.int .i64 c) (.int .i64 n) ∧ wx.ownsRow (Q + 1) 71 2 vc acc.length (acc.flatMap encX) ∧ Q + 1 ≤ X ∧ some X ≠ vc.ownBlock
theorem DxS.new {w wr : World} {g q Q : Nat} {bs : List Int} {e : Int} {vc : Value} {acc : List Ins} {t : TypeId} (h : DcS w g q Q wr bs e vc (.slice none 0 0) (.slice none 0 0)) (ho : wr.ownsRow (Q + 1) 71 2 vc acc.length (acc.flatMap encX)) : DxS w g q Q (wr.alloc (.cells #[.int .i64 0, .int .i64 0] t)) bs e vc wr.heap.size 0 0 acc := by
  have hz := h.lt
  refine ⟨h.below ((Below.refl _ _).alloc (by omega) _), ⟨World.cell?_alloc_at (w := wr) _ _ wr.heap.size 0 rfl, World.cell?_alloc_at (w := wr) _ _ wr.heap.size 1 rfl, fun j => World.frozen?_alloc_at (w := wr) _ _ wr.heap.size j rfl⟩, ho.alloc _, by omega, fun q => ?_⟩
  have := (ho.lt _ q.symm).2
  omega
theorem DxS.call {w wx w' : World} {g q Q X : Nat} {bs b1 : List Int} {e e1 c n : Int} {vc : Value} {acc : List Ins} (h : DxS w g q Q wx bs e vc X c n acc) (hr : RdAt w' (q + 1) g b1 e1) (hg : wx.grownBy w' (some (q + 1))) : DxS w g q Q w' b1 e1 vc X c n acc := by
  obtain ⟨h1, h2, h3, h4, h5⟩ := h
  have q2 := h1.2.2.2.2.2.2
  exact ⟨h1.call hr hg, h2.keep (hg.block _ h2.lt (fun e => by have := Option.some.inj e; omega)), own_grown h3 hg (by omega), h4, h5⟩
theorem DxS.put {w wx : World} {g q Q X o : Nat} {bs : List Int} {e c n c' n' : Int} {vc v : Value} {acc : List Ins} (h : DxS w g q Q wx bs e vc X c n acc) (hb : Bx2 (wx.setCell ⟨X, o, none⟩ v) X (.int .i64 c') (.int .i64 n')) : DxS w g q Q (wx.setCell ⟨X, o, none⟩ v) bs e vc X c' n' acc := by
  obtain ⟨h1, h2, h3, h4, h5⟩ := h
  have hg : wx.grownBy (wx.setCell ⟨X, o, none⟩ v) (some X) := grown_setC _ _ _ _
  exact ⟨h1.below ((Below.refl _ _).setCell h4 _), hb, h3.kept hg (.inr (fun e => h5 e.symm)), h4, h5⟩
theorem DxS.facts {w wx : World} {g q Q X : Nat} {bs : List Int} {e c n : Int} {vc : Value} {acc : List Ins} (h : DxS w g q Q wx bs e vc X c n acc) : wx.cell? ⟨X, 0, none⟩ = some (.int .i64 c) ∧ wx.cell? ⟨X, 1, none⟩ = some (.int .i64 n) ∧ (∀ j, wx.frozen? ⟨X, j, none⟩ = false) ∧ X < wx.heap.size := ⟨h.2.1.1, h.2.1.2.1, h.2.1.2.2, h.2.1.lt⟩
theorem nums_inj : ∀ {xs ys : List Int}, Byt xs → Byt ys → xs.map (fun n => UInt8.ofNat n.toNat) = ys.map (fun n => UInt8.ofNat n.toNat) → xs = ys
  | [], [], _, _, _ => rfl
  | [], y :: ys, _, _, h => by simp at h
  | x :: xs, [], _, _, h => by simp at h
  | x :: xs, y :: ys, hx, hy, h => by
    simp only [List.map_cons, List.cons.injEq] at h
    obtain ⟨a1, a2⟩ := hx x List.mem_cons_self
    obtain ⟨b1, b2⟩ := hy y List.mem_cons_self
    have e := congrArg UInt8.toNat h.1
    rw [UInt8.toNat_ofNat', UInt8.toNat_ofNat'] at e
    have e2 : x = y := by omega
    rw [e2, nums_inj (fun c hc => hx c (List.mem_cons_of_mem _ hc)) (fun c hc => hy c (List.mem_cons_of_mem _ hc)) h.2]
theorem str_inj {xs ys : List Int} (hx : Byt xs) (hy : Byt ys) (h : strOfNums xs = strOfNums ys) : xs = ys := by
  refine nums_inj hx hy ?_
  have := congrArg (fun s : ByteArray => s.data.toList) h
  simpa only [strOfNums_data] using this
/-- answers with the slices of their offsets. -/
def encV (x : Ans × Value) : List Value := [.int .i64 x.1.ck.off, .bool x.1.ck.sav, .string x.1.ck.nm, x.2, .int .i64 x.1.jump]
theorem slAt_map {α β : Type} {w : World} {sz : Nat} {R : List Value → α → Prop} {R' : List Value → β → Prop} {v : Value} {xs : List α} (f : α → β) (h : SlAt w sz R v xs) (hR : ∀ cs, ∀ x ∈ xs, R cs x → R' cs (f x)) : SlAt w sz R' v (xs.map f) := by
  rcases h with ⟨a, cap, hv, rfl⟩ | ⟨b, off, cap, hv, h0, h1, h2, h3, h4⟩
  · exact .inl ⟨a, cap, hv, rfl⟩
  · refine .inr ⟨b, off, cap, by rw [List.length_map]; exact hv, by rw [List.length_map]; exact h0, by rw [List.length_map]; exact h1, h2, h3, fun i hi => ?_⟩
    rw [List.length_map] at hi
    obtain ⟨cs, c1, c2, c3⟩ := h4 i hi
    exact ⟨cs, c1, by rw [List.getElem_map]; exact hR _ _ (List.getElem_mem hi) c2, c3⟩
/-- a row of answers, each with a row of offsets. -/
def AnR (w : World) (B : Nat) (va : Value) (l : List (Ans × Value)) : Prop := w.ownsRow B 27 5 va l.length (l.flatMap encV) ∧ ∀ x ∈ l, w.ownsRow B 3 1 x.2 x.1.offs.length (x.1.offs.flatMap encI)
theorem AnR.at {w : World} {B : Nat} {va : Value} {l : List (Ans × Value)} (h : AnR w B va l) (hok : ∀ x ∈ l.map Prod.fst, AOk x) : SlAt w 5 (RAns w) va (l.map Prod.fst) := by
  obtain ⟨h1, h2⟩ := h
  refine slAt_map Prod.fst (slAt_of_own (enc := encV) (R := fun cs x => cs = encV x) (by omega) (fun _ => rfl) (fun _ _ => rfl) h1) fun cs x hx hc => ?_
  obtain ⟨k1, k2, k3, k4, k5⟩ := hok x.1 (List.mem_map_of_mem hx)
  exact ⟨x.2, hc, ints_of_own k3 (h2 x hx), k1, k2, by unfold maxLen; omega⟩
theorem AnR.alloc {w : World} {B : Nat} {va : Value} {l : List (Ans × Value)} (h : AnR w B va l) (o : Obj) : AnR (w.alloc o) B va l := ⟨h.1.alloc o, fun x hx => (h.2 x hx).alloc o⟩
theorem AnR.grown {w w1 : World} {B R : Nat} {va : Value} {l : List (Ans × Value)} (h : AnR w B va l) (hg : w.grownBy w1 (some R)) (hR : R < B) : AnR w1 B va l := ⟨own_grown h.1 hg hR, fun x hx => own_grown (h.2 x hx) hg hR⟩
theorem AnR.set {w : World} {B k o : Nat} {va u : Value} {l : List (Ans × Value)} (h : AnR w B va l) (hk : k < B) : AnR (w.setCell ⟨k, o, none⟩ u) B va l := ⟨ownsRow_setCell_below h.1 hk _, fun x hx => ownsRow_setCell_below (h.2 x hx) hk _⟩
theorem AnR.nil (w : World) (B : Nat) : AnR w B (.slice none 0 0) [] := ⟨World.ownsRow_nil _ _ _ _, fun x hx => by simp at hx⟩
/-- one more. -/
theorem AnR.snoc {wx w' : World} {B : Nat} {va va' : Value} {l : List (Ans × Value)} {y : Ans × Value} {o : Obj} (h : AnR wx B va l) (hy : wx.ownsRow B 3 1 y.2 y.1.offs.length (y.1.offs.flatMap encI)) (ho : w'.ownsRow B 27 5 va' (l.length + 1) (l.flatMap encV ++ encV y)) (hg : (wx.alloc o).grownBy w' va.ownBlock) : AnR w' B va' (l ++ [y]) := by
  refine ⟨own_snocG ho, fun x hx => ?_⟩
  have k : ∀ {z : Value} {n : Nat} {xs : List Value}, wx.ownsRow B 3 1 z n xs → w'.ownsRow B 3 1 z n xs := fun {z n xs} hz => (hz.alloc o).kept hg (own_apart hz h.1 (by decide))
  rcases List.mem_append.1 hx with hx | hx
  · exact k (h.2 x hx)
  · rw [List.mem_singleton.1 hx]; exact k hy
theorem encV_one (x : Ans × Value) (hs : ∃ a n c, x.2 = .slice a n c) : ∀ u ∈ encV x, u.oneCell' = true := by
  intro u hu
  obtain ⟨a, n, c, hs⟩ := hs
  simp [encV, hs] at hu
  rcases hu with rfl | rfl | rfl | rfl | rfl <;> rfl
/-- a row of another type beside one more. -/
theorem own_beside {wx w' : World} {B n n' sz sz' : Nat} {e e' : TypeId} {v v' : Value} {xs xs' : List Value} {o : Obj} (h : wx.ownsRow B e sz v n xs) (h' : wx.ownsRow B e' sz' v' n' xs') (hne : e ≠ e') (hg : (wx.alloc o).grownBy w' v'.ownBlock) : w'.ownsRow B e sz v n xs := (h.alloc o).kept hg (own_apart h h' hne)
end Go.Proofs.Ytpnmaopompfalaa
