/-
  code.Text, walked.
-/
import Derived.Lib.AppendIntMem
import Derived.Test.YtlhidbbphngpcaaDoorTreeA
import Derived.Test.YtlhidbbphngpcaaDoorTxtA
namespace Go.Proofs.YtlhidbbphngpcaaDoor
set_option linter.unusedVariables false
set_option linter.unusedSimpArgs false
open Go.ChangeShapes Go.WideShapes Go.ChangeAt Go.RowKit

theorem elemInsT {w : World} {aa : Option Addr} {n ca : Nat} {xs : List Ins} (h : SlAt w 2 RIns (.slice aa n ca) xs) (k : Nat) (hk : k < xs.length) :
    ∃ b off, aa = some ⟨b, off, none⟩ ∧ b < w.heap.size ∧
      (w.cell? ⟨b, off + k * 2, none⟩ = some (.int .i64 xs[k].op) ∧ w.cell? ⟨b, off + k * 2 + 1, none⟩ = some (.int .i64 xs[k].n)) ∧ I64 xs[k].op ∧ I64 xs[k].n := by
  rcases h with ⟨a, cap, hv, rfl⟩ | ⟨b, off, cap, hv, h0, h1, h2, h3, h4⟩
  · simp at hk
  · obtain ⟨cs, _, ⟨rfl, r1, r2⟩, c3⟩ := h4 k hk
    simp only [Value.slice.injEq] at hv
    exact ⟨b, off, hv.1, h3, ⟨c3 0 (by omega), c3 1 (by omega)⟩, r1, r2⟩
theorem ownsF_below {w w' : World} {B n sz C : Nat} {e : TypeId} {v : Value} {xs : List Value} (h : w.ownsRowF B e sz v n xs) (hb : Below C w w') (hC : w.heap.size ≤ C) : w'.ownsRowF B e sz v n xs := by
  obtain ⟨h1, h2⟩ := h
  refine ⟨h1, ?_⟩
  rcases h2 with h2 | ⟨g, cap, cur, fz, hv, hg, hh, r⟩
  · exact .inl h2
  · refine .inr ⟨g, cap, cur, fz, hv, hg, ?_, r⟩
    have hlt : g < w.heap.size := by
      rcases Nat.lt_or_ge g w.heap.size with q | q
      · exact q
      · rw [Array.getElem?_eq_none q] at hh; cases hh
    rw [hb.block g (by omega)]
    exact hh
theorem blA_below {w w' : World} {B b C : Nat} {p : Value} {bs : List Value} (h : Lib.BuilderAtF 44 5 B b p bs w) (hb : Below C w w') (hC : w.heap.size ≤ C) : Lib.BuilderAtF 44 5 B b p bs w' := by
  have hlt := h.lt
  obtain ⟨h1, v, h2, h3, h4⟩ := h
  exact ⟨h1, v, (hb.block b (by omega)).trans h2, ownsF_below h3 hb hC, h4⟩
theorem blF_below {w w' : World} {B b C : Nat} {bs : List Value} (h : BlF B b bs w) (hb : Below C w w') (hC : w.heap.size ≤ C) : BlF B b bs w' := h.elim (fun h => .inl (blA_below h hb hC)) (fun h => .inr (blA_below h hb hC))
theorem cells_snoc (s : ByteArray) (l : List UInt8) : Lib.byteCells l ++ Lib.strCells s = Lib.byteCells (l ++ s.data.toList) := by
  simp [Lib.byteCells, Lib.strCells]
theorem nmT_at {w : World} (h : NmT w) (o : Nat) (ho : o < 7) : w.cell? ⟨0, o, none⟩ = some (.string ⟨(nmS.getD o []).toArray⟩) := by
  rw [h.1 o ho, List.getD_eq_getElem?_getD, List.getElem?_eq_getElem]
  rfl
/-- a box of an instruction above the builder. -/
theorem box_kept {w w' : World} {b k : Nat} {op n : Int} (h : Lib.OthersKept 5 (some b) w w') (hk : k ≠ b) (hh : w.heap[k]? = some (.cells #[.int .i64 op, .int .i64 n] 39 (0, 0))) :
    w'.heap[k]? = some (.cells #[.int .i64 op, .int .i64 n] 39 (0, 0)) :=
  h k _ hh (fun e => hk (Option.some.inj e)) (fun c fz e => by cases e)
/-- the state within a round: the builder holds acc, the box of the instruction stands. -/
def BSt (w w1 : World) (acc : List UInt8) (kx : Nat) (op n : Int) : Prop :=
  BlF w.heap.size w.heap.size (Lib.byteCells acc) w1 ∧ Below w.heap.size w w1 ∧ w.heap.size < kx ∧ w1.heap[kx]? = some (.cells #[.int .i64 op, .int .i64 n] 39 (0, 0))
theorem BSt.lt {w w1 : World} {acc : List UInt8} {kx : Nat} {op n : Int} (h : BSt w w1 acc kx op n) : kx < w1.heap.size := by
  rcases Nat.lt_or_ge kx w1.heap.size with q | q
  · exact q
  · have := h.2.2.2
    rw [Array.getElem?_eq_none q] at this; cases this
theorem BSt.cells {w w1 : World} {acc : List UInt8} {kx : Nat} {op n : Int} (h : BSt w w1 acc kx op n) : w1.cell? ⟨kx, 0, none⟩ = some (.int .i64 op) ∧ w1.cell? ⟨kx, 1, none⟩ = some (.int .i64 n) := by
  constructor <;> (rw [Lib.cell_of_heap h.2.2.2]; rfl)
theorem BSt.ws {w w1 : World} {acc : List UInt8} {kx : Nat} {op n : Int} (h : BSt w w1 acc kx op n) (s : List UInt8) (hl : acc.length + s.length ≤ 1000000) :
    Calls Tryd.prog 14 #[.pointer (some ⟨w.heap.size, 0, none⟩), .string ⟨s.toArray⟩] w1 fun e w' => (∃ v, e = .returned v) ∧ BSt w w' (acc ++ s) kx op n := by
  have hs : (ByteArray.mk s.toArray).size = s.length := by simp [ByteArray.size]
  refine (writeString_any w.heap.size w.heap.size _ ⟨s.toArray⟩ w1 h.1 (by rw [Lib.byteCells_length, hs]; omega) h.2.1.size).mono ?_
  rintro e w' ⟨rfl, h1, h2, h3⟩
  refine ⟨⟨_, rfl⟩, ?_, h.2.1.trans h2, h.2.2.1, box_kept h3 (by have := h.2.2.1; omega) h.2.2.2⟩
  rw [cells_snoc] at h1
  exact .inr h1
theorem BSt.wb {w w1 : World} {acc : List UInt8} {kx : Nat} {op n : Int} (h : BSt w w1 acc kx op n) (c : UInt8) (hl : acc.length + 1 ≤ 1000000) :
    Calls Tryd.prog 16 #[.pointer (some ⟨w.heap.size, 0, none⟩), .int .u8 c.toNat] w1 fun e w' => (∃ v, e = .returned v) ∧ BSt w w' (acc ++ [c]) kx op n := by
  refine (writeByte_any w.heap.size w.heap.size _ c.toNat w1 h.1 (by rw [Lib.byteCells_length]; omega) h.2.1.size).mono ?_
  rintro e w' ⟨rfl, h1, h2, h3⟩
  refine ⟨⟨_, rfl⟩, ?_, h.2.1.trans h2, h.2.2.1, box_kept h3 (by have := h.2.2.1; omega) h.2.2.2⟩
  have e1 : Lib.byteCells acc ++ [Value.int .u8 (c.toNat : Int)] = Lib.byteCells (acc ++ [c]) := by simp [Lib.byteCells]
  rw [e1] at h1
  exact .inr h1
theorem BSt.up {w w1 w2 : World} {acc : List UInt8} {kx : Nat} {op n : Int} (h : BSt w w1 acc kx op n) (hb : Below w1.heap.size w1 w2) : BSt w w2 acc kx op n :=
  ⟨blF_below h.1 hb (Nat.le_refl _), h.2.1.trans (hb.mono h.2.1.size), h.2.2.1, (hb.block kx h.lt).trans h.2.2.2⟩
theorem insT_kind (x : Ins) : (x.op < 1 ∧ insT x = 3) ∨ (1 ≤ x.op ∧ 6 < x.op ∧ insT x = 3) ∨ (1 ≤ x.op ∧ x.op ≤ 6 ∧ x.n < 0 ∧ insT x = 2) ∨ (1 ≤ x.op ∧ x.op ≤ 6 ∧ 0 ≤ x.n ∧ 8000 < x.n ∧ insT x = 2) ∨
    (1 ≤ x.op ∧ x.op ≤ 6 ∧ 0 ≤ x.n ∧ x.n ≤ 8000 ∧ barT x.op = true ∧ x.n ≠ 0 ∧ insT x = 2) ∨ (1 ≤ x.op ∧ x.op ≤ 6 ∧ 0 ≤ x.n ∧ x.n ≤ 8000 ∧ barT x.op = true ∧ x.n = 0 ∧ insT x = 0) ∨ (1 ≤ x.op ∧ x.op ≤ 6 ∧ 0 ≤ x.n ∧ x.n ≤ 8000 ∧ barT x.op = false ∧ insT x = 0) := by
  by_cases a1 : x.op < 1
  · exact .inl ⟨a1, by unfold insT; rw [if_pos (.inl a1)]⟩
  · by_cases a2 : 6 < x.op
    · exact .inr (.inl ⟨by omega, a2, by unfold insT; rw [if_pos (.inr a2)]⟩)
    · have a3 : ¬ (x.op < 1 ∨ 6 < x.op) := by omega
      by_cases b1 : x.n < 0
      · exact .inr (.inr (.inl ⟨by omega, by omega, b1, by unfold insT; rw [if_neg a3, if_pos (.inl b1)]⟩))
      · by_cases b2 : 8000 < x.n
        · exact .inr (.inr (.inr (.inl ⟨by omega, by omega, by omega, b2, by unfold insT; rw [if_neg a3, if_pos (.inr (.inl b2))]⟩)))
        · rcases hb : barT x.op with _ | _
          · refine .inr (.inr (.inr (.inr (.inr (.inr ⟨by omega, by omega, by omega, by omega, rfl, ?_⟩)))))
            unfold insT
            rw [if_neg a3, if_neg (by rintro (h | h | ⟨h, _⟩) <;> first | exact b1 h | exact b2 h | (rw [hb] at h; cases h))]
          · by_cases c : x.n = 0
            · refine .inr (.inr (.inr (.inr (.inr (.inl ⟨by omega, by omega, by omega, by omega, rfl, c, ?_⟩)))))
              unfold insT
              rw [if_neg a3, if_neg (by rintro (h | h | ⟨_, h⟩) <;> first | exact b1 h | exact b2 h | exact h c)]
            · refine .inr (.inr (.inr (.inr (.inl ⟨by omega, by omega, by omega, by omega, rfl, c, ?_⟩))))
              unfold insT
              rw [if_neg a3, if_pos (.inr (.inr ⟨hb, c⟩))]
set_option maxRecDepth 100000 in
set_option maxHeartbeats 4000000 in
theorem text_any (l : List Ins) (vl : Value) (w : World) (h : SlAt w 2 RIns vl l) (hN : NmT w) (hT : Lib.TabIs Tryd.prog w "internal/strconv.uint64pow10" .u64 Lib.pow10Tab) :
    Calls Tryd.prog 6 #[vl] w fun e w' => e = .returned (.tuple #[.string ⟨(txtS l).toArray⟩, .int .i64 (txtE l)]) ∧ Below w.heap.size w w' := by
  obtain ⟨al, cl, rfl, ll⟩ := h.shape
  have ll' := maxLen_eq _ ll
  have HL := Lib.hid h
  clear h ll
  by_cases h0 : 8000 < l.length
  · have hb : 8000 < (l.length : Int) := by omega
    have HE : Hid (txtE l = 1) := by show _ = _; unfold txtE; rw [if_pos h0]
    have HS : Hid (txtS l = []) := by show _ = _; unfold txtS; rw [if_neg (by rw [HE.out]; decide)]
    clear h0
    go_enter Tryd.func6, Tryd.ntmps6
    go_wp2
    go_ret2
    exact ⟨by rw [HE.out, HS.out]; rfl, Below.refl _ _⟩
  · have hb : (l.length : Int) ≤ 8000 := by omega
    have HE : Hid (txtE l = txtF l) := by show _ = _; unfold txtE; rw [if_neg h0]
    have HTB := Lib.hid (Lib.tabBelow_of_tabIs hT)
    have HNM := Lib.hid hN
    clear h0 hT hN
    go_enter Tryd.func6, Tryd.ntmps6
    go_wp2
    have hb0 : Below w.heap.size w (w.alloc (.cells #[.pointer none, .slice none 0 0] 44)) := (Below.refl _ _).alloc (Nat.le_refl _) _
    have hB0 : BlF w.heap.size w.heap.size [] (w.alloc (.cells #[.pointer none, .slice none 0 0] 44)) := Lib.IsBuilderF.of (Lib.fresh_isBuilder _ _ _)
    have hz0 : w.heap.size < (w.alloc (.cells #[.pointer none, .slice none 0 0] 44)).heap.size := by simp
    have HB0 := Lib.hid hb0
    have HBF := Lib.hid hB0
    clear hb0 hB0
    generalize w.alloc (.cells #[.pointer none, .slice none 0 0] 44) = w1 at *
    go_loopw [12] (fun t wr => ∃ k : Nat, k ≤ l.length ∧ t = .int .i64 k ∧ Hid (∀ i (hi : i < l.length), i < k → insT l[i] = 0) ∧ Hid (BlF w.heap.size w.heap.size (Lib.byteCells (txtB (l.take k))) wr) ∧ Hid (Below w.heap.size w wr) ∧ w.heap.size < wr.heap.size) (fun t _ => (l.length - intOf t).toNat)
    case atStart => exact ⟨0, by omega, rfl, fun i _ h => by omega, HBF, HB0, hz0⟩
    case round =>
      obtain ⟨k, hk, rfl, hz', HBr, Hbr, hzr⟩ := hrel
      clear HBF HB0 hz0
      by_cases hlt : k < l.length
      · obtain ⟨b, off, rfl, hbb, ⟨c0, c1⟩, -, -⟩ := elemInsT HL.out k hlt
        have d0 := (Hbr.out.cell (p := ⟨b, off + k * 2, none⟩) hbb).trans c0
        have d1 := (Hbr.out.cell (p := ⟨b, off + k * 2 + 1, none⟩) hbb).trans c1
        have hsn := Lib.hid (txtB_snoc l k hlt)
        have hbad : Hid (insT l[k] ≠ 0 → txtE l = insT l[k] ∧ txtS l = []) := fun hne => by
          have h1 := HE.out.trans (txtF_at l k hlt hz'.out hne)
          exact ⟨h1, by unfold txtS; rw [if_neg (by rw [h1]; exact hne)]⟩
        have hgood : Hid (insT l[k] = 0 → Hid (∀ i (hi : i < l.length), i < k + 1 → insT l[i] = 0)) := fun h i hi h' => by
          by_cases e : i = k
          · subst e; exact h
          · exact hz'.out i hi (by omega)
        have hlen : Hid ((txtB (l.take k)).length ≤ 88000) := by
          show _ ≤ _
          have h1 := txtB_len (l.take k) (fun i hi => by
            have hi' : i < k := by rw [List.length_take] at hi; omega
            rw [List.getElem_take]
            exact hz'.out i (by omega) hi')
          rw [List.length_take] at h1
          omega
        clear c0 c1 hz'
        generalize l[k] = x at *
        have hkind := insT_kind x
        obtain ⟨op, n⟩ := x
        dsimp only at d0 d1 hkind
        have hbx : Below wr.heap.size wr (wr.alloc (.cells #[.int .i64 op, .int .i64 n] 39)) := (Below.refl _ _).alloc (Nat.le_refl _) _
        have HBX := Lib.hid (Hbr.out.trans (hbx.mono Hbr.out.size))
        rcases hkind with ⟨q1, hr⟩ | ⟨q1, q2, hr⟩ | ⟨q1, q2, q3, hr⟩ | ⟨q1, q2, q3, q4, hr⟩ | ⟨q1, q2, q3, q4, hbr, q5, hr⟩ | ⟨q1, q2, q3, q4, hbr, q5, hr⟩ | ⟨q1, q2, q3, q4, hbr, hr⟩
        · have HR := Lib.hid (hbad.out (by rw [hr]; decide))
          rw [hr] at HR
          clear hr hbx
          go_wp2
          go_ret2
          exact ⟨by rw [HR.out.1, HR.out.2]; rfl, HBX.out⟩
        · have HR := Lib.hid (hbad.out (by rw [hr]; decide))
          rw [hr] at HR
          clear hr hbx
          go_wp2
          go_ret2
          exact ⟨by rw [HR.out.1, HR.out.2]; rfl, HBX.out⟩
        · have HR := Lib.hid (hbad.out (by rw [hr]; decide))
          rw [hr] at HR
          clear hr hbx
          go_wp2
          go_ret2
          exact ⟨by rw [HR.out.1, HR.out.2]; rfl, HBX.out⟩
        · have HR := Lib.hid (hbad.out (by rw [hr]; decide))
          rw [hr] at HR
          clear hr hbx
          go_wp2
          go_ret2
          exact ⟨by rw [HR.out.1, HR.out.2]; rfl, HBX.out⟩
        · have HR := Lib.hid (hbad.out (by rw [hr]; decide))
          rw [hr] at HR
          have HBAR := Lib.hid hbr
          have hq5 : (n != 0) = true := by rw [bne_iff_ne]; exact q5
          clear hr hbx hbr q5
          go_wp2_with (go_at_call 13; refine (bareT_lit _ true _ HBAR.out).mono ?_; rintro e w' ⟨rfl, rfl⟩)
          go_ret2
          exact ⟨by rw [HR.out.1, HR.out.2]; rfl, HBX.out⟩
        · have HG := Lib.hid (hgood.out hr)
          have HBAR := Lib.hid hbr
          subst q5
          obtain ⟨o, rfl⟩ : ∃ o : Nat, op = o := ⟨op.toNat, by omega⟩
          have HS1 : Hid (BSt w (wr.alloc (.cells #[.int .i64 (o : Int), .int .i64 0] 39)) (txtB (l.take k)) wr.heap.size o 0) :=
            ⟨blF_below HBr.out hbx (Nat.le_refl _), HBX.out, hzr, Array.getElem?_push_size⟩
          obtain ⟨NM, hNM⟩ : ∃ NM, NM = nmS.getD o [] := ⟨_, rfl⟩
          have HNL : Hid (NM.length ≤ 5) := by
            show _ ≤ _
            rw [hNM]
            exact (show ∀ i : Nat, i < 7 → (nmS.getD i []).length ≤ 5 by decide) o (by omega)
          have HLN : Hid (txtB (l.take (k + 1)) = (txtB (l.take k) ++ NM) ++ [10]) := by
            show _ = _
            rw [hsn.out, List.append_assoc]
            congr 1
            unfold linB
            rw [if_pos HBAR.out, hNM]
            rfl
          generalize txtB (l.take k) = acc at *
          have hnc : (wr.alloc (.cells #[.int .i64 (o : Int), .int .i64 0] 39)).cell? ⟨0, o, none⟩ = some (.string ⟨(nmS.getD o []).toArray⟩) := nmT_at (HNM.out.below HBX.out) o (by omega)
          clear hr hbr hbx
          rw [← hNM] at hnc
          clear hNM
          go_wp2_with (go_at_call 13; refine (bareT_lit _ true _ HBAR.out).mono ?_; rintro e w' ⟨rfl, rfl⟩)
          refine (HS1.out.ws NM (by have := hlen.out; have := HNL.out; omega)).mono ?_
          rintro e w2 ⟨⟨v2, rfl⟩, hs2⟩
          have HS2 := Lib.hid hs2
          obtain ⟨e0, e1⟩ := hs2.cells
          clear hs2
          go_wp2_with (go_at_call 13; refine (bareT_lit _ true _ HBAR.out).mono ?_; rintro e w' ⟨rfl, rfl⟩)
          refine (HS2.out.wb 10 (by have := hlen.out; have := HNL.out; rw [List.length_append]; omega)).mono ?_
          rintro e w3 ⟨⟨v3, rfl⟩, hs3⟩
          rw [← HLN.out] at hs3
          have HS3 := Lib.hid hs3
          clear hs3
          go_wp2
          go_roundw
          case rel => exact ⟨k + 1, by omega, by go_num, HG.out, HS3.out.1, HS3.out.2.1, Nat.lt_trans HS3.out.2.2.1 HS3.out.lt⟩
          case measure => simp [intOf]; omega
        · have HG := Lib.hid (hgood.out hr)
          have HBAR := Lib.hid hbr
          obtain ⟨o, rfl⟩ : ∃ o : Nat, op = o := ⟨op.toNat, by omega⟩
          have HS1 : Hid (BSt w (wr.alloc (.cells #[.int .i64 (o : Int), .int .i64 n] 39)) (txtB (l.take k)) wr.heap.size o n) :=
            ⟨blF_below HBr.out hbx (Nat.le_refl _), HBX.out, hzr, Array.getElem?_push_size⟩
          obtain ⟨NM, hNM⟩ : ∃ NM, NM = nmS.getD o [] := ⟨_, rfl⟩
          have HNL : Hid (NM.length ≤ 5) := by
            show _ ≤ _
            rw [hNM]
            exact (show ∀ i : Nat, i < 7 → (nmS.getD i []).length ≤ 5 by decide) o (by omega)
          obtain ⟨IT, hIT⟩ : ∃ IT, IT = Lib.itoa n := ⟨_, rfl⟩
          have HLN : Hid (txtB (l.take (k + 1)) = ((txtB (l.take k) ++ NM) ++ (32 :: IT)) ++ [10]) := by
            show _ = _
            rw [hsn.out, List.append_assoc, List.append_assoc]
            congr 1
            unfold linB
            rw [if_neg (by rw [show barT (Ins.mk (o : Int) n).op = false from HBAR.out]; decide), hNM, hIT]
            rfl
          have HIT : Hid (IT.length ≤ 21) := by
            show _ ≤ _
            rw [hIT]
            exact Lib.itoa_length_le n (by omega) (by omega)
          generalize txtB (l.take k) = acc at *
          have hnc : (wr.alloc (.cells #[.int .i64 (o : Int), .int .i64 n] 39)).cell? ⟨0, o, none⟩ = some (.string ⟨(nmS.getD o []).toArray⟩) := nmT_at (HNM.out.below HBX.out) o (by omega)
          clear hr hbr hbx
          rw [← hNM] at hnc
          clear hNM
          go_wp2_with (go_at_call 13; refine (bareT_lit _ false _ HBAR.out).mono ?_; rintro e w' ⟨rfl, rfl⟩)
          refine (HS1.out.ws NM (by have := hlen.out; have := HNL.out; omega)).mono ?_
          rintro e w2 ⟨⟨v2, rfl⟩, hs2⟩
          have HS2 := Lib.hid hs2
          obtain ⟨e0, e1⟩ := hs2.cells
          clear hs2
          go_wp2_with (go_at_call 13; refine (bareT_lit _ false _ HBAR.out).mono ?_; rintro e w' ⟨rfl, rfl⟩)
          refine (Sh.strconv_Itoa n (by omega) (by omega) w2 (HTB.out w2 HS2.out.2.1)).mono ?_
          rintro e w3 ⟨rfl, kk, os, rfl⟩
          have hb3 := Lib.below_grow w2.heap.size w2 (Nat.le_refl _) kk os
          have HS3 := Lib.hid (HS2.out.up hb3)
          rw [← hIT]
          clear hb3 hIT e0 e1
          generalize Go.Sort.grow (w2.drewN kk) os = w3 at *
          have hcs := run_string_add_lists (P := Tryd.prog) w3 [32] IT (by decide) (by have := HIT.out; omega)
          go_wp2_with fail
          refine (HS3.out.ws (32 :: IT) (by have := hlen.out; have := HNL.out; have := HIT.out; rw [List.length_append, List.length_cons]; omega)).mono ?_
          rintro e w4 ⟨⟨v4, rfl⟩, hs4⟩
          have HS4 := Lib.hid hs4
          clear hs4 hcs
          go_wp2_with fail
          refine (HS4.out.wb 10 (by have := hlen.out; have := HNL.out; have := HIT.out; rw [List.length_append, List.length_append, List.length_cons]; omega)).mono ?_
          rintro e w5 ⟨⟨v5, rfl⟩, hs5⟩
          rw [← HLN.out] at hs5
          have HS5 := Lib.hid hs5
          clear hs5
          go_wp2
          go_roundw
          case rel => exact ⟨k + 1, by omega, by go_num, HG.out, HS5.out.1, HS5.out.2.1, Nat.lt_trans HS5.out.2.2.1 HS5.out.lt⟩
          case measure => simp [intOf]; omega
      · have HK : Hid (txtF l = 0) := txtF_none l (fun i hi => hz'.out i hi (by omega))
        have HSS : Hid (txtS l = txtB (l.take k)) := by show _ = _; unfold txtS; rw [if_pos (HE.out.trans HK.out), List.take_of_length_le (by omega)]
        go_wp2_with fail
        refine (Sh.Builder_String_any_k w.heap.size w.heap.size _ _ HBr.out (by omega)).mono ?_
        rintro e w2 ⟨rfl, -, hb2, -⟩
        go_wp2
        go_ret2
        exact ⟨by rw [HE.out, HK.out, HSS.out]; rfl, Hbr.out.trans hb2⟩
end Go.Proofs.YtlhidbbphngpcaaDoor
