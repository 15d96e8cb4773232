/-
  zones.changes: the turns of an era.
  Rows of turns with their rules; sundialref.inOrder (written by ziogen.py).
  sundialref.inOrder, walked.
  sundialref.turns: the turns of an era.
-/
import Derived.Maps.AppendAt
import Derived.Test.YtdpbedkppomffaaGreatDoorZonG0
namespace Go.Proofs.YtdpbedkppomffaaGreatDoor
set_option linter.unusedVariables false
set_option linter.unusedSimpArgs false
open Go.ChangeShapes Go.WideShapes Go.ChangeAt Go.RowKit Civ

theorem info_chg : (Tryz.prog.info? 134).map (fun i => (i.zero, i.size, i.bytes)) = some (some (.agg #[.int .i64 0, .int .i64 0, .int .i64 0, .string ⟨#[]⟩]), 4, 40) := by kernel_rfl
theorem info_rul : (Tryz.prog.info? 84).map (fun i => (i.zero, i.size, i.bytes)) = some (some (.agg #[.string ⟨#[]⟩, .int .i64 0, .int .i64 0, .int .i64 0, .int .i64 0, .int .i64 0, .int .i64 0, .int .i64 0, .int .i64 0, .int .i64 0, .string ⟨#[]⟩]), 11, 104) := by kernel_rfl
theorem chV_one (x : Trn) : ∀ u ∈ chV x, u.oneCell' = true := by
  intro u hu
  simp [chV] at hu
  rcases hu with rfl | rfl | rfl | rfl <;> rfl
theorem rulV_one (x : Rul) : ∀ u ∈ RulV x, u.oneCell' = true := by
  intro u hu
  simp [RulV] at hu
  rcases hu with rfl | rfl | rfl | rfl | rfl | rfl | rfl | rfl | rfl | rfl | rfl <;> rfl
/-- Find, of a rule in a year. -/
theorem find_r (r : Rul) (y : Int) (wx : World) (hT : Tab wx) : Calls Tryz.prog 66 #[.int .i64 y, .int .i64 r.at'.mo, .agg #[.int .i64 r.at'.k, .int .i64 r.at'.a, .int .i64 r.at'.n]] wx fun e w' => e = .returned (.tuple #[.int .i64 (if fdE r y = 0 then fdN r y else 0), .int .i64 (fdE r y)]) ∧ Below wx.heap.size wx w' := by
  unfold fdE fdN
  by_cases h : fndE y r.at'.mo r.at'.k r.at'.a r.at'.n = 0
  · refine (find_ok _ _ _ _ _ wx hT h).mono ?_
    rintro e w' ⟨rfl, hb⟩
    exact ⟨by rw [if_pos h, h], hb⟩
  · refine (find_err _ _ _ _ _ wx hT h).mono ?_
    rintro e w' ⟨rfl, hb⟩
    exact ⟨by rw [if_neg h], hb⟩
/-- two rows that grow: turns, and their rules. -/
def ChR (w0 wx : World) (vo vu : Value) (l : List Trn) (us : List Rul) : Prop := wx.ownsRow (w0.heap.size + 2) 134 4 vo l.length (l.flatMap chV) ∧ wx.ownsRow (w0.heap.size + 2) 84 11 vu us.length (us.flatMap RulV)
theorem ChR.nil (w0 wx : World) : ChR w0 wx (.slice none 0 0) (.slice none 0 0) [] [] := ⟨World.ownsRow_nil _ _ _ _, World.ownsRow_nil _ _ _ _⟩
theorem ChR.below {w0 wx w' : World} {vo vu : Value} {l : List Trn} {us : List Rul} (h : ChR w0 wx vo vu l us) (hb : Below wx.heap.size wx w') : ChR w0 w' vo vu l us := ⟨ownsRow_below h.1 hb (Nat.le_refl _), ownsRow_below h.2 hb (Nat.le_refl _)⟩
/-- beside the rows the boxes of the source and the era, and one of a rule. -/
structure ChS (w0 wx : World) (R : Nat) (r : Rul) (vr vz vl : Value) (x : Ero) (vo vu : Value) (l : List Trn) (us : List Rul) : Prop where
  zb : ZBx w0 wx vr vz vl x
  rw : ChR w0 wx vo vu l us
  bx : RulAt wx R 0 r
  bz : R < wx.heap.size ∧ w0.heap.size + 2 ≤ R
  no : vo.ownBlock ≠ some R ∧ vu.ownBlock ≠ some R
theorem own_lt {w : World} {B n sz : Nat} {e : TypeId} {v : Value} {xs : List Value} (h : w.ownsRow B e sz v n xs) : ∀ g, v.ownBlock = some g → B ≤ g ∧ g < w.heap.size := fun g q => h.lt g q
theorem ChS.below {w0 wx w' : World} {R : Nat} {r : Rul} {vr vz vl : Value} {x : Ero} {vo vu : Value} {l : List Trn} {us : List Rul} (h : ChS w0 wx R r vr vz vl x vo vu l us) (hb : Below wx.heap.size wx w') : ChS w0 w' R r vr vz vl x vo vu l us :=
  ⟨h.zb.next hb, h.rw.below hb, h.bx.below hb h.bz.1, ⟨Nat.lt_of_lt_of_le h.bz.1 hb.size, h.bz.2⟩, h.no⟩
theorem RulAt.block {w w' : World} {b o : Nat} {x : Rul} (h : RulAt w b o x) (e : w'.heap[b]? = w.heap[b]?) : RulAt w' b o x := by
  obtain ⟨h0, h1, h2, h3, h4, h5, h6, h7, h8, h9, h10⟩ := h
  exact ⟨(World.cell?_of_block (a := ⟨b, _, none⟩) e).trans h0, (World.cell?_of_block (a := ⟨b, _, none⟩) e).trans h1, (World.cell?_of_block (a := ⟨b, _, none⟩) e).trans h2, (World.cell?_of_block (a := ⟨b, _, none⟩) e).trans h3, (World.cell?_of_block (a := ⟨b, _, none⟩) e).trans h4, (World.cell?_of_block (a := ⟨b, _, none⟩) e).trans h5, (World.cell?_of_block (a := ⟨b, _, none⟩) e).trans h6, (World.cell?_of_block (a := ⟨b, _, none⟩) e).trans h7, (World.cell?_of_block (a := ⟨b, _, none⟩) e).trans h8, (World.cell?_of_block (a := ⟨b, _, none⟩) e).trans h9, (World.cell?_of_block (a := ⟨b, _, none⟩) e).trans h10⟩
/-- boxes below, where a row of the call's own is grown. -/
theorem ZBx.row {w0 wx w' : World} {vr vz vl : Value} {x : Ero} {n sz : Nat} {e : TypeId} {v : Value} {xs : List Value} {o : Obj} (h : ZBx w0 wx vr vz vl x) (ho : wx.ownsRow (w0.heap.size + 2) e sz v n xs) (hg : (wx.alloc o).grownBy w' v.ownBlock) : ZBx w0 w' vr vz vl x := by
  have hb : Below (w0.heap.size + 2) wx w' := append_keep ho ((Below.refl _ _).alloc h.2.2.2 _) h.2.2.2 hg
  obtain ⟨⟨h1, h2, h3⟩, h4, h5, h6⟩ := h
  have k : ∀ b j, b < w0.heap.size + 2 → w'.cell? ⟨b, j, none⟩ = wx.cell? ⟨b, j, none⟩ := fun b j hb' => hb.cell (p := ⟨b, j, none⟩) hb'
  obtain ⟨e0, e1, e2, e3, e4, e5, e6, e7, e8, e9, e10, e11⟩ := h4
  have q : w0.heap.size + 1 < w0.heap.size + 2 := Nat.lt_succ_self _
  exact ⟨⟨(k _ _ (by omega)).trans h1, (k _ _ (by omega)).trans h2, (k _ _ (by omega)).trans h3⟩, ⟨(k _ _ q).trans e0, (k _ _ q).trans e1, (k _ _ q).trans e2, (k _ _ q).trans e3, (k _ _ q).trans e4, (k _ _ q).trans e5, (k _ _ q).trans e6, (k _ _ q).trans e7, (k _ _ q).trans e8, (k _ _ q).trans e9, (k _ _ q).trans e10, (k _ _ q).trans e11⟩, h5.trans (hb.mono (Nat.le_add_right _ _)), Nat.le_trans h6 hb.size⟩
theorem ChS.out {w0 wx w' : World} {R : Nat} {r : Rul} {vr vz vl : Value} {x : Ero} {vo vu v' : Value} {l : List Trn} {us : List Rul} {y : Trn} {o : Obj} {m : Nat} (h : ChS w0 wx R r vr vz vl x vo vu l us) (ho : w'.ownsRow (w0.heap.size + 2) 134 4 v' m (l.flatMap chV ++ chV y)) (hm : m = l.length + 1) (hg : (wx.alloc o).grownBy w' vo.ownBlock) (hat : v'.ownBlock = vo.ownBlock ∨ v'.ownBlock = some (wx.alloc o).heap.size) :
    ChS w0 w' R r vr vz vl x v' vu (l ++ [y]) us := by
  subst hm
  have hs := size_alloc wx o
  refine ⟨h.zb.row h.rw.1 hg, ⟨own_snocG ho, (h.rw.2.alloc o).kept hg (own_apart h.rw.2 h.rw.1 (by decide))⟩, h.bx.block ?_, ⟨Nat.lt_of_lt_of_le h.bz.1 (Nat.le_trans (by omega) hg.size), h.bz.2⟩, ?_, h.no.2⟩
  · exact (hg.block R (by have := h.bz.1; omega) (fun e => h.no.1 e.symm)).trans (Below.heap_alloc _ _ _ h.bz.1)
  · rcases hat with e | e
    · rw [e]; exact h.no.1
    · rw [e]; intro q; have := Option.some.inj q; have := h.bz.1; omega
theorem ChS.rul {w0 wx w' : World} {R : Nat} {r : Rul} {vr vz vl : Value} {x : Ero} {vo vu v' : Value} {l : List Trn} {us : List Rul} {y : Rul} {o : Obj} {m : Nat} (h : ChS w0 wx R r vr vz vl x vo vu l us) (ho : w'.ownsRow (w0.heap.size + 2) 84 11 v' m (us.flatMap RulV ++ RulV y)) (hm : m = us.length + 1) (hg : (wx.alloc o).grownBy w' vu.ownBlock) (hat : v'.ownBlock = vu.ownBlock ∨ v'.ownBlock = some (wx.alloc o).heap.size) :
    ChS w0 w' R r vr vz vl x vo v' l (us ++ [y]) := by
  subst hm
  have hs := size_alloc wx o
  refine ⟨h.zb.row h.rw.2 hg, ⟨(h.rw.1.alloc o).kept hg (own_apart h.rw.1 h.rw.2 (by decide)), own_snocG ho⟩, h.bx.block ?_, ⟨Nat.lt_of_lt_of_le h.bz.1 (Nat.le_trans (by omega) hg.size), h.bz.2⟩, h.no.1, ?_⟩
  · exact (hg.block R (by have := h.bz.1; omega) (fun e => h.no.2 e.symm)).trans (Below.heap_alloc _ _ _ h.bz.1)
  · rcases hat with e | e
    · rw [e]; exact h.no.2
    · rw [e]; intro q; have := Option.some.inj q; have := h.bz.1; omega
/-- a rule's box is made. -/
theorem ChS.new {w0 wx : World} {vr vz vl : Value} {x : Ero} {vo vu : Value} {l : List Trn} {us : List Rul} (hz : ZBx w0 wx vr vz vl x) (h : ChR w0 wx vo vu l us) (r : Rul) :
    ChS w0 (wx.alloc (.cells #[.string r.nm, .int .i64 r.fr, .int .i64 r.to, .int .i64 r.at'.mo, .int .i64 r.at'.k, .int .i64 r.at'.a, .int .i64 r.at'.n, .int .i64 r.at'.t, .int .i64 r.at'.c, .int .i64 r.sv, .string r.lt] 84)) wx.heap.size r vr vz vl x vo vu l us := by
  have hb : Below wx.heap.size wx (wx.alloc (.cells #[.string r.nm, .int .i64 r.fr, .int .i64 r.to, .int .i64 r.at'.mo, .int .i64 r.at'.k, .int .i64 r.at'.a, .int .i64 r.at'.n, .int .i64 r.at'.t, .int .i64 r.at'.c, .int .i64 r.sv, .string r.lt] 84)) := (Below.refl _ _).alloc (Nat.le_refl _) _
  refine ⟨hz.next hb, h.below hb, RulAt.new _ _ _, ⟨by rw [size_alloc]; exact Nat.lt_succ_self _, hz.2.2.2⟩, fun e => ?_, fun e => ?_⟩
  · have := (own_lt h.1 _ e).2; omega
  · have := (own_lt h.2 _ e).2; omega
theorem ChS.cells {w0 wx : World} {R : Nat} {r : Rul} {vr vz vl : Value} {x : Ero} {vo vu : Value} {l : List Trn} {us : List Rul} (h : ChS w0 wx R r vr vz vl x vo vu l us) :
    wx.cell? ⟨R, 0, none⟩ = some (.string r.nm) ∧ wx.cell? ⟨R, 1, none⟩ = some (.int .i64 r.fr) ∧ wx.cell? ⟨R, 2, none⟩ = some (.int .i64 r.to) ∧ wx.cell? ⟨R, 3, none⟩ = some (.int .i64 r.at'.mo) ∧ wx.cell? ⟨R, 4, none⟩ = some (.int .i64 r.at'.k) ∧ wx.cell? ⟨R, 5, none⟩ = some (.int .i64 r.at'.a) ∧ wx.cell? ⟨R, 6, none⟩ = some (.int .i64 r.at'.n) ∧ wx.cell? ⟨R, 7, none⟩ = some (.int .i64 r.at'.t) ∧ wx.cell? ⟨R, 8, none⟩ = some (.int .i64 r.at'.c) ∧ wx.cell? ⟨R, 9, none⟩ = some (.int .i64 r.sv) ∧ wx.cell? ⟨R, 10, none⟩ = some (.string r.lt) := by
  have := h.bx
  unfold RulAt at this
  simpa only [Nat.zero_add] using this
theorem addK_succ (r : Rul) (l : List Trn) (k : Nat) : addK r l (k + 1) = addY r (addK r l k) (r.fr + k) := rfl
def RChg (cs : List Value) (x : Trn) : Prop := cs = [.int .i64 x.no, .int .i64 x.ins, .int .i64 x.r.sv, .string x.r.lt]
/-- what is asked of a source's rules and of an era's offset. -/
structure ROk (s : Src) (x : Ero) : Prop where
  ok : ∀ r ∈ s.rules, rulE r = 0
  n : s.rules.length ≤ 200
  o : -86400 ≤ x.off ∧ x.off ≤ 86400
/-- behind k rules. -/
def ChK (w0 wx : World) (rules : List Rul) (nm : ByteArray) (k : Nat) (vo vu : Value) : Prop := ChR w0 wx vo vu (trn0 (rules.take k) nm) ((trn0 (rules.take k) nm).map Trn.r)
/-- a row of the call's own: none, or one that may be written. -/
theorem row_of_own {w : World} {B co : Nat} {ao : Option Addr} {L : List Trn} (h : w.ownsRow B 134 4 (.slice ao L.length co) L.length (L.flatMap chV)) :
    (ao = none ∧ co = 0 ∧ L = []) ∨ ∃ D off, ao = some ⟨D, off, none⟩ ∧ RowC w D off L ∧ B ≤ D ∧ (Value.slice ao L.length co).ownBlock = some D ∧ L.length ≤ co ∧ co ≤ maxLen := by
  rcases h.2 with ⟨e, h0⟩ | ⟨g, cap, cur, e, hb, hh, hc, hm, hs', ht⟩
  · simp only [Value.slice.injEq] at e
    exact .inl ⟨e.1, e.2.2, List.length_eq_zero_iff.1 h0⟩
  · simp only [Value.slice.injEq] at e
    obtain ⟨rfl, -, rfl⟩ := e
    refine .inr ⟨g, 0, rfl, ⟨fun i hi => ?_, fun o => h.frozenAt o, (h.lt g rfl).2⟩, hb, rfl, hc, hm⟩
    have k : ∀ j, j < 4 → w.cell? ⟨g, 0 + i * 4 + j, none⟩ = (chV L[i])[j]? := fun j hj => by
      rw [Nat.zero_add, h.cellAt _ (by omega)]
      exact flat_at (sz := 4) (fun _ => rfl) L i j hi hj
    exact ⟨k 0 (by omega), k 1 (by omega), k 2 (by omega), k 3 (by omega)⟩
theorem ZBx.low {w0 wx w' : World} {vr vz vl : Value} {x : Ero} (h : ZBx w0 wx vr vz vl x) (hb : Below (w0.heap.size + 2) wx w') : ZBx w0 w' vr vz vl x := by
  obtain ⟨⟨h1, h2, h3⟩, h4, h5, h6⟩ := h
  have k : ∀ b j, b < w0.heap.size + 2 → w'.cell? ⟨b, j, none⟩ = wx.cell? ⟨b, j, none⟩ := fun b j hb' => hb.cell (p := ⟨b, j, none⟩) hb'
  obtain ⟨e0, e1, e2, e3, e4, e5, e6, e7, e8, e9, e10, e11⟩ := h4
  have q : w0.heap.size + 1 < w0.heap.size + 2 := Nat.lt_succ_self _
  exact ⟨⟨(k _ _ (by omega)).trans h1, (k _ _ (by omega)).trans h2, (k _ _ (by omega)).trans h3⟩, ⟨(k _ _ q).trans e0, (k _ _ q).trans e1, (k _ _ q).trans e2, (k _ _ q).trans e3, (k _ _ q).trans e4, (k _ _ q).trans e5, (k _ _ q).trans e6, (k _ _ q).trans e7, (k _ _ q).trans e8, (k _ _ q).trans e9, (k _ _ q).trans e10, (k _ _ q).trans e11⟩, h5.trans (hb.mono (Nat.le_add_right _ _)), Nat.le_trans h6 hb.size⟩
/-- a turn whose place is its instant. -/
def txT (x : Trn) : Trn := ⟨x.r, x.no, x.ins, x.ins⟩
theorem RowC.put1 {w : World} {D off : Nat} {l : List Trn} (h : RowC w D off l) {i : Nat} {y : Trn} (hy : l[i]? = some y) (v q : Int) : RowC (w.setCell ⟨D, off + i * 4 + 1, none⟩ (.int .i64 v)) D off (l.set i ⟨y.r, y.no, v, q⟩) := by
  obtain ⟨hi, rfl⟩ := List.getElem?_eq_some_iff.1 hy
  refine ⟨fun k hk => ?_, fun o => by rw [World.frozen?_setCell]; exact h.2.1 o, by rw [World.size_setCell]; exact h.2.2⟩
  rw [List.length_set] at hk
  obtain ⟨a, b, c, d⟩ := h.1 k hk
  by_cases e : i = k
  · subst e
    rw [List.getElem_set_self]
    exact ⟨(set_other (by omega)).trans a, set_sameZ b, (set_other (by omega)).trans c, (set_other (by omega)).trans d⟩
  · rw [List.getElem_set_ne e]
    exact ⟨(set_other (by omega)).trans a, (set_other (by omega)).trans b, (set_other (by omega)).trans c, (set_other (by omega)).trans d⟩
/-- the row behind k rounds. -/
def mixL (o : Int) (S : List Trn) (k : Nat) : List Trn := ((atZ o 0 S).take k).map txT ++ S.drop k
theorem mix_zero (o : Int) (S : List Trn) : mixL o S 0 = S := rfl
theorem mix_at {o : Int} {S : List Trn} {k : Nat} (h : k < S.length) : (mixL o S k)[k]? = some S[k] := by
  unfold mixL
  have e : (((atZ o 0 S).take k).map txT).length = k := by rw [List.length_map, List.length_take, atZ_len]; omega
  rw [List.getElem?_append_right (by omega), e, Nat.sub_self, List.getElem?_drop, Nat.add_zero, List.getElem?_eq_getElem h]
theorem mix_succ {o : Int} {S : List Trn} {k : Nat} (h : k < S.length) : mixL o S (k + 1) = (mixL o S k).set k (txT ((atZ o 0 S)[k]'(by rw [atZ_len]; exact h))) := by
  have hl : k < (atZ o 0 S).length := by rw [atZ_len]; exact h
  unfold mixL
  have e : (((atZ o 0 S).take k).map txT).length = k := by rw [List.length_map, List.length_take, atZ_len]; omega
  rw [List.set_append, if_neg (by omega), e, Nat.sub_self, List.take_succ_eq_append_getElem hl, List.map_append]
  have e2 : S.drop k = S[k] :: S.drop (k + 1) := List.drop_eq_getElem_cons h
  rw [e2, List.set_cons_zero, List.map_singleton, List.append_assoc]
  rfl
theorem atL_sv (o : Int) (S : List Trn) (k : Nat) (h : k < S.length) : (atZ o 0 S)[k]'(by rw [atZ_len]; exact h) = ⟨S[k].r, S[k].no, S[k].tg, insT' o (svA S k) S[k]⟩ := by
  rw [atZ_at o S 0 k h]
  cases k <;> rfl
theorem mix_end (o : Int) (S : List Trn) : mixL o S S.length = (atZ o 0 S).map txT := by
  unfold mixL
  rw [List.drop_length, List.append_nil, List.take_of_length_le (by rw [atZ_len]; exact Nat.le_refl _)]
theorem RowC.sl {w : World} {D off co : Nat} {T : List Trn} (h : RowC w D off (T.map txT)) (h0 : T.length ≤ co) (h1 : co ≤ maxLen) : SlAt w 4 RChg (.slice (some ⟨D, off, none⟩) T.length co) T := by
  by_cases hn : T.length = 0
  · exact .inl ⟨some ⟨D, off, none⟩, co, by rw [hn], List.length_eq_zero_iff.1 hn⟩
  · refine .inr ⟨D, off, co, rfl, by omega, h0, h1, h.2.2, fun i hi => ⟨[.int .i64 T[i].no, .int .i64 T[i].ins, .int .i64 T[i].r.sv, .string T[i].r.lt], rfl, rfl, fun j hj => ?_⟩⟩
    obtain ⟨a, b, c, d⟩ := h.1 i (by rw [List.length_map]; exact hi)
    simp only [List.getElem_map] at a b c d
    match j, hj with
    | 0, _ => exact a
    | 1, _ => exact b
    | 2, _ => exact c
    | 3, _ => exact d
theorem svA_bd {R : Rul → Prop} {l : List Trn} (h : ∀ x ∈ l, -86400 ≤ x.r.sv ∧ x.r.sv ≤ 86400) (k : Nat) : -86400 ≤ svA l k ∧ svA l k ≤ 86400 := by
  unfold svA
  cases k with
  | zero => simp
  | succ k =>
    simp only
    rcases e : l[k]? with _ | y
    · simp
    · exact h y (List.mem_of_getElem? e)
theorem svA_succ {l : List Trn} {k : Nat} (h : k < l.length) : svA l (k + 1) = l[k].r.sv := by
  unfold svA
  simp only
  rw [List.getElem?_eq_getElem h]
/-- a slice's block, if it has one, is not below a number. -/
def FrV (B : Nat) (v : Value) : Prop := ∀ b o n c, v = .slice (some ⟨b, o, none⟩) n c → B ≤ b
theorem FrV.nil (B : Nat) : FrV B (.slice none 0 0) := fun b o n c h => by cases h
theorem FrV.one {B D off n c : Nat} (h : B ≤ D) : FrV B (.slice (some ⟨D, off, none⟩) n c) := fun b o n' c' e => by
  simp only [Value.slice.injEq, Option.some.injEq, Addr.mk.injEq] at e
  obtain ⟨⟨rfl, -, -⟩, -, -⟩ := e
  exact h
set_option maxHeartbeats 8000000 in
set_option maxRecDepth 100000 in
theorem changes_own (s : Src) (x : Ero) (vr vz vl : Value) (w : World) (hs : SrcAt w vr vz vl s) (hT : Tab w) (hok : ROk s x) :
    Calls Tryz.prog 24 #[.agg #[vr, vz, vl], .agg #[.int .i64 x.off, .string x.rl, .int .i64 x.sv, .string x.fm, .bool x.en, .int .i64 x.yr, .int .i64 x.un.mo, .int .i64 x.un.k, .int .i64 x.un.a, .int .i64 x.un.n, .int .i64 x.un.t, .int .i64 x.un.c]] w fun e w' => ∃ v, e = .returned v ∧ (SlAt w' 4 RChg v (trE s.rules x) ∧ FrV (w.heap.size + 2) v) ∧ Below w.heap.size w w' := by
  obtain ⟨ic, hic, hc0, hc1, hc2⟩ := info_parts info_chg
  obtain ⟨ir, hir, hr0, hr1, hr2⟩ := info_parts info_rul
  have Z0 := Lib.hid (ZBx.new w vr vz vl x)
  obtain ⟨W0, hW0⟩ : ∃ W0, W0 = (w.alloc (.cells #[vr, vz, vl] 26)).alloc (.cells #[.int .i64 x.off, .string x.rl, .int .i64 x.sv, .string x.fm, .bool x.en, .int .i64 x.yr, .int .i64 x.un.mo, .int .i64 x.un.k, .int .i64 x.un.a, .int .i64 x.un.n, .int .i64 x.un.t, .int .i64 x.un.c] 62) := ⟨_, rfl⟩
  rw [← hW0] at Z0
  have HW := Lib.hid hW0
  have HS := Lib.hid hs
  have HT := Lib.hid hT
  have HO := Lib.hid hok
  obtain ⟨ar, cr, rfl, hl⟩ := hs.1.shape
  have hml : s.rules.length ≤ 200 := hok.n
  clear hs hT hok hW0 hl
  go_enter Tryz.func24, Tryz.ntmps24
  go_upto_region 1 with fail
  rw [← HW.out]
  obtain ⟨g0, g1, g2⟩ := Z0.out.1
  go_wp2
  go_loopw [5, 6, 19] (fun vo vu i wr => ∃ k : Nat, k ≤ s.rules.length ∧ i = .int .i64 k ∧ Hid (ChK w wr s.rules x.rl k vo vu) ∧ Hid (ZBx w wr (.slice ar s.rules.length cr) vz vl x)) (fun _ _ i _ => (s.rules.length - intOf i).toNat)
  case atStart => exact ⟨0, Nat.zero_le _, rfl, ChR.nil _ _, Z0⟩
  case round =>
    obtain ⟨k, hk, rfl, HK, ZK⟩ := hrel
    obtain ⟨q0, q1, q2⟩ := ZK.out.1
    have hz2 : w.heap.size + 1 < wr.heap.size := ZK.out.2.2.2
    obtain ⟨c0, c1, -, -, -, -, -, -, -, -, -, -⟩ := ZK.out.era
    by_cases hlt : k < s.rules.length
    · have hki : (k : Int) < (s.rules.length : Int) := by omega
      obtain ⟨b, off, rfl, hb, ⟨d0, d1, d2, d3, d4, d5, d6, d7, d8, d9, d10⟩, -⟩ := elemRul (ZK.out.src HS.out).1 k hlt
      have HSN := Lib.hid (trn0_snoc s.rules x.rl k hlt)
      have HRE := Lib.hid (HO.out.ok _ (List.getElem_mem hlt))
      have HL0 := Lib.hid (trn0_ok x.rl s.rules HO.out.ok k hk)
      generalize s.rules[k] = r at *
      obtain ⟨l0, hl0⟩ : ∃ l0, l0 = trn0 (s.rules.take k) x.rl := ⟨_, rfl⟩
      unfold ChK at HK
      rw [← hl0] at HK HSN HL0
      have S1 := Lib.hid (ChS.new ZK.out HK.out r)
      by_cases hnm : r.nm = x.rl
      · have e1 : (r.nm.toList == x.rl.toList) = true := by rw [streq, decide_eq_true hnm]
        have HS1 : Hid (trn0 (s.rules.take (k + 1)) x.rl = addK r l0 (r.to - r.fr + 1).toNat) := by
          show _ = _
          rw [HSN.out]
          unfold addR
          rw [if_pos hnm]
        clear hl0 hnm HSN
        obtain ⟨wo, rfl⟩ : ∃ wo : World, wo = wr := ⟨_, rfl⟩
        go_wp2
        obtain ⟨K, hK⟩ : ∃ K : Nat, K = (r.to - r.fr + 1).toNat := ⟨_, rfl⟩
        have hre := rulE_zero HRE.out
        have hch := chkM_zero hre.2.2.2.2.2.2.2
        have hKt : r.fr + (K : Int) = r.to + 1 := by omega
        have hfr : 1900 ≤ r.fr ∧ r.to ≤ 2099 := by omega
        have hti : 0 ≤ r.at'.t ∧ r.at'.t ≤ 604800 := by omega
        obtain ⟨hfr1, hfr2⟩ := hfr
        obtain ⟨hti1, hti2⟩ := hti
        have HKE := Lib.hid hK
        clear hK hre hch e1
        have S10 : Hid (ChS w (wo.alloc (.cells #[.string r.nm, .int .i64 r.fr, .int .i64 r.to, .int .i64 r.at'.mo, .int .i64 r.at'.k, .int .i64 r.at'.a, .int .i64 r.at'.n, .int .i64 r.at'.t, .int .i64 r.at'.c, .int .i64 r.sv, .string r.lt] 84)) wo.heap.size r (.slice (some ⟨b, off, none⟩) s.rules.length cr) vz vl x u5 u6 (addK r l0 0) ((addK r l0 0).map Trn.r)) := S1
        clear S1
        go_loopw [5, 6, 9] (fun vo vu y wr => ∃ j : Nat, j ≤ K ∧ y = .int .i64 (r.fr + (j : Int)) ∧ Hid (ChS w wr wo.heap.size r (.slice (some ⟨b, off, none⟩) s.rules.length cr) vz vl x vo vu (addK r l0 j) ((addK r l0 j).map Trn.r))) (fun _ _ y _ => (r.to + 1 - intOf y).toNat)
        case atStart => exact ⟨0, Nat.zero_le _, by first | rfl | simp, S10⟩
        case round =>
          obtain ⟨j, hj, rfl, SJ⟩ := hrel
          clear S10
          obtain ⟨L, hL⟩ : ∃ L, L = addK r l0 j := ⟨_, rfl⟩
          rw [← hL] at SJ
          have HLS : Hid (addK r l0 (j + 1) = addY r L (r.fr + j)) := by show _ = _; rw [hL]; rfl
          have HLL : Hid (L.length ≤ 40000) := by
            show _ ≤ _
            have h1 := addK_len r l0 j
            have h2 := HL0.out.2
            rw [hL]
            omega
          have HLE := Lib.hid hL
          clear hL
          obtain ⟨us, hus⟩ : ∃ us, us = L.map Trn.r := ⟨_, rfl⟩
          rw [← hus] at SJ
          have HUL : Hid (us.length = L.length) := by show _ = _; rw [hus, List.length_map]
          have HUE := Lib.hid hus
          clear hus
          obtain ⟨ao, co, rfl⟩ := own_shape SJ.out.rw.1
          obtain ⟨au, cu, rfl⟩ := own_shape SJ.out.rw.2
          obtain ⟨d0, d1, d2, d3, d4, d5, d6, d7, d8, d9, d10⟩ := SJ.out.cells
          by_cases hle : r.fr + (j : Int) ≤ r.to
          · have HFI := Lib.hid (find_r r (r.fr + j) wr (HT.out.below SJ.out.zb.2.2.1))
            go_wp2_with fail
            refine HFI.out.mono ?_; rintro e w3 ⟨rfl, hb3⟩
            have S3 := Lib.hid (SJ.out.below hb3)
            clear hb3 d0 d1 d2 d3 d4 d5 d6 d7 d8 d9 d10 SJ HFI
            obtain ⟨d0, d1, d2, d3, d4, d5, d6, d7, d8, d9, d10⟩ := S3.out.cells
            by_cases hf : fdE r (r.fr + j) = 0
            · have hnb := fnd_bd _ _ _ _ _ hf
              have HLY : Hid (addY r L (r.fr + j) = L ++ [⟨r, fdN r (r.fr + j) * 86400 + r.at'.t, (L.length : Int), 0⟩]) := by show _ = _; unfold addY; rw [if_pos hf]
              rw [if_pos hf, hf]
              obtain ⟨N, hN⟩ : ∃ N, N = fdN r (r.fr + j) := ⟨_, rfl⟩
              have hN1 : -26000 ≤ N ∧ N ≤ 48000 := by rw [hN]; exact hnb
              obtain ⟨hN1, hN2⟩ := hN1
              rw [← hN] at HLY ⊢
              have hul : us.length ≤ 40000 := by rw [HUL.out]; exact HLL.out
              have hll := HLL.out
              clear hf hnb hN
              obtain ⟨y0, hy0⟩ : ∃ y0 : Trn, y0 = ⟨r, N * 86400 + r.at'.t, (us.length : Int), 0⟩ := ⟨_, rfl⟩
              have HY0 : Hid (chV y0 = [.int .i64 (N * 86400 + r.at'.t), .int .i64 (us.length : Int), .int .i64 r.sv, .string r.lt]) := by show _ = _; rw [hy0]; rfl
              have HYE := Lib.hid hy0
              clear hy0
              go_wp2_with (first | (at_builtin; refine wpList_append_own_at _ rfl (.tmp 49) (.tmp 63) 68 rfl (w.heap.size + 2) 134 ic (.agg #[.int .i64 0, .int .i64 0, .int .i64 0, .string ⟨#[]⟩]) 4 40 Tryz.underlying68 hic hc0 hc1 hc2 rfl (by decide) _ _ _ rfl (S3.out.rw.1.alloc _) ⟨w3.heap.size, 0, none⟩ 1 1 (chV y0) rfl rfl (cells_at _ _ _ _ _ rfl (by rw [HY0.out])) (chV_one y0) (by unfold maxLen; omega) (by omega) (by rw [size_alloc]; have := S3.out.zb.2.2.2; omega) ?_; intro v4 w4 hown hgrow _ hat; have S4 := Lib.hid (S3.out.out hown rfl hgrow hat); obtain ⟨a4, c4, rfl⟩ := own_shape hown; clear hown hgrow hat d0 d1 d2 d3 d4 d5 d6 d7 d8 d9 d10; obtain ⟨d0, d1, d2, d3, d4, d5, d6, d7, d8, d9, d10⟩ := S4.out.cells) | (at_builtin; refine wpList_append_own_at _ rfl (.tmp 65) (.tmp 67) 22 rfl (w.heap.size + 2) 84 ir (.agg #[.string ⟨#[]⟩, .int .i64 0, .int .i64 0, .int .i64 0, .int .i64 0, .int .i64 0, .int .i64 0, .int .i64 0, .int .i64 0, .int .i64 0, .string ⟨#[]⟩]) 11 104 Tryz.underlying22 hir hr0 hr1 hr2 rfl (by decide) _ _ _ rfl (S4.out.rw.2.alloc _) ⟨w4.heap.size, 0, none⟩ 1 1 (RulV r) rfl rfl (cells_at _ _ _ _ _ rfl rfl) (rulV_one r) (by unfold maxLen; omega) (by omega) (by rw [size_alloc]; have := S4.out.zb.2.2.2; omega) ?_; intro v5 w5 hown hgrow _ hat; have S5 := Lib.hid (S4.out.rul hown rfl hgrow hat); obtain ⟨a5, c5, rfl⟩ := own_shape hown; clear hown hgrow hat d0 d1 d2 d3 d4 d5 d6 d7 d8 d9 d10))
              go_roundw
              case rel =>
                refine ⟨j + 1, by omega, by go_num, ?_⟩
                rw [HLS.out, HLY.out]
                have h := S5.out
                have e0 : y0 = ⟨r, N * 86400 + r.at'.t, (L.length : Int), 0⟩ := by rw [HYE.out, HUL.out]
                rw [e0] at h
                have e : (L ++ [(⟨r, N * 86400 + r.at'.t, (L.length : Int), 0⟩ : Trn)]).map Trn.r = L.map Trn.r ++ [r] := by rw [List.map_append]; rfl
                rw [e, ← HUE.out]
                exact h
              case measure => simp [intOf]; omega
            · have HLY : Hid (addY r L (r.fr + j) = L) := by show _ = _; unfold addY; rw [if_neg hf]
              have hf' : (fdE r (r.fr + j) == 0) = false := by rw [beq_eq_false_iff_ne]; exact hf
              rw [if_neg hf]
              generalize fdE r (r.fr + j) = E at *
              clear hf
              go_wp2
              go_roundw
              case rel => exact ⟨j + 1, by omega, by go_num, by rw [HLS.out, HLY.out, ← HUE.out]; exact S3⟩
              case measure => simp [intOf]; omega
          · have hjK : j = K := by omega
            have hle' : ¬ r.fr + (j : Int) ≤ r.to := hle
            have HRK : Hid (ChK w wr s.rules x.rl (k + 1) (.slice ao L.length co) (.slice au us.length cu)) := by
              show ChK _ _ _ _ _ _ _
              unfold ChK
              rw [HS1.out, ← HKE.out, ← hjK, ← HLE.out, ← HUE.out]
              exact SJ.out.rw
            have ZK2 := Lib.hid SJ.out.zb
            clear hle hjK
            go_wp2
            go_roundw
            case rel => exact ⟨k + 1, by omega, by go_num, HRK, ZK2⟩
            case measure => simp [intOf]; omega
      · have e1 : (r.nm.toList == x.rl.toList) = false := by rw [streq, decide_eq_false hnm]
        have HS1 : Hid (trn0 (s.rules.take (k + 1)) x.rl = l0) := by
          show _ = _
          rw [HSN.out]
          unfold addR
          rw [if_neg hnm]
        clear hl0 hnm HSN
        go_wp2
        go_roundw
        case rel => exact ⟨k + 1, by omega, by go_num, by show ChK _ _ _ _ _ _ _; unfold ChK; rw [HS1.out]; exact S1.out.rw, S1.out.zb⟩
        case measure => simp [intOf]; omega
    · obtain rfl : k = s.rules.length := by omega
      have hnl : ¬ (s.rules.length : Int) < (s.rules.length : Int) := by omega
      obtain ⟨L, hL⟩ : ∃ L, L = trn0 s.rules x.rl := ⟨_, rfl⟩
      obtain ⟨us, hus⟩ : ∃ us, us = L.map Trn.r := ⟨_, rfl⟩
      obtain ⟨hTO, hTL⟩ := trn0_all s.rules x.rl HO.out.ok
      unfold ChK at HK
      rw [List.take_length] at HK
      rw [← hL] at HK hTO hTL
      rw [← hus] at HK
      have HTE : Hid (trE s.rules x = atZ x.off 0 (so L)) := by show _ = _; unfold trE trns; rw [hL]
      have hLl : L.length ≤ 40000 := by omega
      obtain ⟨ao, co, rfl⟩ := own_shape HK.out.1
      obtain ⟨au, cu, rfl⟩ := own_shape HK.out.2
      have HTO := Lib.hid hTO
      have HUS := Lib.hid hus
      clear hL hus hTO hTL hlt hk
      rcases row_of_own HK.out.1 with ⟨rfl, rfl, rfl⟩ | ⟨D, off, rfl, hrow, hD, hob, hc1, hc2⟩
      · go_wp2_with fail
        refine (sortStable_nil 0 wr).mono ?_
        rintro e w3 ⟨rfl, rfl⟩
        go_wp2
        refine wp_loop_rounds 1 ?_
        rw [rounds_succ]
        go_wp2
        go_ret
        exact ⟨_, rfl, by rw [HTE.out, so_self (show Sd [] from List.Pairwise.nil)]; exact ⟨.inl ⟨none, 0, rfl, rfl⟩, FrV.nil _⟩, ZK.out.2.2.1⟩
      · have HOW := Lib.hid HK.out
        have HSR := Lib.hid (sortStable_any D off L.length co L wr hrow rfl HTO.out.tgs HTO.out.no (by omega))
        have HD := Lib.hid hD
        have HC := Lib.hid (And.intro hc1 hc2)
        have HOB := Lib.hid hob
        clear hrow hD hc1 hc2 hob q0 q1 q2 c0 c1
        go_wp2_with fail
        refine HSR.out.mono ?_
        rintro e w3 ⟨rfl, hr3, hg3⟩
        obtain ⟨S, hS⟩ : ∃ S, S = so L := ⟨_, rfl⟩
        rw [← hS] at hr3 HTE
        have hSl : S.length = L.length := by rw [hS, so_len]
        have HSL := Lib.hid hSl
        have HSM : Hid (∀ y ∈ S, y ∈ L) := by show ∀ y ∈ S, y ∈ L; rw [hS]; exact fun y hy => so_mem hy
        have hB3 : Below (w.heap.size + 2) wr w3 := hg3.to ZK.out.2.2.2 HD.out
        have Z3 := Lib.hid (ZK.out.low hB3)
        -- the rules' row is another block
        have hne : (Value.slice au us.length cu).ownBlock = none ∨ (Value.slice au us.length cu).ownBlock ≠ some D := by
          rcases own_apart HOW.out.2 HOW.out.1 (by decide) with e | e
          · exact .inl e
          · exact .inr (by rw [← HOB.out]; exact e)
        have HU3 : Hid (∀ wx, GW D w3 wx → SlAt wx 11 RRul (.slice au us.length cu) us) := by
          show ∀ wx, GW D w3 wx → SlAt _ _ _ _ _
          intro wx hgx
          have h3 := (HOW.out.2.kept hg3 hne).kept hgx hne
          refine slAt_of_own (by omega) (fun _ => rfl) (fun r hr => ?_) h3
          rw [HUS.out] at hr
          obtain ⟨y, hy, rfl⟩ := List.mem_map.1 hr
          obtain ⟨cs, _, h64⟩ := HS.out.1.all _ (HTO.out.rl y hy).1
          exact ⟨rfl, h64⟩
        have R3 := Lib.hid hr3
        have HBD := Lib.hid hB3
        clear hS hSl hr3 hg3 hB3 HSR HOW hne
        obtain ⟨c0, -, -, -, -, -, -, -, -, -, -, -⟩ := Z3.out.era
        have hSi : (L.length : Int) = (S.length : Int) := by have := HSL.out; omega
        rw [← HSL.out]
        have hS4 : S.length ≤ 40000 := by have := HSL.out; omega
        go_wp2
        clear hSi
        go_loopw [12, 74] (fun sv i wx => ∃ k : Nat, k ≤ S.length ∧ i = .int .i64 k ∧ sv = .int .i64 (svA S k) ∧ Hid (RowC wx D off (mixL x.off S k)) ∧ Hid (GW D w3 wx)) (fun _ i _ => (S.length - intOf i).toNat)
        case atStart => exact ⟨0, Nat.zero_le _, rfl, rfl, by rw [mix_zero]; exact R3, GW.refl _ _⟩
        case round =>
          obtain ⟨k, hk, rfl, rfl, RK, GK⟩ := hrel
          by_cases hlt : k < S.length
          · have hki : (k : Int) < (S.length : Int) := by omega
            obtain ⟨y, hy⟩ : ∃ y, y = S[k] := ⟨_, rfl⟩
            have hym : y ∈ L := HSM.out y (by rw [hy]; exact List.getElem_mem _)
            obtain ⟨i, hi, hiy⟩ := List.mem_iff_getElem.1 hym
            have htg : y.tg = (i : Int) := by rw [← hiy]; exact HTO.out.tg i hi
            have hrl := HTO.out.rl y hym
            have hno := HTO.out.no y hym
            obtain ⟨-, -, -, -, -, hsv1, hsv2, hch⟩ := rulE_zero (HO.out.ok _ hrl.1)
            obtain ⟨-, hcl1, hcl2, -, -, -, -⟩ := chkM_zero hch
            have hsvb := svA_bd (R := fun _ => True) (l := S) (fun z hz => by
              obtain ⟨-, -, -, -, -, a, b, -⟩ := rulE_zero (HO.out.ok _ (HTO.out.rl z (HSM.out z hz)).1)
              exact ⟨a, b⟩) k
            obtain ⟨hsb1, hsb2⟩ := hsvb
            obtain ⟨hno1, hno2⟩ := hno
            obtain ⟨hof1, hof2⟩ := HO.out.o
            have hui : i < us.length := by rw [HUS.out, List.length_map]; exact hi
            have huy : us[i] = y.r := by
              have : us[i]? = some y.r := by rw [HUS.out, List.getElem?_map, List.getElem?_eq_getElem hi, hiy]; rfl
              rw [List.getElem?_eq_getElem hui] at this
              exact Option.some.inj this
            have hmx : (mixL x.off S k)[k]? = some y := by rw [hy]; exact mix_at hlt
            obtain ⟨y0, y1, y2, y3⟩ := RK.out.at hmx
            rw [htg] at y1
            have fz := RK.out.2.1
            have hDz : D < wr.heap.size := RK.out.2.2
            obtain ⟨bq, oq, hau, hbq, ⟨-, -, -, -, -, -, -, -, u8, -, -⟩, -⟩ := elemRul (HU3.out wr GK.out) i hui
            rw [huy] at u8
            subst hau
            have ZK2 := Z3.out.low (GK.out.to Z3.out.2.2.2 HD.out)
            obtain ⟨g0, -, -, -, -, -, -, -, -, -, -, -⟩ := ZK2.era
            have hii : (i : Int) < (us.length : Int) := by omega
            have hw0 : w.heap.size + 1 < wr.heap.size := ZK2.2.2.2
            have HMX := Lib.hid hmx
            have HSV : Hid (svA S (k + 1) = y.r.sv) := by show _ = _; rw [svA_succ hlt, hy]
            have HIN : Hid (∀ T, insT' x.off (svA S k) y = T → mixL x.off S (k + 1) = (mixL x.off S k).set k ⟨y.r, y.no, T, T⟩) := by
              show ∀ T, _ → _
              intro T hT
              rw [mix_succ hlt, atL_sv x.off S k hlt, ← hy, hT]
              rfl
            have HINS : Hid (insT' x.off (svA S k) y = y.no - (if y.r.at'.c = 0 then x.off + svA S k else if y.r.at'.c = 1 then x.off else 0)) := by show _ = _; rfl
            clear hym hiy htg hrl hch hui huy hmx hy ZK2 hlt
            generalize svA S k = sv at *
            rcases (show y.r.at'.c = 0 ∨ y.r.at'.c = 1 ∨ y.r.at'.c = 2 by omega) with hc | hc | hc
            · rw [hc] at u8
              have HT : Hid (insT' x.off sv y = y.no - (x.off + sv)) := by show _ = _; rw [HINS.out, if_pos hc]
              clear hc hcl1 hcl2
              go_wp2
              go_roundw
              case rel =>
                refine ⟨k + 1, by omega, by go_num, by rw [HSV.out], ?_, (GK.out.set _ _).below ((Below.refl _ _).alloc (Nat.le_refl _) _)⟩
                rw [HIN.out _ HT.out]
                exact (RK.out.put1 HMX.out _ _).below ((Below.refl _ _).alloc (Nat.le_refl _) _)
              case measure => simp [intOf]; omega
            · rw [hc] at u8
              have HT : Hid (insT' x.off sv y = y.no - x.off) := by show _ = _; rw [HINS.out, if_neg (by omega), if_pos hc]
              clear hc hcl1 hcl2
              go_wp2
              go_roundw
              case rel =>
                refine ⟨k + 1, by omega, by go_num, by rw [HSV.out], ?_, (GK.out.set _ _).below ((Below.refl _ _).alloc (Nat.le_refl _) _)⟩
                rw [HIN.out _ HT.out]
                exact (RK.out.put1 HMX.out _ _).below ((Below.refl _ _).alloc (Nat.le_refl _) _)
              case measure => simp [intOf]; omega
            · rw [hc] at u8
              have HT : Hid (insT' x.off sv y = y.no) := by show _ = _; rw [HINS.out, if_neg (by omega), if_neg (by omega), Int.sub_zero]
              clear hc hcl1 hcl2
              go_wp2
              go_roundw
              case rel =>
                refine ⟨k + 1, by omega, by go_num, by rw [HSV.out], ?_, (GK.out.set _ _).below ((Below.refl _ _).alloc (Nat.le_refl _) _)⟩
                rw [HIN.out _ HT.out]
                exact (RK.out.put1 HMX.out _ _).below ((Below.refl _ _).alloc (Nat.le_refl _) _)
              case measure => simp [intOf]; omega
          · obtain rfl : k = S.length := by omega
            have hnl2 : ¬ (S.length : Int) < (S.length : Int) := by omega
            have HF : Hid (SlAt wr 4 RChg (.slice (some ⟨D, off, none⟩) S.length co) (trE s.rules x)) := by
              show SlAt _ _ _ _ _
              have h := RK.out
              rw [mix_end] at h
              have h2 := h.sl (co := co) (by rw [atZ_len, HSL.out]; exact HC.out.1) HC.out.2
              rw [atZ_len] at h2
              rw [HTE.out]
              exact h2
            have HBF : Hid (Below w.heap.size w wr) := by
              show Below _ _ _
              have h1 := GK.out.to (B := w.heap.size + 2) Z3.out.2.2.2 HD.out
              exact Z3.out.2.2.1.trans (h1.mono (Nat.le_add_right _ _))
            clear hlt hk
            go_wp2
            go_ret
            exact ⟨_, rfl, ⟨HF.out, FrV.one HD.out⟩, HBF.out⟩
theorem changes_any (s : Src) (x : Ero) (vr vz vl : Value) (w : World) (hs : SrcAt w vr vz vl s) (hT : Tab w) (hok : ROk s x) :
    Calls Tryz.prog 24 #[.agg #[vr, vz, vl], .agg #[.int .i64 x.off, .string x.rl, .int .i64 x.sv, .string x.fm, .bool x.en, .int .i64 x.yr, .int .i64 x.un.mo, .int .i64 x.un.k, .int .i64 x.un.a, .int .i64 x.un.n, .int .i64 x.un.t, .int .i64 x.un.c]] w fun e w' => ∃ v, e = .returned v ∧ SlAt w' 4 RChg v (trE s.rules x) ∧ Below w.heap.size w w' := by
  refine (changes_own s x vr vz vl w hs hT hok).mono ?_
  rintro e w' ⟨v, h1, h2, h3⟩
  exact ⟨v, h1, h2.1, h3⟩
end Go.Proofs.YtdpbedkppomffaaGreatDoor
namespace Go.Proofs.YtdpbedkppomffaaGreatDoor
set_option linter.unusedVariables false
set_option linter.unusedSimpArgs false
open Go.ChangeShapes Go.WideShapes Go.ChangeAt Go.RowKit Civ

theorem info_tur : (Tryz.prog.info? 97).map (fun i => (i.zero, i.size, i.bytes)) = some (some (.agg #[.string ⟨#[]⟩, .int .i64 0, .int .i64 0, .int .i64 0, .int .i64 0, .int .i64 0, .int .i64 0, .int .i64 0, .int .i64 0, .int .i64 0, .string ⟨#[]⟩, .int .i64 0, .int .i64 0]), 13, 120) := by kernel_rfl
def turV (x : Trn) : List Value := [.string x.r.nm, .int .i64 x.r.fr, .int .i64 x.r.to, .int .i64 x.r.at'.mo, .int .i64 x.r.at'.k, .int .i64 x.r.at'.a, .int .i64 x.r.at'.n, .int .i64 x.r.at'.t, .int .i64 x.r.at'.c, .int .i64 x.r.sv, .string x.r.lt, .int .i64 x.no, .int .i64 x.ins]
def TurAt (w : World) (b o : Nat) (x : Trn) : Prop := w.cell? ⟨b, o, none⟩ = some (.string x.r.nm) ∧ w.cell? ⟨b, o + 1, none⟩ = some (.int .i64 x.r.fr) ∧ w.cell? ⟨b, o + 2, none⟩ = some (.int .i64 x.r.to) ∧ w.cell? ⟨b, o + 3, none⟩ = some (.int .i64 x.r.at'.mo) ∧ w.cell? ⟨b, o + 4, none⟩ = some (.int .i64 x.r.at'.k) ∧ w.cell? ⟨b, o + 5, none⟩ = some (.int .i64 x.r.at'.a) ∧ w.cell? ⟨b, o + 6, none⟩ = some (.int .i64 x.r.at'.n) ∧ w.cell? ⟨b, o + 7, none⟩ = some (.int .i64 x.r.at'.t) ∧ w.cell? ⟨b, o + 8, none⟩ = some (.int .i64 x.r.at'.c) ∧ w.cell? ⟨b, o + 9, none⟩ = some (.int .i64 x.r.sv) ∧ w.cell? ⟨b, o + 10, none⟩ = some (.string x.r.lt) ∧ w.cell? ⟨b, o + 11, none⟩ = some (.int .i64 x.no) ∧ w.cell? ⟨b, o + 12, none⟩ = some (.int .i64 x.ins)
theorem TurAt.block {w w' : World} {b o : Nat} {x : Trn} (h : TurAt w b o x) (e : w'.heap[b]? = w.heap[b]?) : TurAt w' b o x := by
  obtain ⟨h0, h1, h2, h3, h4, h5, h6, h7, h8, h9, h10, h11, h12⟩ := h
  exact ⟨(World.cell?_of_block (a := ⟨b, _, none⟩) e).trans h0, (World.cell?_of_block (a := ⟨b, _, none⟩) e).trans h1, (World.cell?_of_block (a := ⟨b, _, none⟩) e).trans h2, (World.cell?_of_block (a := ⟨b, _, none⟩) e).trans h3, (World.cell?_of_block (a := ⟨b, _, none⟩) e).trans h4, (World.cell?_of_block (a := ⟨b, _, none⟩) e).trans h5, (World.cell?_of_block (a := ⟨b, _, none⟩) e).trans h6, (World.cell?_of_block (a := ⟨b, _, none⟩) e).trans h7, (World.cell?_of_block (a := ⟨b, _, none⟩) e).trans h8, (World.cell?_of_block (a := ⟨b, _, none⟩) e).trans h9, (World.cell?_of_block (a := ⟨b, _, none⟩) e).trans h10, (World.cell?_of_block (a := ⟨b, _, none⟩) e).trans h11, (World.cell?_of_block (a := ⟨b, _, none⟩) e).trans h12⟩
theorem turV_one (x : Trn) : ∀ u ∈ turV x, u.oneCell' = true := by
  intro u hu
  simp [turV] at hu
  rcases hu with rfl | rfl | rfl | rfl | rfl | rfl | rfl | rfl | rfl | rfl | rfl | rfl | rfl <;> rfl
/-- the block D holds turns with their rules from off on, and may be written. -/
def RowT (w : World) (D off : Nat) (l : List Trn) : Prop := (∀ i (h : i < l.length), TurAt w D (off + i * 13) l[i]) ∧ (∀ o, w.frozen? ⟨D, o, none⟩ = false) ∧ D < w.heap.size
theorem RowT.block {w w' : World} {D off : Nat} {l : List Trn} (h : RowT w D off l) (e : w'.heap[D]? = w.heap[D]?) (hz : D < w'.heap.size) : RowT w' D off l :=
  ⟨fun i hi => (h.1 i hi).block e, fun o => (World.frozen?_of_block (a := ⟨D, o, none⟩) e).trans (h.2.1 o), hz⟩
theorem RowT.below {w w' : World} {D off : Nat} {l : List Trn} (h : RowT w D off l) (hb : Below w.heap.size w w') : RowT w' D off l := h.block (hb.block D h.2.2) (Nat.lt_of_lt_of_le h.2.2 hb.size)
theorem RowT.at {w : World} {D off : Nat} {l : List Trn} (h : RowT w D off l) {i : Nat} {x : Trn} (hx : l[i]? = some x) : TurAt w D (off + i * 13) x := by
  obtain ⟨hi, rfl⟩ := List.getElem?_eq_some_iff.1 hx
  exact h.1 i hi
theorem RowT.take {w : World} {D off : Nat} {l : List Trn} (h : RowT w D off l) (k : Nat) : RowT w D off (l.take k) :=
  ⟨fun i hi => by rw [List.length_take] at hi; rw [List.getElem_take]; exact h.1 i (by omega), h.2⟩
theorem RowT.drop {w : World} {D off : Nat} {l : List Trn} (h : RowT w D off l) (k : Nat) : RowT w D (off + k * 13) (l.drop k) :=
  ⟨fun i hi => by
    rw [List.length_drop] at hi
    rw [List.getElem_drop, show off + k * 13 + i * 13 = off + (k + i) * 13 by rw [Nat.add_mul]; omega]
    exact h.1 (k + i) (by omega), h.2⟩
/-- a slice of turns: none, or a row from block B on. -/
def SlT (w : World) (B : Nat) (v : Value) (l : List Trn) : Prop := ∃ a c, v = .slice a l.length c ∧ l.length ≤ c ∧ c ≤ maxLen ∧ (l = [] ∨ ∃ D off, a = some ⟨D, off, none⟩ ∧ RowT w D off l ∧ B ≤ D)
theorem tur_of_own {w : World} {B co : Nat} {ao : Option Addr} {L : List Trn} (h : w.ownsRow B 97 13 (.slice ao L.length co) L.length (L.flatMap turV)) : SlT w B (.slice ao L.length co) L := by
  rcases h.2 with ⟨e, h0⟩ | ⟨g, cap, cur, e, hb, hh, hc, hm, hs', ht⟩
  · simp only [Value.slice.injEq] at e
    obtain ⟨rfl, -, rfl⟩ := e
    exact ⟨none, 0, rfl, by omega, Nat.zero_le _, .inl (List.length_eq_zero_iff.1 h0)⟩
  · simp only [Value.slice.injEq] at e
    obtain ⟨rfl, -, rfl⟩ := e
    refine ⟨_, _, rfl, hc, hm, .inr ⟨g, 0, rfl, ⟨fun i hi => ?_, fun o => h.frozenAt o, (h.lt g rfl).2⟩, hb⟩⟩
    have k : ∀ j, j < 13 → w.cell? ⟨g, 0 + i * 13 + j, none⟩ = (turV L[i])[j]? := fun j hj => by
      rw [Nat.zero_add, h.cellAt _ (by omega)]
      exact flat_at (sz := 13) (fun _ => rfl) L i j hi hj
    exact ⟨k 0 (by omega), k 1 (by omega), k 2 (by omega), k 3 (by omega), k 4 (by omega), k 5 (by omega), k 6 (by omega), k 7 (by omega), k 8 (by omega), k 9 (by omega), k 10 (by omega), k 11 (by omega), k 12 (by omega)⟩
theorem SlT.below {w w' : World} {B : Nat} {v : Value} {l : List Trn} (h : SlT w B v l) (hb : Below w.heap.size w w') : SlT w' B v l := by
  obtain ⟨a, c, e, h0, h1, h2⟩ := h
  refine ⟨a, c, e, h0, h1, ?_⟩
  rcases h2 with h2 | ⟨D, off, e2, h3, h4⟩
  · exact .inl h2
  · exact .inr ⟨D, off, e2, h3.below hb, h4⟩
/-- two lists in order, put together as far as i and k. -/
structure MgJ (A B : List Trn) (i k : Nat) (O : List Trn) : Prop where
  pm : O.Perm (A.take i ++ B.take k)
  sd : Sd O
  la : Lo O (A.drop i)
  lb : Lo O (B.drop k)
theorem MgJ.start (A B : List Trn) : MgJ A B 0 0 [] := ⟨List.Perm.refl _, List.Pairwise.nil, lo_nil_l _, lo_nil_l _⟩
theorem sd_at {A : List Trn} (h : Sd A) {i : Nat} {x : Trn} (hx : A[i]? = some x) : ∃ hi : i < A.length, A.drop i = x :: A.drop (i + 1) ∧ (∀ y ∈ A.drop (i + 1), tLt x y) ∧ A.take (i + 1) = A.take i ++ [x] := by
  obtain ⟨hi, rfl⟩ := List.getElem?_eq_some_iff.1 hx
  have e : A.drop i = A[i] :: A.drop (i + 1) := List.drop_eq_getElem_cons hi
  refine ⟨hi, e, fun y hy => ?_, by rw [List.take_succ_eq_append_getElem hi]⟩
  have : Sd (A.drop i) := List.Pairwise.sublist (List.drop_sublist _ _) h
  rw [e] at this
  exact (List.pairwise_cons.1 this).1 y hy
theorem MgJ.left {A B O : List Trn} {i k : Nat} {x y : Trn} (h : MgJ A B i k O) (hA : Sd A) (hB : Sd B) (hx : A[i]? = some x) (hy : B[k]? = some y) (hxy : tLt x y) : MgJ A B (i + 1) k (O ++ [x]) := by
  obtain ⟨hi, a1, a2, a3⟩ := sd_at hA hx
  obtain ⟨hk, b1, b2, b3⟩ := sd_at hB hy
  refine ⟨?_, sd_app.2 ⟨h.sd, List.pairwise_singleton _ _, fun u hu v hv => ?_⟩, fun u hu v hv => ?_, fun u hu v hv => ?_⟩
  · rw [a3, List.append_assoc]
    refine (h.pm.append_right [x]).trans ?_
    rw [List.append_assoc]
    exact List.Perm.append_left _ List.perm_append_comm
  · obtain rfl := List.mem_singleton.1 hv
    exact h.la u hu v (by rw [a1]; simp)
  · rcases List.mem_append.1 hu with hu | hu
    · exact h.la u hu v (by rw [a1]; exact List.mem_cons_of_mem _ hv)
    · obtain rfl := List.mem_singleton.1 hu
      exact a2 v hv
  · rcases List.mem_append.1 hu with hu | hu
    · exact h.lb u hu v hv
    · obtain rfl := List.mem_singleton.1 hu
      rw [b1] at hv
      rcases List.mem_cons.1 hv with rfl | hv
      · exact hxy
      · exact tLt_trans hxy (b2 v hv)
theorem MgJ.right {A B O : List Trn} {i k : Nat} {y : Trn} (h : MgJ A B i k O) (hA : Sd A) (hB : Sd B) (hy : B[k]? = some y) (hxy : ∀ x, A[i]? = some x → tLt y x) : MgJ A B i (k + 1) (O ++ [y]) := by
  obtain ⟨hk, b1, b2, b3⟩ := sd_at hB hy
  refine ⟨?_, sd_app.2 ⟨h.sd, List.pairwise_singleton _ _, fun u hu v hv => ?_⟩, fun u hu v hv => ?_, fun u hu v hv => ?_⟩
  · rw [b3, ← List.append_assoc]
    exact h.pm.append_right [y]
  · obtain rfl := List.mem_singleton.1 hv
    exact h.lb u hu v (by rw [b1]; simp)
  · rcases List.mem_append.1 hu with hu | hu
    · exact h.la u hu v hv
    · obtain rfl := List.mem_singleton.1 hu
      rcases hx : A[i]? with _ | x
      · rw [List.drop_of_length_le (List.getElem?_eq_none_iff.1 hx)] at hv; cases hv
      · obtain ⟨hi, a1, a2, a3⟩ := sd_at hA hx
        rw [a1] at hv
        rcases List.mem_cons.1 hv with rfl | hv
        · exact hxy _ hx
        · exact tLt_trans (hxy _ hx) (a2 v hv)
  · rcases List.mem_append.1 hu with hu | hu
    · exact h.lb u hu v (by rw [b1]; exact List.mem_cons_of_mem _ hv)
    · obtain rfl := List.mem_singleton.1 hu
      exact b2 v hv
theorem MgJ.done {A B O : List Trn} {i : Nat} (h : MgJ A B i B.length O) (hA : Sd A) : so (A ++ B) = O ++ A.drop i := by
  refine so_eq ?_ (sd_app.2 ⟨h.sd, List.Pairwise.sublist (List.drop_sublist _ _) hA, h.la⟩)
  have h1 := h.pm.append_right (A.drop i)
  rw [List.take_length] at h1
  refine (List.Perm.trans ?_ h1.symm)
  rw [List.append_assoc]
  refine List.Perm.trans ?_ (List.Perm.append_left _ List.perm_append_comm)
  rw [← List.append_assoc, List.take_append_drop]
end Go.Proofs.YtdpbedkppomffaaGreatDoor
namespace Go.Proofs.YtdpbedkppomffaaGreatDoor
set_option linter.unusedVariables false
set_option linter.unusedSimpArgs false
open Go.ChangeShapes Go.WideShapes Go.ChangeAt Go.RowKit Civ

theorem SlT.base {w : World} {B C : Nat} {v : Value} {l : List Trn} (h : B ≤ C) (g : SlT w C v l) : SlT w B v l := by
  obtain ⟨a, c, e, h0, h1, h2⟩ := g
  refine ⟨a, c, e, h0, h1, ?_⟩
  rcases h2 with h2 | ⟨D, off, e2, h3, h4⟩
  · exact .inl h2
  · exact .inr ⟨D, off, e2, h3, Nat.le_trans h h4⟩
def IoC (N : Nat) : Prop := ∀ (v : Value) (l : List Trn) (B : Nat) (w : World), l.length < N → SlT w B v l → B ≤ w.heap.size → Tg l → NoB l → l.length ≤ 50000 →
    Calls Tryz.prog 101 #[v] w fun e w' => ∃ v', e = .returned v' ∧ SlT w' B v' (so l) ∧ Below w.heap.size w w'
theorem so_short {l : List Trn} (h : l.length < 2) : so l = l := by
  rcases l with _ | ⟨x, _ | ⟨y, l⟩⟩
  · exact so_self (l := []) List.Pairwise.nil
  · exact so_self (l := [x]) (List.pairwise_singleton _ _)
  · simp at h; omega
theorem TurAt.cells {w : World} {b o : Nat} {x : Trn} (h : TurAt w b o x) : ∀ j u, (turV x)[j]? = some u → w.cell? ⟨b, o + j, none⟩ = some u := by
  obtain ⟨h0, h1, h2, h3, h4, h5, h6, h7, h8, h9, h10, h11, h12⟩ := h
  intro j u hj
  match j, hj with
  | 0, hj => cases hj; exact h0
  | 1, hj => cases hj; exact h1
  | 2, hj => cases hj; exact h2
  | 3, hj => cases hj; exact h3
  | 4, hj => cases hj; exact h4
  | 5, hj => cases hj; exact h5
  | 6, hj => cases hj; exact h6
  | 7, hj => cases hj; exact h7
  | 8, hj => cases hj; exact h8
  | 9, hj => cases hj; exact h9
  | 10, hj => cases hj; exact h10
  | 11, hj => cases hj; exact h11
  | 12, hj => cases hj; exact h12
  | j + 13, hj => simp [turV] at hj
theorem turV_len (x : Trn) : (turV x).length = 13 := rfl
/-- a row's cells, one behind the other. -/
theorem RowT.flat {w : World} {D off : Nat} {l : List Trn} (h : RowT w D off l) : ∀ j u, (l.flatMap turV)[j]? = some u → w.cell? ((⟨D, off, none⟩ : Addr).add j) = some u := by
  intro j u hj
  obtain ⟨hjl, -⟩ := List.getElem?_eq_some_iff.1 hj
  rw [len_flat (sz := 13) turV_len] at hjl
  obtain ⟨i, r, hi, hr, rfl⟩ := div_at (by omega) hjl
  rw [flat_at (sz := 13) turV_len l i r hi hr] at hj
  rw [add_one_]
  have := (h.1 i hi).cells r u hj
  rw [Nat.add_assoc] at this
  exact this
theorem all_one (l : List Trn) : ∀ u ∈ l.flatMap turV, u.oneCell' = true := by
  intro u hu
  obtain ⟨x, _, hx⟩ := List.mem_flatMap.1 hu
  exact turV_one x u hx
set_option maxHeartbeats 8000000 in
set_option maxRecDepth 100000 in
theorem io_step (N : Nat) (ih : IoC N) : IoC (N + 1) := by
  intro v l B w hN hv hB hT hNB hl
  obtain ⟨it, hit, ht0, ht1, ht2⟩ := info_parts info_tur
  obtain ⟨a, c, rfl, hc1, hc2, hrow⟩ := hv
  have hcm := maxLen_eq _ hc2
  by_cases hlt : l.length < 2
  · have hlti : (l.length : Int) < 2 := by omega
    have HF : Hid (SlT w B (.slice a l.length c) (so l)) := by
      show SlT _ _ _ _
      rw [so_short hlt]
      exact ⟨a, c, rfl, hc1, hc2, hrow⟩
    clear ih hrow hc2 hlt hT hNB
    go_enter Tryz.func101, Tryz.ntmps101
    go_wp2
    go_ret
    exact ⟨_, rfl, HF.out, Below.refl _ _⟩
  · obtain ⟨D, off, rfl, hrow, hD⟩ := hrow.resolve_left (by rintro rfl; simp at hlt)
    obtain ⟨n, hn⟩ : ∃ n, n = l.length := ⟨_, rfl⟩
    obtain ⟨h, hh⟩ : ∃ h, h = n / 2 := ⟨_, rfl⟩
    rw [← hn] at hlt hc1 hl hN ⊢
    have hlti : ¬ (n : Int) < 2 := by omega
    have hhi : (n : Int) / 2 = (h : Int) := by omega
    have hch : ¬ c = h := by omega
    have hhn : h < n := by omega
    have HA := Lib.hid (fun w' (hb : Below w.heap.size w w') => ih (.slice (some ⟨D, off, none⟩) h c) (l.take h) B w' (by rw [List.length_take]; omega) ⟨_, c, by rw [List.length_take]; congr 1; omega, by rw [List.length_take]; omega, hc2, .inr ⟨D, off, rfl, (hrow.take h).below hb, hD⟩⟩ (Nat.le_trans hB hb.size) (hT.sub (List.take_sublist _ _)) (hNB.sub fun x hx => List.mem_of_mem_take hx) (by rw [List.length_take]; omega))
    have HBB := Lib.hid (fun w' (hb : Below w.heap.size w w') => ih (.slice (some ⟨D, off + h * 13, none⟩) (n - h) (c - h)) (l.drop h) B w' (by rw [List.length_drop]; omega) ⟨_, c - h, by rw [List.length_drop, ← hn], by rw [List.length_drop]; omega, by omega, .inr ⟨D, off + h * 13, rfl, (hrow.drop h).below hb, hD⟩⟩ (Nat.le_trans hB hb.size) (hT.sub (List.drop_sublist _ _)) (hNB.sub fun x hx => List.mem_of_mem_drop hx) (by rw [List.length_drop]; omega))
    have HT := Lib.hid hT
    have HNB := Lib.hid hNB
    have HN := Lib.hid hn
    have HBz := Lib.hid hB
    have HH := Lib.hid hh
    clear ih hrow hc2 hT hNB hn hB hh hN
    go_enter Tryz.func101, Tryz.ntmps101
    go_wp2_with fail
    refine (HA.out _ (Below.refl _ _)).mono ?_
    rintro e w1 ⟨va, rfl, hva, hb1⟩
    go_wp2_with fail
    have Hva := Lib.hid hva
    have HB1 := Lib.hid hb1
    clear hva
    refine (HBB.out _ HB1.out).mono ?_
    rintro e w2 ⟨vb, rfl, hvb, hb2⟩
    obtain ⟨A, hA⟩ : ∃ A, A = so (l.take h) := ⟨_, rfl⟩
    obtain ⟨Bq, hBq⟩ : ∃ Bq, Bq = so (l.drop h) := ⟨_, rfl⟩
    have hAl : A.length = h := by rw [hA, so_len, List.length_take, ← HN.out]; omega
    have hBl : Bq.length = n - h := by rw [hBq, so_len, List.length_drop, ← HN.out]
    have hva := Hva.out.below hb2
    rw [← hA] at hva
    rw [← hBq] at hvb
    obtain ⟨aa, ca, rfl, hca1, hca2, hra⟩ := hva
    obtain ⟨ab, cb, rfl, hcb1, hcb2, hrb⟩ := hvb
    obtain ⟨DA, oA, rfl, hra, hDA⟩ := hra.resolve_left (by intro e; rw [e] at hAl; simp at hAl; omega)
    obtain ⟨DB, oB, rfl, hrb, hDB⟩ := hrb.resolve_left (by intro e; rw [e] at hBl; simp at hBl; omega)
    have hTT : Tg (l.take h ++ l.drop h) := by rw [List.take_append_drop]; exact HT.out
    obtain ⟨hT1, hT2, hT3⟩ := List.pairwise_append.1 hTT
    have HSA : Hid (Sd A) := by show Sd A; rw [hA]; exact so_sd (Tg.td hT1)
    have HSB : Hid (Sd Bq) := by show Sd Bq; rw [hBq]; exact so_sd (Tg.td hT2)
    have HAH : Hid (Ah A Bq) := by show Ah _ _; rw [hA, hBq]; exact fun x hx y hy => hT3 x (so_mem hx) y (so_mem hy)
    have HSO : Hid (so l = so (A ++ Bq)) := by
      show _ = _
      rw [hA, hBq, so_two (Tg.td hTT), List.take_append_drop]
    have HLB : Hid (A.length + Bq.length = n) := by show _ = _; omega
    have RA := Lib.hid hra
    have RB := Lib.hid hrb
    have HB2 := Lib.hid (HB1.out.trans (hb2.mono HB1.out.size))
    have hA8 : A.length ≤ 50000 := by omega
    have hB8 : Bq.length ≤ 50000 := by omega
    have hcam := maxLen_eq _ hca2
    have hcbm := maxLen_eq _ hcb2
    have HCA := Lib.hid (And.intro hca1 hca2)
    have HBZ2 : Hid (B ≤ w2.heap.size) := Nat.le_trans HBz.out (HB2.out.size)
    have hAc : A.length ≤ ca := hca1
    clear hA hBq hra hrb hT1 hT2 hT3 hTT hb1 hb2 hca1 hca2 hcb1 hcb2 Hva HA HBB hAl hBl hhi hch hhn
    go_wp2
    go_loopw [5, 6, 7] (fun vo i k wr => ∃ (i' k' : Nat) (O : List Trn), i' ≤ A.length ∧ k' ≤ Bq.length ∧ i = .int .i64 i' ∧ k = .int .i64 k' ∧ Hid (MgJ A Bq i' k' O) ∧ Hid (wr.ownsRow w2.heap.size 97 13 vo O.length (O.flatMap turV)) ∧ Hid (Below w2.heap.size w2 wr)) (fun _ _ k _ => (Bq.length - intOf k).toNat)
    case atStart => exact ⟨0, 0, [], Nat.zero_le _, Nat.zero_le _, rfl, rfl, MgJ.start _ _, World.ownsRow_nil _ _ _ _, Below.refl _ _⟩
    case round =>
      obtain ⟨i, k, O, hi, hk, rfl, rfl, MG, OW, BW⟩ := hrel
      by_cases hlt2 : k < Bq.length
      · have hkb : (k : Int) < (Bq.length : Int) := by omega
        obtain ⟨y, hy⟩ : ∃ y, Bq[k]? = some y := ⟨_, List.getElem?_eq_getElem hlt2⟩
        have HY := Lib.hid hy
        clear hy
        obtain ⟨wo, rfl⟩ : ∃ wo : World, wo = wr := ⟨_, rfl⟩
        go_wp2
        go_loopw [5, 6] (fun vo i wr => ∃ (i' : Nat) (O : List Trn), i' ≤ A.length ∧ i = .int .i64 i' ∧ Hid (MgJ A Bq i' k O) ∧ Hid (wr.ownsRow w2.heap.size 97 13 vo O.length (O.flatMap turV)) ∧ Hid (Below w2.heap.size w2 wr)) (fun _ i _ => (A.length - intOf i).toNat)
        case atStart => exact ⟨i, O, hi, rfl, MG, OW, BW⟩
        case round =>
          clear MG OW BW hi
          obtain ⟨i, O, hi, rfl, MG, OW, BW⟩ := hrel
          obtain ⟨ao, co, rfl⟩ := own_shape OW.out
          have hOl : O.length ≤ 100000 := by
            have h1 := MG.out.pm.length_eq
            simp only [List.length_append, List.length_take] at h1
            omega
          have hyb := (RB.out.below BW.out).at HY.out
          obtain ⟨y0, y1, y2, y3, y4, y5, y6, y7, y8, y9, y10, y11, y12⟩ := hyb
          by_cases hia : i < A.length
          · have hg : decide (i < A.length) = true := decide_eq_true hia
            have hii : (i : Int) < (A.length : Int) := by omega
            obtain ⟨x, hx⟩ : ∃ x, A[i]? = some x := ⟨_, List.getElem?_eq_getElem hia⟩
            have HX := Lib.hid hx
            have hxb := (RA.out.below BW.out).at hx
            obtain ⟨x0, x1, x2, x3, x4, x5, x6, x7, x8, x9, x10, x11, x12⟩ := hxb
            have hkey := nlt_key (HAH.out x (List.mem_of_getElem? hx) y (List.mem_of_getElem? HY.out))
            clear hx
            by_cases hle : x.no ≤ y.no
            · have hle' : decide (x.no ≤ y.no) = true := decide_eq_true hle
              have HXY : Hid (tLt x y) := hkey.2 (by omega)
              clear hkey
              go_wp2
              go_quiet (fail)
              have OWd : Hid ((wr.drewN nq).ownsRow w2.heap.size 97 13 (.slice ao O.length co) O.length (O.flatMap turV)) := ownsRow_below OW.out (below_draws (Below.refl _ _) nq) (Nat.le_refl _)
              have BWd : Hid (Below w2.heap.size w2 (wr.drewN nq)) := below_draws BW.out nq
              go_wp2_with (at_builtin; refine wpList_append_own _ rfl (.tmp 47) (.tmp 52) 94 rfl w2.heap.size 97 it (.agg #[.string ⟨#[]⟩, .int .i64 0, .int .i64 0, .int .i64 0, .int .i64 0, .int .i64 0, .int .i64 0, .int .i64 0, .int .i64 0, .int .i64 0, .string ⟨#[]⟩, .int .i64 0, .int .i64 0]) 13 120 Tryz.underlying94 hit ht0 ht1 ht2 rfl (by decide) _ _ _ rfl (OWd.out.alloc _) ⟨wr.heap.size, 0, none⟩ 1 1 (turV x) rfl rfl (cells_at _ _ _ _ _ rfl rfl) (turV_one x) (by unfold maxLen; omega) (by omega) (by rw [size_alloc]; exact Nat.le_succ_of_le BWd.out.size) ?_; intro v4 w4 hown hgrow _; have OW4 := Lib.hid (own_snocG hown); have BW4 := Lib.hid (append_keep OWd.out ((Below.refl _ _).alloc BWd.out.size _) BWd.out.size hgrow); obtain ⟨a4, c4, rfl⟩ := own_shape hown; clear hown hgrow)
              go_roundw
              case rel => exact ⟨i + 1, _, by omega, by go_num, MG.out.left HSA.out HSB.out HX.out HY.out HXY.out, OW4, BWd.out.trans BW4.out⟩
              case measure => simp [intOf]; omega
            · have hle' : decide (x.no ≤ y.no) = false := decide_eq_false hle
              have HMR : Hid (MgJ A Bq i (k + 1) (O ++ [y])) := MG.out.right HSA.out HSB.out HY.out (fun z hz => by
                have e := hz.symm.trans HX.out
                obtain rfl := Option.some.inj e
                have h1 := lt_key (HAH.out z (List.mem_of_getElem? HX.out) y (List.mem_of_getElem? HY.out))
                exact h1.2 (by omega))
              clear hkey
              go_wp2
              go_quiet (fail)
              have OWd : Hid ((wr.drewN nq).ownsRow w2.heap.size 97 13 (.slice ao O.length co) O.length (O.flatMap turV)) := ownsRow_below OW.out (below_draws (Below.refl _ _) nq) (Nat.le_refl _)
              have BWd : Hid (Below w2.heap.size w2 (wr.drewN nq)) := below_draws BW.out nq
              go_wp2_with (at_builtin; refine wpList_append_own _ rfl (.tmp 56) (.tmp 61) 94 rfl w2.heap.size 97 it (.agg #[.string ⟨#[]⟩, .int .i64 0, .int .i64 0, .int .i64 0, .int .i64 0, .int .i64 0, .int .i64 0, .int .i64 0, .int .i64 0, .int .i64 0, .string ⟨#[]⟩, .int .i64 0, .int .i64 0]) 13 120 Tryz.underlying94 hit ht0 ht1 ht2 rfl (by decide) _ _ _ rfl (OWd.out.alloc _) ⟨wr.heap.size, 0, none⟩ 1 1 (turV y) rfl rfl (cells_at _ _ _ _ _ rfl rfl) (turV_one y) (by unfold maxLen; omega) (by omega) (by rw [size_alloc]; exact Nat.le_succ_of_le BWd.out.size) ?_; intro v4 w4 hown hgrow _; have OW4 := Lib.hid (own_snocG hown); have BW4 := Lib.hid (append_keep OWd.out ((Below.refl _ _).alloc BWd.out.size _) BWd.out.size hgrow); obtain ⟨a4, c4, rfl⟩ := own_shape hown; clear hown hgrow)
              go_roundw
              case rel => exact ⟨i, k + 1, _, hi, by omega, rfl, by go_num, HMR, OW4, BWd.out.trans BW4.out⟩
              case measure => simp [intOf]; omega
          · have hg : decide (i < A.length) = false := decide_eq_false hia
            have HMR : Hid (MgJ A Bq i (k + 1) (O ++ [y])) := MG.out.right HSA.out HSB.out HY.out (fun z hz => by
              obtain ⟨hz', -⟩ := List.getElem?_eq_some_iff.1 hz
              exact absurd hz' hia)
            go_wp2
            go_quiet (fail)
            have OWd : Hid ((wr.drewN nq).ownsRow w2.heap.size 97 13 (.slice ao O.length co) O.length (O.flatMap turV)) := ownsRow_below OW.out (below_draws (Below.refl _ _) nq) (Nat.le_refl _)
            have BWd : Hid (Below w2.heap.size w2 (wr.drewN nq)) := below_draws BW.out nq
            go_wp2_with (at_builtin; refine wpList_append_own _ rfl (.tmp 56) (.tmp 61) 94 rfl w2.heap.size 97 it (.agg #[.string ⟨#[]⟩, .int .i64 0, .int .i64 0, .int .i64 0, .int .i64 0, .int .i64 0, .int .i64 0, .int .i64 0, .int .i64 0, .int .i64 0, .string ⟨#[]⟩, .int .i64 0, .int .i64 0]) 13 120 Tryz.underlying94 hit ht0 ht1 ht2 rfl (by decide) _ _ _ rfl (OWd.out.alloc _) ⟨wr.heap.size, 0, none⟩ 1 1 (turV y) rfl rfl (cells_at _ _ _ _ _ rfl rfl) (turV_one y) (by unfold maxLen; omega) (by omega) (by rw [size_alloc]; exact Nat.le_succ_of_le BWd.out.size) ?_; intro v4 w4 hown hgrow _; have OW4 := Lib.hid (own_snocG hown); have BW4 := Lib.hid (append_keep OWd.out ((Below.refl _ _).alloc BWd.out.size _) BWd.out.size hgrow); obtain ⟨a4, c4, rfl⟩ := own_shape hown; clear hown hgrow)
            go_roundw
            case rel => exact ⟨i, k + 1, _, hi, by omega, rfl, by go_num, HMR, OW4, BWd.out.trans BW4.out⟩
            case measure => simp [intOf]; omega
      · obtain rfl : k = Bq.length := by omega
        have hnl : ¬ (Bq.length : Int) < (Bq.length : Int) := by omega
        obtain ⟨ao, co, rfl⟩ := own_shape OW.out
        have hOl : O.length ≤ 100000 := by
          have h1 := MG.out.pm.length_eq
          simp only [List.length_append, List.length_take] at h1
          omega
        have HDN : Hid (so l = O ++ A.drop i) := by show _ = _; rw [HSO.out]; exact MG.out.done HSA.out
        have hia : (i : Int) ≤ (A.length : Int) := by omega
        have hic : (i : Int) ≤ (ca : Int) := by omega
        obtain ⟨d, hd⟩ : ∃ d, A.length - i = d := ⟨_, rfl⟩
        have hd8 : d ≤ 50000 := by omega
        have HNL : Hid (((A.drop i).flatMap turV).length = d * 13) := by show _ = _; rw [len_flat (sz := 13) turV_len, List.length_drop, hd]
        have HLN : Hid (O.length + d = (O ++ A.drop i).length) := by show _ = _; rw [List.length_append, List.length_drop, hd]
        by_cases hci : ca = i
        · have hie : i = A.length := by omega
          have HNW : Hid (∀ j u, ((A.drop i).flatMap turV)[j]? = some u → wr.cell? ((⟨DA, oA, none⟩ : Addr).add j) = some u) := by
            show ∀ j u, _ → _
            intro j u hj
            rw [List.drop_of_length_le (by omega)] at hj
            simp at hj
          clear hie
          go_wp2_with (at_builtin; refine wpList_append_own _ rfl (.tmp 63) (.tmp 66) 94 rfl w2.heap.size 97 it (.agg #[.string ⟨#[]⟩, .int .i64 0, .int .i64 0, .int .i64 0, .int .i64 0, .int .i64 0, .int .i64 0, .int .i64 0, .int .i64 0, .int .i64 0, .string ⟨#[]⟩, .int .i64 0, .int .i64 0]) 13 120 Tryz.underlying94 hit ht0 ht1 ht2 rfl (by decide) _ _ _ rfl OW.out ⟨DA, oA, none⟩ d _ ((A.drop i).flatMap turV) rfl HNL.out HNW.out (all_one _) (by unfold maxLen; omega) (by omega) BW.out.size ?_; intro v4 w4 hown hgrow _; have OW4 := Lib.hid hown; have BW4 := Lib.hid (append_keep OW.out ((Below.refl _ _)) BW.out.size hgrow); obtain ⟨a4, c4, rfl⟩ := own_shape hown; clear hown hgrow)
          go_ret
          refine ⟨_, rfl, ?_, HB2.out.trans ((BW.out.trans BW4.out).mono HB2.out.size)⟩
          exact SlT.base HBZ2.out (by
            have h1 := OW4.out
            rw [← List.flatMap_append, HLN.out, ← HDN.out] at h1
            have h2 := tur_of_own h1
            rw [HLN.out, ← HDN.out]
            exact h2)
        · have HNW : Hid (∀ j u, ((A.drop i).flatMap turV)[j]? = some u → wr.cell? ((⟨DA, oA + i * 13, none⟩ : Addr).add j) = some u) := ((RA.out.below BW.out).drop i).flat
          go_wp2_with (at_builtin; refine wpList_append_own _ rfl (.tmp 63) (.tmp 66) 94 rfl w2.heap.size 97 it (.agg #[.string ⟨#[]⟩, .int .i64 0, .int .i64 0, .int .i64 0, .int .i64 0, .int .i64 0, .int .i64 0, .int .i64 0, .int .i64 0, .int .i64 0, .string ⟨#[]⟩, .int .i64 0, .int .i64 0]) 13 120 Tryz.underlying94 hit ht0 ht1 ht2 rfl (by decide) _ _ _ rfl OW.out ⟨DA, oA + i * 13, none⟩ d _ ((A.drop i).flatMap turV) rfl HNL.out HNW.out (all_one _) (by unfold maxLen; omega) (by omega) BW.out.size ?_; intro v4 w4 hown hgrow _; have OW4 := Lib.hid hown; have BW4 := Lib.hid (append_keep OW.out ((Below.refl _ _)) BW.out.size hgrow); obtain ⟨a4, c4, rfl⟩ := own_shape hown; clear hown hgrow)
          go_ret
          refine ⟨_, rfl, ?_, HB2.out.trans ((BW.out.trans BW4.out).mono HB2.out.size)⟩
          exact SlT.base HBZ2.out (by
            have h1 := OW4.out
            rw [← List.flatMap_append, HLN.out, ← HDN.out] at h1
            have h2 := tur_of_own h1
            rw [HLN.out, ← HDN.out]
            exact h2)
theorem inOrder_any : ∀ N, IoC N
  | 0 => fun _ _ _ _ h => absurd h (by omega)
  | N + 1 => io_step N (inOrder_any N)
end Go.Proofs.YtdpbedkppomffaaGreatDoor
namespace Go.Proofs.YtdpbedkppomffaaGreatDoor
set_option linter.unusedVariables false
set_option linter.unusedSimpArgs false
open Go.ChangeShapes Go.WideShapes Go.ChangeAt Go.RowKit Civ

theorem found_r (r : Rul) (y : Int) (wx : World) : Calls Tryz.prog 100 #[.int .i64 y, .int .i64 r.at'.mo, .agg #[.int .i64 r.at'.k, .int .i64 r.at'.a, .int .i64 r.at'.n]] wx fun e w' => e = .returned (.tuple #[.int .i64 (if fdE r y = 0 then fdN r y else 0), .int .i64 (fdE r y)]) ∧ Below wx.heap.size wx w' := by
  unfold fdE fdN
  by_cases h : fndE y r.at'.mo r.at'.k r.at'.a r.at'.n = 0
  · refine (found_ok _ _ _ _ _ wx h).mono ?_
    rintro e w' ⟨rfl, hb⟩
    exact ⟨by rw [if_pos h, h], hb⟩
  · refine (found_err _ _ _ _ _ wx h).mono ?_
    rintro e w' ⟨rfl, hb⟩
    exact ⟨by rw [if_neg h], hb⟩
/-- a row of turns that grows, beside the boxes. -/
structure TuS (w0 wx : World) (R : Nat) (r : Rul) (vr vz vl : Value) (x : Ero) (vo : Value) (l : List Trn) : Prop where
  zb : ZBx w0 wx vr vz vl x
  rw : wx.ownsRow (w0.heap.size + 2) 97 13 vo l.length (l.flatMap turV)
  bx : RulAt wx R 0 r
  bz : R < wx.heap.size ∧ w0.heap.size + 2 ≤ R
  no : vo.ownBlock ≠ some R
theorem TuS.below {w0 wx w' : World} {R : Nat} {r : Rul} {vr vz vl : Value} {x : Ero} {vo : Value} {l : List Trn} (h : TuS w0 wx R r vr vz vl x vo l) (hb : Below wx.heap.size wx w') : TuS w0 w' R r vr vz vl x vo l :=
  ⟨h.zb.next hb, ownsRow_below h.rw hb (Nat.le_refl _), h.bx.below hb h.bz.1, ⟨Nat.lt_of_lt_of_le h.bz.1 hb.size, h.bz.2⟩, h.no⟩
theorem TuS.out {w0 wx w' : World} {R : Nat} {r : Rul} {vr vz vl : Value} {x : Ero} {vo v' : Value} {l : List Trn} {y : Trn} {o : Obj} {m : Nat} (h : TuS w0 wx R r vr vz vl x vo l) (ho : w'.ownsRow (w0.heap.size + 2) 97 13 v' m (l.flatMap turV ++ turV y)) (hm : m = l.length + 1) (hg : (wx.alloc o).grownBy w' vo.ownBlock) (hat : v'.ownBlock = vo.ownBlock ∨ v'.ownBlock = some (wx.alloc o).heap.size) :
    TuS w0 w' R r vr vz vl x v' (l ++ [y]) := by
  subst hm
  have hs := size_alloc wx o
  refine ⟨h.zb.row h.rw hg, own_snocG ho, h.bx.block ?_, ⟨Nat.lt_of_lt_of_le h.bz.1 (Nat.le_trans (by omega) hg.size), h.bz.2⟩, ?_⟩
  · exact (hg.block R (by have := h.bz.1; omega) (fun e => h.no e.symm)).trans (Below.heap_alloc _ _ _ h.bz.1)
  · rcases hat with e | e
    · rw [e]; exact h.no
    · rw [e]; intro q; have := Option.some.inj q; have := h.bz.1; omega
theorem TuS.new {w0 wx : World} {vr vz vl : Value} {x : Ero} {vo : Value} {l : List Trn} (hz : ZBx w0 wx vr vz vl x) (h : wx.ownsRow (w0.heap.size + 2) 97 13 vo l.length (l.flatMap turV)) (r : Rul) :
    TuS w0 (wx.alloc (.cells #[.string r.nm, .int .i64 r.fr, .int .i64 r.to, .int .i64 r.at'.mo, .int .i64 r.at'.k, .int .i64 r.at'.a, .int .i64 r.at'.n, .int .i64 r.at'.t, .int .i64 r.at'.c, .int .i64 r.sv, .string r.lt] 84)) wx.heap.size r vr vz vl x vo l := by
  have hb : Below wx.heap.size wx (wx.alloc (.cells #[.string r.nm, .int .i64 r.fr, .int .i64 r.to, .int .i64 r.at'.mo, .int .i64 r.at'.k, .int .i64 r.at'.a, .int .i64 r.at'.n, .int .i64 r.at'.t, .int .i64 r.at'.c, .int .i64 r.sv, .string r.lt] 84)) := (Below.refl _ _).alloc (Nat.le_refl _) _
  refine ⟨hz.next hb, ownsRow_below h hb (Nat.le_refl _), RulAt.new _ _ _, ⟨by rw [size_alloc]; exact Nat.lt_succ_self _, hz.2.2.2⟩, fun e => ?_⟩
  have := (own_lt h _ e).2; omega
theorem RulAt.z {w : World} {R : Nat} {r : Rul} (h : RulAt w R 0 r) :
    w.cell? ⟨R, 0, none⟩ = some (.string r.nm) ∧ w.cell? ⟨R, 1, none⟩ = some (.int .i64 r.fr) ∧ w.cell? ⟨R, 2, none⟩ = some (.int .i64 r.to) ∧ w.cell? ⟨R, 3, none⟩ = some (.int .i64 r.at'.mo) ∧ w.cell? ⟨R, 4, none⟩ = some (.int .i64 r.at'.k) ∧ w.cell? ⟨R, 5, none⟩ = some (.int .i64 r.at'.a) ∧ w.cell? ⟨R, 6, none⟩ = some (.int .i64 r.at'.n) ∧ w.cell? ⟨R, 7, none⟩ = some (.int .i64 r.at'.t) ∧ w.cell? ⟨R, 8, none⟩ = some (.int .i64 r.at'.c) ∧ w.cell? ⟨R, 9, none⟩ = some (.int .i64 r.sv) ∧ w.cell? ⟨R, 10, none⟩ = some (.string r.lt) := by
  unfold RulAt at h
  simpa only [Nat.zero_add] using h
/-- so many years of a rule are ahead of y. -/
def clp (r : Rul) (y : Int) : Nat := (min (y - r.fr) (r.to - r.fr + 1)).toNat
theorem clp_in {r : Rul} {y : Int} (h1 : r.fr ≤ y) (h2 : y ≤ r.to) : clp r (y + 1) = clp r y + 1 ∧ r.fr + (clp r y : Int) = y := by unfold clp; omega
theorem clp_out {r : Rul} {y : Int} (h : ¬ (r.fr ≤ y ∧ y ≤ r.to)) (h0 : r.fr ≤ r.to) : clp r (y + 1) = clp r y := by unfold clp; omega
theorem clp_lo {r : Rul} (h : 1900 ≤ r.fr) : clp r 1900 = 0 := by unfold clp; omega
theorem clp_hi {r : Rul} (h : r.to ≤ 2099) : clp r 2100 = (r.to - r.fr + 1).toNat := by unfold clp; omega
theorem RowT.put1 {w : World} {D off : Nat} {l : List Trn} (h : RowT w D off l) {i : Nat} {y : Trn} (hy : l[i]? = some y) (v : Int) : RowT (w.setCell ⟨D, off + i * 13 + 12, none⟩ (.int .i64 v)) D off (l.set i ⟨y.r, y.no, y.tg, v⟩) := by
  obtain ⟨hi, rfl⟩ := List.getElem?_eq_some_iff.1 hy
  refine ⟨fun k hk => ?_, fun o => by rw [World.frozen?_setCell]; exact h.2.1 o, by rw [World.size_setCell]; exact h.2.2⟩
  rw [List.length_set] at hk
  obtain ⟨a0, a1, a2, a3, a4, a5, a6, a7, a8, a9, a10, a11, a12⟩ := h.1 k hk
  by_cases e : i = k
  · subst e
    rw [List.getElem_set_self]
    exact ⟨(set_other (by omega)).trans a0, (set_other (by omega)).trans a1, (set_other (by omega)).trans a2, (set_other (by omega)).trans a3, (set_other (by omega)).trans a4, (set_other (by omega)).trans a5, (set_other (by omega)).trans a6, (set_other (by omega)).trans a7, (set_other (by omega)).trans a8, (set_other (by omega)).trans a9, (set_other (by omega)).trans a10, (set_other (by omega)).trans a11, set_sameZ a12⟩
  · rw [List.getElem_set_ne e]
    exact ⟨(set_other (by omega)).trans a0, (set_other (by omega)).trans a1, (set_other (by omega)).trans a2, (set_other (by omega)).trans a3, (set_other (by omega)).trans a4, (set_other (by omega)).trans a5, (set_other (by omega)).trans a6, (set_other (by omega)).trans a7, (set_other (by omega)).trans a8, (set_other (by omega)).trans a9, (set_other (by omega)).trans a10, (set_other (by omega)).trans a11, (set_other (by omega)).trans a12⟩
theorem RowT.drw {w : World} {D off : Nat} {l : List Trn} (h : RowT w D off l) : RowT w.drew D off l := h
theorem RowT.put2 {w : World} {D off : Nat} {l : List Trn} (h : RowT w D off l) {i : Nat} {y : Trn} (hy : l[i]? = some y) (a b : Int) : RowT ((w.setCell ⟨D, off + i * 13 + 12, none⟩ (.int .i64 a)).setCell ⟨D, off + i * 13 + 12, none⟩ (.int .i64 b)) D off (l.set i ⟨y.r, y.no, y.tg, b⟩) := by
  have hi := (List.getElem?_eq_some_iff.1 hy).1
  have h2 := (h.put1 hy a).put1 (i := i) (y := ⟨y.r, y.no, y.tg, a⟩) (by rw [List.getElem?_set_self hi]) b
  rwa [List.set_set] at h2
theorem RowT.put3 {w : World} {D off : Nat} {l : List Trn} (h : RowT w D off l) {i : Nat} {y : Trn} (hy : l[i]? = some y) (a b c : Int) : RowT (((w.setCell ⟨D, off + i * 13 + 12, none⟩ (.int .i64 a)).setCell ⟨D, off + i * 13 + 12, none⟩ (.int .i64 b)).setCell ⟨D, off + i * 13 + 12, none⟩ (.int .i64 c)) D off (l.set i ⟨y.r, y.no, y.tg, c⟩) := by
  have hi := (List.getElem?_eq_some_iff.1 hy).1
  have h2 := (h.put2 hy a b).put1 (i := i) (y := ⟨y.r, y.no, y.tg, b⟩) (by rw [List.getElem?_set_self hi]) c
  rwa [List.set_set] at h2
def mixR (o : Int) (S : List Trn) (k : Nat) : List Trn := (atZ o 0 S).take k ++ S.drop k
theorem mixR_at {o : Int} {S : List Trn} {k : Nat} (h : k < S.length) : (mixR o S k)[k]? = some S[k] := by
  unfold mixR
  have e : ((atZ o 0 S).take k).length = k := by rw [List.length_take, atZ_len]; omega
  rw [List.getElem?_append_right (by omega), e, Nat.sub_self, List.getElem?_drop, Nat.add_zero, List.getElem?_eq_getElem h]
theorem mixR_succ {o : Int} {S : List Trn} {k : Nat} (h : k < S.length) : mixR o S (k + 1) = (mixR o S k).set k ((atZ o 0 S)[k]'(by rw [atZ_len]; exact h)) := by
  have hl : k < (atZ o 0 S).length := by rw [atZ_len]; exact h
  unfold mixR
  have e : ((atZ o 0 S).take k).length = k := by rw [List.length_take, atZ_len]; omega
  rw [List.set_append, if_neg (by omega), e, Nat.sub_self, List.take_succ_eq_append_getElem hl]
  have e2 : S.drop k = S[k] :: S.drop (k + 1) := List.drop_eq_getElem_cons h
  rw [e2, List.set_cons_zero, List.append_assoc]
  rfl
theorem mixR_end (o : Int) (S : List Trn) : mixR o S S.length = atZ o 0 S := by
  unfold mixR
  rw [List.drop_length, List.append_nil, List.take_of_length_le (by rw [atZ_len]; exact Nat.le_refl _)]
theorem nameS_nil : nameS ByteArray.empty = false := by decide
theorem trn0_none (rules : List Rul) (h : ∀ r ∈ rules, rulE r = 0) : trn0 rules ByteArray.empty = [] := by
  have h1 := (trn0_all rules ByteArray.empty h).1
  rcases hl : trn0 rules ByteArray.empty with _ | ⟨y, l⟩
  · rfl
  · have := h1.rl y (by rw [hl]; simp)
    have h2 := (rulE_zero (h _ this.1)).1
    rw [this.2, nameS_nil] at h2
    cases h2
def RTur (cs : List Value) (x : Trn) : Prop := cs = turV x
theorem RowT.sl {w : World} {D off co : Nat} {T : List Trn} (h : RowT w D off T) (h0 : T.length ≤ co) (h1 : co ≤ maxLen) : SlAt w 13 RTur (.slice (some ⟨D, off, none⟩) T.length co) T := by
  by_cases hn : T.length = 0
  · exact .inl ⟨some ⟨D, off, none⟩, co, by rw [hn], List.length_eq_zero_iff.1 hn⟩
  · refine .inr ⟨D, off, co, rfl, by omega, h0, h1, h.2.2, fun i hi => ⟨turV T[i], rfl, rfl, fun j hj => ?_⟩⟩
    have := (h.1 i hi).cells j
    rcases hv : (turV T[i])[j]? with _ | u
    · rw [List.getElem?_eq_none_iff, turV_len] at hv; omega
    · exact this u hv
def TuK (w0 wx : World) (rules : List Rul) (nm : ByteArray) (k : Nat) (vo : Value) : Prop := wx.ownsRow (w0.heap.size + 2) 97 13 vo (trn0 (rules.take k) nm).length ((trn0 (rules.take k) nm).flatMap turV)
set_option maxHeartbeats 8000000 in
set_option maxRecDepth 100000 in
theorem turns_any (s : Src) (x : Ero) (vr vz vl : Value) (w : World) (hs : SrcAt w vr vz vl s) (hok : ROk s x) :
    Calls Tryz.prog 40 #[.agg #[vr, vz, vl], .agg #[.int .i64 x.off, .string x.rl, .int .i64 x.sv, .string x.fm, .bool x.en, .int .i64 x.yr, .int .i64 x.un.mo, .int .i64 x.un.k, .int .i64 x.un.a, .int .i64 x.un.n, .int .i64 x.un.t, .int .i64 x.un.c]] w fun e w' => ∃ v, e = .returned v ∧ SlAt w' 13 RTur v (trE s.rules x) ∧ Below w.heap.size w w' := by
  obtain ⟨it, hit, ht0, ht1, ht2⟩ := info_parts info_tur
  have Z0 := Lib.hid (ZBx.new w vr vz vl x)
  obtain ⟨W0, hW0⟩ : ∃ W0, W0 = (w.alloc (.cells #[vr, vz, vl] 26)).alloc (.cells #[.int .i64 x.off, .string x.rl, .int .i64 x.sv, .string x.fm, .bool x.en, .int .i64 x.yr, .int .i64 x.un.mo, .int .i64 x.un.k, .int .i64 x.un.a, .int .i64 x.un.n, .int .i64 x.un.t, .int .i64 x.un.c] 62) := ⟨_, rfl⟩
  rw [← hW0] at Z0
  have HW := Lib.hid hW0
  have HS := Lib.hid hs
  have HO := Lib.hid hok
  obtain ⟨ar, cr, rfl, hl⟩ := hs.1.shape
  have hml : s.rules.length ≤ 200 := hok.n
  clear hs hok hW0 hl
  by_cases hem : x.rl = ByteArray.empty
  · have r1 : x.rl.toList = [] := by rw [hem]; exact (toList_nil_iff_emptyBytes _).2 rfl
    have r2 : x.rl.toList.isEmpty = true := by rw [r1]; rfl
    have HTE : Hid (trE s.rules x = []) := by
      show _ = _
      unfold trE trns
      rw [hem, trn0_none s.rules HO.out.ok, so_self (show Sd [] from List.Pairwise.nil)]
      rfl
    clear hem
    go_enter Tryz.func40, Tryz.ntmps40
    go_upto_region 1 with fail
    rw [← HW.out]
    obtain ⟨-, c1, -, -, -, -, -, -, -, -, -, -⟩ := Z0.out.era
    go_wp2
    go_ret
    exact ⟨_, rfl, by rw [HTE.out]; exact .inl ⟨none, 0, rfl, rfl⟩, Z0.out.2.2.1⟩
  · obtain ⟨e1, e2⟩ := rl_ne hem
    clear hem
    go_enter Tryz.func40, Tryz.ntmps40
    go_upto_region 1 with fail
    rw [← HW.out]
    obtain ⟨-, c1, -, -, -, -, -, -, -, -, -, -⟩ := Z0.out.era
    go_wp2
    clear c1
    go_loopw [5, 6] (fun vo i wr => ∃ k : Nat, k ≤ s.rules.length ∧ i = .int .i64 k ∧ Hid (TuK w wr s.rules x.rl k vo) ∧ Hid (ZBx w wr (.slice ar s.rules.length cr) vz vl x)) (fun _ i _ => (s.rules.length - intOf i).toNat)
    case atStart => exact ⟨0, Nat.zero_le _, rfl, World.ownsRow_nil _ _ _ _, Z0⟩
    case round =>
      obtain ⟨k, hk, rfl, HK, ZK⟩ := hrel
      obtain ⟨q0, q1, q2⟩ := ZK.out.1
      have hz2 : w.heap.size + 1 < wr.heap.size := ZK.out.2.2.2
      obtain ⟨c0, c1, -, -, -, -, -, -, -, -, -, -⟩ := ZK.out.era
      by_cases hlt : k < s.rules.length
      · have hki : (k : Int) < (s.rules.length : Int) := by omega
        obtain ⟨b, off, rfl, hb, ⟨d0, d1, d2, d3, d4, d5, d6, d7, d8, d9, d10⟩, -⟩ := elemRul (ZK.out.src HS.out).1 k hlt
        have HSN := Lib.hid (trn0_snoc s.rules x.rl k hlt)
        have HRE := Lib.hid (HO.out.ok _ (List.getElem_mem hlt))
        have HL0 := Lib.hid (trn0_ok x.rl s.rules HO.out.ok k hk)
        generalize s.rules[k] = r at *
        obtain ⟨l0, hl0⟩ : ∃ l0, l0 = trn0 (s.rules.take k) x.rl := ⟨_, rfl⟩
        unfold TuK at HK
        rw [← hl0] at HK HSN HL0
        have S1 := Lib.hid (TuS.new ZK.out HK.out r)
        by_cases hnm : r.nm = x.rl
        · have e1 : (r.nm.toList == x.rl.toList) = true := by rw [streq, decide_eq_true hnm]
          have HS1 : Hid (trn0 (s.rules.take (k + 1)) x.rl = addK r l0 (r.to - r.fr + 1).toNat) := by
            show _ = _
            rw [HSN.out]
            unfold addR
            rw [if_pos hnm]
          clear hl0 hnm HSN
          obtain ⟨wo, rfl⟩ : ∃ wo : World, wo = wr := ⟨_, rfl⟩
          go_wp2
          have hre := rulE_zero HRE.out
          have hch := chkM_zero hre.2.2.2.2.2.2.2
          have hfr : 1900 ≤ r.fr ∧ r.fr ≤ r.to ∧ r.to ≤ 2099 := by omega
          have hti : 0 ≤ r.at'.t ∧ r.at'.t ≤ 604800 := by omega
          obtain ⟨hti1, hti2⟩ := hti
          have HFR := Lib.hid hfr
          clear hre hch e1 hfr
          have S10 : Hid (TuS w (wo.alloc (.cells #[.string r.nm, .int .i64 r.fr, .int .i64 r.to, .int .i64 r.at'.mo, .int .i64 r.at'.k, .int .i64 r.at'.a, .int .i64 r.at'.n, .int .i64 r.at'.t, .int .i64 r.at'.c, .int .i64 r.sv, .string r.lt] 84)) wo.heap.size r (.slice (some ⟨b, off, none⟩) s.rules.length cr) vz vl x u5 (addK r l0 (clp r 1900))) := by
            show TuS _ _ _ _ _ _ _ _ _ _
            rw [clp_lo HFR.out.1]
            exact S1.out
          clear S1
          go_loopw [5, 8] (fun vo y wr => ∃ j : Int, 1900 ≤ j ∧ j ≤ 2100 ∧ y = .int .i64 j ∧ Hid (TuS w wr wo.heap.size r (.slice (some ⟨b, off, none⟩) s.rules.length cr) vz vl x vo (addK r l0 (clp r j)))) (fun _ y _ => (2100 - intOf y).toNat)
          case atStart => exact ⟨1900, by omega, by omega, rfl, S10⟩
          case round =>
            obtain ⟨j, hj1, hj2, rfl, SJ⟩ := hrel
            clear S10
            obtain ⟨L, hL⟩ : ∃ L, L = addK r l0 (clp r j) := ⟨_, rfl⟩
            rw [← hL] at SJ
            have HLL : Hid (L.length ≤ 41000) := by
              show _ ≤ _
              have h1 := addK_len r l0 (clp r j)
              have h2 := HL0.out.2
              have h3 : clp r j ≤ 200 := by have := HFR.out; unfold clp; omega
              rw [hL]
              omega
            have HLE := Lib.hid hL
            clear hL
            obtain ⟨ao, co, rfl⟩ := own_shape SJ.out.rw
            obtain ⟨d0, d1, d2, d3, d4, d5, d6, d7, d8, d9, d10⟩ := SJ.out.bx.z
            by_cases hle : j ≤ 2099
            · have HFI := Lib.hid (found_r r j wr)
              obtain ⟨p, hp⟩ : ∃ p : Bool, decide (r.fr ≤ j ∧ j ≤ r.to) = p := ⟨_, rfl⟩
              have HIN := Lib.hid (fun w => in_lit j r.fr r.to p w hp)
              have HP := Lib.hid hp
              clear hp
              obtain ⟨E, hE⟩ : ∃ E, E = fdE r j := ⟨_, rfl⟩
              obtain ⟨V, hV⟩ : ∃ V, V = if fdE r j = 0 then fdN r j else 0 := ⟨_, rfl⟩
              rw [← hV, ← hE] at HFI
              have HE := Lib.hid hE
              have HV := Lib.hid hV
              clear hE hV
              go_wp2_with fail
              refine HFI.out.mono ?_; rintro e w3 ⟨rfl, hb3⟩
              have S3 := Lib.hid (SJ.out.below hb3)
              clear hb3 d0 d1 d2 d3 d4 d5 d6 d7 d8 d9 d10 SJ HFI
              obtain ⟨d0, d1, d2, d3, d4, d5, d6, d7, d8, d9, d10⟩ := S3.out.bx.z
              go_wp2_with fail
              refine (HIN.out _).mono ?_; rintro e w4 ⟨rfl, rfl⟩
              cases p with
              | false =>
                have HLS : Hid (addK r l0 (clp r (j + 1)) = L) := by
                  show _ = _
                  rw [clp_out (of_decide_eq_false HP.out) HFR.out.2.1, HLE.out]
                go_wp2
                go_roundw
                case rel => exact ⟨j + 1, by omega, by omega, rfl, by rw [HLS.out]; exact S3⟩
                case measure => simp [intOf]; omega
              | true =>
                have hpt := of_decide_eq_true HP.out
                have HLS : Hid (addK r l0 (clp r (j + 1)) = addY r L j) := by
                  show _ = _
                  obtain ⟨a1, a2⟩ := clp_in hpt.1 hpt.2
                  rw [a1, addK_succ, a2, HLE.out]
                clear hpt
                by_cases hf : fdE r j = 0
                · obtain rfl : E = 0 := by rw [HE.out]; exact hf
                  have hVN : V = fdN r j := by rw [HV.out, if_pos hf]
                  have hnb := fnd_bd _ _ _ _ _ hf
                  have HLY : Hid (addY r L j = L ++ [⟨r, fdN r j * 86400 + r.at'.t, (L.length : Int), 0⟩]) := by show _ = _; unfold addY; rw [if_pos hf]
                  obtain ⟨N, rfl⟩ : ∃ N, N = V := ⟨_, rfl⟩
                  have hN1 : -26000 ≤ N ∧ N ≤ 48000 := by rw [hVN]; exact hnb
                  obtain ⟨hN1, hN2⟩ := hN1
                  rw [← hVN] at HLY
                  have hll := HLL.out
                  clear hf hnb hVN HV HE
                  obtain ⟨y0, hy0⟩ : ∃ y0 : Trn, y0 = ⟨r, N * 86400 + r.at'.t, (L.length : Int), 0⟩ := ⟨_, rfl⟩
                  have HY0 : Hid (turV y0 = [.string r.nm, .int .i64 r.fr, .int .i64 r.to, .int .i64 r.at'.mo, .int .i64 r.at'.k, .int .i64 r.at'.a, .int .i64 r.at'.n, .int .i64 r.at'.t, .int .i64 r.at'.c, .int .i64 r.sv, .string r.lt, .int .i64 (86400 * N + r.at'.t), .int .i64 0]) := by show _ = _; rw [hy0, Int.mul_comm 86400 N]; rfl
                  have HYE := Lib.hid hy0
                  clear hy0
                  go_wp2_with (at_builtin; refine wpList_append_own_at _ rfl (.tmp 60) (.tmp 69) 94 rfl (w.heap.size + 2) 97 it (.agg #[.string ⟨#[]⟩, .int .i64 0, .int .i64 0, .int .i64 0, .int .i64 0, .int .i64 0, .int .i64 0, .int .i64 0, .int .i64 0, .int .i64 0, .string ⟨#[]⟩, .int .i64 0, .int .i64 0]) 13 120 Tryz.underlying94 hit ht0 ht1 ht2 rfl (by decide) _ _ _ rfl (S3.out.rw.alloc _) ⟨w3.heap.size, 0, none⟩ 1 1 (turV y0) rfl rfl (cells_at _ _ _ _ _ rfl (by rw [HY0.out])) (turV_one y0) (by unfold maxLen; omega) (by omega) (by rw [size_alloc]; have := S3.out.zb.2.2.2; omega) ?_; intro v4 w4 hown hgrow _ hat; have S4 := Lib.hid (S3.out.out hown rfl hgrow hat); obtain ⟨a4, c4, rfl⟩ := own_shape hown; clear hown hgrow hat d0 d1 d2 d3 d4 d5 d6 d7 d8 d9 d10)
                  go_roundw
                  case rel => exact ⟨j + 1, by omega, by omega, rfl, by rw [HLS.out, HLY.out, ← HYE.out]; exact S4⟩
                  case measure => simp [intOf]; omega
                · have HLY : Hid (addY r L j = L) := by show _ = _; unfold addY; rw [if_neg hf]
                  have hf' : (E != 0) = true := by rw [bne_iff_ne, HE.out]; exact hf
                  clear hf HV HE
                  go_wp2
                  go_roundw
                  case rel => exact ⟨j + 1, by omega, by omega, rfl, by rw [HLS.out, HLY.out]; exact S3⟩
                  case measure => simp [intOf]; omega
            · obtain rfl : j = 2100 := by omega
              have HRK : Hid (TuK w wr s.rules x.rl (k + 1) (.slice ao L.length co)) := by
                show TuK _ _ _ _ _ _
                unfold TuK
                rw [HS1.out, ← clp_hi HFR.out.2.2, ← HLE.out]
                exact SJ.out.rw
              have ZK2 := Lib.hid SJ.out.zb
              clear hle
              go_wp2
              go_roundw
              case rel => exact ⟨k + 1, by omega, by go_num, HRK, ZK2⟩
              case measure => simp [intOf]; omega
        · have e1 : (r.nm.toList == x.rl.toList) = false := by rw [streq, decide_eq_false hnm]
          have HS1 : Hid (TuK w (wr.alloc (.cells #[.string r.nm, .int .i64 r.fr, .int .i64 r.to, .int .i64 r.at'.mo, .int .i64 r.at'.k, .int .i64 r.at'.a, .int .i64 r.at'.n, .int .i64 r.at'.t, .int .i64 r.at'.c, .int .i64 r.sv, .string r.lt] 84)) s.rules x.rl (k + 1) u5) := by
            show TuK _ _ _ _ _ _
            unfold TuK
            rw [HSN.out]
            unfold addR
            rw [if_neg hnm]
            exact S1.out.rw
          clear hl0 hnm HSN
          go_wp2
          go_roundw
          case rel => exact ⟨k + 1, by omega, by go_num, HS1, S1.out.zb⟩
          case measure => simp [intOf]; omega
      · obtain rfl : k = s.rules.length := by omega
        have hnl : ¬ (s.rules.length : Int) < (s.rules.length : Int) := by omega
        obtain ⟨L, hL⟩ : ∃ L, L = trn0 s.rules x.rl := ⟨_, rfl⟩
        obtain ⟨hTO, hTL⟩ := trn0_all s.rules x.rl HO.out.ok
        unfold TuK at HK
        rw [List.take_length] at HK
        rw [← hL] at HK hTO hTL
        have HTE : Hid (trE s.rules x = atZ x.off 0 (so L)) := by show _ = _; unfold trE trns; rw [hL]
        have hLl : L.length ≤ 40000 := by omega
        obtain ⟨ao, co, rfl⟩ := own_shape HK.out
        have HIO := Lib.hid (inOrder_any (L.length + 1) _ L (w.heap.size + 2) wr (Nat.lt_succ_self _) (tur_of_own HK.out) ZK.out.2.2.2 hTO.tgs hTO.no (by omega))
        have HTO := Lib.hid hTO
        clear hL hTO hTL hlt hk HK
        go_wp2_with fail
        refine HIO.out.mono ?_
        rintro e w3 ⟨v3, rfl, h3, hb3⟩
        clear q0 q1 q2 c0 c1
        obtain ⟨S, hS⟩ : ∃ S, S = so L := ⟨_, rfl⟩
        rw [← hS] at h3 HTE
        have hSl : S.length = L.length := by rw [hS, so_len]
        have HSM : Hid (∀ y ∈ S, y ∈ L) := by show ∀ y ∈ S, y ∈ L; rw [hS]; exact fun y hy => so_mem hy
        have Z3 := Lib.hid (ZK.out.next hb3)
        obtain ⟨a3, c3, rfl, h30, h31, hrow⟩ := h3
        have hcm := maxLen_eq _ h31
        have hS4 : S.length ≤ 40000 := by omega
        have HC3 := Lib.hid (And.intro h30 h31)
        clear hS hSl hb3 h30 h31 HIO hLl
        rcases hrow with rfl | ⟨D, off, rfl, hrow, hD⟩
        · go_wp2
          refine wp_loop_rounds 1 ?_
          rw [rounds_succ]
          go_wp2
          go_ret
          exact ⟨_, rfl, by rw [HTE.out]; exact .inl ⟨a3, c3, rfl, rfl⟩, Z3.out.2.2.1⟩
        · have R3 := Lib.hid hrow
          have HD := Lib.hid hD
          clear hrow hD
          go_wp2
          go_loopw [11, 12] (fun sv i wx => ∃ k : Nat, k ≤ S.length ∧ i = .int .i64 k ∧ sv = .int .i64 (svA S k) ∧ Hid (RowT wx D off (mixR x.off S k)) ∧ Hid (GW D w3 wx)) (fun _ i _ => (S.length - intOf i).toNat)
          case atStart => exact ⟨0, Nat.zero_le _, rfl, rfl, R3, GW.refl _ _⟩
          case round =>
            obtain ⟨k, hk, rfl, rfl, RK, GK⟩ := hrel
            by_cases hlt : k < S.length
            · have hki : (k : Int) < (S.length : Int) := by omega
              obtain ⟨y, hy⟩ : ∃ y, y = S[k] := ⟨_, rfl⟩
              have hym : y ∈ L := HSM.out y (by rw [hy]; exact List.getElem_mem _)
              have hrl := HTO.out.rl y hym
              have hno := HTO.out.no y hym
              obtain ⟨-, -, -, -, -, hsv1, hsv2, hch⟩ := rulE_zero (HO.out.ok _ hrl.1)
              obtain ⟨-, hcl1, hcl2, -, -, -, -⟩ := chkM_zero hch
              have hsvb := svA_bd (R := fun _ => True) (l := S) (fun z hz => by
                obtain ⟨-, -, -, -, -, a, b, -⟩ := rulE_zero (HO.out.ok _ (HTO.out.rl z (HSM.out z hz)).1)
                exact ⟨a, b⟩) k
              obtain ⟨hsb1, hsb2⟩ := hsvb
              obtain ⟨hno1, hno2⟩ := hno
              obtain ⟨hof1, hof2⟩ := HO.out.o
              have hmx : (mixR x.off S k)[k]? = some y := by rw [hy]; exact mixR_at hlt
              obtain ⟨y0, y1, y2, y3, y4, y5, y6, y7, y8, y9, y10, y11, y12⟩ := RK.out.at hmx
              have fz := RK.out.2.1
              have hDz : D < wr.heap.size := RK.out.2.2
              have ZK2 := Z3.out.low (GK.out.to Z3.out.2.2.2 HD.out)
              obtain ⟨g0, -, -, -, -, -, -, -, -, -, -, -⟩ := ZK2.era
              have hw0 : w.heap.size + 1 < wr.heap.size := ZK2.2.2.2
              have hwD : ¬ D = w.heap.size + 1 := by have := HD.out; omega
              have hwD' : ¬ w.heap.size + 1 = D := by have := HD.out; omega
              have HMX := Lib.hid hmx
              have HSV : Hid (svA S (k + 1) = y.r.sv) := by show _ = _; rw [svA_succ hlt, hy]
              have HIN : Hid (∀ T, insT' x.off (svA S k) y = T → mixR x.off S (k + 1) = (mixR x.off S k).set k ⟨y.r, y.no, y.tg, T⟩) := by
                show ∀ T, _ → _
                intro T hT
                rw [mixR_succ hlt, atL_sv x.off S k hlt, ← hy, hT]
              have HINS : Hid (insT' x.off (svA S k) y = y.no - (if y.r.at'.c = 0 then x.off + svA S k else if y.r.at'.c = 1 then x.off else 0)) := by show _ = _; rfl
              clear hym hrl hch hmx hy ZK2 hlt
              generalize svA S k = sv at *
              have tw1 : IntKind.i64.wrap (y.no - x.off) = y.no - x.off := IntWalk.i64_in _ (by omega)
              rcases (show y.r.at'.c = 0 ∨ y.r.at'.c = 1 ∨ y.r.at'.c = 2 by omega) with hc | hc | hc
              · rw [hc] at y8
                have HT : Hid (insT' x.off sv y = y.no - (x.off + sv)) := by show _ = _; rw [HINS.out, if_pos hc]
                clear hc hcl1 hcl2
                go_wp2
                go_region
                go_wp2
                go_roundw
                case rel =>
                  exact ⟨k + 1, by omega, by go_num, by rw [HSV.out], by show RowT _ _ _ _; rw [HIN.out _ HT.out, show y.no - (x.off + sv) = y.no - x.off - sv by omega]; exact (RK.out.put3 HMX.out _ _ _).drw, (((GK.out.set _ _).set _ _).set _ _).drew⟩
                case measure => simp [intOf]; omega
              · rw [hc] at y8
                have HT : Hid (insT' x.off sv y = y.no - x.off) := by show _ = _; rw [HINS.out, if_neg (by omega), if_pos hc]
                clear hc hcl1 hcl2
                go_wp2
                go_region
                go_wp2
                go_roundw
                case rel =>
                  exact ⟨k + 1, by omega, by go_num, by rw [HSV.out], by show RowT _ _ _ _; rw [HIN.out _ HT.out]; exact (RK.out.put2 HMX.out _ _).drw, ((GK.out.set _ _).set _ _).drew⟩
                case measure => simp [intOf]; omega
              · rw [hc] at y8
                have HT : Hid (insT' x.off sv y = y.no) := by show _ = _; rw [HINS.out, if_neg (by omega), if_neg (by omega), Int.sub_zero]
                clear hc hcl1 hcl2
                go_wp2
                go_roundw
                case rel =>
                  exact ⟨k + 1, by omega, by go_num, by rw [HSV.out], by show RowT _ _ _ _; rw [HIN.out _ HT.out]; exact RK.out.put1 HMX.out _, GK.out.set _ _⟩
                case measure => simp [intOf]; omega
            · obtain rfl : k = S.length := by omega
              have hnl2 : ¬ (S.length : Int) < (S.length : Int) := by omega
              have HF : Hid (SlAt wr 13 RTur (.slice (some ⟨D, off, none⟩) S.length c3) (trE s.rules x)) := by
                show SlAt _ _ _ _ _
                have h := RK.out
                rw [mixR_end] at h
                have h2 := h.sl (co := c3) (by rw [atZ_len]; exact HC3.out.1) HC3.out.2
                rw [atZ_len] at h2
                rw [HTE.out]
                exact h2
              have HBF : Hid (Below w.heap.size w wr) := by
                show Below _ _ _
                have h1 := GK.out.to (B := w.heap.size + 2) Z3.out.2.2.2 HD.out
                exact Z3.out.2.2.1.trans (h1.mono (Nat.le_add_right _ _))
              clear hlt hk
              go_wp2
              go_ret
              exact ⟨_, rfl, HF.out, HBF.out⟩
end Go.Proofs.YtdpbedkppomffaaGreatDoor
