/-
  zones.changes: the turns of an era. Rows of turns with their rules; sundialref.inOrder (written by ziogen.py). sundialref.inOrder, walked. sundialref.turns: the turns of an era.
-/
import Derived.Maps.AppendAt
import Derived.Test.YtbikdlcjbigafaaGreatDoorJZonG0
namespace Go.Proofs.YtbikdlcjbigafaaGreatDoor
set_option linter.unusedVariables false
set_option linter.unusedSimpArgs false
open Go.ChangeShapes Go.WideShapes Go.ChangeAt Go.RowKit Civ

theorem info_chg : (Tryz.prog.info? 133).map (fun i => (i.zero, i.size, i.bytes)) = some (some (.agg #[.int .i64 0, .int .i64 0, .int .i64 0, .string ⟨#[]⟩]), 4, 40) := by kernel_rfl
theorem info_rul : (Tryz.prog.info? 58).map (fun i => (i.zero, i.size, i.bytes)) = some (some (.agg #[.string ⟨#[]⟩, .int .i64 0, .int .i64 0, .int .i64 0, .int .i64 0, .int .i64 0, .int .i64 0, .int .i64 0, .int .i64 0, .int .i64 0, .string ⟨#[]⟩]), 11, 104) := by kernel_rfl
theorem chV_one (x : Trn) : ∀ u ∈ chV x, u.oneCell' = true := by
  intro u hu
  simp [chV] at hu
  rcases hu with rfl | rfl | rfl | rfl <;> rfl
theorem rulV_one (x : Rul) : ∀ u ∈ RulV x, u.oneCell' = true := by
  intro u hu
  simp [RulV] at hu
  rcases hu with rfl | rfl | rfl | rfl | rfl | rfl | rfl | rfl | rfl | rfl | rfl <;> rfl
/-- Find, of a rule in a year. -/
theorem find_r (r : Rul) (y : Int) (wx : World) (hT : Tab wx) : Calls Tryz.prog 69 #[.int .i64 y, .int .i64 r.at'.mo, .agg #[.int .i64 r.at'.k, .int .i64 r.at'.a, .int .i64 r.at'.n]] wx fun e w' => e = .returned (.tuple #[.int .i64 (if fdE r y = 0 then fdN r y else 0), .int .i64 (fdE r y)]) ∧ Below wx.heap.size wx w' := by
  unfold fdE fdN
  by_cases h : fndE y r.at'.mo r.at'.k r.at'.a r.at'.n = 0
  · refine (find_ok _ _ _ _ _ wx hT h).mono ?_
    rintro e w' ⟨rfl, hb⟩
    exact ⟨by rw [if_pos h, h], hb⟩
  · refine (find_err _ _ _ _ _ wx hT h).mono ?_
    rintro e w' ⟨rfl, hb⟩
    exact ⟨by rw [if_neg h], hb⟩
/-- two rows that grow: turns, and their rules. -/
def ChR (w0 wx : World) (vo vu : Value) (l : List Trn) (us : List Rul) : Prop := wx.ownsRow (w0.heap.size + 2) 133 4 vo l.length (l.flatMap chV) ∧ wx.ownsRow (w0.heap.size + 2) 58 11 vu us.length (us.flatMap RulV)
theorem ChR.nil (w0 wx : World) : ChR w0 wx (.slice none 0 0) (.slice none 0 0) [] [] := ⟨World.ownsRow_nil _ _ _ _, World.ownsRow_nil _ _ _ _⟩
theorem ChR.below {w0 wx w' : World} {vo vu : Value} {l : List Trn} {us : List Rul} (h : ChR w0 wx vo vu l us) (hb : Below wx.heap.size wx w') : ChR w0 w' vo vu l us := ⟨ownsRow_below h.1 hb (Nat.le_refl _), ownsRow_below h.2 hb (Nat.le_refl _)⟩
/-- beside the rows the boxes of the source and the era, and one of a rule. -/
structure ChS (w0 wx : World) (R : Nat) (r : Rul) (vr vz vl : Value) (x : Ero) (vo vu : Value) (l : List Trn) (us : List Rul) : Prop where
  zb : ZBx w0 wx vr vz vl x
  rw : ChR w0 wx vo vu l us
  bx : RulAt wx R 0 r
  bz : R < wx.heap.size ∧ w0.heap.size + 2 ≤ R
  no : vo.ownBlock ≠ some R ∧ vu.ownBlock ≠ some R
theorem own_lt {w : World} {B n sz : Nat} {e : TypeId} {v : Value} {xs : List Value} (h : w.ownsRow B e sz v n xs) : ∀ g, v.ownBlock = some g → B ≤ g ∧ g < w.heap.size := fun g q => h.lt g q
theorem ChS.below {w0 wx w' : World} {R : Nat} {r : Rul} {vr vz vl : Value} {x : Ero} {vo vu : Value} {l : List Trn} {us : List Rul} (h : ChS w0 wx R r vr vz vl x vo vu l us) (hb : Below wx.heap.size wx w') : ChS w0 w' R r vr vz vl x vo vu l us :=
  ⟨h.zb.next hb, h.rw.below hb, h.bx.below hb h.bz.1, ⟨Nat.lt_of_lt_of_le h.bz.1 hb.size, h.bz.2⟩, h.no⟩
theorem RulAt.block {w w' : World} {b o : Nat} {x : Rul} (h : RulAt w b o x) (e : w'.heap[b]? = w.heap[b]?) : RulAt w' b o x := by
  obtain ⟨h0, h1, h2, h3, h4, h5, h6, h7, h8, h9, h10⟩ := h
  exact ⟨(World.cell?_of_block (a := ⟨b, _, none⟩) e).trans h0, (World.cell?_of_block (a := ⟨b, _, none⟩) e).trans h1, (World.cell?_of_block (a := ⟨b, _, none⟩) e).trans h2, (World.cell?_of_block (a := ⟨b, _, none⟩) e).trans h3, (World.cell?_of_block (a := ⟨b, _, none⟩) e).trans h4, (World.cell?_of_block (a := ⟨b, _, none⟩) e).trans h5, (World.cell?_of_block (a := ⟨b, _, none⟩) e).trans h6, (World.cell?_of_block (a := ⟨b, _, none⟩) e).trans h7, (World.cell?_of_block (a := ⟨b, _, none⟩) e).trans h8, (World.cell?_of_block (a := ⟨b, _, none⟩) e).trans h9, (World.cell?_of_block (a := ⟨b, _, none⟩) e).trans h10⟩
/-- boxes below, where a row of the call's own is grown. -/
theorem ZBx.row {w0 wx w' : World} {vr vz vl : Value} {x : Ero} {n sz : Nat} {e : TypeId} {v : Value} {xs : List Value} {o : Obj} (h : ZBx w0 wx vr vz vl x) (ho : wx.ownsRow (w0.heap.size + 2) e sz v n xs) (hg : (wx.alloc o).grownBy w' v.ownBlock) : ZBx w0 w' vr vz vl x := by
  have hb : Below (w0.heap.size + 2) wx w' := append_keep ho ((Below.refl _ _).alloc h.2.2.2 _) h.2.2.2 hg
  obtain ⟨⟨h1, h2, h3⟩, h4, h5, h6⟩ := h
  have k : ∀ b j, b < w0.heap.size + 2 → w'.cell? ⟨b, j, none⟩ = wx.cell? ⟨b, j, none⟩ := fun b j hb' => hb.cell (p := ⟨b, j, none⟩) hb'
  obtain ⟨e0, e1, e2, e3, e4, e5, e6, e7, e8, e9, e10, e11⟩ := h4
  have q : w0.heap.size + 1 < w0.heap.size + 2 := Nat.lt_succ_self _
  exact ⟨⟨(k _ _ (by omega)).trans h1, (k _ _ (by omega)).trans h2, (k _ _ (by omega)).trans h3⟩, ⟨(k _ _ q).trans e0, (k _ _ q).trans e1, (k _ _ q).trans e2, (k _ _ q).trans e3, (k _ _ q).trans e4, (k _ _ q).trans e5, (k _ _ q).trans e6, (k _ _ q).trans e7, (k _ _ q).trans e8, (k _ _ q).trans e9, (k _ _ q).trans e10, (k _ _ q).trans e11⟩, h5.trans (hb.mono (Nat.le_add_right _ _)), Nat.le_trans h6 hb.size⟩
theorem ChS.out {w0 wx w' : World} {R : Nat} {r : Rul} {vr vz vl : Value} {x : Ero} {vo vu v' : Value} {l : List Trn} {us : List Rul} {y : Trn} {o : Obj} {m : Nat} (h : ChS w0 wx R r vr vz vl x vo vu l us) (ho : w'.ownsRow (w0.heap.size + 2) 133 4 v' m (l.flatMap chV ++ chV y)) (hm : m = l.length + 1) (hg : (wx.alloc o).grownBy w' vo.ownBlock) (hat : v'.ownBlock = vo.ownBlock ∨ v'.ownBlock = some (wx.alloc o).heap.size) :
    ChS w0 w' R r vr vz vl x v' vu (l ++ [y]) us := by
  subst hm
  have hs := size_alloc wx o
  refine ⟨h.zb.row h.rw.1 hg, ⟨own_snocG ho, (h.rw.2.alloc o).kept hg (own_apart h.rw.2 h.rw.1 (by decide))⟩, h.bx.block ?_, ⟨Nat.lt_of_lt_of_le h.bz.1 (Nat.le_trans (by omega) hg.size), h.bz.2⟩, ?_, h.no.2⟩
  · exact (hg.block R (by have := h.bz.1; omega) (fun e => h.no.1 e.symm)).trans (Below.heap_alloc _ _ _ h.bz.1)
  · rcases hat with e | e
    · rw [e]; exact h.no.1
    · rw [e]; intro q; have := Option.some.inj q; have := h.bz.1; omega
theorem ChS.rul {w0 wx w' : World} {R : Nat} {r : Rul} {vr vz vl : Value} {x : Ero} {vo vu v' : Value} {l : List Trn} {us : List Rul} {y : Rul} {o : Obj} {m : Nat} (h : ChS w0 wx R r vr vz vl x vo vu l us) (ho : w'.ownsRow (w0.heap.size + 2) 58 11 v' m (us.flatMap RulV ++ RulV y)) (hm : m = us.length + 1) (hg : (wx.alloc o).grownBy w' vu.ownBlock) (hat : v'.ownBlock = vu.ownBlock ∨ v'.ownBlock = some (wx.alloc o).heap.size) :
    ChS w0 w' R r vr vz vl x vo v' l (us ++ [y]) := by
  subst hm
  have hs := size_alloc wx o
  refine ⟨h.zb.row h.rw.2 hg, ⟨(h.rw.1.alloc o).kept hg (own_apart h.rw.1 h.rw.2 (by decide)), own_snocG ho⟩, h.bx.block ?_, ⟨Nat.lt_of_lt_of_le h.bz.1 (Nat.le_trans (by omega) hg.size), h.bz.2⟩, h.no.1, ?_⟩
  · exact (hg.block R (by have := h.bz.1; omega) (fun e => h.no.2 e.symm)).trans (Below.heap_alloc _ _ _ h.bz.1)
  · rcases hat with e | e
    · rw [e]; exact h.no.2
    · rw [e]; intro q; have := Option.some.inj q; have := h.bz.1; omega
/-- a rule's box is made. -/
theorem ChS.new {w0 wx : World} {vr vz vl : Value} {x : Ero} {vo vu : Value} {l : List Trn} {us : List Rul} (hz : ZBx w0 wx vr vz vl x) (h : ChR w0 wx vo vu l us) (r : Rul) :
    ChS w0 (wx.alloc (.cells #[.string r.nm, .int .i64 r.fr, .int .i64 r.to, .int .i64 r.at'.mo, .int .i64 r.at'.k, .int .i64 r.at'.a, .int .i64 r.at'.n, .int .i64 r.at'.t, .int .i64 r.at'.c, .int .i64 r.sv, .string r.lt] 58)) wx.heap.size r vr vz vl x vo vu l us := by
  have hb : Below wx.heap.size wx (wx.alloc (.cells #[.string r.nm, .int .i64 r.fr, .int .i64 r.to, .int .i64 r.at'.mo, .int .i64 r.at'.k, .int .i64 r.at'.a, .int .i64 r.at'.n, .int .i64 r.at'.t, .int .i64 r.at'.c, .int .i64 r.sv, .string r.lt] 58)) := (Below.refl _ _).alloc (Nat.le_refl _) _
  refine ⟨hz.next hb, h.below hb, RulAt.new _ _ _, ⟨by rw [size_alloc]; exact Nat.lt_succ_self _, hz.2.2.2⟩, fun e => ?_, fun e => ?_⟩
  · have := (own_lt h.1 _ e).2; omega
  · have := (own_lt h.2 _ e).2; omega
theorem ChS.cells {w0 wx : World} {R : Nat} {r : Rul} {vr vz vl : Value} {x : Ero} {vo vu : Value} {l : List Trn} {us : List Rul} (h : ChS w0 wx R r vr vz vl x vo vu l us) :
    wx.cell? ⟨R, 0, none⟩ = some (.string r.nm) ∧ wx.cell? ⟨R, 1, none⟩ = some (.int .i64 r.fr) ∧ wx.cell? ⟨R, 2, none⟩ = some (.int .i64 r.to) ∧ wx.cell? ⟨R, 3, none⟩ = some (.int .i64 r.at'.mo) ∧ wx.cell? ⟨R, 4, none⟩ = some (.int .i64 r.at'.k) ∧ wx.cell? ⟨R, 5, none⟩ = some (.int .i64 r.at'.a) ∧ wx.cell? ⟨R, 6, none⟩ = some (.int .i64 r.at'.n) ∧ wx.cell? ⟨R, 7, none⟩ = some (.int .i64 r.at'.t) ∧ wx.cell? ⟨R, 8, none⟩ = some (.int .i64 r.at'.c) ∧ wx.cell? ⟨R, 9, none⟩ = some (.int .i64 r.sv) ∧ wx.cell? ⟨R, 10, none⟩ = some (.string r.lt) := by
  have := h.bx
  unfold RulAt at this
  simpa only [Nat.zero_add] using this
def RChg (cs : List Value) (x : Trn) : Prop := cs = [.int .i64 x.no, .int .i64 x.ins, .int .i64 x.r.sv, .string x.r.lt]
/-- what is asked of a source's rules and of an era's offset. -/
structure ROk (s : Src) (x : Ero) : Prop where
  ok : ∀ r ∈ s.rules, rulE r = 0
  n : s.rules.length ≤ 200
  o : -86400 ≤ x.off ∧ x.off ≤ 86400
/-- behind k rules. -/
def ChK (w0 wx : World) (rules : List Rul) (nm : ByteArray) (k : Nat) (vo vu : Value) : Prop := ChR w0 wx vo vu (trn0 (rules.take k) nm) ((trn0 (rules.take k) nm).map Trn.r)
/-- a row of the call's own: none, or one that may be written. -/
theorem row_of_own {w : World} {B co : Nat} {ao : Option Addr} {L : List Trn} (h : w.ownsRow B 133 4 (.slice ao L.length co) L.length (L.flatMap chV)) :
    (ao = none ∧ co = 0 ∧ L = []) ∨ ∃ D off, ao = some ⟨D, off, none⟩ ∧ RowC w D off L ∧ B ≤ D ∧ (Value.slice ao L.length co).ownBlock = some D ∧ L.length ≤ co ∧ co ≤ maxLen := by
  rcases h.2 with ⟨e, h0⟩ | ⟨g, cap, cur, e, hb, hh, hc, hm, hs', ht⟩
  · simp only [Value.slice.injEq] at e
    exact .inl ⟨e.1, e.2.2, List.length_eq_zero_iff.1 h0⟩
  · simp only [Value.slice.injEq] at e
    obtain ⟨rfl, -, rfl⟩ := e
    refine .inr ⟨g, 0, rfl, ⟨fun i hi => ?_, fun o => h.frozenAt o, (h.lt g rfl).2⟩, hb, rfl, hc, hm⟩
    have k : ∀ j, j < 4 → w.cell? ⟨g, 0 + i * 4 + j, none⟩ = (chV L[i])[j]? := fun j hj => by
      rw [Nat.zero_add, h.cellAt _ (by omega)]
      exact flat_at (sz := 4) (fun _ => rfl) L i j hi hj
    exact ⟨k 0 (by omega), k 1 (by omega), k 2 (by omega), k 3 (by omega)⟩
theorem ZBx.low {w0 wx w' : World} {vr vz vl : Value} {x : Ero} (h : ZBx w0 wx vr vz vl x) (hb : Below (w0.heap.size + 2) wx w') : ZBx w0 w' vr vz vl x := by
  obtain ⟨⟨h1, h2, h3⟩, h4, h5, h6⟩ := h
  have k : ∀ b j, b < w0.heap.size + 2 → w'.cell? ⟨b, j, none⟩ = wx.cell? ⟨b, j, none⟩ := fun b j hb' => hb.cell (p := ⟨b, j, none⟩) hb'
  obtain ⟨e0, e1, e2, e3, e4, e5, e6, e7, e8, e9, e10, e11⟩ := h4
  have q : w0.heap.size + 1 < w0.heap.size + 2 := Nat.lt_succ_self _
  exact ⟨⟨(k _ _ (by omega)).trans h1, (k _ _ (by omega)).trans h2, (k _ _ (by omega)).trans h3⟩, ⟨(k _ _ q).trans e0, (k _ _ q).trans e1, (k _ _ q).trans e2, (k _ _ q).trans e3, (k _ _ q).trans e4, (k _ _ q).trans e5, (k _ _ q).trans e6, (k _ _ q).trans e7, (k _ _ q).trans e8, (k _ _ q).trans e9, (k _ _ q).trans e10, (k _ _ q).trans e11⟩, h5.trans (hb.mono (Nat.le_add_right _ _)), Nat.le_trans h6 hb.size⟩
/-- a turn whose place is its instant. -/
def txT (x : Trn) : Trn := ⟨x.r, x.no, x.ins, x.ins⟩
theorem RowC.put1 {w : World} {D off : Nat} {l : List Trn} (h : RowC w D off l) {i : Nat} {y : Trn} (hy : l[i]? = some y) (v q : Int) : RowC (w.setCell ⟨D, off + i * 4 + 1, none⟩ (.int .i64 v)) D off (l.set i ⟨y.r, y.no, v, q⟩) := by
  obtain ⟨hi, rfl⟩ := List.getElem?_eq_some_iff.1 hy
  refine ⟨fun k hk => ?_, fun o => by rw [World.frozen?_setCell]; exact h.2.1 o, by rw [World.size_setCell]; exact h.2.2⟩
  rw [List.length_set] at hk
  obtain ⟨a, b, c, d⟩ := h.1 k hk
  by_cases e : i = k
  · subst e
    rw [List.getElem_set_self]
    exact ⟨(set_other (by omega)).trans a, set_sameZ b, (set_other (by omega)).trans c, (set_other (by omega)).trans d⟩
  · rw [List.getElem_set_ne e]
    exact ⟨(set_other (by omega)).trans a, (set_other (by omega)).trans b, (set_other (by omega)).trans c, (set_other (by omega)).trans d⟩
/-- the row behind k rounds. -/
def mixL (o : Int) (S : List Trn) (k : Nat) : List Trn := ((atZ o 0 S).take k).map txT ++ S.drop k
theorem mix_zero (o : Int) (S : List Trn) : mixL o S 0 = S := rfl
theorem mix_at {o : Int} {S : List Trn} {k : Nat} (h : k < S.length) : (mixL o S k)[k]? = some S[k] := by
  unfold mixL
  have e : (((atZ o 0 S).take k).map txT).length = k := by rw [List.length_map, List.length_take, atZ_len]; omega
  rw [List.getElem?_append_right (by omega), e, Nat.sub_self, List.getElem?_drop, Nat.add_zero, List.getElem?_eq_getElem h]
theorem mix_succ {o : Int} {S : List Trn} {k : Nat} (h : k < S.length) : mixL o S (k + 1) = (mixL o S k).set k (txT ((atZ o 0 S)[k]'(by rw [atZ_len]; exact h))) := by
  have hl : k < (atZ o 0 S).length := by rw [atZ_len]; exact h
  unfold mixL
  have e : (((atZ o 0 S).take k).map txT).length = k := by rw [List.length_map, List.length_take, atZ_len]; omega
  rw [List.set_append, if_neg (by omega), e, Nat.sub_self, List.take_succ_eq_append_getElem hl, List.map_append]
  have e2 : S.drop k = S[k] :: S.drop (k + 1) := List.drop_eq_getElem_cons h
  rw [e2, List.set_cons_zero, List.map_singleton, List.append_assoc]
  rfl
theorem atL_sv (o : Int) (S : List Trn) (k : Nat) (h : k < S.length) : (atZ o 0 S)[k]'(by rw [atZ_len]; exact h) = ⟨S[k].r, S[k].no, S[k].tg, insT' o (svA S k) S[k]⟩ := by
  rw [atZ_at o S 0 k h]
  cases k <;> rfl
theorem mix_end (o : Int) (S : List Trn) : mixL o S S.length = (atZ o 0 S).map txT := by
  unfold mixL
  rw [List.drop_length, List.append_nil, List.take_of_length_le (by rw [atZ_len]; exact Nat.le_refl _)]
theorem RowC.sl {w : World} {D off co : Nat} {T : List Trn} (h : RowC w D off (T.map txT)) (h0 : T.length ≤ co) (h1 : co ≤ maxLen) : SlAt w 4 RChg (.slice (some ⟨D, off, none⟩) T.length co) T := by
  by_cases hn : T.length = 0
  · exact .inl ⟨some ⟨D, off, none⟩, co, by rw [hn], List.length_eq_zero_iff.1 hn⟩
  · refine .inr ⟨D, off, co, rfl, by omega, h0, h1, h.2.2, fun i hi => ⟨[.int .i64 T[i].no, .int .i64 T[i].ins, .int .i64 T[i].r.sv, .string T[i].r.lt], rfl, rfl, fun j hj => ?_⟩⟩
    obtain ⟨a, b, c, d⟩ := h.1 i (by rw [List.length_map]; exact hi)
    simp only [List.getElem_map] at a b c d
    match j, hj with
    | 0, _ => exact a
    | 1, _ => exact b
    | 2, _ => exact c
    | 3, _ => exact d
theorem svA_bd {R : Rul → Prop} {l : List Trn} (h : ∀ x ∈ l, -86400 ≤ x.r.sv ∧ x.r.sv ≤ 86400) (k : Nat) : -86400 ≤ svA l k ∧ svA l k ≤ 86400 := by
  unfold svA
  cases k with
  | zero => simp
  | succ k =>
    simp only
    rcases e : l[k]? with _ | y
    · simp
    · exact h y (List.mem_of_getElem? e)
theorem svA_succ {l : List Trn} {k : Nat} (h : k < l.length) : svA l (k + 1) = l[k].r.sv := by
  unfold svA
  simp only
  rw [List.getElem?_eq_getElem h]
/-- a slice's block, if it has one, is not below a number. -/
def FrV (B : Nat) (v : Value) : Prop := ∀ b o n c, v = .slice (some ⟨b, o, none⟩) n c → B ≤ b
theorem FrV.nil (B : Nat) : FrV B (.slice none 0 0) := fun b o n c h => by cases h
theorem FrV.one {B D off n c : Nat} (h : B ≤ D) : FrV B (.slice (some ⟨D, off, none⟩) n c) := fun b o n' c' e => by
  simp only [Value.slice.injEq, Option.some.injEq, Addr.mk.injEq] at e
  obtain ⟨⟨rfl, -, -⟩, -, -⟩ := e
  exact h
set_option maxHeartbeats 8000000 in
set_option maxRecDepth 100000 in
theorem changes_own (s : Src) (x : Ero) (vr vz vl : Value) (w : World) (hs : SrcAt w vr vz vl s) (hT : Tab w) (hok : ROk s x) :
    Calls Tryz.prog 37 #[.agg #[vr, vz, vl], .agg #[.int .i64 x.off, .string x.rl, .int .i64 x.sv, .string x.fm, .bool x.en, .int .i64 x.yr, .int .i64 x.un.mo, .int .i64 x.un.k, .int .i64 x.un.a, .int .i64 x.un.n, .int .i64 x.un.t, .int .i64 x.un.c]] w fun e w' => ∃ v, e = .returned v ∧ (SlAt w' 4 RChg v (trE s.rules x) ∧ FrV (w.heap.size + 2) v) ∧ Below w.heap.size w w' := by
  obtain ⟨ic, hic, hc0, hc1, hc2⟩ := info_parts info_chg
  obtain ⟨ir, hir, hr0, hr1, hr2⟩ := info_parts info_rul
  have Z0 := Lib.hid (ZBx.new w vr vz vl x)
  obtain ⟨W0, hW0⟩ : ∃ W0, W0 = (w.alloc (.cells #[vr, vz, vl] 28)).alloc (.cells #[.int .i64 x.off, .string x.rl, .int .i64 x.sv, .string x.fm, .bool x.en, .int .i64 x.yr, .int .i64 x.un.mo, .int .i64 x.un.k, .int .i64 x.un.a, .int .i64 x.un.n, .int .i64 x.un.t, .int .i64 x.un.c] 68) := ⟨_, rfl⟩
  rw [← hW0] at Z0
  have HW := Lib.hid hW0
  have HS := Lib.hid hs
  have HT := Lib.hid hT
  have HO := Lib.hid hok
  obtain ⟨ar, cr, rfl, hl⟩ := hs.1.shape
  have hml : s.rules.length ≤ 200 := hok.n
  clear hs hT hok hW0 hl
  go_enter Tryz.func37, Tryz.ntmps37
  go_upto_region 1 with fail
  rw [← HW.out]
  obtain ⟨g0, g1, g2⟩ := Z0.out.1
  go_wp2
  go_loopw [5, 6, 19] (fun vo vu i wr => ∃ k : Nat, k ≤ s.rules.length ∧ i = .int .i64 k ∧ Hid (ChK w wr s.rules x.rl k vo vu) ∧ Hid (ZBx w wr (.slice ar s.rules.length cr) vz vl x)) (fun _ _ i _ => (s.rules.length - intOf i).toNat)
  case atStart => exact ⟨0, Nat.zero_le _, rfl, ChR.nil _ _, Z0⟩
  case round =>
    obtain ⟨k, hk, rfl, HK, ZK⟩ := hrel
    obtain ⟨q0, q1, q2⟩ := ZK.out.1
    have hz2 : w.heap.size + 1 < wr.heap.size := ZK.out.2.2.2
    obtain ⟨c0, c1, -, -, -, -, -, -, -, -, -, -⟩ := ZK.out.era
    by_cases hlt : k < s.rules.length
    · have hki : (k : Int) < (s.rules.length : Int) := by omega
      obtain ⟨b, off, rfl, hb, ⟨d0, d1, d2, d3, d4, d5, d6, d7, d8, d9, d10⟩, -⟩ := elemRul (ZK.out.src HS.out).1 k hlt
      have HSN := Lib.hid (trn0_snoc s.rules x.rl k hlt)
      have HRE := Lib.hid (HO.out.ok _ (List.getElem_mem hlt))
      have HL0 := Lib.hid (trn0_ok x.rl s.rules HO.out.ok k hk)
      generalize s.rules[k] = r at *
      obtain ⟨l0, hl0⟩ : ∃ l0, l0 = trn0 (s.rules.take k) x.rl := ⟨_, rfl⟩
      unfold ChK at HK
      rw [← hl0] at HK HSN HL0
      have S1 := Lib.hid (ChS.new ZK.out HK.out r)
      by_cases hnm : r.nm = x.rl
      · have e1 : (r.nm.toList == x.rl.toList) = true := by rw [streq, decide_eq_true hnm]
        have HS1 : Hid (trn0 (s.rules.take (k + 1)) x.rl = addK r l0 (r.to - r.fr + 1).toNat) := by
          show _ = _
          rw [HSN.out]
          unfold addR
          rw [if_pos hnm]
        clear hl0 hnm HSN
        obtain ⟨wo, rfl⟩ : ∃ wo : World, wo = wr := ⟨_, rfl⟩
        go_wp2
        obtain ⟨K, hK⟩ : ∃ K : Nat, K = (r.to - r.fr + 1).toNat := ⟨_, rfl⟩
        have hre := rulE_zero HRE.out
        have hch := chkM_zero hre.2.2.2.2.2.2.2
        have hKt : r.fr + (K : Int) = r.to + 1 := by omega
        have hfr : 1900 ≤ r.fr ∧ r.to ≤ 2099 := by omega
        have hti : 0 ≤ r.at'.t ∧ r.at'.t ≤ 604800 := by omega
        obtain ⟨hfr1, hfr2⟩ := hfr
        obtain ⟨hti1, hti2⟩ := hti
        have HKE := Lib.hid hK
        clear hK hre hch e1
        have S10 : Hid (ChS w (wo.alloc (.cells #[.string r.nm, .int .i64 r.fr, .int .i64 r.to, .int .i64 r.at'.mo, .int .i64 r.at'.k, .int .i64 r.at'.a, .int .i64 r.at'.n, .int .i64 r.at'.t, .int .i64 r.at'.c, .int .i64 r.sv, .string r.lt] 58)) wo.heap.size r (.slice (some ⟨b, off, none⟩) s.rules.length cr) vz vl x u5 u6 (addK r l0 0) ((addK r l0 0).map Trn.r)) := S1
        clear S1
        go_loopw [5, 6, 9] (fun vo vu y wr => ∃ j : Nat, j ≤ K ∧ y = .int .i64 (r.fr + (j : Int)) ∧ Hid (ChS w wr wo.heap.size r (.slice (some ⟨b, off, none⟩) s.rules.length cr) vz vl x vo vu (addK r l0 j) ((addK r l0 j).map Trn.r))) (fun _ _ y _ => (r.to + 1 - intOf y).toNat)
        case atStart => exact ⟨0, Nat.zero_le _, by first | rfl | simp, S10⟩
        case round =>
          obtain ⟨j, hj, rfl, SJ⟩ := hrel
          clear S10
          obtain ⟨L, hL⟩ : ∃ L, L = addK r l0 j := ⟨_, rfl⟩
          rw [← hL] at SJ
          have HLS : Hid (addK r l0 (j + 1) = addY r L (r.fr + j)) := by show _ = _; rw [hL]; rfl
          have HLL : Hid (L.length ≤ 40000) := by
            show _ ≤ _
            have h1 := addK_len r l0 j
            have h2 := HL0.out.2
            rw [hL]
            omega
          have HLE := Lib.hid hL
          clear hL
          obtain ⟨us, hus⟩ : ∃ us, us = L.map Trn.r := ⟨_, rfl⟩
          rw [← hus] at SJ
          have HUL : Hid (us.length = L.length) := by show _ = _; rw [hus, List.length_map]
          have HUE := Lib.hid hus
          clear hus
          obtain ⟨ao, co, rfl⟩ := own_shape SJ.out.rw.1
          obtain ⟨au, cu, rfl⟩ := own_shape SJ.out.rw.2
          obtain ⟨d0, d1, d2, d3, d4, d5, d6, d7, d8, d9, d10⟩ := SJ.out.cells
          by_cases hle : r.fr + (j : Int) ≤ r.to
          · have HFI := Lib.hid (find_r r (r.fr + j) wr (HT.out.below SJ.out.zb.2.2.1))
            go_wp2_with fail
            refine HFI.out.mono ?_; rintro e w3 ⟨rfl, hb3⟩
            have S3 := Lib.hid (SJ.out.below hb3)
            clear hb3 d0 d1 d2 d3 d4 d5 d6 d7 d8 d9 d10 SJ HFI
            obtain ⟨d0, d1, d2, d3, d4, d5, d6, d7, d8, d9, d10⟩ := S3.out.cells
            by_cases hf : fdE r (r.fr + j) = 0
            · have hnb := fnd_bd _ _ _ _ _ hf
              have HLY : Hid (addY r L (r.fr + j) = L ++ [⟨r, fdN r (r.fr + j) * 86400 + r.at'.t, (L.length : Int), 0⟩]) := by show _ = _; unfold addY; rw [if_pos hf]
              rw [if_pos hf, hf]
              obtain ⟨N, hN⟩ : ∃ N, N = fdN r (r.fr + j) := ⟨_, rfl⟩
              have hN1 : -26000 ≤ N ∧ N ≤ 48000 := by rw [hN]; exact hnb
              obtain ⟨hN1, hN2⟩ := hN1
              rw [← hN] at HLY ⊢
              have hul : us.length ≤ 40000 := by rw [HUL.out]; exact HLL.out
              have hll := HLL.out
              clear hf hnb hN
              obtain ⟨y0, hy0⟩ : ∃ y0 : Trn, y0 = ⟨r, N * 86400 + r.at'.t, (us.length : Int), 0⟩ := ⟨_, rfl⟩
              have HY0 : Hid (chV y0 = [.int .i64 (N * 86400 + r.at'.t), .int .i64 (us.length : Int), .int .i64 r.sv, .string r.lt]) := by show _ = _; rw [hy0]; rfl
              have HYE := Lib.hid hy0
              clear hy0
              go_wp2_with (first | (at_builtin; refine wpList_append_own_at _ rfl (.tmp 49) (.tmp 63) 94 rfl (w.heap.size + 2) 133 ic (.agg #[.int .i64 0, .int .i64 0, .int .i64 0, .string ⟨#[]⟩]) 4 40 Tryz.underlying94 hic hc0 hc1 hc2 rfl (by decide) _ _ _ rfl (S3.out.rw.1.alloc _) ⟨w3.heap.size, 0, none⟩ 1 1 (chV y0) rfl rfl (cells_at _ _ _ _ _ rfl (by rw [HY0.out])) (chV_one y0) (by unfold maxLen; omega) (by omega) (by rw [size_alloc]; have := S3.out.zb.2.2.2; omega) ?_; intro v4 w4 hown hgrow _ hat; have S4 := Lib.hid (S3.out.out hown rfl hgrow hat); obtain ⟨a4, c4, rfl⟩ := own_shape hown; clear hown hgrow hat d0 d1 d2 d3 d4 d5 d6 d7 d8 d9 d10; obtain ⟨d0, d1, d2, d3, d4, d5, d6, d7, d8, d9, d10⟩ := S4.out.cells) | (at_builtin; refine wpList_append_own_at _ rfl (.tmp 65) (.tmp 67) 24 rfl (w.heap.size + 2) 58 ir (.agg #[.string ⟨#[]⟩, .int .i64 0, .int .i64 0, .int .i64 0, .int .i64 0, .int .i64 0, .int .i64 0, .int .i64 0, .int .i64 0, .int .i64 0, .string ⟨#[]⟩]) 11 104 Tryz.underlying24 hir hr0 hr1 hr2 rfl (by decide) _ _ _ rfl (S4.out.rw.2.alloc _) ⟨w4.heap.size, 0, none⟩ 1 1 (RulV r) rfl rfl (cells_at _ _ _ _ _ rfl rfl) (rulV_one r) (by unfold maxLen; omega) (by omega) (by rw [size_alloc]; have := S4.out.zb.2.2.2; omega) ?_; intro v5 w5 hown hgrow _ hat; have S5 := Lib.hid (S4.out.rul hown rfl hgrow hat); obtain ⟨a5, c5, rfl⟩ := own_shape hown; clear hown hgrow hat d0 d1 d2 d3 d4 d5 d6 d7 d8 d9 d10))
              go_roundw
              case rel =>
                refine ⟨j + 1, by omega, by go_num, ?_⟩
                rw [HLS.out, HLY.out]
                have h := S5.out
                have e0 : y0 = ⟨r, N * 86400 + r.at'.t, (L.length : Int), 0⟩ := by rw [HYE.out, HUL.out]
                rw [e0] at h
                have e : (L ++ [(⟨r, N * 86400 + r.at'.t, (L.length : Int), 0⟩ : Trn)]).map Trn.r = L.map Trn.r ++ [r] := by rw [List.map_append]; rfl
                rw [e, ← HUE.out]
                exact h
              case measure => simp [intOf]; omega
            · have HLY : Hid (addY r L (r.fr + j) = L) := by show _ = _; unfold addY; rw [if_neg hf]
              have hf' : (fdE r (r.fr + j) == 0) = false := by rw [beq_eq_false_iff_ne]; exact hf
              rw [if_neg hf]
              generalize fdE r (r.fr + j) = E at *
              clear hf
              go_wp2
              go_roundw
              case rel => exact ⟨j + 1, by omega, by go_num, by rw [HLS.out, HLY.out, ← HUE.out]; exact S3⟩
              case measure => simp [intOf]; omega
          · have hjK : j = K := by omega
            have hle' : ¬ r.fr + (j : Int) ≤ r.to := hle
            have HRK : Hid (ChK w wr s.rules x.rl (k + 1) (.slice ao L.length co) (.slice au us.length cu)) := by
              show ChK _ _ _ _ _ _ _
              unfold ChK
              rw [HS1.out, ← HKE.out, ← hjK, ← HLE.out, ← HUE.out]
              exact SJ.out.rw
            have ZK2 := Lib.hid SJ.out.zb
            clear hle hjK
            go_wp2
            go_roundw
            case rel => exact ⟨k + 1, by omega, by go_num, HRK, ZK2⟩
            case measure => simp [intOf]; omega
      · have e1 : (r.nm.toList == x.rl.toList) = false := by rw [streq, decide_eq_false hnm]
        have HS1 : Hid (trn0 (s.rules.take (k + 1)) x.rl = l0) := by
          show _ = _
          rw [HSN.out]
          unfold addR
          rw [if_neg hnm]
        clear hl0 hnm HSN
        go_wp2
        go_roundw
        case rel => exact ⟨k + 1, by omega, by go_num, by show ChK _ _ _ _ _ _ _; unfold ChK; rw [HS1.out]; exact S1.out.rw, S1.out.zb⟩
        case measure => simp [intOf]; omega
    · obtain rfl : k = s.rules.length := by omega
      have hnl : ¬ (s.rules.length : Int) < (s.rules.length : Int) := by omega
      obtain ⟨L, hL⟩ : ∃ L, L = trn0 s.rules x.rl := ⟨_, rfl⟩
      obtain ⟨us, hus⟩ : ∃ us, us = L.map Trn.r := ⟨_, rfl⟩
      obtain ⟨hTO, hTL⟩ := trn0_all s.rules x.rl HO.out.ok
      unfold ChK at HK
      rw [List.take_length] at HK
      rw [← hL] at HK hTO hTL
      rw [← hus] at HK
      have HTE : Hid (trE s.rules x = atZ x.off 0 (so L)) := by show _ = _; unfold trE trns; rw [hL]
      have hLl : L.length ≤ 40000 := by omega
      obtain ⟨ao, co, rfl⟩ := own_shape HK.out.1
      obtain ⟨au, cu, rfl⟩ := own_shape HK.out.2
      have HTO := Lib.hid hTO
      have HUS := Lib.hid hus
      clear hL hus hTO hTL hlt hk
      rcases row_of_own HK.out.1 with ⟨rfl, rfl, rfl⟩ | ⟨D, off, rfl, hrow, hD, hob, hc1, hc2⟩
      · go_wp2_with fail
        refine (sortStable_nil 0 wr).mono ?_
        rintro e w3 ⟨rfl, rfl⟩
        go_wp2
        refine wp_loop_rounds 1 ?_
        rw [rounds_succ]
        go_wp2
        go_ret
        exact ⟨_, rfl, by rw [HTE.out, so_self (show Sd [] from List.Pairwise.nil)]; exact ⟨.inl ⟨none, 0, rfl, rfl⟩, FrV.nil _⟩, ZK.out.2.2.1⟩
      · have HOW := Lib.hid HK.out
        have HSR := Lib.hid (sortStable_any D off L.length co L wr hrow rfl HTO.out.tgs HTO.out.no (by omega))
        have HD := Lib.hid hD
        have HC := Lib.hid (And.intro hc1 hc2)
        have HOB := Lib.hid hob
        clear hrow hD hc1 hc2 hob q0 q1 q2 c0 c1
        go_wp2_with fail
        refine HSR.out.mono ?_
        rintro e w3 ⟨rfl, hr3, hg3⟩
        obtain ⟨S, hS⟩ : ∃ S, S = so L := ⟨_, rfl⟩
        rw [← hS] at hr3 HTE
        have hSl : S.length = L.length := by rw [hS, so_len]
        have HSL := Lib.hid hSl
        have HSM : Hid (∀ y ∈ S, y ∈ L) := by show ∀ y ∈ S, y ∈ L; rw [hS]; exact fun y hy => so_mem hy
        have hB3 : Below (w.heap.size + 2) wr w3 := hg3.to ZK.out.2.2.2 HD.out
        have Z3 := Lib.hid (ZK.out.low hB3)
        -- the rules' row is another block
        have hne : (Value.slice au us.length cu).ownBlock = none ∨ (Value.slice au us.length cu).ownBlock ≠ some D := by
          rcases own_apart HOW.out.2 HOW.out.1 (by decide) with e | e
          · exact .inl e
          · exact .inr (by rw [← HOB.out]; exact e)
        have HU3 : Hid (∀ wx, GW D w3 wx → SlAt wx 11 RRul (.slice au us.length cu) us) := by
          show ∀ wx, GW D w3 wx → SlAt _ _ _ _ _
          intro wx hgx
          have h3 := (HOW.out.2.kept hg3 hne).kept hgx hne
          refine slAt_of_own (by omega) (fun _ => rfl) (fun r hr => ?_) h3
          rw [HUS.out] at hr
          obtain ⟨y, hy, rfl⟩ := List.mem_map.1 hr
          obtain ⟨cs, _, h64⟩ := HS.out.1.all _ (HTO.out.rl y hy).1
          exact ⟨rfl, h64⟩
        have R3 := Lib.hid hr3
        have HBD := Lib.hid hB3
        clear hS hSl hr3 hg3 hB3 HSR HOW hne
        obtain ⟨c0, -, -, -, -, -, -, -, -, -, -, -⟩ := Z3.out.era
        have hSi : (L.length : Int) = (S.length : Int) := by have := HSL.out; omega
        rw [← HSL.out]
        have hS4 : S.length ≤ 40000 := by have := HSL.out; omega
        go_wp2
        clear hSi
        go_loopw [12, 74] (fun sv i wx => ∃ k : Nat, k ≤ S.length ∧ i = .int .i64 k ∧ sv = .int .i64 (svA S k) ∧ Hid (RowC wx D off (mixL x.off S k)) ∧ Hid (GW D w3 wx)) (fun _ i _ => (S.length - intOf i).toNat)
        case atStart => exact ⟨0, Nat.zero_le _, rfl, rfl, by rw [mix_zero]; exact R3, GW.refl _ _⟩
        case round =>
          obtain ⟨k, hk, rfl, rfl, RK, GK⟩ := hrel
          by_cases hlt : k < S.length
          · have hki : (k : Int) < (S.length : Int) := by omega
            obtain ⟨y, hy⟩ : ∃ y, y = S[k] := ⟨_, rfl⟩
            have hym : y ∈ L := HSM.out y (by rw [hy]; exact List.getElem_mem _)
            obtain ⟨i, hi, hiy⟩ := List.mem_iff_getElem.1 hym
            have htg : y.tg = (i : Int) := by rw [← hiy]; exact HTO.out.tg i hi
            have hrl := HTO.out.rl y hym
            have hno := HTO.out.no y hym
            obtain ⟨-, -, -, -, -, hsv1, hsv2, hch⟩ := rulE_zero (HO.out.ok _ hrl.1)
            obtain ⟨-, hcl1, hcl2, -, -, -, -⟩ := chkM_zero hch
            have hsvb := svA_bd (R := fun _ => True) (l := S) (fun z hz => by
              obtain ⟨-, -, -, -, -, a, b, -⟩ := rulE_zero (HO.out.ok _ (HTO.out.rl z (HSM.out z hz)).1)
              exact ⟨a, b⟩) k
            obtain ⟨hsb1, hsb2⟩ := hsvb
            obtain ⟨hno1, hno2⟩ := hno
            obtain ⟨hof1, hof2⟩ := HO.out.o
            have hui : i < us.length := by rw [HUS.out, List.length_map]; exact hi
            have huy : us[i] = y.r := by
              have : us[i]? = some y.r := by rw [HUS.out, List.getElem?_map, List.getElem?_eq_getElem hi, hiy]; rfl
              rw [List.getElem?_eq_getElem hui] at this
              exact Option.some.inj this
            have hmx : (mixL x.off S k)[k]? = some y := by rw [hy]; exact mix_at hlt
            obtain ⟨y0, y1, y2, y3⟩ := RK.out.at hmx
            rw [htg] at y1
            have fz := RK.out.2.1
            have hDz : D < wr.heap.size := RK.out.2.2
            obtain ⟨bq, oq, hau, hbq, ⟨-, -, -, -, -, -, -, -, u8, -, -⟩, -⟩ := elemRul (HU3.out wr GK.out) i hui
            rw [huy] at u8
            subst hau
            have ZK2 := Z3.out.low (GK.out.to Z3.out.2.2.2 HD.out)
            obtain ⟨g0, -, -, -, -, -, -, -, -, -, -, -⟩ := ZK2.era
            have hii : (i : Int) < (us.length : Int) := by omega
            have hw0 : w.heap.size + 1 < wr.heap.size := ZK2.2.2.2
            have HMX := Lib.hid hmx
            have HSV : Hid (svA S (k + 1) = y.r.sv) := by show _ = _; rw [svA_succ hlt, hy]
            have HIN : Hid (∀ T, insT' x.off (svA S k) y = T → mixL x.off S (k + 1) = (mixL x.off S k).set k ⟨y.r, y.no, T, T⟩) := by
              show ∀ T, _ → _
              intro T hT
              rw [mix_succ hlt, atL_sv x.off S k hlt, ← hy, hT]
              rfl
            have HINS : Hid (insT' x.off (svA S k) y = y.no - (if y.r.at'.c = 0 then x.off + svA S k else if y.r.at'.c = 1 then x.off else 0)) := by show _ = _; rfl
            clear hym hiy htg hrl hch hui huy hmx hy ZK2 hlt
            generalize svA S k = sv at *
            rcases (show y.r.at'.c = 0 ∨ y.r.at'.c = 1 ∨ y.r.at'.c = 2 by omega) with hc | hc | hc
            · rw [hc] at u8
              have HT : Hid (insT' x.off sv y = y.no - (x.off + sv)) := by show _ = _; rw [HINS.out, if_pos hc]
              clear hc hcl1 hcl2
              go_wp2
              go_roundw
              case rel =>
                refine ⟨k + 1, by omega, by go_num, by rw [HSV.out], ?_, (GK.out.set _ _).below ((Below.refl _ _).alloc (Nat.le_refl _) _)⟩
                rw [HIN.out _ HT.out]
                exact (RK.out.put1 HMX.out _ _).below ((Below.refl _ _).alloc (Nat.le_refl _) _)
              case measure => simp [intOf]; omega
            · rw [hc] at u8
              have HT : Hid (insT' x.off sv y = y.no - x.off) := by show _ = _; rw [HINS.out, if_neg (by omega), if_pos hc]
              clear hc hcl1 hcl2
              go_wp2
              go_roundw
              case rel =>
                refine ⟨k + 1, by omega, by go_num, by rw [HSV.out], ?_, (GK.out.set _ _).below ((Below.refl _ _).alloc (Nat.le_refl _) _)⟩
                rw [HIN.out _ HT.out]
                exact (RK.out.put1 HMX.out _ _).below ((Below.refl _ _).alloc (Nat.le_refl _) _)
              case measure => simp [intOf]; omega
            · rw [hc] at u8
              have HT : Hid (insT' x.off sv y = y.no) := by show _ = _; rw [HINS.out, if_neg (by omega), if_neg (by omega), Int.sub_zero]
              clear hc hcl1 hcl2
              go_wp2
              go_roundw
              case rel =>
                refine ⟨k + 1, by omega, by go_num, by rw [HSV.out], ?_, (GK.out.set _ _).below ((Below.refl _ _).alloc (Nat.le_refl _) _)⟩
                rw [HIN.out _ HT.out]
                exact (RK.out.put1 HMX.out _ _).below ((Below.refl _ _).alloc (Nat.le_refl _) _)
              case measure => simp [intOf]; omega
          · obtain rfl : k = S.length := by omega
            have hnl2 : ¬ (S.length : Int) < (S.length : Int) := by omega
            have HF : Hid (SlAt wr 4 RChg (.slice (some ⟨D, off, none⟩) S.length co) (trE s.rules x)) := by
              show SlAt _ _ _ _ _
              have h := RK.out
              rw [mix_end] at h
              have h2 := h.sl (co := co) (by rw [atZ_len, HSL.out]; exact HC.out.1) HC.out.2
              rw [atZ_len] at h2
              rw [HTE.out]
              exact h2
            have HBF : Hid (Below w.heap.size w wr) := by
              show Below _ _ _
              have h1 := GK.out.to (B := w.heap.size + 2) Z3.out.2.2.2 HD.out
              exact Z3.out.2.2.1.trans (h1.mono (Nat.le_add_right _ _))
            clear hlt hk
            go_wp2
            go_ret
            exact ⟨_, rfl, ⟨HF.out, FrV.one HD.out⟩, HBF.out⟩
theorem changes_any (s : Src) (x : Ero) (vr vz vl : Value) (w : World) (hs : SrcAt w vr vz vl s) (hT : Tab w) (hok : ROk s x) :
    Calls Tryz.prog 37 #[.agg #[vr, vz, vl], .agg #[.int .i64 x.off, .string x.rl, .int .i64 x.sv, .string x.fm, .bool x.en, .int .i64 x.yr, .int .i64 x.un.mo, .int .i64 x.un.k, .int .i64 x.un.a, .int .i64 x.un.n, .int .i64 x.un.t, .int .i64 x.un.c]] w fun e w' => ∃ v, e = .returned v ∧ SlAt w' 4 RChg v (trE s.rules x) ∧ Below w.heap.size w w' := by
  refine (changes_own s x vr vz vl w hs hT hok).mono ?_
  rintro e w' ⟨v, h1, h2, h3⟩
  exact ⟨v, h1, h2.1, h3⟩
end Go.Proofs.YtbikdlcjbigafaaGreatDoor
namespace Go.Proofs.YtbikdlcjbigafaaGreatDoor
set_option linter.unusedVariables false
set_option linter.unusedSimpArgs false
open Go.ChangeShapes Go.WideShapes Go.ChangeAt Go.RowKit Civ

end Go.Proofs.YtbikdlcjbigafaaGreatDoor
namespace Go.Proofs.YtbikdlcjbigafaaGreatDoor
set_option linter.unusedVariables false
set_option linter.unusedSimpArgs false
open Go.ChangeShapes Go.WideShapes Go.ChangeAt Go.RowKit Civ

end Go.Proofs.YtbikdlcjbigafaaGreatDoor
namespace Go.Proofs.YtbikdlcjbigafaaGreatDoor
set_option linter.unusedVariables false
set_option linter.unusedSimpArgs false
open Go.ChangeShapes Go.WideShapes Go.ChangeAt Go.RowKit Civ

theorem RulAt.z {w : World} {R : Nat} {r : Rul} (h : RulAt w R 0 r) :
    w.cell? ⟨R, 0, none⟩ = some (.string r.nm) ∧ w.cell? ⟨R, 1, none⟩ = some (.int .i64 r.fr) ∧ w.cell? ⟨R, 2, none⟩ = some (.int .i64 r.to) ∧ w.cell? ⟨R, 3, none⟩ = some (.int .i64 r.at'.mo) ∧ w.cell? ⟨R, 4, none⟩ = some (.int .i64 r.at'.k) ∧ w.cell? ⟨R, 5, none⟩ = some (.int .i64 r.at'.a) ∧ w.cell? ⟨R, 6, none⟩ = some (.int .i64 r.at'.n) ∧ w.cell? ⟨R, 7, none⟩ = some (.int .i64 r.at'.t) ∧ w.cell? ⟨R, 8, none⟩ = some (.int .i64 r.at'.c) ∧ w.cell? ⟨R, 9, none⟩ = some (.int .i64 r.sv) ∧ w.cell? ⟨R, 10, none⟩ = some (.string r.lt) := by
  unfold RulAt at h
  simpa only [Nat.zero_add] using h
end Go.Proofs.YtbikdlcjbigafaaGreatDoor
