/-
  sundialref.SpansOf: what it holds on its way.
-/
import Derived.Maps.AppendAt
import Derived.Deep.OwnRows
import Derived.Test.YtdpbedkppomffaaGreatDoorSpT
import Derived.Test.YtdpbedkppomffaaGreatDoorSpG
import Derived.Test.YtdpbedkppomffaaGreatDoorSpF
namespace Go.Proofs.YtdpbedkppomffaaGreatDoor
set_option linter.unusedVariables false
set_option linter.unusedSimpArgs false
open Go.ChangeShapes Go.WideShapes Go.ChangeAt Go.RowKit Civ

/-- two rows of numbers that grow, beside boxes. -/
structure TwB (w wx : World) (B D : Nat) (vr vz vl : Value) (nm : ByteArray) (ve va vn : Value) (LA LN : List Int) : Prop where
  s : BxO wx w.heap.size #[vr, vz, vl] 26
  z : BxO wx B #[.string nm, ve] 52
  a : wx.ownsRow D 3 1 va LA.length (LA.flatMap encJ)
  n : wx.ownsRow D 3 1 vn LN.length (LN.flatMap encJ)
  ne : ∀ g, va.ownBlock = some g → vn.ownBlock ≠ some g
  b : Below w.heap.size w wx
  bs : w.heap.size < D
  bz : B < D
  d : D ≤ wx.heap.size
section
variable {w wx w' : World} {B D : Nat} {vr vz vl : Value} {nm : ByteArray} {ve va vn va' : Value} {LA LN : List Int} {y : Int} {ob : Obj}
theorem TwB.next (h : TwB w wx B D vr vz vl nm ve va vn LA LN) (hb : Below wx.heap.size wx w') : TwB w w' B D vr vz vl nm ve va vn LA LN :=
  ⟨(hb.block _ h.s.lt).trans h.s, (hb.block _ h.z.lt).trans h.z, ownsRow_below h.a hb (Nat.le_refl _), ownsRow_below h.n hb (Nat.le_refl _), h.ne, h.b.trans (hb.mono h.b.size), h.bs, h.bz, Nat.le_trans h.d hb.size⟩
theorem own_notg {D sz n : Nat} {e : TypeId} {v : Value} {xs : List Value} (h : wx.ownsRow D e sz v n xs) {row : Option Nat} (hne : ∀ g, v.ownBlock = some g → row ≠ some g) (hg : (wx.alloc ob).grownBy w' row) : w'.ownsRow D e sz v n xs := by
  refine (h.alloc ob).kept hg ?_
  cases hv : v.ownBlock with
  | none => exact .inl rfl
  | some g => exact .inr fun e => hne g hv e.symm
theorem TwB.putA (h : TwB w wx B D vr vz vl nm ve va vn LA LN) (ho : w'.ownsRow D 3 1 va' (LA.length + 1) (LA.flatMap encJ ++ encJ y)) (hg : (wx.alloc ob).grownBy w' va.ownBlock) (hf : va'.ownBlock = va.ownBlock ∨ va'.ownBlock = some (wx.alloc ob).heap.size) :
    TwB w w' B D vr vz vl nm ve va' vn (LA ++ [y]) LN := by
  have hb : Below D wx w' := append_keep h.a ((Below.refl _ _).alloc h.d _) h.d hg
  refine ⟨(hb.block _ h.bs).trans h.s, (hb.block _ h.bz).trans h.z, own_snocG ho, own_notg h.n (fun g e e' => h.ne g e' e) hg, ?_, h.b.trans (hb.mono (Nat.le_of_lt h.bs)), h.bs, h.bz, Nat.le_trans h.d hb.size⟩
  intro g e
  rcases hf with e' | e'
  · exact h.ne g (e'.symm.trans e)
  · intro e2
    have h1 := (own_lt h.n g e2).2
    rw [e', size_alloc] at e
    have := Option.some.inj e
    omega
theorem TwB.putN {vn' : Value} (h : TwB w wx B D vr vz vl nm ve va vn LA LN) (ho : w'.ownsRow D 3 1 vn' (LN.length + 1) (LN.flatMap encJ ++ encJ y)) (hg : (wx.alloc ob).grownBy w' vn.ownBlock) (hf : vn.ownBlock = vn'.ownBlock ∨ vn'.ownBlock = some (wx.alloc ob).heap.size) :
    TwB w w' B D vr vz vl nm ve va vn' LA (LN ++ [y]) := by
  have hb : Below D wx w' := append_keep h.n ((Below.refl _ _).alloc h.d _) h.d hg
  refine ⟨(hb.block _ h.bs).trans h.s, (hb.block _ h.bz).trans h.z, own_notg h.a h.ne hg, own_snocG ho, ?_, h.b.trans (hb.mono (Nat.le_of_lt h.bs)), h.bs, h.bz, Nat.le_trans h.d hb.size⟩
  intro g e
  rcases hf with e' | e'
  · rw [← e']; exact h.ne g e
  · intro e2
    have h1 := (own_lt h.a g e).2
    rw [e', size_alloc] at e2
    have := Option.some.inj e2
    omega
/-- turns beside the row that grows. -/
structure TrA (wx : World) (va vT : Value) (T : List Trn) : Prop where
  sl : SlAt wx 13 RTur vT T
  ne : T ≠ [] → ∀ b o n c, vT = .slice (some ⟨b, o, none⟩) n c → va.ownBlock ≠ some b ∧ b < wx.heap.size
theorem TrA.put {vT : Value} {T : List Trn} (h : TrA wx va vT T) (hg : (wx.alloc ob).grownBy w' va.ownBlock) (hf : va'.ownBlock = va.ownBlock ∨ va'.ownBlock = some (wx.alloc ob).heap.size) : TrA w' va' vT T := by
  have hs : wx.heap.size ≤ w'.heap.size := by have := hg.size; rw [size_alloc] at this; omega
  refine ⟨slAt_block h.sl hs fun hn b o n c e => ?_, fun hn b o n c e => ?_⟩
  · obtain ⟨h1, h2⟩ := h.ne hn b o n c e
    exact (hg.block b (by rw [size_alloc]; omega) (fun e' => h1 e'.symm)).trans ((World.grownBy_alloc wx ob none).block b h2 (by simp))
  · obtain ⟨h1, h2⟩ := h.ne hn b o n c e
    refine ⟨?_, Nat.lt_of_lt_of_le h2 hs⟩
    rcases hf with e' | e'
    · rw [e']; exact h1
    · rw [e', size_alloc]
      intro e2
      have := Option.some.inj e2
      omega
theorem TrA.new {vT : Value} {T : List Trn} {D n : Nat} {xs : List Value} (h : SlAt w' 13 RTur vT T) (hf : T ≠ [] → FrV wx.heap.size vT) (ho : wx.ownsRow D 3 1 va n xs) : TrA w' va vT T := by
  refine ⟨h, fun hn b o m c e => ⟨fun e2 => ?_, ?_⟩⟩
  · have h1 := (own_lt ho b e2).2
    have h2 := hf hn b o m c e
    omega
  · rcases h with ⟨_, _, _, h⟩ | ⟨d, off, cap, hv, -, -, -, hd, -⟩
    · exact absurd h hn
    · rw [e] at hv
      simp only [Value.slice.injEq, Option.some.injEq, Addr.mk.injEq] at hv
      omega
end
theorem made_pad (z : Value) (n : Nat) : madeCells #[z] n = padV [] n z := by
  unfold madeCells padV
  apply Array.ext_getElem?
  intro i
  by_cases h : i < n
  · simp [h, Nat.mod_one, List.getElem?_replicate]
  · simp [h, List.getElem?_replicate]
theorem info_tus : (Tryz.prog.info? 94).map (fun i => (i.zero, i.size, i.bytes)) = some (some (.slice none 0 0), 1, 24) := by kernel_rfl
theorem info_str : (Tryz.prog.info? 9).map (fun i => (i.zero, i.size, i.bytes)) = some (some (.string ⟨#[]⟩), 1, 16) := by kernel_rfl
/-- three rows that are filled. -/
structure ArB (w5 wx : World) (A nn : Nat) (vs sv tx : List Value) : Prop where
  a : BxO wx A (padV vs nn (.slice none 0 0)) 94
  s : BxO wx (A + 1) (padV sv nn (.int .i64 0)) 3
  x : BxO wx (A + 1 + 1) (padV tx nn (.string ⟨#[]⟩)) 9
  b : Below w5.heap.size w5 wx
  h : w5.heap.size ≤ A
section
variable {w5 wx w' : World} {A nn : Nat} {vs sv tx : List Value}
theorem ArB.next (h : ArB w5 wx A nn vs sv tx) (hb : Below wx.heap.size wx w') : ArB w5 w' A nn vs sv tx :=
  ⟨(hb.block _ h.a.lt).trans h.a, (hb.block _ h.s.lt).trans h.s, (hb.block _ h.x.lt).trans h.x, h.b.trans (hb.mono h.b.size), h.h⟩
theorem ArB.putA (h : ArB w5 wx A nn vs sv tx) (v : Value) (hl : vs.length < nn) : ArB w5 (wx.setCell ⟨A, vs.length, none⟩ v) A nn (vs ++ [v]) sv tx :=
  ⟨by have := h.a.setI vs.length v; rw [padV_set _ _ _ _ hl] at this; exact this, h.s.other (by omega) _ _, h.x.other (by omega) _ _, h.b.setCell (p := ⟨A, vs.length, none⟩) h.h _, h.h⟩
theorem ArB.putS (h : ArB w5 wx A nn vs sv tx) (v : Value) (hl : sv.length < nn) : ArB w5 (wx.setCell ⟨A + 1, sv.length, none⟩ v) A nn vs (sv ++ [v]) tx :=
  ⟨h.a.other (by omega) _ _, by have := h.s.setI sv.length v; rw [padV_set _ _ _ _ hl] at this; exact this, h.x.other (by omega) _ _, h.b.setCell (p := ⟨A + 1, sv.length, none⟩) (Nat.le_succ_of_le h.h) _, h.h⟩
theorem ArB.putX (h : ArB w5 wx A nn vs sv tx) (v : Value) (hl : tx.length < nn) : ArB w5 (wx.setCell ⟨A + 1 + 1, tx.length, none⟩ v) A nn vs sv (tx ++ [v]) :=
  ⟨h.a.other (by omega) _ _, h.s.other (by omega) _ _, by have := h.x.setI tx.length v; rw [padV_set _ _ _ _ hl] at this; exact this, h.b.setCell (p := ⟨A + 1 + 1, tx.length, none⟩) (Nat.le_succ_of_le (Nat.le_succ_of_le h.h)) _, h.h⟩
theorem ArB.new (w : World) (nn : Nat) : ArB w (((w.alloc (.cells (madeCells #[.slice none 0 0] nn) 94)).alloc (.cells (madeCells #[.int .i64 0] nn) 3)).alloc (.cells (madeCells #[.string ⟨#[]⟩] nn) 9)) w.heap.size nn [] [] [] := by
  rw [made_pad, made_pad, made_pad]
  have h1 := size_alloc w (.cells (padV [] nn (.slice none 0 0)) 94)
  have h2 := size_alloc (w.alloc (.cells (padV [] nn (.slice none 0 0)) 94)) (.cells (padV [] nn (.int .i64 0)) 3)
  refine ⟨((BxO.new w _ _).alloc _).alloc _, ?_, ?_, (((Below.refl _ _).alloc (Nat.le_refl _) _).alloc (by omega) _).alloc (by omega) _, Nat.le_refl _⟩
  · have h := BxO.new (w.alloc (.cells (padV [] nn (.slice none 0 0)) 94)) (padV [] nn (.int .i64 0)) 3
    rw [h1] at h
    exact h.alloc _
  · have h := BxO.new ((w.alloc (.cells (padV [] nn (.slice none 0 0)) 94)).alloc (.cells (padV [] nn (.int .i64 0)) 3)) (padV [] nn (.string ⟨#[]⟩)) 9
    rw [h2, h1] at h
    exact h
end
/-- turns of the first so many eras. -/
def TrS (rules : List Rul) (eras : List Ero) (wx : World) (vs : List Value) : Prop := vs.length ≤ eras.length ∧ ∀ j (h : j < vs.length) (h2 : j < eras.length), SlAt wx 13 RTur vs[j] (trE rules eras[j])
theorem TrS.next {rules : List Rul} {eras : List Ero} {wx w' : World} {vs : List Value} (h : TrS rules eras wx vs) (hb : Below wx.heap.size wx w') : TrS rules eras w' vs :=
  ⟨h.1, fun j h1 h2 => (h.2 j h1 h2).mono hb fun _ _ h => h⟩
theorem TrS.set {rules : List Rul} {eras : List Ero} {wx : World} {vs : List Value} {b i j : Nat} {cs : Array Value} {t : TypeId} {u : Value} (h : TrS rules eras wx vs) (hb : BxO wx b cs t) (p : Value → Prop) (hj : j < 13) (hR : ∀ cs x, RTur cs x → ∃ c, cs[j]? = some c ∧ p c)
    (hn : ∀ (i : Nat) (u : Value), cs[i]? = some u → ¬ p u) : TrS rules eras (wx.setCell ⟨b, i, none⟩ u) vs := by
  refine ⟨h.1, fun k h1 h2 => (h.2 k h1 h2).aside p hj hR (b := b) (fun i v hv => hn i v (by rw [hb.cell i] at hv; exact hv)) (fun c _ hc => Below.heap_setCell _ _ _ _ hc) (by rw [World.size_setCell]; exact Nat.le_refl _)⟩
theorem TrS.snoc {rules : List Rul} {eras : List Ero} {wx : World} {vs : List Value} {v : Value} (h : TrS rules eras wx vs) (hl : vs.length < eras.length) (hv : SlAt wx 13 RTur v (trE rules eras[vs.length])) : TrS rules eras wx (vs ++ [v]) := by
  refine ⟨by rw [List.length_append, List.length_singleton]; omega, fun j h1 h2 => ?_⟩
  rw [List.length_append, List.length_singleton] at h1
  by_cases e : j < vs.length
  · rw [List.getElem_append_left e]; exact h.2 j e h2
  · obtain rfl : j = vs.length := by omega
    rw [List.getElem_append_right (Nat.le_refl _)]
    simp only [Nat.sub_self, List.getElem_cons_zero]
    exact hv
theorem padV_z (l : List Value) (n : Nat) (z : Value) (h : l.length < n) : (padV l n z)[l.length]? = some z := by
  unfold padV
  rw [List.getElem?_toArray, List.getElem?_append_right (Nat.le_refl _), Nat.sub_self, List.getElem?_replicate, if_pos (by omega)]
def svV (rules : List Rul) (x : Ero) : Value := .int .i64 (stL rules x (trE rules x) farT).1
def txV (rules : List Rul) (x : Ero) : Value := .string (stL rules x (trE rules x) farT).2
def isStr (u : Value) : Prop := ∃ s, u = .string s
def isInt (u : Value) : Prop := ∃ k n, u = .int k n
theorem RTur_str (cs : List Value) (x : Trn) (h : RTur cs x) : ∃ c, cs[0]? = some c ∧ isStr c := by
  obtain rfl := h
  exact ⟨_, rfl, _, rfl⟩
theorem RTur_int (cs : List Value) (x : Trn) (h : RTur cs x) : ∃ c, cs[1]? = some c ∧ isInt c := by
  obtain rfl := h
  exact ⟨_, rfl, _, _, rfl⟩
theorem TrS.nstr {rules : List Rul} {eras : List Ero} {wx : World} {vs : List Value} (h : TrS rules eras wx vs) : ∀ u ∈ vs, ¬ isStr u ∧ ¬ isInt u := by
  intro u hu
  obtain ⟨j, hj, rfl⟩ := List.mem_iff_getElem.1 hu
  obtain ⟨a, c, e, -⟩ := (h.2 j hj (by have := h.1; omega)).shape
  rw [e]
  exact ⟨fun ⟨_, e⟩ => (by cases e), fun ⟨_, _, e⟩ => (by cases e)⟩
theorem padV_not {l : List Value} {n : Nat} {z : Value} {p : Value → Prop} (h : ∀ u ∈ l, ¬ p u) (hz : ¬ p z) : ∀ (i : Nat) (u : Value), (padV l n z)[i]? = some u → ¬ p u := by
  intro i u hu
  rcases padV_mem l n z i u hu with h1 | rfl
  · exact h u h1
  · exact hz
theorem svV_not {rules : List Rul} {l : List Ero} : ∀ u ∈ l.map (svV rules), ¬ isStr u := by
  intro u hu
  obtain ⟨x, -, rfl⟩ := List.mem_map.1 hu
  exact fun ⟨_, e⟩ => (by cases e)
theorem txV_not {rules : List Rul} {l : List Ero} : ∀ u ∈ l.map (txV rules), ¬ isInt u := by
  intro u hu
  obtain ⟨x, -, rfl⟩ := List.mem_map.1 hu
  exact fun ⟨_, _, e⟩ => (by cases e)
end Go.Proofs.YtdpbedkppomffaaGreatDoor
