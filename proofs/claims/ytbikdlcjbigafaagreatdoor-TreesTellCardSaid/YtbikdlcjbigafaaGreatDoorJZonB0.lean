/-
  Turns in their order, plain: a strict order by what is told and by place; a list in order is the only one of its members; halves that are merged. Sources: their rules, zones and links, and how they lie in memory; how one that came in reads. Turns put in order by blocks that are merged: plain. Zones, plain: what is wrong with a rule, an era, a zone, a source; turns; what is saved; ends; clocks. · sundialref.parted: plain; walked. · sundialref.decimal: plain; walked.
-/
import Derived.Test.YtbikdlcjbigafaaGreatDoorJBase
import Derived.Test.YtbikdlcjbigafaaGreatDoorJSrcT
import Derived.Test.YtbikdlcjbigafaaGreatDoorJTreeT
namespace Go.Proofs.YtbikdlcjbigafaaGreatDoor
set_option linter.unusedVariables false
set_option linter.unusedSimpArgs false

/-- a moment of a year. -/
structure Mom where
  mo : Int
  k : Int
  a : Int
  n : Int
  t : Int
  c : Int
/-- a rule. -/
structure Rul where
  nm : ByteArray
  fr : Int
  «to» : Int
  at' : Mom
  sv : Int
  lt : ByteArray
/-- a rule in a year: what is told, its place, and the instant. -/
structure Trn where
  r : Rul
  no : Int
  tg : Int
  ins : Int
def tLt (a b : Trn) : Prop := a.no < b.no ∨ (a.no = b.no ∧ a.tg < b.tg)
instance (a b : Trn) : Decidable (tLt a b) := by unfold tLt; exact inferInstance
theorem tLt_trans {a b c : Trn} (h : tLt a b) (g : tLt b c) : tLt a c := by unfold tLt at *; omega
theorem tLt_tri {a b : Trn} (h : a.tg ≠ b.tg) : tLt a b ∨ tLt b a := by unfold tLt; omega
/-- in order. -/
def Sd (l : List Trn) : Prop := l.Pairwise tLt
/-- places that rise. -/
def Tg (l : List Trn) : Prop := l.Pairwise fun a b => a.tg < b.tg
/-- places that are different. -/
def Td (l : List Trn) : Prop := l.Pairwise fun a b => a.tg ≠ b.tg
theorem Tg.td {l : List Trn} (h : Tg l) : Td l := h.imp fun h => by omega
theorem Td.perm {l m : List Trn} (h : Td l) (p : l.Perm m) : Td m := (p.pairwise_iff (fun h => Ne.symm h)).1 h
def so (l : List Trn) : List Trn := l.mergeSort fun a b => !decide (tLt b a)
theorem so_perm (l : List Trn) : (so l).Perm l := List.mergeSort_perm _ _
theorem so_len (l : List Trn) : (so l).length = l.length := (so_perm l).length_eq
theorem so_le (l : List Trn) : (so l).Pairwise fun a b => ¬ tLt b a := by
  have h := List.pairwise_mergeSort (le := fun a b => !decide (tLt b a)) (fun a b c h1 h2 => by
    simp only [Bool.not_eq_true', decide_eq_false_iff_not] at *
    unfold tLt at *
    omega) (fun a b => by
    simp only [Bool.or_eq_true, Bool.not_eq_true', decide_eq_false_iff_not]
    unfold tLt
    omega) l
  exact h.imp fun h => by simpa using h
theorem sd_unique : ∀ {l m : List Trn}, l.Perm m → l.Pairwise (fun a b => ¬ tLt b a) → Sd m → l = m
  | [], m, p, _, _ => p.nil_eq
  | x :: l, [], p, _, _ => by simpa using p.length_eq
  | x :: l, y :: m, p, h, g => by
    have hx : x ∈ y :: m := p.subset (by simp)
    have hy : y ∈ x :: l := p.symm.subset (by simp)
    have e : x = y := by
      rcases List.mem_cons.1 hx with e | hx
      · exact e
      · rcases List.mem_cons.1 hy with e | hy
        · exact e.symm
        · exact absurd ((List.pairwise_cons.1 g).1 x hx) ((List.pairwise_cons.1 h).1 y hy)
    subst e
    rw [sd_unique (p.cons_inv) (List.pairwise_cons.1 h).2 (List.pairwise_cons.1 g).2]
theorem so_eq {l m : List Trn} (p : l.Perm m) (h : Sd m) : so l = m := sd_unique ((so_perm l).trans p) (so_le l) h
theorem so_sd {l : List Trn} (h : Td l) : Sd (so l) := by
  have h1 := h.perm (so_perm l).symm
  have h2 := so_le l
  refine (h1.and h2).imp ?_
  rintro a b ⟨x, y⟩
  exact (tLt_tri x).resolve_right y
theorem so_self {l : List Trn} (h : Sd l) : so l = l := so_eq (List.Perm.refl _) h
theorem so_congr {l m : List Trn} (p : l.Perm m) (h : Td l) : so l = so m := so_eq (p.trans (so_perm m).symm) (so_sd (h.perm p))
/-- all of one list are ahead of all of another one, by their places. -/
def Ah (u v : List Trn) : Prop := ∀ x ∈ u, ∀ y ∈ v, x.tg < y.tg
/-- all of one list are ahead of all of another one. -/
def Lo (u v : List Trn) : Prop := ∀ x ∈ u, ∀ y ∈ v, tLt x y
theorem sd_app {u v : List Trn} : Sd (u ++ v) ↔ Sd u ∧ Sd v ∧ Lo u v := List.pairwise_append
theorem lt_key {x y : Trn} (h : x.tg < y.tg) : tLt y x ↔ y.no < x.no := by unfold tLt; omega
theorem nlt_key {x y : Trn} (h : x.tg < y.tg) : tLt x y ↔ ¬ y.no < x.no := by unfold tLt; omega
end Go.Proofs.YtbikdlcjbigafaaGreatDoor
namespace Go.Proofs.YtbikdlcjbigafaaGreatDoor
set_option linter.unusedVariables false
set_option linter.unusedSimpArgs false
set_option maxRecDepth 100000
open Go.ChangeShapes Go.WideShapes Go.ChangeAt Go.RowKit

/-- an era of a zone. -/
structure Ero where
  off : Int
  rl : ByteArray
  sv : Int
  fm : ByteArray
  en : Bool
  yr : Int
  un : Mom
structure Zon where
  nm : ByteArray
  eras : List Ero
structure Lnk where
  of : ByteArray
  nm : ByteArray
structure Src where
  rules : List Rul
  zones : List Zon
  links : List Lnk
def M64 (m : Mom) : Prop := I64 m.mo ∧ I64 m.k ∧ I64 m.a ∧ I64 m.n ∧ I64 m.t ∧ I64 m.c
def RulV (r : Rul) : List Value := [.string r.nm, .int .i64 r.fr, .int .i64 r.to, .int .i64 r.at'.mo, .int .i64 r.at'.k, .int .i64 r.at'.a, .int .i64 r.at'.n, .int .i64 r.at'.t, .int .i64 r.at'.c, .int .i64 r.sv, .string r.lt]
def EroV (x : Ero) : List Value := [.int .i64 x.off, .string x.rl, .int .i64 x.sv, .string x.fm, .bool x.en, .int .i64 x.yr, .int .i64 x.un.mo, .int .i64 x.un.k, .int .i64 x.un.a, .int .i64 x.un.n, .int .i64 x.un.t, .int .i64 x.un.c]
/-- numbers and texts of a rule, of an era, as a machine bears them. -/
def R64 (r : Rul) : Prop := r.nm.size ≤ maxLen ∧ I64 r.fr ∧ I64 r.to ∧ M64 r.at' ∧ I64 r.sv ∧ r.lt.size ≤ maxLen
def E64 (x : Ero) : Prop := I64 x.off ∧ x.rl.size ≤ maxLen ∧ I64 x.sv ∧ x.fm.size ≤ maxLen ∧ I64 x.yr ∧ M64 x.un
def RRul (cs : List Value) (r : Rul) : Prop := cs = RulV r ∧ R64 r
def REro (cs : List Value) (x : Ero) : Prop := cs = EroV x ∧ E64 x
def RZon (w : World) (cs : List Value) (z : Zon) : Prop := ∃ v, cs = [.string z.nm, v] ∧ SlAt w 12 REro v z.eras ∧ z.nm.size ≤ maxLen
def RLnk (cs : List Value) (l : Lnk) : Prop := cs = [.string l.of, .string l.nm] ∧ l.of.size ≤ maxLen ∧ l.nm.size ≤ maxLen
theorem RZon.mono {w w' : World} (hb : Below w.heap.size w w') (cs : List Value) (x : Zon) (h : RZon w cs x) : RZon w' cs x := by
  obtain ⟨v, h1, h2, h3⟩ := h
  exact ⟨v, h1, h2.mono hb fun _ _ h => h, h3⟩
def SrcAt (w : World) (vr vz vl : Value) (s : Src) : Prop := SlAt w 11 RRul vr s.rules ∧ SlAt w 2 (RZon w) vz s.zones ∧ SlAt w 2 RLnk vl s.links
theorem SrcAt.mono {w w' : World} {vr vz vl : Value} {s : Src} (h : SrcAt w vr vz vl s) (hb : Below w.heap.size w w') : SrcAt w' vr vz vl s :=
  ⟨h.1.mono hb fun _ _ h => h, h.2.1.mono hb (RZon.mono hb), h.2.2.mono hb fun _ _ h => h⟩
section
variable {H : Type} {enc : TypeId × Value → H} {w : World} {b : Nat} {sp : Nat → Bool} {held : Bool} {fuel : Nat} {cs : List Value} {y : DataW H × List MemPlace}
end
end Go.Proofs.YtbikdlcjbigafaaGreatDoor
namespace Go.Proofs.YtbikdlcjbigafaaGreatDoor
set_option linter.unusedVariables false
set_option linter.unusedSimpArgs false

theorem Sd.td {l : List Trn} (h : Sd l) (g : Td l) : Td l := g
/-- halves whose parts are told apart by one number. -/
theorem sym_done {u1 u2 v1 v2 : List Trn} (hU : Sd (u1 ++ u2)) (hV : Sd (v1 ++ v2)) (hA : Ah (u1 ++ u2) (v1 ++ v2)) (h1 : Lo u1 v2) (h2 : Lo v1 u2) (hu : Td (u1 ++ u2)) (hv : Td (v1 ++ v2)) :
    so ((u1 ++ u2) ++ (v1 ++ v2)) = so (u1 ++ v1) ++ so (u2 ++ v2) := by
  obtain ⟨a1, a2, a3⟩ := sd_app.1 hU
  obtain ⟨b1, b2, b3⟩ := sd_app.1 hV
  have td : Td ((u1 ++ u2) ++ (v1 ++ v2)) := List.pairwise_append.2 ⟨hu, hv, fun x hx y hy => by have := hA x hx y hy; omega⟩
  have p : ((u1 ++ u2) ++ (v1 ++ v2)).Perm ((u1 ++ v1) ++ (u2 ++ v2)) := by
    rw [List.append_assoc, List.append_assoc]
    refine List.Perm.append_left u1 ?_
    rw [← List.append_assoc, ← List.append_assoc]
    exact List.Perm.append_right v2 List.perm_append_comm
  have td2 := td.perm p
  obtain ⟨t1, t2, -⟩ := List.pairwise_append.1 td2
  refine so_eq (p.trans ((so_perm _).symm.append (so_perm _).symm)) (sd_app.2 ⟨so_sd t1, so_sd t2, fun x hx y hy => ?_⟩)
  have hx := (so_perm _).subset hx
  have hy := (so_perm _).subset hy
  rcases List.mem_append.1 hx with hx | hx <;> rcases List.mem_append.1 hy with hy | hy
  · exact a3 x hx y hy
  · exact h1 x hx y hy
  · exact h2 x hx y hy
  · exact b3 x hx y hy
/-- blocks of k, each in order. -/
def bsL (k : Nat) (l : List Trn) : List Trn := if h : l.length ≤ k ∨ k = 0 then so l else so (l.take k) ++ bsL k (l.drop k)
termination_by l.length
decreasing_by rw [List.length_drop]; omega
theorem bsL_low {k : Nat} {l : List Trn} (h : l.length ≤ k) : bsL k l = so l := by
  unfold bsL
  rw [dif_pos (.inl h)]
theorem bsL_high {k : Nat} {l : List Trn} (h : k < l.length) (hk : 0 < k) : bsL k l = so (l.take k) ++ bsL k (l.drop k) := by
  rw [bsL.eq_1]
  rw [dif_neg (by omega)]
theorem bsL_len (k : Nat) (l : List Trn) : (bsL k l).length = l.length := by
  generalize hn : l.length = n
  induction n using Nat.strongRecOn generalizing l with
  | _ n ih =>
    by_cases h : l.length ≤ k ∨ k = 0
    · unfold bsL
      rw [dif_pos h, so_len, hn]
    · rw [bsL_high (by omega) (by omega), List.length_append, so_len, List.length_take, ih (l.drop k).length (by rw [List.length_drop]; omega) _ rfl, List.length_drop]
      omega
/-- a block more, at once: even if it is the last one. -/
theorem bsL_step {k : Nat} {l : List Trn} (h : k ≤ l.length) (hk : 0 < k) : bsL k l = so (l.take k) ++ bsL k (l.drop k) := by
  rcases Nat.lt_or_ge k l.length with h1 | h1
  · exact bsL_high h1 hk
  · rw [bsL_low h1, List.take_of_length_le h1, List.drop_of_length_le h1, bsL_low (by simp)]
    simp [so]
theorem so_two {u v : List Trn} (h : Td (u ++ v)) : so (so u ++ so v) = so (u ++ v) :=
  so_congr ((so_perm u).append (so_perm v)) (h.perm ((so_perm u).append (so_perm v)).symm)
theorem bs_pair {k : Nat} {l : List Trn} (h : 2 * k ≤ l.length) (hk : 0 < k) : bsL k l = so (l.take k) ++ (so ((l.drop k).take k) ++ bsL k (l.drop (2 * k))) := by
  rw [bsL_step (by omega) hk, bsL_step (by rw [List.length_drop]; omega) hk, List.drop_drop, show k + k = 2 * k by omega]
theorem bs_rest {k : Nat} {l : List Trn} (h : k < l.length) (h2 : l.length < 2 * k) : bsL k l = so (l.take k) ++ so (l.drop k) := by
  rw [bsL_high h (by omega), bsL_low (by rw [List.length_drop]; omega)]
theorem take_two {l : List Trn} (k : Nat) : l.take k ++ (l.drop k).take k = l.take (2 * k) := by
  rw [show 2 * k = k + k by omega, List.take_add]
end Go.Proofs.YtbikdlcjbigafaaGreatDoor
namespace Go.Proofs.YtbikdlcjbigafaaGreatDoor
set_option linter.unusedVariables false
set_option linter.unusedSimpArgs false
open Go.ChangeShapes Go.WideShapes Go.ChangeAt Go.RowKit Civ

def rulE (r : Rul) : Int :=
  if nameS r.nm = false ∨ letsB r.lt = false then 4
  else if r.fr < 1900 ∨ 2099 < r.to ∨ 2099 < r.fr ∨ r.to < 1900 ∨ r.sv < -86400 ∨ 86400 < r.sv then 2
  else if r.to < r.fr then 8
  else chkM r.at'.mo r.at'.k r.at'.a r.at'.n r.at'.t r.at'.c
theorem rulE_zero {r : Rul} (h : rulE r = 0) : nameS r.nm = true ∧ letsB r.lt = true ∧ 1900 ≤ r.fr ∧ r.fr ≤ r.to ∧ r.to ≤ 2099 ∧ -86400 ≤ r.sv ∧ r.sv ≤ 86400 ∧ chkM r.at'.mo r.at'.k r.at'.a r.at'.n r.at'.t r.at'.c = 0 := by
  unfold rulE at h
  split at h
  · cases h
  · rename_i h1
    split at h
    · cases h
    · rename_i h2
      split at h
      · cases h
      · rename_i h3
        have e1 : nameS r.nm = true := by rcases hn : nameS r.nm with _ | _; exact absurd (.inl hn) h1; rfl
        have e2 : letsB r.lt = true := by rcases hn : letsB r.lt with _ | _; exact absurd (.inr hn) h1; rfl
        exact ⟨e1, e2, by omega, by omega, by omega, by omega, by omega, h⟩
/-- are there rules of a name? -/
def namedB (rules : List Rul) (n : ByteArray) : Bool := rules.any fun r => decide (r.nm = n)
def fdE (r : Rul) (y : Int) : Int := fndE y r.at'.mo r.at'.k r.at'.a r.at'.n
def fdN (r : Rul) (y : Int) : Int := fnd y r.at'.mo r.at'.k r.at'.a r.at'.n
def addY (r : Rul) (out : List Trn) (y : Int) : List Trn := if fdE r y = 0 then out ++ [⟨r, fdN r y * 86400 + r.at'.t, (out.length : Int), 0⟩] else out
/-- the first so many years of a rule. -/
def addK (r : Rul) (out : List Trn) : Nat → List Trn
  | 0 => out
  | k + 1 => addY r (addK r out k) (r.fr + k)
def addR (n : ByteArray) (out : List Trn) (r : Rul) : List Trn := if r.nm = n then addK r out (r.to - r.fr + 1).toNat else out
def trn0 (rules : List Rul) (n : ByteArray) : List Trn := rules.foldl (addR n) []
theorem trn0_snoc (rules : List Rul) (n : ByteArray) (k : Nat) (h : k < rules.length) : trn0 (rules.take (k + 1)) n = addR n (trn0 (rules.take k) n) rules[k] := by
  unfold trn0
  rw [List.take_succ_eq_append_getElem h, List.foldl_append]
  rfl
/-- places are their own, and all that a turn says is within bounds. -/
structure TOk (R : Rul → Prop) (l : List Trn) : Prop where
  tg : ∀ i (h : i < l.length), l[i].tg = i
  rl : ∀ x ∈ l, R x.r
  no : ∀ x ∈ l, -2250000000 ≤ x.no ∧ x.no ≤ 4150000000
theorem TOk.nil (R : Rul → Prop) : TOk R [] := ⟨fun i h => absurd h (by simp), fun _ h => (by cases h), fun _ h => (by cases h)⟩
theorem addY_ok {R : Rul → Prop} {r : Rul} {l : List Trn} (h : TOk R l) (hr : R r) (ht : 0 ≤ r.at'.t ∧ r.at'.t ≤ 604800) (y : Int) : TOk R (addY r l y) := by
  unfold addY
  split
  · rename_i h0
    have hb := fnd_bd y r.at'.mo r.at'.k r.at'.a r.at'.n h0
    refine ⟨fun i hi => ?_, fun x hx => ?_, fun x hx => ?_⟩
    · rw [List.length_append, List.length_singleton] at hi
      by_cases hlt : i < l.length
      · rw [List.getElem_append_left hlt]; exact h.tg i hlt
      · obtain rfl : i = l.length := by omega
        simp
    · rcases List.mem_append.1 hx with hx | hx
      · exact h.rl x hx
      · obtain rfl := List.mem_singleton.1 hx; exact hr
    · rcases List.mem_append.1 hx with hx | hx
      · exact h.no x hx
      · obtain rfl := List.mem_singleton.1 hx
        show -2250000000 ≤ fdN r y * 86400 + r.at'.t ∧ fdN r y * 86400 + r.at'.t ≤ 4150000000 + 0
        unfold fdN
        omega
  · exact h
theorem addY_len (r : Rul) (l : List Trn) (y : Int) : (addY r l y).length ≤ l.length + 1 ∧ l.length ≤ (addY r l y).length := by
  unfold addY
  split
  · rw [List.length_append, List.length_singleton]; omega
  · omega
theorem addK_ok {R : Rul → Prop} {r : Rul} {l : List Trn} (h : TOk R l) (hr : R r) (ht : 0 ≤ r.at'.t ∧ r.at'.t ≤ 604800) : ∀ k : Nat, TOk R (addK r l k)
  | 0 => h
  | k + 1 => addY_ok (addK_ok h hr ht k) hr ht _
theorem addK_len (r : Rul) (l : List Trn) : ∀ k : Nat, (addK r l k).length ≤ l.length + k ∧ l.length ≤ (addK r l k).length
  | 0 => ⟨by show l.length ≤ _; omega, Nat.le_refl _⟩
  | k + 1 => by
    have h1 := addK_len r l k
    have h2 := addY_len r (addK r l k) (r.fr + k)
    show (addY r (addK r l k) (r.fr + k)).length ≤ _ ∧ _ ≤ (addY r (addK r l k) (r.fr + k)).length
    omega
theorem addR_ok {R : Rul → Prop} {r : Rul} {l : List Trn} {n : ByteArray} (h : TOk R l) (hr : r.nm = n → R r) (h0 : rulE r = 0) : TOk R (addR n l r) ∧ (addR n l r).length ≤ l.length + 200 := by
  obtain ⟨a1, a2, a3, a4, a5, a6, a7, a8⟩ := rulE_zero h0
  obtain ⟨c1, c2, c3, c4, c5, c6, c7⟩ := chkM_zero a8
  unfold addR
  split
  · rename_i e
    have hl := addK_len r l (r.to - r.fr + 1).toNat
    exact ⟨addK_ok h (hr e) ⟨c6, c7⟩ _, by omega⟩
  · exact ⟨h, by omega⟩
theorem trn0_ok (n : ByteArray) : ∀ (rules : List Rul), (∀ r ∈ rules, rulE r = 0) → ∀ k, k ≤ rules.length → TOk (fun r => r ∈ rules ∧ r.nm = n) (trn0 (rules.take k) n) ∧ (trn0 (rules.take k) n).length ≤ 200 * k := by
  intro rules h k
  induction k with
  | zero => intro _; exact ⟨TOk.nil _, by simp [trn0]⟩
  | succ k ih =>
    intro hk
    obtain ⟨h1, h2⟩ := ih (by omega)
    rw [trn0_snoc rules n k (by omega)]
    have hm : rules[k] ∈ rules := List.getElem_mem _
    obtain ⟨g1, g2⟩ := addR_ok (n := n) h1 (fun e => ⟨hm, e⟩) (h _ hm)
    exact ⟨g1, by omega⟩
theorem trn0_all (rules : List Rul) (n : ByteArray) (h : ∀ r ∈ rules, rulE r = 0) : TOk (fun r => r ∈ rules ∧ r.nm = n) (trn0 rules n) ∧ (trn0 rules n).length ≤ 200 * rules.length := by
  have := trn0_ok n rules h rules.length (Nat.le_refl _)
  rwa [List.take_length] at this
theorem TOk.tgs {R : Rul → Prop} {l : List Trn} (h : TOk R l) : Tg l := by
  unfold Tg
  rw [List.pairwise_iff_getElem]
  intro i j hi hj hij
  rw [h.tg i hi, h.tg j hj]
  omega
/-- instants, one behind the other. -/
def insT' (o s : Int) (x : Trn) : Int := x.no - (if x.r.at'.c = 0 then o + s else if x.r.at'.c = 1 then o else 0)
def atZ (o : Int) : Int → List Trn → List Trn
  | _, [] => []
  | s, x :: l => ⟨x.r, x.no, x.tg, insT' o s x⟩ :: atZ o x.r.sv l
theorem atZ_len (o : Int) : ∀ (l : List Trn) (s : Int), (atZ o s l).length = l.length
  | [], _ => rfl
  | x :: l, s => by show (atZ o x.r.sv l).length + 1 = _; rw [atZ_len o l]; rfl
/-- what is saved ahead of a turn. -/
def svA (l : List Trn) (k : Nat) : Int := match k with
  | 0 => 0
  | k + 1 => match l[k]? with
    | some x => x.r.sv
    | none => 0
theorem atZ_at (o : Int) : ∀ (l : List Trn) (s : Int) (k : Nat) (h : k < l.length), (atZ o s l)[k]'(by rw [atZ_len]; exact h) = ⟨l[k].r, l[k].no, l[k].tg, insT' o (match k with | 0 => s | k + 1 => match l[k]? with | some x => x.r.sv | none => 0) l[k]⟩
  | [], _, k, h => by simp at h
  | x :: l, s, 0, _ => rfl
  | x :: l, s, k + 1, h => by
    have hk : k < l.length := by simpa using h
    have := atZ_at o l x.r.sv k hk
    show (atZ o x.r.sv l)[k]'(by rw [atZ_len]; exact hk) = _
    rw [this]
    cases k with
    | zero => rfl
    | succ k => rfl
/-- the turns of an era. -/
def trns (rules : List Rul) (o : Int) (n : ByteArray) : List Trn := atZ o 0 (so (trn0 rules n))
theorem trns_len (rules : List Rul) (o : Int) (n : ByteArray) : (trns rules o n).length = (trn0 rules n).length := by unfold trns; rw [atZ_len, so_len]
def firstL (rules : List Rul) (n : ByteArray) : ByteArray := match rules.find? (fun r => decide (r.nm = n ∧ r.sv = 0)) with
  | some r => r.lt
  | none => ByteArray.empty
def lastT (l : List Trn) (t : Int) : Option Trn := l.reverse.find? fun c => decide (c.ins ≤ t)
def stL (rules : List Rul) (x : Ero) (l : List Trn) (t : Int) : Int × ByteArray :=
  if x.rl = ByteArray.empty then (x.sv, ByteArray.empty) else match lastT l t with
    | some c => (c.r.sv, c.r.lt)
    | none => (0, firstL rules x.rl)
def trE (rules : List Rul) (x : Ero) : List Trn := trns rules x.off x.rl
def unI (x : Ero) (c s : Int) : Int := Civ.ins x.yr x.un.mo x.un.k x.un.a x.un.n x.un.t c x.off s
/-- what is saved where an era ends. -/
def svE (rules : List Rul) (x : Ero) : Int := if x.un.c = 0 then (stL rules x (trE rules x) (unI x 1 0 - 1)).1 else 0
def endE (rules : List Rul) (x : Ero) : Int := unI x x.un.c (svE rules x)
def untL (rules : List Rul) (l : List Ero) : List Int := l.dropLast.map (endE rules)
def mom0 (m : Mom) : Bool := decide (m.mo = 0) && decide (m.k = 0) && decide (m.a = 0) && decide (m.n = 0) && decide (m.t = 0) && decide (m.c = 0)
/-- is an era not in form? -/
def eroF (x : Ero) (last : Bool) : Bool := !fmtL x.fm.data.toList || (!decide (x.rl = ByteArray.empty) && (!nameS x.rl || !decide (x.sv = 0))) || (x.en == last) || (last && (!decide (x.yr = 0) || !mom0 x.un))
def eroE (rules : List Rul) (x : Ero) (last : Bool) : Int :=
  if eroF x last = true then 4
  else if x.off < -86400 ∨ 86400 < x.off ∨ x.sv < -86400 ∨ 86400 < x.sv then 2
  else if x.rl ≠ ByteArray.empty ∧ namedB rules x.rl = false then 6
  else if last = true then 0
  else if x.yr < 1900 ∨ 2099 < x.yr then 2
  else if chkM x.un.mo x.un.k x.un.a x.un.n x.un.t x.un.c ≠ 0 then chkM x.un.mo x.un.k x.un.a x.un.n x.un.t x.un.c
  else fndE x.yr x.un.mo x.un.k x.un.a x.un.n
def erosE (rules : List Rul) (l : List Ero) : Int := ferr (fun i x => eroE rules x (decide ((i : Int) = (l.length : Int) - 1))) 0 l
/-- do ends rise? -/
def riseB : List Int → Bool
  | [] => true
  | [_] => true
  | x :: y :: l => decide (x < y) && riseB (y :: l)
def zonE (rules : List Rul) (z : Zon) : Int :=
  if nameS z.nm = false then 4
  else if z.eras.length = 0 ∨ 20 < z.eras.length then 1
  else if erosE rules z.eras ≠ 0 then erosE rules z.eras
  else if riseB (untL rules z.eras) = true then 0 else 8
def zIdx (s : Src) (n : ByteArray) : Int := fidx (fun z => decide (z.nm = n)) s.zones
def lIdx (s : Src) (n : ByteArray) : Int := fidx (fun l => decide (l.nm = n)) s.links
/-- the zone that a name leads to, by so many links at most; less than 0: none. -/
def folL (s : Src) : Nat → ByteArray → Int
  | 0, n => zIdx s n
  | k + 1, n => if 0 ≤ zIdx s n then zIdx s n else if lIdx s n < 0 then -1 else folL s k ((s.links[(lIdx s n).toNat]?).elim ByteArray.empty Lnk.of)
def zHas (l : List Zon) (n : ByteArray) : Bool := l.any fun z => decide (z.nm = n)
def lHas (l : List Lnk) (n : ByteArray) : Bool := l.any fun x => decide (x.nm = n)
def zonF (s : Src) (i : Nat) (z : Zon) : Int := if zonE s.rules z ≠ 0 then zonE s.rules z else if zHas (s.zones.take i) z.nm = true then 7 else 0
def lnkF (s : Src) (i : Nat) (l : Lnk) : Int := if nameS l.nm = false ∨ nameS l.of = false then 4 else if zHas s.zones l.nm = true ∨ lHas (s.links.take i) l.nm = true then 7 else 0
def lnkG (s : Src) (l : Lnk) : Int := if zHas s.zones l.of = true ∨ lHas s.links l.of = true then 0 else 6
def lnkH (s : Src) (l : Lnk) : Int := if 0 ≤ folL s 8 l.nm then 0 else 9
def rulsE (s : Src) : Int := ferr (fun _ r => rulE r) 0 s.rules
def zonsE (s : Src) : Int := ferr (zonF s) 0 s.zones
def lnk1 (s : Src) : Int := ferr (lnkF s) 0 s.links
def lnk2 (s : Src) : Int := ferr (fun _ l => lnkG s l) 0 s.links
def lnk3 (s : Src) : Int := ferr (fun _ l => lnkH s l) 0 s.links
def srcE (s : Src) : Int :=
  if 200 < s.rules.length ∨ 200 < s.zones.length ∨ 200 < s.links.length then 1
  else if rulsE s ≠ 0 then rulsE s else if zonsE s ≠ 0 then zonsE s else if lnk1 s ≠ 0 then lnk1 s else if lnk2 s ≠ 0 then lnk2 s else lnk3 s
/-- what a clock is called. -/
def fmtN (fm lt : List UInt8) (sav : Bool) : List UInt8 :=
  if 0 ≤ Lib.index fm [47] then (if sav then fm.drop ((Lib.index fm [47]).toNat + 1) else fm.take (Lib.index fm [47]).toNat)
  else if 0 ≤ Lib.index fm [37, 115] then fm.take (Lib.index fm [37, 115]).toNat ++ (lt ++ fm.drop ((Lib.index fm [37, 115]).toNat + 2))
  else fm
def clkE (x : Ero) (sl : Int × ByteArray) : Clk := ⟨x.off + sl.1, !decide (sl.1 = 0), ⟨(fmtN x.fm.data.toList sl.2.data.toList (!decide (sl.1 = 0))).toArray⟩⟩
end Go.Proofs.YtbikdlcjbigafaaGreatDoor

namespace Go.Proofs.YtbikdlcjbigafaaGreatDoor
set_option linter.unusedVariables false
set_option linter.unusedSimpArgs false
open Go.ChangeShapes Go.WideShapes Go.ChangeAt Go.RowKit

/-- a text's pieces, cut at each c; cur is what the first piece has so far. -/
def splB (c : UInt8) : List UInt8 → List UInt8 → List (List UInt8)
  | cur, [] => [cur]
  | cur, x :: l => if x = c then cur :: splB c [] l else splB c (cur ++ [x]) l
theorem ext_bytes (s : ByteArray) (a b : Nat) : s.extract a b = ⟨((s.data.toList.drop a).take (b - a)).toArray⟩ := by
  obtain ⟨⟨l⟩⟩ := s
  exact ByteArray.extract_mk l a b
end Go.Proofs.YtbikdlcjbigafaaGreatDoor

namespace Go.Proofs.YtbikdlcjbigafaaGreatDoor
set_option linter.unusedVariables false
set_option linter.unusedSimpArgs false
open Go.ChangeShapes Go.WideShapes Go.ChangeAt Go.RowKit

def dval (l : List Int) : Int := l.foldl (fun n b => 10 * n + (b - 48)) 0
theorem dval_snoc (l : List Int) (b : Int) : dval (l ++ [b]) = 10 * dval l + (b - 48) := by unfold dval; rw [List.foldl_append]; rfl
theorem dval_lt : ∀ (j : Nat) (l : List Int), l.length ≤ j → (∀ b ∈ l, 48 ≤ b ∧ b ≤ 57) → 0 ≤ dval l ∧ dval l < 10 ^ j
  | 0, l, h, _ => by
    have : l = [] := by cases l <;> simp_all
    subst this
    decide
  | j + 1, l, h, hd => by
    rcases List.eq_nil_or_concat l with rfl | ⟨r, b, rfl⟩
    · refine ⟨by decide, ?_⟩
      show (0 : Int) < 10 ^ (j + 1)
      exact Int.pow_pos (by decide)
    · rw [List.concat_eq_append] at h hd ⊢
      rw [dval_snoc]
      have h1 := dval_lt j r (by simp at h; omega) (fun x hx => hd x (by simp [hx]))
      have h2 := hd b (by simp)
      have h3 : (10 : Int) ^ (j + 1) = 10 * 10 ^ j := by rw [Int.pow_succ, Int.mul_comm]
      omega
def dcmBad (l : List Int) : Bool := !(decide (1 ≤ (l.length : Int) ∧ (l.length : Int) ≤ 6)) || (!(l.all digB) || (decide (1 < l.length) && (l.headD 0 == 48)))
def dcm (l : List Int) (most : Int) : Int × Int := if dcmBad l then (0, 4) else if most < dval l then (0, 2) else (dval l, 0)
theorem digB_iff (x : Int) : digB x = true ↔ 48 ≤ x ∧ x ≤ 57 := by unfold digB; simp
end Go.Proofs.YtbikdlcjbigafaaGreatDoor
