/-
  Numbers as bytes: seven bits each.
-/
import Derived.Test.YtpnmaopompfalaaLem
import Derived.Laws.Bits64
import Derived.ArgAppend
namespace Go.Proofs.Ytpnmaopompfalaa
set_option linter.unusedVariables false
set_option linter.unusedSimpArgs false
open Go.ChangeShapes Go.WideShapes Go.ChangeAt Go.RowKit

/-- seven bits each, the lowest first. -/
def sv (u : Nat) : List Int := if h : u < 128 then [(u : Int)] else ((u % 128 + 128 : Nat) : Int) :: sv (u / 128)
termination_by u
decreasing_by omega
def zz (n : Int) : Nat := if n < 0 then (-2 * n - 1).toNat else (2 * n).toNat
def zb (n : Int) : List Int := sv (zz n)
def encB (x : Int) : List Value := [.int .u8 x]
theorem sv_small {u : Nat} (h : u < 128) : sv u = [(u : Int)] := by unfold sv; rw [dif_pos h]
theorem sv_big {u : Nat} (h : 128 ≤ u) : sv u = ((u % 128 + 128 : Nat) : Int) :: sv (u / 128) := by
  rw [sv, dif_neg (by omega)]
theorem zz_lt {n : Int} (h : I64 n) : zz n < 18446744073709551616 := by
  obtain ⟨b1, b2⟩ := bounds_i64 h
  unfold zz; split <;> omega
def ByAt (w : World) (P B : Nat) (l : List Int) : Prop := ∃ v c e fz, w.heap[P]? = some (.cells c e fz) ∧ e ≠ 5 ∧ w.cell? ⟨P, 0, none⟩ = some v ∧ w.frozen? ⟨P, 0, none⟩ = false ∧ w.ownsRow B 5 1 v l.length (l.flatMap encB)
/-- the bytes of a slice that is the call's own, or that is full. -/
def RowW (w : World) (B : Nat) (v : Value) (l : List Int) : Prop := w.ownsRow B 5 1 v l.length (l.flatMap encB) ∨ ∃ g C fz, v = .slice (some ⟨g, 0, none⟩) l.length l.length ∧ B ≤ g ∧ w.heap[g]? = some (.cells C 5 fz) ∧ ∀ j u, (l.flatMap encB)[j]? = some u → w.cell? ⟨g, j, none⟩ = some u
def By0 (w : World) (P B : Nat) (l : List Int) : Prop := ∃ v c e fz, w.heap[P]? = some (.cells c e fz) ∧ e ≠ 5 ∧ w.cell? ⟨P, 0, none⟩ = some v ∧ w.frozen? ⟨P, 0, none⟩ = false ∧ RowW w B v l
theorem ByAt.to0 {w : World} {P B : Nat} {l : List Int} (h : ByAt w P B l) : By0 w P B l := by
  obtain ⟨v, c, e, fz, h1, h2, h3, h4, h5⟩ := h
  exact ⟨v, c, e, fz, h1, h2, h3, h4, .inl h5⟩
def OwnT (w : World) (B : Nat) (v : Value) : Prop := ∀ g, v.ownBlock = some g → B ≤ g ∧ ∃ C fz, w.heap[g]? = some (.cells C 5 fz)
theorem own_T {w : World} {B n : Nat} {v : Value} {xs : List Value} (hown : w.ownsRow B 5 1 v n xs) : OwnT w B v := by
  intro g hg
  obtain ⟨_, h'⟩ := hown
  rcases h' with ⟨rfl, _⟩ | ⟨g', cap, cur, rfl, hb, hh, _⟩
  · simp [Value.ownBlock] at hg
  · simp [Value.ownBlock] at hg
    subst hg
    exact ⟨hb, _, _, hh⟩
theorem row_T {w : World} {B : Nat} {v : Value} {l : List Int} (h : RowW w B v l) : OwnT w B v := by
  rcases h with h | ⟨g, C, fz, rfl, hb, hh, _⟩
  · exact own_T h
  · intro g' hg
    simp [Value.ownBlock] at hg
    subst hg
    exact ⟨hb, _, _, hh⟩
theorem row_shape {w : World} {B : Nat} {v : Value} {l : List Int} (h : RowW w B v l) : ∃ a c, v = .slice a l.length c := by
  rcases h with h | ⟨g, C, fz, rfl, _⟩
  · exact own_shape h
  · exact ⟨_, _, rfl⟩
theorem RowW.alloc {w : World} {B : Nat} {v : Value} {l : List Int} (h : RowW w B v l) (o : Obj) : RowW (w.alloc o) B v l := by
  rcases h with h | ⟨g, C, fz, rfl, hb, hh, hc⟩
  · exact .inl (h.alloc _)
  · have hg : g < w.heap.size := by
      rcases Nat.lt_or_ge g w.heap.size with q | q
      · exact q
      · rw [Array.getElem?_eq_none q] at hh; cases hh
    have hb' := (Below.refl w.heap.size w).alloc (Nat.le_refl _) o
    exact .inr ⟨g, C, fz, rfl, hb, (hb'.block g hg).trans hh, fun j u hj => (hb'.cell (p := ⟨g, j, none⟩) hg).trans (hc j u hj)⟩
theorem encB_len (l : List Int) : (l.flatMap encB).length = l.length := by
  induction l with
  | nil => rfl
  | cons x l ih => rw [List.flatMap_cons, List.length_append, ih]; simp [encB]; omega
theorem wpList_append_row {w : World} {ops : Array Oper} {rest : List Oper} {o : Oper} {a : Act} {Q : Exit → Act → World → Prop} (hgd : o.guard = none) (s x : Operand)
    (ho : o.op = .call { callee := .builtin .append, args := #[s, x], argTypes := #[66, 66] })
    (B : Nat) (i : TypeInfo) (hi : Try.prog.info? 5 = some i) (hz : i.zero = some (.int .u8 0)) (hsize : i.size = 1) (hby : i.bytes = 1)
    (v : Value) (l : List Int) (hs : a.eval s = v) (hrow : RowW w B v l)
    (ad : Addr) (m c : Nat) (news : List Value) (hx : a.eval x = .slice (some ad) m c) (hl : news.length = m * 1) (hnews : ∀ j u, news[j]? = some u → w.cell? (ad.add j) = some u) (h1 : ∀ u ∈ news, u.oneCell' = true)
    (hm : 0 < m) (h63 : l.length + m ≤ maxLen) (hbytes : (l.length + m) * 1 ≤ 140737488355328) (hbase : B ≤ w.heap.size)
    (h : ∀ v' w', w'.ownsRow B 5 1 v' (l.length + m) (l.flatMap encB ++ news) → w.grownBy w' v.ownBlock → wpList Try.prog ops Q rest (a.put o.dst v') w') : wpList Try.prog ops Q (o :: rest) a w := by
  rcases hrow with hown | ⟨g, C, fz, rfl, hb, hh, hc⟩
  · exact wpList_append_own w hgd s x 66 ho B 5 i (.int .u8 0) 1 1 Try.underlying66 hi hz hsize hby rfl (by decide) v _ _ hs hown ad m c news hx hl hnews h1 h63 hbytes hbase fun v' w' h2 h3 _ => h v' w' h2 h3
  · refine wpList_append_grows w hgd s x 66 ho 5 i (.int .u8 0) 1 1 Try.underlying66 hi hz hsize hby rfl (by decide) (some ⟨g, 0, none⟩) l.length l.length (l.flatMap encB) hs (fun e => by cases e) (by rw [encB_len, Nat.mul_one]) (fun b e j u hj => by cases e; rw [Addr.add_lit, Nat.zero_add]; exact hc j u hj) ad m c news hx hl hnews h1 (by omega) h63 hbytes fun v' w' h2 h3 => h v' w' (ownsRow_base hbase h2) ?_
    exact ⟨h3.os, h3.tape, h3.output, h3.size, fun k hk _ => h3.block k hk (by simp)⟩
def Kp (P : Nat) (w w' : World) : Prop := ∀ (b : Nat) (c : Array Value) (e : TypeId) (fz : Nat × Nat), w.heap[b]? = some (.cells c e fz) → e ≠ 5 → b ≠ P → w'.heap[b]? = some (.cells c e fz)
theorem Kp.refl (P : Nat) (w : World) : Kp P w w := fun _ _ _ _ h _ _ => h
theorem Kp.trans {P : Nat} {w w1 w2 : World} (h : Kp P w w1) (g : Kp P w1 w2) : Kp P w w2 := fun b c e fz h1 h2 h3 => g b c e fz (h b c e fz h1 h2 h3) h2 h3
theorem info_byte : (Try.prog.info? 5).map (fun i => (i.zero, i.size, i.bytes)) = some (some (.int .u8 0), 1, 1) := by kernel_rfl
theorem sv_len : ∀ (j u : Nat), u < 128 ^ (j + 1) → (sv u).length ≤ j + 1
  | 0, u, h => by rw [sv_small (by simpa using h)]; simp
  | j + 1, u, h => by
    by_cases hu : u < 128
    · rw [sv_small hu]; simp
    · rw [sv_big (by omega), List.length_cons]
      have := sv_len j (u / 128) (Nat.div_lt_of_lt_mul (by rw [Nat.pow_succ] at h; omega))
      omega
theorem zb_len {n : Int} (h : I64 n) : (zb n).length ≤ 10 := sv_len 9 _ (Nat.lt_of_lt_of_le (zz_lt h) (by decide))
theorem bits_and_n (a b : Nat) (ha : a < 18446744073709551616) (hb : b < 18446744073709551616) : bits .and .u64 (a : Int) (b : Int) = ((a &&& b : Nat) : Int) := by
  have hx : a &&& b ≤ a := Nat.and_le_left
  have h1 : (BitVec.ofInt 64 (a : Int)).toNat = a := by rw [BitVec.ofInt_natCast, BitVec.toNat_ofNat]; exact Nat.mod_eq_of_lt (by omega)
  have h2 : (BitVec.ofInt 64 (b : Int)).toNat = b := by rw [BitVec.ofInt_natCast, BitVec.toNat_ofNat]; exact Nat.mod_eq_of_lt (by omega)
  show IntKind.u64.wrap ((BitVec.ofInt 64 (a : Int) &&& BitVec.ofInt 64 (b : Int)).toNat : Int) = _
  rw [BitVec.toNat_and, h1, h2, IntKind.wrap_u64]
  omega
theorem bits_or_n (a b : Nat) (ha : a < 18446744073709551616) (hb : b < 18446744073709551616) : bits .or .u64 (a : Int) (b : Int) = ((a ||| b : Nat) : Int) := by
  have hx : a ||| b < 2 ^ 64 := Nat.or_lt_two_pow (by omega) (by omega)
  have h1 : (BitVec.ofInt 64 (a : Int)).toNat = a := by rw [BitVec.ofInt_natCast, BitVec.toNat_ofNat]; exact Nat.mod_eq_of_lt (by omega)
  have h2 : (BitVec.ofInt 64 (b : Int)).toNat = b := by rw [BitVec.ofInt_natCast, BitVec.toNat_ofNat]; exact Nat.mod_eq_of_lt (by omega)
  show IntKind.u64.wrap ((BitVec.ofInt 64 (a : Int) ||| BitVec.ofInt 64 (b : Int)).toNat : Int) = _
  rw [BitVec.toNat_or, h1, h2, IntKind.wrap_u64]
  omega
theorem xor_ones (a : Nat) (h : a < 18446744073709551616) : a ^^^ 18446744073709551615 = 18446744073709551615 - a := by
  have e : (BitVec.ofNat 64 a ^^^ BitVec.allOnes 64).toNat = (~~~ (BitVec.ofNat 64 a)).toNat := by rw [BitVec.xor_allOnes]
  rw [BitVec.toNat_xor, BitVec.toNat_not, BitVec.toNat_allOnes, BitVec.toNat_ofNat, Nat.mod_eq_of_lt (by omega)] at e
  exact e
theorem zig_bits {n : Int} (h : I64 n) : bits .xor .u64 (IntKind.u64.wrap (IntKind.u64.wrap n * 2)) (IntKind.u64.wrap (n / 9223372036854775808)) = (zz n : Int) := by
  obtain ⟨b1, b2⟩ := bounds_i64 h
  rw [IntKind.wrap_u64, IntKind.wrap_u64, IntKind.wrap_u64]
  by_cases c : n < 0
  · have e1 : n % 18446744073709551616 = n + 18446744073709551616 := by omega
    have e2 : (n % 18446744073709551616 * 2) % 18446744073709551616 = ((2 * n + 18446744073709551616).toNat : Int) := by rw [e1]; omega
    have e3 : n / 9223372036854775808 % 18446744073709551616 = ((18446744073709551615 : Nat) : Int) := by omega
    rw [e2, e3, bits_xor_u64_nat _ _ (by omega) (by decide), xor_ones _ (by omega)]
    unfold zz
    rw [if_pos c]
    omega
  · have e1 : n % 18446744073709551616 = n := by omega
    have e2 : (n % 18446744073709551616 * 2) % 18446744073709551616 = ((2 * n).toNat : Int) := by rw [e1]; omega
    have e3 : n / 9223372036854775808 % 18446744073709551616 = ((0 : Nat) : Int) := by omega
    rw [e2, e3, bits_xor_u64_nat _ _ (by omega) (by decide), Nat.xor_zero]
    unfold zz
    rw [if_neg c]
theorem low_bits (u : Nat) (hu : u < 18446744073709551616) : IntKind.u8.wrap (bits .or .u64 (bits .and .u64 (u : Int) 127) 128) = ((u % 128 + 128 : Nat) : Int) := by
  have e1 : bits .and .u64 (u : Int) 127 = ((u % 128 : Nat) : Int) := by
    rw [show (127 : Int) = ((127 : Nat) : Int) from rfl, bits_and_n _ _ hu (by decide)]
    rw [show (127 : Nat) = 2 ^ 7 - 1 from rfl, Nat.and_two_pow_sub_one_eq_mod]
  have e2 : bits .or .u64 ((u % 128 : Nat) : Int) 128 = ((u % 128 + 128 : Nat) : Int) := by
    rw [show (128 : Int) = ((128 : Nat) : Int) from rfl, bits_or_n _ _ (by omega) (by decide)]
    have := Nat.two_pow_add_eq_or_of_lt (i := 7) (b := u % 128) (Nat.mod_lt _ (by decide)) 1
    rw [Nat.or_comm, show (128 : Nat) = 2 ^ 7 * 1 from rfl, ← this]
    omega
  rw [e1, e2]
  show ((u % 128 + 128 : Nat) : Int) % 256 = _
  omega
theorem last_bits (u : Nat) (hu : u < 128) : IntKind.u8.wrap (u : Int) = (u : Int) := by
  show (u : Int) % 256 = _
  omega
theorem own_neT {w : World} {B P : Nat} {v : Value} {c : Array Value} {e : TypeId} {fz : Nat × Nat} (hT : OwnT w B v) (h : w.heap[P]? = some (.cells c e fz)) (he : e ≠ 5) : some P ≠ v.ownBlock := by
  intro e'
  obtain ⟨_, C, fz', hh⟩ := hT P e'.symm
  rw [hh] at h
  simp at h
  exact he h.2.1.symm
theorem heap_lt {w : World} {b : Nat} {o : Obj} (h : w.heap[b]? = some o) : b < w.heap.size := by
  rcases Nat.lt_or_ge b w.heap.size with q | q
  · exact q
  · rw [Array.getElem?_eq_none q] at h; cases h
theorem kp_grown {B : Nat} {w wA w1 : World} {v : Value} (hT : OwnT w B v) (hA : Below w.heap.size w wA) (hg : wA.grownBy w1 v.ownBlock) : ∀ (b : Nat) (c : Array Value) (e : TypeId) (fz : Nat × Nat), w.heap[b]? = some (.cells c e fz) → e ≠ 5 → w1.heap[b]? = some (.cells c e fz) := by
  intro b c e fz h1 h2
  have hb := heap_lt h1
  rw [hg.block b (Nat.lt_of_lt_of_le hb hA.size) (own_neT hT h1 h2), hA.block b hb]
  exact h1
theorem heap_set {w : World} {P : Nat} {c : Array Value} {e : TypeId} {fz : Nat × Nat} (h : w.heap[P]? = some (.cells c e fz)) (v : Value) : (w.setCell ⟨P, 0, none⟩ v).heap[P]? = some (.cells (c.setIfInBounds 0 v) e fz) := by
  simp [World.setCell, Array.getElem?_modify, h]
theorem grown_set (w : World) (P : Nat) (u : Value) : w.grownBy (w.setCell ⟨P, 0, none⟩ u) (some P) :=
  ⟨rfl, rfl, rfl, by rw [World.size_setCell]; exact Nat.le_refl _, fun k _ hk => RowKit.Below.heap_setCell _ _ _ _ (fun e => hk (by rw [e]))⟩
/-- behind an append to the writer's bytes: what the box reads. -/
theorem by_boxT {P B : Nat} {w wA w1 : World} {v v0 : Value} {c : Array Value} {e : TypeId} {fz : Nat × Nat} (hT : OwnT w B v) (hh : w.heap[P]? = some (.cells c e fz)) (he : e ≠ 5) (hc : w.cell? ⟨P, 0, none⟩ = some v0) (hf : w.frozen? ⟨P, 0, none⟩ = false)
    (hA : Below w.heap.size w wA) (hg : wA.grownBy w1 v.ownBlock) : w1.cell? ⟨P, 0, none⟩ = some v0 ∧ w1.frozen? ⟨P, 0, none⟩ = false ∧ P < w1.heap.size := by
  have h1 := kp_grown hT hA hg P c e fz hh he
  have e1 : w1.heap[P]? = w.heap[P]? := h1.trans hh.symm
  exact ⟨(World.cell?_of_block (a := ⟨P, 0, none⟩) e1).trans hc, (World.frozen?_of_block (a := ⟨P, 0, none⟩) e1).trans hf, heap_lt h1⟩
/-- the same, stored. -/
theorem by_stepT {P B m : Nat} {w wA w1 : World} {v v0 v2 : Value} {l2 : List Int} {c : Array Value} {e : TypeId} {fz : Nat × Nat} (hB : B ≤ P) (hT : OwnT w B v) (hh : w.heap[P]? = some (.cells c e fz)) (he : e ≠ 5) (hc : w.cell? ⟨P, 0, none⟩ = some v0) (hf : w.frozen? ⟨P, 0, none⟩ = false)
    (hA : Below w.heap.size w wA) (hg : wA.grownBy w1 v.ownBlock) (hm : m = l2.length) (h2 : w1.ownsRow B 5 1 v2 m (l2.flatMap encB)) :
    ByAt (w1.setCell ⟨P, 0, none⟩ v2) P B l2 ∧ Kp P w (w1.setCell ⟨P, 0, none⟩ v2) ∧ Below B w (w1.setCell ⟨P, 0, none⟩ v2) := by
  subst hm
  have hk := kp_grown hT hA hg
  obtain ⟨k1, k2, k3⟩ := by_boxT hT hh he hc hf hA hg
  have h3 := hk P c e fz hh he
  have hP := heap_lt hh
  have hne := own_neT (own_T h2) h3 he
  refine ⟨⟨v2, _, e, fz, heap_set h3 _, he, World.cell?_setCell_same (h := k1) .., by rw [World.frozen?_setCell]; exact k2, World.ownsRow.kept h2 (grown_set _ _ _) (.inr hne.symm)⟩, fun b c' e' fz' g1 g2 g3 => ?_, ?_⟩
  · rw [RowKit.Below.heap_setCell _ _ _ _ g3]
    exact hk b c' e' fz' g1 g2
  · exact ((hA.mono (by omega)).trans ((Below.refl B wA).grown hg (Nat.le_trans (by omega) hA.size) (fun g hg' => (hT g hg').1))).setCell hB _
theorem by_box {P B n : Nat} {w wA w1 : World} {v v0 : Value} {xs : List Value} {c : Array Value} {e : TypeId} {fz : Nat × Nat} (hown : w.ownsRow B 5 1 v n xs) (hh : w.heap[P]? = some (.cells c e fz)) (he : e ≠ 5) (hc : w.cell? ⟨P, 0, none⟩ = some v0) (hf : w.frozen? ⟨P, 0, none⟩ = false)
    (hA : Below w.heap.size w wA) (hg : wA.grownBy w1 v.ownBlock) : w1.cell? ⟨P, 0, none⟩ = some v0 ∧ w1.frozen? ⟨P, 0, none⟩ = false ∧ P < w1.heap.size := by_boxT (own_T hown) hh he hc hf hA hg
theorem by_step {P B n m : Nat} {w wA w1 : World} {v v0 v2 : Value} {xs : List Value} {l2 : List Int} {c : Array Value} {e : TypeId} {fz : Nat × Nat} (hB : B ≤ P) (hown : w.ownsRow B 5 1 v n xs) (hh : w.heap[P]? = some (.cells c e fz)) (he : e ≠ 5) (hc : w.cell? ⟨P, 0, none⟩ = some v0) (hf : w.frozen? ⟨P, 0, none⟩ = false)
    (hA : Below w.heap.size w wA) (hg : wA.grownBy w1 v.ownBlock) (hm : m = l2.length) (h2 : w1.ownsRow B 5 1 v2 m (l2.flatMap encB)) :
    ByAt (w1.setCell ⟨P, 0, none⟩ v2) P B l2 ∧ Kp P w (w1.setCell ⟨P, 0, none⟩ v2) ∧ Below B w (w1.setCell ⟨P, 0, none⟩ v2) := by_stepT hB (own_T hown) hh he hc hf hA hg hm h2
set_option maxRecDepth 100000 in
set_option maxHeartbeats 4000000 in
theorem wnum_any (P B : Nat) (l : List Int) (n : Int) (w : World) (hP : B ≤ P) (h : By0 w P B l) (hn : I64 n) (hl : l.length ≤ 1000000000) :
    Calls Try.prog 88 #[.pointer (some ⟨P, 0, none⟩), .int .i64 n] w fun e w' => e = .returned (.tuple #[]) ∧ ByAt w' P B (l ++ zb n) ∧ Kp P w w' ∧ Below B w w' := by
  obtain ⟨i0, hi, hz0, hz1, hz2⟩ := info_parts info_byte
  obtain ⟨b1, b2⟩ := bounds_i64 hn
  have hzig := zig_bits hn
  have hzl := zb_len hn
  obtain ⟨Z, hZ⟩ : ∃ Z, Z = zz n := ⟨_, rfl⟩
  have hZl : Z < 18446744073709551616 := by rw [hZ]; exact zz_lt hn
  rw [← hZ] at hzig
  have HLS : Hid (l ++ sv Z = l ++ zb n) := by show _ = _; unfold zb; rw [hZ]
  have HLL : Hid ((l ++ zb n).length ≤ 1000000010) := by show _ ≤ _; rw [List.length_append]; omega
  have HN := Lib.hid hn
  have HB := Lib.hid h
  clear hn hZ h hzl
  go_enter Try.func88, Try.ntmps88
  go_wp2
  go_loopw [4] (fun u wr => ∃ (k : Nat) (l' : List Int), u = .int .u64 k ∧ k < 18446744073709551616 ∧ Hid (l' ++ sv k = l ++ zb n) ∧ Hid (By0 wr P B l') ∧ Hid (Kp P w wr) ∧ Below B w wr) (fun u _ => (intOf u).toNat)
  case atStart => exact ⟨Z, l, rfl, hZl, HLS, HB, Kp.refl _ _, Below.refl _ _⟩
  case round =>
    obtain ⟨k, l', rfl, hk, hls, hby, hkp, hbr⟩ := hrel
    obtain ⟨v, cb, eb, fb, hh, heb, c0, f0, hown⟩ := hby.out
    obtain ⟨av, cv, rfl⟩ := row_shape hown
    have HOWN := Lib.hid hown
    have HC0 := Lib.hid c0
    have HF0 := Lib.hid f0
    have hzP := heap_lt hh
    have HH := Lib.hid hh
    have HE := Lib.hid heb
    have hsz : B ≤ wr.heap.size := by omega
    clear hown hh heb
    have hll : l'.length ≤ 1000000010 := by
      have := HLL.out
      rw [← hls.out, List.length_append] at this
      omega
    by_cases hb : 128 ≤ k
    · have hlow := low_bits k hk
      obtain ⟨k2, hk2⟩ : ∃ k2 : Nat, k2 = k / 128 := ⟨_, rfl⟩
      have hdv : (k : Int) / 128 = (k2 : Int) := by omega
      have HK2 := Lib.hid hk2
      have hk22 : k2 < k := by omega
      clear hk2
      obtain ⟨y, hy⟩ : ∃ y : Int, y = ((k % 128 + 128 : Nat) : Int) := ⟨_, rfl⟩
      rw [← hy] at hlow
      have HY := Lib.hid hy
      clear hy
      go_wp2_with (at_builtin; refine wpList_append_row rfl _ _ rfl B i0 hi hz0 hz1 hz2 _ l' rfl (HOWN.out.alloc _) ⟨wr.heap.size, 0, none⟩ 1 1 (encB y) rfl rfl (cells_at _ _ _ _ _ rfl rfl) (by intro u hu; simp [encB] at hu; subst hu; rfl) (by omega) (by unfold maxLen; omega) (by omega) (by rw [size_alloc]; omega) ?_; intro v' w2 hown' hgrow; obtain ⟨a2, c2, rfl⟩ := own_shape hown'; obtain ⟨y0, y1, y2⟩ := by_boxT (row_T HOWN.out) HH.out HE.out HC0.out HF0.out ((Below.refl _ _).alloc (Nat.le_refl _) _) hgrow; have HST := Lib.hid (by_stepT hP (row_T HOWN.out) HH.out HE.out HC0.out HF0.out ((Below.refl _ _).alloc (Nat.le_refl _) _) hgrow rfl (own_snocG hown')); clear hown' hgrow)
      have HLS2 : Hid ((l' ++ [y]) ++ sv k2 = l ++ zb n) := by
        show _ = _
        rw [← hls.out, sv_big hb, HY.out, HK2.out, List.append_assoc]
        rfl
      go_roundw
      case rel => exact ⟨k2, l' ++ [y], by go_num, by omega, HLS2, HST.out.1.to0, hkp.out.trans HST.out.2.1, hbr.trans HST.out.2.2⟩
      case measure => simp [intOf]; omega
    · have hlow := last_bits k (by omega)
      go_wp2_with (at_builtin; refine wpList_append_row rfl _ _ rfl B i0 hi hz0 hz1 hz2 _ l' rfl (HOWN.out.alloc _) ⟨wr.heap.size, 0, none⟩ 1 1 (encB (k : Int)) rfl rfl (cells_at _ _ _ _ _ rfl rfl) (by intro u hu; simp [encB] at hu; subst hu; rfl) (by omega) (by unfold maxLen; omega) (by omega) (by rw [size_alloc]; omega) ?_; intro v' w2 hown' hgrow; obtain ⟨a2, c2, rfl⟩ := own_shape hown'; obtain ⟨y0, y1, y2⟩ := by_boxT (row_T HOWN.out) HH.out HE.out HC0.out HF0.out ((Below.refl _ _).alloc (Nat.le_refl _) _) hgrow; have HST := Lib.hid (by_stepT hP (row_T HOWN.out) HH.out HE.out HC0.out HF0.out ((Below.refl _ _).alloc (Nat.le_refl _) _) hgrow rfl (own_snocG hown')); clear hown' hgrow)
      have HLS2 : Hid (l' ++ [(k : Int)] = l ++ zb n) := by
        show _ = _
        rw [← hls.out, sv_small (by omega)]
      go_end0
      refine ⟨rfl, ?_, hkp.out.trans HST.out.2.1, hbr.trans HST.out.2.2⟩
      rw [← HLS2.out]
      exact HST.out.1
end Go.Proofs.Ytpnmaopompfalaa
