/-
  sundialref.stateOf: what is saved, and letters.
-/
import Derived.Test.YtdpbedkppomffaaDoorZonD
import Derived.Test.YtdpbedkppomffaaDoorZonK
namespace Go.Proofs.YtdpbedkppomffaaDoor
set_option linter.unusedVariables false
set_option linter.unusedSimpArgs false
open Go.ChangeShapes Go.WideShapes Go.ChangeAt Go.RowKit Civ

theorem lastT_at {T : List Trn} {t : Int} {k : Nat} (h : k < T.length) (hp : T[k].ins ≤ t) (hn : ∀ (j : Nat) (hj : j < T.length), k < j → ¬ T[j].ins ≤ t) : lastT T t = some T[k] := by
  unfold lastT
  have e : T = T.take k ++ T[k] :: T.drop (k + 1) := by rw [← List.drop_eq_getElem_cons h, List.take_append_drop]
  have h1 : (T.drop (k + 1)).reverse.find? (fun c => decide (c.ins ≤ t)) = none := by
    rw [List.find?_eq_none]
    intro x hx
    rw [List.mem_reverse, List.mem_iff_getElem] at hx
    obtain ⟨i, hi, rfl⟩ := hx
    rw [List.getElem_drop]
    have := hn (k + 1 + i) (by rw [List.length_drop] at hi; omega) (by omega)
    simpa using this
  generalize T[k] = y at *
  rw [e, List.reverse_append, List.reverse_cons, List.append_assoc, List.find?_append, h1]
  rw [Option.none_or, List.singleton_append, List.find?_cons_of_pos (by simpa using hp)]
theorem lastT_none {T : List Trn} {t : Int} (hn : ∀ (j : Nat) (hj : j < T.length), ¬ T[j].ins ≤ t) : lastT T t = none := by
  unfold lastT
  rw [List.find?_eq_none]
  intro x hx
  rw [List.mem_reverse, List.mem_iff_getElem] at hx
  obtain ⟨i, hi, rfl⟩ := hx
  simpa using hn i hi
theorem firstL_at {rules : List Rul} {n : ByteArray} {k : Nat} (h : k < rules.length) (hn : ∀ (j : Nat) (hj : j < rules.length), j < k → frP n rules[j] = false) (hp : frP n rules[k] = true) : firstL rules n = rules[k].lt := by
  have h1 := fidx_at (frP n) rules k h (fun i hi => hn i (by omega) hi) hp
  rcases first_fidx n rules with ⟨a, -⟩ | ⟨k', h', a, b⟩
  · omega
  · have : k = k' := by omega
    subst this
    exact b
theorem firstL_none {rules : List Rul} {n : ByteArray} (hn : ∀ (j : Nat) (hj : j < rules.length), frP n rules[j] = false) : firstL rules n = ByteArray.empty := by
  have h1 := fidx_none (frP n) rules (fun i hi => hn i hi)
  rcases first_fidx n rules with ⟨-, b⟩ | ⟨k', h', a, b⟩
  · exact b
  · omega
theorem elemTur {w : World} {aa : Option Addr} {n ca : Nat} {xs : List Trn} (h : SlAt w 13 RTur (.slice aa n ca) xs) (k : Nat) (hk : k < xs.length) :
    ∃ b off, aa = some ⟨b, off, none⟩ ∧ b < w.heap.size ∧ TurAt w b (off + k * 13) xs[k] := by
  rcases h with ⟨a, cap, _, rfl⟩ | ⟨b, off, cap, e, h0, h1, h2, h3, h4⟩
  · simp at hk
  · obtain ⟨cs, hl, rfl, hc⟩ := h4 k hk
    simp only [Value.slice.injEq] at e
    obtain ⟨rfl, -, -⟩ := e
    exact ⟨b, off, rfl, h3, ⟨hc 0 (by omega), hc 1 (by omega), hc 2 (by omega), hc 3 (by omega), hc 4 (by omega), hc 5 (by omega), hc 6 (by omega), hc 7 (by omega), hc 8 (by omega), hc 9 (by omega), hc 10 (by omega), hc 11 (by omega), hc 12 (by omega)⟩⟩
set_option maxHeartbeats 8000000 in
set_option maxRecDepth 100000 in
theorem stateOf_any (s : Src) (x : Ero) (t : Int) (vr vz vl : Value) (w : World) (hs : SrcAt w vr vz vl s) (hok : ROk s x) :
    Calls Tryd.prog 102 #[.agg #[vr, vz, vl], .agg #[.int .i64 x.off, .string x.rl, .int .i64 x.sv, .string x.fm, .bool x.en, .int .i64 x.yr, .int .i64 x.un.mo, .int .i64 x.un.k, .int .i64 x.un.a, .int .i64 x.un.n, .int .i64 x.un.t, .int .i64 x.un.c], .int .i64 t] w fun e w' => e = .returned (.tuple #[.int .i64 (stL s.rules x (trE s.rules x) t).1, .string (stL s.rules x (trE s.rules x) t).2]) ∧ Below w.heap.size w w' := by
  have Z0 := Lib.hid (ZBx.new w vr vz vl x)
  obtain ⟨W0, hW0⟩ : ∃ W0, W0 = (w.alloc (.cells #[vr, vz, vl] 26)).alloc (.cells #[.int .i64 x.off, .string x.rl, .int .i64 x.sv, .string x.fm, .bool x.en, .int .i64 x.yr, .int .i64 x.un.mo, .int .i64 x.un.k, .int .i64 x.un.a, .int .i64 x.un.n, .int .i64 x.un.t, .int .i64 x.un.c] 36) := ⟨_, rfl⟩
  rw [← hW0] at Z0
  have HW := Lib.hid hW0
  have HTU := Lib.hid (turns_any s x vr vz vl W0 (Z0.out.src hs) hok)
  have HS := Lib.hid hs
  obtain ⟨ar, cr, rfl, hl⟩ := hs.1.shape
  have hml : s.rules.length ≤ 200 := hok.n
  have HTL : Hid ((trE s.rules x).length ≤ 200 * s.rules.length) := by
    show _ ≤ _
    unfold trE
    rw [trns_len]
    exact (trn0_all s.rules x.rl hok.ok).2
  clear hs hok hW0 hl
  obtain ⟨P, hP⟩ : ∃ P, P = stL s.rules x (trE s.rules x) t := ⟨_, rfl⟩
  rw [← hP]
  have HP := Lib.hid hP
  clear hP
  by_cases hem : x.rl = ByteArray.empty
  · have r1 : x.rl.toList = [] := by rw [hem]; exact (toList_nil_iff_emptyBytes _).2 rfl
    have r2 : x.rl.toList.isEmpty = true := by rw [r1]; rfl
    have HR : Hid (P = (x.sv, ByteArray.empty)) := by show _ = _; rw [HP.out]; unfold stL; rw [if_pos hem]
    clear hem
    go_enter Tryd.func102, Tryd.ntmps102
    go_upto_region 1 with fail
    rw [← HW.out]
    obtain ⟨-, c1, c2, -, -, -, -, -, -, -, -, -⟩ := Z0.out.era
    go_wp2
    go_ret2
    exact ⟨by rw [HR.out]; rfl, Z0.out.2.2.1⟩
  · obtain ⟨e1, e2⟩ := rl_ne hem
    have HR : Hid (∀ o, lastT (trE s.rules x) t = o → P = match o with | some c => (c.r.sv, c.r.lt) | none => (0, firstL s.rules x.rl)) := by
      show ∀ o, _ → _
      intro o ho
      rw [HP.out]
      unfold stL
      rw [if_neg hem, ho]
      cases o <;> rfl
    clear hem HP
    go_enter Tryd.func102, Tryd.ntmps102
    go_upto_region 1 with fail
    rw [← HW.out]
    obtain ⟨-, c1, -, -, -, -, -, -, -, -, -, -⟩ := Z0.out.era
    obtain ⟨q0, q1, q2⟩ := Z0.out.1
    obtain ⟨g0, -, g2, g3, g4, g5, g6, g7, g8, g9, g10, g11⟩ := Z0.out.era
    go_wp2_with fail
    refine HTU.out.mono ?_
    rintro e w1 ⟨v1, rfl, h1, hb1⟩
    have Z1 := Lib.hid (Z0.out.next hb1)
    clear q0 q1 q2 g0 c1 g2 g3 g4 g5 g6 g7 g8 g9 g10 g11 Z0 HW HTU hb1
    obtain ⟨T, hT⟩ : ∃ T, T = trE s.rules x := ⟨_, rfl⟩
    rw [← hT] at h1 HR HTL
    clear hT
    have hTl : T.length ≤ 40000 := by have := HTL.out; omega
    obtain ⟨a1, k1, rfl, hl1⟩ := h1.shape
    have HT := Lib.hid h1
    clear hl1 h1 HTL
    go_wp2
    go_loopw [9] (fun i wr => ∃ k : Nat, k ≤ T.length ∧ i = .int .i64 ((k : Int) - 1) ∧ Hid (∀ (j : Nat) (hj : j < T.length), k ≤ j → ¬ T[j].ins ≤ t) ∧ wr = w1) (fun i _ => (intOf i + 1).toNat)
    case atStart => exact ⟨T.length, Nat.le_refl _, rfl, fun j hj hk => by omega, rfl⟩
    case round =>
      obtain ⟨k, hk, rfl, HN, rfl⟩ := hrel
      rcases k with _ | k
      · have HR2 : Hid (P = (0, firstL s.rules x.rl)) := HR.out none (lastT_none fun j hj => HN.out j hj (Nat.zero_le _))
        clear HN HR
        go_wp2
        obtain ⟨wo, hwo⟩ : ∃ wo : World, wo = wr := ⟨_, rfl⟩
        go_loopw [10] (fun i wx => ∃ k : Nat, k ≤ s.rules.length ∧ i = .int .i64 k ∧ Hid (∀ (j : Nat) (hj : j < s.rules.length), j < k → frP x.rl s.rules[j] = false) ∧ Hid (ZBx w wx (.slice ar s.rules.length cr) vz vl x)) (fun i _ => (s.rules.length - intOf i).toNat)
        case atStart => exact ⟨0, Nat.zero_le _, rfl, fun j hj h => by omega, Z1⟩
        case round =>
          obtain ⟨k, hk, rfl, HN, ZK⟩ := hrel
          obtain ⟨q0, q1, q2⟩ := ZK.out.1
          obtain ⟨g0, g1, -, -, -, -, -, -, -, -, -, -⟩ := ZK.out.era
          by_cases hlt : k < s.rules.length
          · have hki : (k : Int) < (s.rules.length : Int) := by omega
            obtain ⟨b, off, rfl, hb, ⟨d0, d1, d2, d3, d4, d5, d6, d7, d8, d9, d10⟩, -⟩ := elemRul (ZK.out.src HS.out).1 k hlt
            by_cases hp : frP x.rl s.rules[k] = true
            · have HF := Lib.hid (firstL_at hlt HN.out hp)
              have hp2 : s.rules[k].nm = x.rl ∧ s.rules[k].sv = 0 := of_decide_eq_true hp
              generalize s.rules[k] = r at *
              have hd : (r.nm.toList == x.rl.toList) = true := by rw [streq, decide_eq_true hp2.1]
              obtain ⟨-, hd2⟩ := hp2
              rw [hd2] at d9
              clear hp HN
              go_wp2
              go_quiet (fail)
              go_wp2
              go_quiet (fail)
              go_wp2
              go_ret2
              exact ⟨by rw [HR2.out, HF.out]; rfl, below_draws (below_draws ZK.out.2.2.1 _) _⟩
            · have HN2 : Hid (∀ (j : Nat) (hj : j < s.rules.length), j < k + 1 → frP x.rl s.rules[j] = false) := by
                show ∀ (j : Nat) (hj : j < s.rules.length), _
                intro j hj h
                by_cases e : j = k
                · subst e; simpa using hp
                · exact HN.out j hj (by omega)
              have hp2 : ¬ (s.rules[k].nm = x.rl ∧ s.rules[k].sv = 0) := fun h => hp (decide_eq_true h)
              generalize s.rules[k] = r at *
              clear hp HN
              by_cases hn : r.nm = x.rl
              · have hd : (r.nm.toList == x.rl.toList) = true := by rw [streq, decide_eq_true hn]
                have hd2 : ¬ r.sv = 0 := fun h => hp2 ⟨hn, h⟩
                have hd3 : (r.sv == 0) = false := by simpa using hd2
                clear hp2 hn
                go_wp2
                go_quiet (fail)
                go_wp2
                go_roundw
                case rel => exact ⟨k + 1, by omega, by go_num, HN2, ZK.out.next (below_draws (Below.refl _ _) _)⟩
                case measure => simp [intOf]; omega
              · have hd : (r.nm.toList == x.rl.toList) = false := by rw [streq, decide_eq_false hn]
                clear hp2 hn
                go_wp2
                go_quiet (fail)
                go_wp2
                go_roundw
                case rel => exact ⟨k + 1, by omega, by go_num, HN2, ZK.out.next (below_draws (Below.refl _ _) _)⟩
                case measure => simp [intOf]; omega
          · obtain rfl : k = s.rules.length := by omega
            have hnl : ¬ (s.rules.length : Int) < (s.rules.length : Int) := by omega
            have HF := Lib.hid (firstL_none (n := x.rl) fun j hj => HN.out j hj hj)
            clear hlt hk HN
            go_wp2
            go_ret2
            exact ⟨by rw [HR2.out, HF.out]; rfl, ZK.out.2.2.1⟩
      · have hkl : k < T.length := by omega
        have hge : (0 : Int) ≤ (k : Int) := by omega
        have hek : ((k + 1 : Nat) : Int) - 1 = (k : Int) := by omega
        have hki : (k : Int) < (T.length : Int) := by omega
        obtain ⟨b, off, rfl, hb, ⟨d0, d1, d2, d3, d4, d5, d6, d7, d8, d9, d10, d11, d12⟩⟩ := elemTur HT.out k hkl
        rw [hek]
        by_cases hp : T[k].ins ≤ t
        · have HR2 : Hid (P = (T[k].r.sv, T[k].r.lt)) := HR.out _ (lastT_at hkl hp fun j hj h => HN.out j hj h)
          generalize T[k] = y at *
          clear HN HR
          go_wp2
          go_quiet (fail)
          go_wp2
          go_ret2
          exact ⟨by rw [HR2.out]; rfl, below_draws Z1.out.2.2.1 _⟩
        · have HN2 : Hid (∀ (j : Nat) (hj : j < T.length), k ≤ j → ¬ T[j].ins ≤ t) := by
            show ∀ (j : Nat) (hj : j < T.length), _
            intro j hj h
            by_cases e : j = k
            · subst e; exact hp
            · exact HN.out j hj (by omega)
          generalize T[k] = y at *
          clear HN HR
          go_wp2
          go_roundw
          case rel => exact ⟨k, by omega, by go_num, HN2, trivial⟩
          case measure => simp [intOf]
end Go.Proofs.YtdpbedkppomffaaDoor
