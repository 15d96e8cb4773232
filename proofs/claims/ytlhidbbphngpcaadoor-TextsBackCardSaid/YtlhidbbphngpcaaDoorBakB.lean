/-
  The law TextsBack: its walk.
-/
import Derived.Test.YtlhidbbphngpcaaDoorBakA
import Derived.Test.YtlhidbbphngpcaaDoorPrsH
import Derived.Test.YtlhidbbphngpcaaDoorPrT
import Derived.Test.YtlhidbbphngpcaaDoorTxtB
namespace Go.Proofs.YtlhidbbphngpcaaDoor
set_option linter.unusedVariables false
set_option linter.unusedSimpArgs false
open Go.ChangeShapes Go.WideShapes Go.ChangeAt Go.RowKit

set_option maxHeartbeats 1000000 in
theorem eqInsT (v u : Value) (xs : List Ins) (w : World) (hv : SlAt w 2 RIns v xs) (hu : SlAt w 2 RIns u xs) :
    Calls Tryd.prog 12 #[v, u] w fun e w' => e = .returned (.bool true) ∧ ∃ q, w' = w.drewN q := by
  obtain ⟨av, cv, rfl, lv⟩ := hv.shape
  obtain ⟨au, cu, rfl, lu⟩ := hu.shape
  have HV := Lib.hid hv
  have HU := Lib.hid hu
  have hm := maxLen_eq _ lv
  clear hv hu lv lu
  go_enter Tryd.func12, Tryd.ntmps12
  go_wp2
  go_loopw [13] (fun i wr => ∃ k q : Nat, k ≤ xs.length ∧ i = .int .i64 k ∧ wr = w.drewN q) (fun i _ => (xs.length - intOf i).toNat)
  case atStart => exact ⟨0, 0, Nat.zero_le _, rfl, rfl⟩
  case round =>
    obtain ⟨k, q, hk, rfl, rfl⟩ := hrel
    by_cases hlt : k < xs.length
    · obtain ⟨b, off, rfl, hb, ⟨c0, c1⟩, _, _⟩ := elemInsT HV.out k hlt
      obtain ⟨b2, off2, rfl, hb2, ⟨d0, d1⟩, _, _⟩ := elemInsT HU.out k hlt
      generalize xs[k] = x at *
      have hlti : (k : Int) < (xs.length : Int) := by omega
      go_wp2
      go_quiet (fail)
      go_wp2
      go_roundw
      case rel => exact ⟨k + 1, _, by omega, by go_num, rfl⟩
      case measure => simp [intOf]; omega
    · go_wp2
      go_ret
      exact ⟨rfl, q, rfl⟩
theorem ver_zeroB {p : Prg} {a b : Int} (h : verE p = (a, b, 0)) : prgE p = 0 := by
  unfold verE at h
  split at h
  · rename_i h0
    simp only [Prod.mk.injEq] at h
    exact absurd h.2.2 h0
  · rename_i h0
    simpa using h0
theorem gen_ins {xs : List Rw} {g : Frs} (h : PgOf xs g) : (genP g.nodes (reachD g.nodes) g.answers).code.length < 8000 ∧ ∀ x ∈ (genP g.nodes (reachD g.nodes) g.answers).code, insT x = 0 := by
  obtain ⟨g0, g1, g2, g3, g4⟩ := frs_good h.ok
  have hak := reach_ok (frs_chl h.ok)
  have hrt := reach_root (ns := g.nodes) g0
  obtain ⟨x, y, hv⟩ := gen_good g (reachD g.nodes) h.ok hak hrt h.s1 h.s2
  have hg := ver_zeroB hv
  have hsm := (genAll_small g.nodes (reachD g.nodes)).1
  have h84 := h.len
  refine ⟨by rw [genP_len]; omega, fun x hx => ?_⟩
  obtain ⟨i, hi, rfl⟩ := List.mem_iff_getElem.1 hx
  obtain ⟨a, b, c⟩ := ins_n8 hg hi
  have hm := most_at (genP g.nodes (reachD g.nodes) g.answers) i (genP g.nodes (reachD g.nodes) g.answers).code[i].op
  have hi1 := (prg_good hg).2.2.2.2.2 i hi
  have hb : barT (genP g.nodes (reachD g.nodes) g.answers).code[i].op = true → (genP g.nodes (reachD g.nodes) g.answers).code[i].n = 0 := by
    intro hb
    have hop : (genP g.nodes (reachD g.nodes) g.answers).code[i].op = 1 ∨ (genP g.nodes (reachD g.nodes) g.answers).code[i].op = 3 := by
      unfold barT at hb
      simpa using hb
    unfold insE1 at hi1
    split at hi1
    · omega
    · split at hi1
      · omega
      · rename_i h2
        have hz : mostI (genP g.nodes (reachD g.nodes) g.answers) i (genP g.nodes (reachD g.nodes) g.answers).code[i].op = 0 := by
          rcases hop with e | e
          · exact hm.1 e
          · exact hm.2.1 e
        omega
  unfold insT
  rw [if_neg (by omega), if_neg]
  rintro (q | q | ⟨q, r⟩)
  · omega
  · omega
  · exact r (hb q)
set_option maxRecDepth 100000 in
set_option maxHeartbeats 4000000 in
theorem walkTextsBack (v : Value) (xs : List Rw) (ways : Int) (W : World) (hv : SlAt W 4 RRw v xs) (hw : (Lit.int .i64 ways).wf = true) (hV : PrV W) :
    Calls Tryd.prog 5 #[v, .int .i64 ways] W fun e w' => e = .returned (.bool true) ∧ Below W.heap.size W w' := by
  have HPR := Lib.hid (program_any v xs ways W hv hw)
  have HV := Lib.hid hV
  obtain ⟨an, cn, rfl, ln⟩ := hv.shape
  clear hv hw ln hV
  go_enter Tryd.func5, Tryd.ntmps5
  go_wp2_with fail
  refine HPR.out.mono ?_; rintro e w1 ⟨vc, vp, vz, g, rfl, hpg, hp, hb1⟩
  clear HPR
  obtain ⟨hl, hins⟩ := gen_ins hpg
  have HC := Lib.hid hp.1
  have H1 := Lib.hid (txt_ok _ hins (by omega))
  have H2 := Lib.hid (txt_all _ hins (by omega))
  have H3 := Lib.hid (txt_what _ hins hl)
  have H4 := Lib.hid (txt_arg _ hins hl)
  have hz := txtB_size _ hins (by omega)
  obtain ⟨ac, cc, e1, -⟩ := hp.1.shape
  obtain ⟨ap, cp, e2, -⟩ := hp.2.1.shape
  obtain ⟨az, cz, e3, -⟩ := hp.2.2.shape
  subst e1 e2 e3
  clear hp hpg hins
  generalize (genP g.nodes (reachD g.nodes) g.answers).pool.length = lp at *
  generalize (genP g.nodes (reachD g.nodes) g.answers).answers.length = lz at *
  generalize (genP g.nodes (reachD g.nodes) g.answers).code = C at *
  generalize hT : txtB C = T at *
  have hTl : T.length < 200000 := by omega
  clear hT hz
  have hbx : Below w1.heap.size w1 (w1.alloc (.cells #[.slice ac C.length cc, .slice ap lp cp, .slice az lz cz] 35)) := (Below.refl _ _).alloc (Nat.le_refl _) _
  have X1 := Lib.hid (PBx.new w1 (.slice ac C.length cc) (.slice ap lp cp) (.slice az lz cz) 35)
  have B1 := Lib.hid (hb1.trans (hbx.mono hb1.size))
  have V1 := Lib.hid ((HV.out.below hb1).below hbx)
  have C1 := Lib.hid (HC.out.mono hbx fun _ _ h => h)
  clear hb1 hbx HV HC
  obtain ⟨x0, x1, x2, -, x4⟩ := X1.out
  go_wp2_with fail
  generalize w1.alloc (.cells #[.slice ac C.length cc, .slice ap lp cp, .slice az lz cz] 35) = w2 at *
  generalize w1.heap.size = O1 at *
  refine (text_any C _ w2 C1.out V1.out.1 V1.out.2.2.1).mono ?_; rintro e w3 ⟨rfl, hb3⟩
  rw [H1.out.1, H1.out.2]
  have X3 := Lib.hid (X1.out.next hb3)
  have B3 := Lib.hid (B1.out.trans (hb3.mono B1.out.size))
  have V3 := Lib.hid (V1.out.below hb3)
  have C3 := Lib.hid (C1.out.mono hb3 fun _ _ h => h)
  clear hb3 x0 x1 x2 x4 X1 B1 V1 C1 H1
  go_wp2_with fail
  refine (parse_any T w3 V3.out).mono ?_; rintro e w4 ⟨v4, rfl, h4, hb4⟩
  rw [H2.out] at h4 ⊢
  have I4 := Lib.hid h4
  have X4 := Lib.hid (X3.out.next hb4)
  have B4 := Lib.hid (B3.out.trans (hb4.mono B3.out.size))
  have V4 := Lib.hid (V3.out.below hb4)
  have C4 := Lib.hid (C3.out.mono hb4 fun _ _ h => h)
  clear h4 hb4 X3 B3 V3 C3 H2
  have ca := run_string_add_lists (P := Tryd.prog) w4 T [119, 104, 97, 116, 10] (by omega) (by simp)
  go_wp2_with fail
  refine (parse_any _ w4 V4.out).mono ?_; rintro e w5 ⟨v5, rfl, h5, hb5⟩
  rw [H3.out] at h5 ⊢
  obtain ⟨a5, c5, rfl⟩ := own_shape h5.1
  have I5 := Lib.hid (I4.out.up hb5)
  have X5 := Lib.hid (X4.out.next hb5)
  have B5 := Lib.hid (B4.out.trans (hb5.mono B4.out.size))
  have V5 := Lib.hid (V4.out.below hb5)
  have C5 := Lib.hid (C4.out.mono hb5 fun _ _ h => h)
  clear h5 hb5 X4 B4 V4 C4 I4 H3 ca
  have ca := run_string_add_lists (P := Tryd.prog) w5 T [97, 114, 103] (by omega) (by simp)
  go_wp2_with fail
  refine (parse_any _ w5 V5.out).mono ?_; rintro e w6 ⟨v6, rfl, h6, hb6⟩
  rw [H4.out] at h6 ⊢
  obtain ⟨a6, c6, rfl⟩ := own_shape h6.1
  have I6 := Lib.hid (I5.out.up hb6)
  have X6 := Lib.hid (X5.out.next hb6)
  have B6 := Lib.hid (B5.out.trans (hb6.mono B5.out.size))
  have C6 := Lib.hid (C5.out.mono hb6 fun _ _ h => h)
  clear h6 hb6 X5 B5 V5 C5 I5 H4 ca
  obtain ⟨x0, x1, x2, -, x4⟩ := X6.out
  have hn : ((C.length + 1 : Nat) : Int) = (C.length : Int) + 1 := by omega
  obtain ⟨N, hN⟩ : ∃ N : Int, N = (C.length : Int) + 1 := ⟨_, rfl⟩
  rw [hn]
  have hcl : (C.length : Int) ≤ 8000 := by omega
  clear hn
  go_wp2_with fail
  refine (eqInsT v4 _ C w6 I6.out.sl C6.out).mono ?_; rintro e w7 ⟨rfl, q, rfl⟩
  go_wp2
  go_ret
  exact ⟨rfl, below_draws B6.out q⟩
end Go.Proofs.YtlhidbbphngpcaaDoor
