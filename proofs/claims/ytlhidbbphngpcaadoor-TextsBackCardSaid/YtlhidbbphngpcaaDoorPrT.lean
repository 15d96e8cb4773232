/-
  sundialkeep.program: a program of a forest.
-/
import Derived.Test.YtlhidbbphngpcaaDoorGenN
import Derived.Test.YtlhidbbphngpcaaDoorOpS
import Derived.Test.YtlhidbbphngpcaaDoorTreeT
namespace Go.Proofs.YtlhidbbphngpcaaDoor
set_option linter.unusedVariables false
set_option linter.unusedSimpArgs false
open Go.ChangeShapes Go.WideShapes Go.ChangeAt Go.RowKit

theorem cuts_le (ns : List Nod) : (cuts ns).length ≤ ns.length := by
  unfold cuts
  refine Nat.le_trans (List.length_filter_le _ _) (Nat.le_trans (srtC_len _) ?_)
  unfold bnds
  rw [List.length_map]
  exact List.length_filter_le _ _
theorem opt_len {f g : Frs} {F : Int → Int} {m s b : Bool} (h : Tells f F) (hg : OptIs f F m s b g) : g.nodes.length ≤ 2 * f.nodes.length + 2 := by
  rw [hg.size h]
  have h1 := optP_le f F m
  have h2 := cuts_le f.nodes
  have h3 := srtC_len ((optP f F m).map Pc.an)
  rw [List.length_map] at h3
  unfold szP
  split <;> omega
/-- what program is made of: a forest that tells what that of the raw things does. -/
structure PgOf (xs : List Rw) (g : Frs) : Prop where
  ex : ∃ F m s b, Tells (frst xs) F ∧ OptIs (frst xs) F m s b g
  len : g.nodes.length ≤ 84
  ok : frsE g = 0
  l41 : (frst xs).nodes.length ≤ 41
  fok : frsE (frst xs) = 0
  s1 : (genAll g.nodes (reachD g.nodes)).code.length ≤ 8000
  s2 : (genAll g.nodes (reachD g.nodes)).pool.length ≤ 2000
set_option maxRecDepth 100000 in
set_option maxHeartbeats 4000000 in
theorem program_any (v : Value) (xs : List Rw) (ways : Int) (W : World) (hv : SlAt W 4 RRw v xs) (hw : (Lit.int .i64 ways).wf = true) :
    Calls Tryd.prog 11 #[v, .int .i64 ways] W fun e w' => ∃ (vc vp vz : Value) (g : Frs), e = .returned (.tuple #[.agg #[vc, vp, vz], .bool true]) ∧ PgOf xs g ∧ PrgAt w' vc vp vz (genP g.nodes (reachD g.nodes) g.answers) ∧ Below W.heap.size W w' := by
  have b0 : Below W.heap.size W (W.alloc (.cells #[.slice none 0 0, .slice none 0 0, .slice none 0 0] 35)) := (Below.refl _ _).alloc (Nat.le_refl _) _
  have HF := Lib.hid (forest_is v xs _ (hv.mono b0 fun _ _ h => h))
  have HP8 := Lib.hid (fun w => picked_v ways 8 w hw (by omega) (by omega))
  obtain ⟨pc0, pc1⟩ := pkv_bd ways 8 (by omega)
  obtain ⟨an, cn, rfl, ln⟩ := hv.shape
  have X0 := Lib.hid (PBx.new W (.slice none 0 0) (.slice none 0 0) (.slice none 0 0) 35)
  have S0 := Lib.hid (SlB.new W #[.slice none 0 0, .slice none 0 0, .slice none 0 0] 35 (fun j u h => by
    match j, h with
    | 0, h => cases h; exact fun q => q _ _ _ rfl
    | 1, h => cases h; exact fun q => q _ _ _ rfl
    | 2, h => cases h; exact fun q => q _ _ _ rfl
    | j + 3, h => simp at h))
  have B0 := Lib.hid b0
  clear hv hw ln b0
  generalize pkv ways 8 = wy at *
  go_enter Tryd.func11, Tryd.ntmps11
  go_wp2_with fail
  generalize W.alloc (.cells #[.slice none 0 0, .slice none 0 0, .slice none 0 0] 35) = w0 at *
  generalize hRR : W.heap.size = R at *
  have HRR := Lib.hid hRR
  clear hRR
  refine HF.out.mono ?_; rintro e w1 ⟨vn, va, f, rfl, hf, ⟨h0, h41, rfl⟩, hb1⟩
  clear HF
  obtain ⟨nn, cnn, rfl, -⟩ := hf.1.shape
  obtain ⟨na, cna, rfl, -⟩ := hf.2.shape
  obtain ⟨F, hT⟩ := tells_ex h0 (fun n hn => i64_ge (nods64 hf.1 n hn).2.1)
  have HT := Lib.hid hT
  have HO := Lib.hid (opt_small (frst xs) (by omega) F hT wy pc0 (by omega) _ _ w1 hf)
  have HFO := Lib.hid h0
  have H41 := Lib.hid h41
  have X1 := Lib.hid (X0.out.next hb1)
  have S1 := Lib.hid (S0.out.below hb1 X0.out.2.2.2.2)
  have B1 := Lib.hid (B0.out.trans (hb1.mono (Nat.le_of_lt X0.out.2.2.2.2)))
  clear hT h0 h41 hf hb1 X0 S0 B0
  go_wp2_with fail
  refine (HP8.out _).mono ?_; rintro e w' ⟨rfl, rfl⟩
  go_wp2_with fail
  refine HO.out.mono ?_; rintro e w2 ⟨g, hg, h64, h8, ⟨a1, c1, b1, d1, rfl, hfg, -⟩, hb2⟩
  have hln := opt_len HT.out hg
  have hgok := hg.good HT.out h8
  have hsm := genAll_small g.nodes (reachD g.nodes)
  have HPG : Hid (PgOf xs g) := ⟨⟨F, _, _, _, HT.out, hg⟩, by have := H41.out; omega, hgok, H41.out, HFO.out, by have := H41.out; omega, by have := H41.out; omega⟩
  have hbx : Below w2.heap.size w2 (w2.alloc (.cells #[.slice a1 g.nodes.length c1, .slice b1 g.answers.length d1] 64)) := (Below.refl _ _).alloc (Nat.le_refl _) _
  have X2 := Lib.hid ((X1.out.next hb2).next hbx)
  have S2 := Lib.hid ((S1.out.below hb2 X1.out.2.2.2.2).below hbx (X1.out.next hb2).2.2.2.2)
  have B2 := Lib.hid ((B1.out.trans (hb2.mono (Nat.le_of_lt X1.out.2.2.2.2))).trans (hbx.mono (Nat.le_of_lt (X1.out.next hb2).2.2.2.2)))
  have o2 := OBx.new w2 (.slice a1 g.nodes.length c1) (.slice b1 g.answers.length d1)
  have HG := Lib.hid (gen_ok _ _ g _ (hfg.mono hbx) hgok rfl)
  obtain ⟨t0, t1, -, t3⟩ := o2
  clear hg h64 h8 hfg hb2 hln hgok hsm hbx HO HP8 HT HFO H41 X1 S1 B1
  go_wp2_with fail
  generalize w2.alloc (.cells #[.slice a1 g.nodes.length c1, .slice b1 g.answers.length d1] 64) = w3 at *
  generalize w2.heap.size = G at *
  refine HG.out.mono ?_; rintro e w4 (⟨vc, vp, vz, rfl, hp, hs1, hs2, hb4⟩ | ⟨-, h1000, -⟩)
  · obtain ⟨ac, cc, e1, -⟩ := hp.1.shape
    obtain ⟨ap, cp, e2, -⟩ := hp.2.1.shape
    obtain ⟨az, cz, e3, -⟩ := hp.2.2.shape
    subst e1 e2 e3
    generalize (genP g.nodes (reachD g.nodes) g.answers).code.length = lc at *
    generalize (genP g.nodes (reachD g.nodes) g.answers).pool.length = lp at *
    generalize (genP g.nodes (reachD g.nodes) g.answers).answers.length = lz at *
    have hbx : Below w4.heap.size w4 (w4.alloc (.cells #[.slice ac lc cc, .slice ap lp cp, .slice az lz cz] 35)) := (Below.refl _ _).alloc (Nat.le_refl _) _
    have X4 := (X2.out.next hb4).next hbx
    have S4 := Lib.hid ((S2.out.below hb4 X2.out.2.2.2.2).below hbx (X2.out.next hb4).2.2.2.2)
    have B4 := Lib.hid ((B2.out.trans (hb4.mono (Nat.le_of_lt X2.out.2.2.2.2))).trans (hbx.mono (Nat.le_of_lt (X2.out.next hb4).2.2.2.2)))
    have P4 := Lib.hid (hp.mono hbx)
    have Y4 := PBx.new w4 (.slice ac lc cc) (.slice ap lp cp) (.slice az lz cz) 35
    obtain ⟨x0, x1, x2, x3, x4⟩ := X4
    obtain ⟨y0, y1, y2, -, y4⟩ := Y4
    clear hp hb4 hbx t0 t1 t3 X2 S2 B2 hs1 hs2
    go_wp2_with fail
    obtain ⟨u0, u1, u2, -, -⟩ := (PBx.set3 ⟨x0, x1, x2, x3, x4⟩ (.slice ac lc cc) (.slice ap lp cp) (.slice az lz cz))
    refine bodyPost_ret (v := .tuple #[.agg #[.slice ac lc cc, .slice ap lp cp, .slice az lz cz], .bool true]) (by simp [results, Tryd.results11, go_sem, u0, u1, u2]) rfl ⟨_, _, _, g, rfl, HPG.out, P4.out.set3 S4.out _ _ _, ?_⟩
    rw [HRR.out]
    exact ((B4.out.setCell (p := ⟨R, 0, none⟩) (Nat.le_refl _) _).setCell (p := ⟨R, 1, none⟩) (Nat.le_refl _) _).setCell (p := ⟨R, 2, none⟩) (Nat.le_refl _) _
  · exact absurd h1000 (by have := HPG.out.len; omega)
end Go.Proofs.YtlhidbbphngpcaaDoor
