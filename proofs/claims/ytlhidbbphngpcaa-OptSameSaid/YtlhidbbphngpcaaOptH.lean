/-
  tree.balanced.
-/
import Derived.Test.YtlhidbbphngpcaaOptB
import Derived.Test.YtlhidbbphngpcaaFwdD
import Derived.Laws.AppendOwnNone
namespace Go.Proofs.Ytlhidbbphngpcaa
set_option linter.unusedVariables false
set_option linter.unusedSimpArgs false
open Go.ChangeShapes Go.WideShapes Go.ChangeAt Go.RowKit

theorem slAt_take {α : Type} {w : World} {sz b off n cap : Nat} {R : List Value → α → Prop} {xs : List α} (h : SlAt w sz R (.slice (some ⟨b, off, none⟩) n cap) xs) (k : Nat) (hk : k ≤ xs.length) : SlAt w sz R (.slice (some ⟨b, off, none⟩) k cap) (xs.take k) := by
  by_cases h0 : k = 0
  · subst h0; exact .inl ⟨_, _, rfl, by simp⟩
  · rcases h with ⟨a, c, hv, rfl⟩ | ⟨b', off', c, hv, h1, h2, h3, h4, h5⟩
    · simp at hk; omega
    · injection hv with e1 e2 e3
      injection e1 with e1
      injection e1 with e1 e4
      subst e1 e4 e3
      refine .inr ⟨b, off, cap, by rw [List.length_take]; congr 1; omega, by rw [List.length_take]; omega, by rw [List.length_take]; omega, h3, h4, fun i hi => ?_⟩
      rw [List.length_take] at hi
      obtain ⟨cs, c1, c2, c3⟩ := h5 i (by omega)
      exact ⟨cs, c1, by rw [List.getElem_take]; exact c2, c3⟩
theorem slAt_drop {α : Type} {w : World} {sz b off n cap : Nat} {R : List Value → α → Prop} {xs : List α} (h : SlAt w sz R (.slice (some ⟨b, off, none⟩) n cap) xs) (k : Nat) (hk : k < xs.length) : SlAt w sz R (.slice (some ⟨b, off + k * sz, none⟩) (xs.length - k) (cap - k)) (xs.drop k) := by
  rcases h with ⟨a, c, hv, rfl⟩ | ⟨b', off', c, hv, h1, h2, h3, h4, h5⟩
  · simp at hk
  · injection hv with e1 e2 e3
    injection e1 with e1
    injection e1 with e1 e4
    subst e1 e4 e3
    refine .inr ⟨b, off + k * sz, cap - k, by rw [List.length_drop], by rw [List.length_drop]; omega, by rw [List.length_drop]; omega, by omega, h4, fun i hi => ?_⟩
    rw [List.length_drop] at hi
    obtain ⟨cs, c1, c2, c3⟩ := h5 (k + i) (by omega)
    refine ⟨cs, c1, by rw [List.getElem_drop]; exact c2, fun j hj => ?_⟩
    have := c3 j hj
    rw [Nat.add_mul] at this
    rw [show off + k * sz + i * sz + j = off + (k * sz + i * sz) + j by omega]
    exact this
set_option maxRecDepth 100000 in
set_option maxHeartbeats 4000000 in
theorem balanced_any (B : Nat) (w0 : World) : ∀ (N : Nat) (l : List Pc) (ns : List Nod) (v nv : Value) (w : World), 0 < l.length → l.length ≤ N → (∀ W', Below B w0 W' → SlAt W' 2 RPc v l) → Below B w0 w → B ≤ w0.heap.size →
    w.ownsRow B 61 5 nv ns.length (ns.flatMap encN) → ns.length + 2 * l.length ≤ 20000 →
    Calls Try.prog 52 #[v, nv] w fun e w' => ∃ nv', e = .returned (.tuple #[nv', .int .i64 (((ns ++ balF N l ns.length).length - 1 : Nat) : Int)]) ∧ w'.ownsRow B 61 5 nv' (ns ++ balF N l ns.length).length ((ns ++ balF N l ns.length).flatMap encN) ∧ Below B w0 w'
  | 0, l, ns, v, nv, w, h0, h1, _, _, _, _, _ => by omega
  | N + 1, l, ns, v, nv, w, h0, h1, hv, hb, hB0, hown, hn => by
    have hB : B ≤ w.heap.size := Nat.le_trans hB0 hb.size
    obtain ⟨i0, hi, hz0, hz1, hz2⟩ := info_parts info_node
    obtain ⟨a, cap, rfl, hm⟩ := (hv w hb).shape
    obtain ⟨b, off, rfl, hbb, d0, d1⟩ := elemPc (hv w hb) 0 h0
    obtain ⟨an, cn, rfl⟩ := own_shape hown
    have HV := Lib.hid hv
    have HO := Lib.hid hown
    by_cases hone : l.length ≤ 1
    · have hl1 : l.length = 1 := by omega
      have HE : Hid (ns ++ balF (N + 1) l ns.length = ns ++ [leafN l[0].an]) := by
        show _ = _
        rw [balF_one hone, anAt_eq h0]
      have hl1' : (l.length : Int) = 1 := by omega
      generalize l[0] = x at *
      rw [hl1]
      clear hv hone h1 hl1 hl1' hm hown
      go_enter Try.func52, Try.ntmps52
      go_wp2_with (at_builtin; refine wpList_append_own _ rfl _ _ 23 rfl B 61 i0 (.agg #[.bool false, .int .i64 0, .int .i64 0, .int .i64 0, .int .i64 0]) 5 40 Try.underlying23 hi hz0 hz1 hz2 rfl (by decide) _ _ _ rfl (HO.out.alloc _) ⟨w.heap.size, 0, none⟩ 1 1 (encN (leafN x.an)) rfl rfl (cells_at _ _ _ _ _ rfl rfl) (encN_one _) (by unfold maxLen; omega) (by omega) (by rw [size_alloc]; omega) ?_; intro v' w7 hown' hgrow _; obtain ⟨a7, c7, rfl⟩ := own_shape hown')
      have hB7 : Below B w0 w7 := (hb.alloc hB _).grown hgrow (by rw [size_alloc]; omega) (fun g hg => (HO.out.lt g hg).1)
      have HO7 : Hid (w7.ownsRow B 61 5 (.slice a7 (ns.length + 1) c7) (ns ++ balF (N + 1) l ns.length).length ((ns ++ balF (N + 1) l ns.length).flatMap encN)) := by
        show World.ownsRow _ _ _ _ _ _ _
        rw [HE.out]; exact own_snocG hown'
      have HL : Hid (((ns ++ balF (N + 1) l ns.length).length - 1 : Nat) = ns.length) := by
        show _ = _
        rw [HE.out]; simp
      clear hown' hgrow hb hB HO HE HV
      rw [HL.out]
      go_wp2
      go_ret2
      exact ⟨_, rfl, HO7.out, hB7⟩
    · obtain ⟨k, hk⟩ : ∃ k, k = l.length / 2 := ⟨_, rfl⟩
      have hk1 : 0 < k := by omega
      have hk2 : k < l.length := by omega
      have hcap : l.length ≤ cap := by
        rcases hv w hb with ⟨_, _, _, e⟩ | ⟨_, _, c, e, _, h, _⟩
        · rw [e] at h0; simp at h0
        · injection e with _ _ e; omega
      have hcm : cap ≤ 9223372036854775807 := by
        rcases hv w hb with ⟨_, _, _, e⟩ | ⟨_, _, c, e, _, _, h, _⟩
        · rw [e] at h0; simp at h0
        · injection e with _ _ e; unfold maxLen at h; omega
      have hT : Hid (∀ W', Below B w0 W' → SlAt W' 2 RPc (.slice (some ⟨b, off, none⟩) k cap) (l.take k)) := Lib.hid fun W' h => slAt_take (hv W' h) k (by omega)
      have hD : Hid (∀ W', Below B w0 W' → SlAt W' 2 RPc (.slice (some ⟨b, off + k * 2, none⟩) (l.length - k) (cap - k)) (l.drop k)) := Lib.hid fun W' h => slAt_drop (hv W' h) k (by omega)
      have hE : Hid (∀ W', Below B w0 W' → W'.cell? ⟨b, off + k * 2, none⟩ = some (.int .i64 l[k].fr)) := Lib.hid fun W' h => by
        obtain ⟨b', off', e1, _, e2, _⟩ := elemPc (hv W' h) k hk2
        injection e1 with e1
        injection e1 with e1 e3
        subst e1 e3
        exact e2
      have hF := Lib.hid (balF_two (F := N) (b := ns.length) hone)
      rw [← hk] at hF
      have htl : (l.take k).length = k := by rw [List.length_take]; omega
      have hdl : (l.drop k).length = l.length - k := by rw [List.length_drop]
      have hAl : (balF N (l.take k) ns.length).length = 2 * k - 1 := by rw [balF_len N _ _ (by omega) (by omega), htl]
      have hBl : (balF N (l.drop k) (ns.length + (2 * k - 1))).length = 2 * (l.length - k) - 1 := by rw [balF_len N _ _ (by omega) (by omega), hdl]
      obtain ⟨A, hA⟩ : ∃ A, A = balF N (l.take k) ns.length := ⟨_, rfl⟩
      have hA2 : (ns ++ A).length = ns.length + (2 * k - 1) := by rw [List.length_append, hA, hAl]
      obtain ⟨C, hC⟩ : ∃ C, C = balF N (l.drop k) (ns ++ A).length := ⟨_, rfl⟩
      have hC2 : (ns ++ A ++ C).length = ns.length + (2 * l.length - 2) := by rw [List.length_append, hC, hA2, hBl]; omega
      have IH1 := Lib.hid (balanced_any B w0 N (l.take k) ns (.slice (some ⟨b, off, none⟩) k cap) (.slice an ns.length cn) w (by omega) (by omega) hT.out hb hB0 hown (by omega))
      have IH2 : Hid (∀ (nv : Value) (W : World), Below B w0 W → W.ownsRow B 61 5 nv (ns ++ A).length ((ns ++ A).flatMap encN) →
          Calls Try.prog 52 #[.slice (some ⟨b, off + k * 2, none⟩) (l.length - k) (cap - k), nv] W fun e w' => ∃ nv', e = .returned (.tuple #[nv', .int .i64 (((ns ++ A ++ C).length - 1 : Nat) : Int)]) ∧ w'.ownsRow B 61 5 nv' (ns ++ A ++ C).length ((ns ++ A ++ C).flatMap encN) ∧ Below B w0 w') :=
        Lib.hid fun nv W h1 h3 => by rw [hC]; exact balanced_any B w0 N (l.drop k) (ns ++ A) _ nv W (by omega) (by omega) hD.out h1 hB0 h3 (by rw [hA2]; omega)
      have HE : Hid (ns ++ balF (N + 1) l ns.length = (ns ++ A ++ C) ++ [askN l[k].fr (((ns ++ A).length - 1 : Nat) : Int) (((ns ++ A ++ C).length - 1 : Nat) : Int)]) := by
        show _ = _
        rw [hF.out, hC2, hC, hA2, hA, frAt_eq hk2]
        simp only [List.append_assoc]
      rw [← hA] at IH1
      obtain ⟨n1, hn1⟩ : ∃ n1, n1 = (ns ++ A).length := ⟨_, rfl⟩
      obtain ⟨n2, hn2⟩ : ∃ n2, n2 = (ns ++ A ++ C).length := ⟨_, rfl⟩
      have g1 : n1 ≤ 20000 := by omega
      have g2 : n2 ≤ 20000 := by omega
      have g3 : 1 ≤ n1 := by omega
      have g4 : 1 ≤ n2 := by omega
      rw [← hn1] at IH1 IH2 HE
      rw [← hn2] at IH2 HE
      have hcl : ns.length = ns.length := rfl
      have hne1 : ¬ (l.length : Int) = 1 := by omega
      have hq : (l.length : Int) / 2 = (k : Int) := by omega
      have hk3 : (k : Int) < (l.length : Int) := by omega
      have hk4 : (k : Int) ≤ (cap : Int) := by omega
      have hk5 : (l.length : Int) ≤ (cap : Int) := by omega
      have hk6 : ¬ cap = k := by omega
      have hl5 : (l.length : Int) ≤ 20000 := by omega
      clear hv HV hown d0 d1 hk hone h1 hm h0 hn hF hAl hBl htl hdl hA hC hA2 hC2 hcl HO hn1
      have HN2 := Lib.hid hn2
      clear hn2
      generalize l[k] = x at *
      go_enter Try.func52, Try.ntmps52
      go_wp2_with fail
      refine IH1.out.mono ?_; rintro e w1 ⟨nv1, rfl, hown1, hb1⟩
      obtain ⟨a1, c1, rfl⟩ := own_shape hown1
      go_wp2_with fail
      refine (IH2.out _ _ hb1 hown1).mono ?_; rintro e w2 ⟨nv2, rfl, hown2, hb2⟩
      obtain ⟨a2, c2, rfl⟩ := own_shape hown2
      have x2 := hE.out w2 hb2
      have hB2 : B ≤ w2.heap.size := Nat.le_trans hB0 hb2.size
      have HO2 := Lib.hid hown2
      clear hown1 hown2 hb1 hb hB
      go_wp2_with (at_builtin; refine wpList_append_own _ rfl _ _ 23 rfl B 61 i0 (.agg #[.bool false, .int .i64 0, .int .i64 0, .int .i64 0, .int .i64 0]) 5 40 Try.underlying23 hi hz0 hz1 hz2 rfl (by decide) (.slice a2 n2 c2) n2 ((ns ++ A ++ C).flatMap encN) rfl (HO2.out.alloc _) ⟨w2.heap.size, 0, none⟩ 1 1 (encN (askN x.fr ((n1 - 1 : Nat) : Int) ((n2 - 1 : Nat) : Int))) rfl rfl (cells_at _ _ _ _ _ rfl rfl) (encN_one _) (by unfold maxLen; omega) (by omega) (by rw [size_alloc]; omega) ?_; intro v' w7 hown' hgrow _; obtain ⟨a7, c7, rfl⟩ := own_shape hown')
      have hB7 : Below B w0 w7 := (hb2.alloc hB2 _).grown hgrow (by rw [size_alloc]; omega) (fun g hg => (HO2.out.lt g hg).1)
      have HX : Hid ((ns ++ balF (N + 1) l ns.length).length = n2 + 1) := by
        show _ = _
        rw [HE.out, List.length_append, ← HN2.out]; rfl
      have HO7 : Hid (w7.ownsRow B 61 5 (.slice a7 (n2 + 1) c7) (n2 + 1) ((ns ++ balF (N + 1) l ns.length).flatMap encN)) := by
        show World.ownsRow _ _ _ _ _ _ _
        rw [HE.out, List.flatMap_append]
        exact hown'
      rw [HX.out]
      clear hown' hgrow hb2 HO2 HE HX x2 HN2
      go_wp2
      go_ret2
      exact ⟨_, by rw [show n2 + 1 - 1 = n2 by omega]; rfl, HO7.out, hB7⟩
end Go.Proofs.Ytlhidbbphngpcaa
