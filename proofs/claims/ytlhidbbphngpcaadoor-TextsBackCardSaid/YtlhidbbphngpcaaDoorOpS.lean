/-
  The law OptSame.
-/
import Derived.Test.YtlhidbbphngpcaaDoorOptR
import Derived.Test.YtlhidbbphngpcaaDoorKf
import Derived.Deep.RegionHeld3
import Derived.OrdersHeld
namespace Go.Proofs.YtlhidbbphngpcaaDoor
set_option linter.unusedVariables false
set_option linter.unusedSimpArgs false
open Go.ChangeShapes Go.WideShapes Go.ChangeAt Go.RowKit

/-- Opt of a small forest, at ways that may be. -/
theorem opt_small (f : Frs) (hs : f.nodes.length ≤ 1000) (F : Int → Int) (hT : Tells f F) (wy : Int) (h0 : 0 ≤ wy) (h7 : wy ≤ 7) (vn va : Value) (w : World) (hf : FrsAt w vn va f) :
    Calls Tryd.prog 27 #[.agg #[vn, va], .int .i64 wy] w fun e w' => ∃ g, OptIs f F (bits .and .i64 wy 1 != 0) (bits .and .i64 wy 2 != 0) (bits .and .i64 wy 4 != 0) g ∧ (∀ n ∈ g.nodes, N64 n) ∧ g.nodes.length ≤ 8000 ∧ (∃ a c a' c', e = .returned (.tuple #[.agg #[.slice a g.nodes.length c, .slice a' g.answers.length c'], .int .i64 0]) ∧ FrsAt w' (.slice a g.nodes.length c) (.slice a' g.answers.length c') g ∧ ∀ (G : Nat) (u u' : Value), G < w.heap.size → FrsAt ((w'.setCell ⟨G, 0, none⟩ u).setCell ⟨G, 1, none⟩ u') (.slice a g.nodes.length c) (.slice a' g.answers.length c') g) ∧ Below w.heap.size w w' := by
  refine (opt_ok f F hT (fun n hn => (nods64 hf.1 n hn).2.1) vn va wy w hf h0 h7 _ _ _ rfl rfl rfl).mono ?_
  rintro e w' ⟨g, hg, h64, hc, hb⟩
  rcases hc with ⟨h8, vn', va', rfl, hfg, hfx⟩ | ⟨h8, _⟩
  · obtain ⟨a, c, rfl, _⟩ := hfg.1.shape
    obtain ⟨a', c', rfl, _⟩ := hfg.2.shape
    exact ⟨g, hg, h64, h8, ⟨a, c, a', c', rfl, hfg, hfx⟩, hb⟩
  · exact absurd (opt_big hT hg h8) (by omega)
theorem OBx.other {w : World} {D G : Nat} {vn va : Value} (h : OBx w D vn va) (n : ¬ D = G) (j : Nat) (u : Value) : OBx (w.setCell ⟨G, j, none⟩ u) D vn va :=
  h.block (Below.heap_setCell _ _ _ _ n) (by rw [World.size_setCell]; exact h.2.2.2)
def OpB (w1 wx : World) (D G : Nat) (fn fa gn ga : Value) (g : Frs) : Prop := OBx wx D fn fa ∧ OBx wx G gn ga ∧ Below D w1 wx ∧ FrsAt wx gn ga g ∧ D < G
theorem OpB.ofNew {w1 w9 : World} {D : Nat} {fn fa gn ga : Value} {g : Frs} (h : OBx w9 D fn fa) (hb : Below D w1 w9) (hg : FrsAt w9 gn ga g) : OpB w1 (w9.alloc (.cells #[gn, ga] 64)) D w9.heap.size fn fa gn ga g := by
  have b : Below w9.heap.size w9 (w9.alloc (.cells #[gn, ga] 64)) := (Below.refl _ _).alloc (Nat.le_refl _) _
  exact ⟨h.below b h.2.2.2, OBx.new _ _ _, hb.trans (b.mono (Nat.le_of_lt h.2.2.2)), hg.mono b, h.2.2.2⟩
theorem OpB.ofSet {w1 w9 : World} {D G : Nat} {fn fa gn ga : Value} {g : Frs} (h : OBx w9 D fn fa) (ho : OBx w9 G (.slice none 0 0) (.slice none 0 0)) (hb : Below D w1 w9) (hg : FrsAt ((w9.setCell ⟨G, 0, none⟩ gn).setCell ⟨G, 1, none⟩ ga) gn ga g) (hD : D < G) : OpB w1 ((w9.setCell ⟨G, 0, none⟩ gn).setCell ⟨G, 1, none⟩ ga) D G fn fa gn ga g :=
  ⟨(h.other (by omega) 0 _).other (by omega) 1 _, (ho.set0 _).set1 _, (hb.setCell (by show D ≤ G; omega) _).setCell (by show D ≤ G; omega) _, hg, hD⟩
theorem OpB.keep {w1 wx w' : World} {D G : Nat} {fn fa gn ga : Value} {g : Frs} (h : OpB w1 wx D G fn fa gn ga g) (hb : Below wx.heap.size wx w') : OpB w1 w' D G fn fa gn ga g :=
  ⟨h.1.below hb h.1.2.2.2, h.2.1.below hb h.2.1.2.2.2, h.2.2.1.trans (hb.mono (Nat.le_of_lt h.1.2.2.2)), h.2.2.2.1.mono hb, h.2.2.2.2⟩
end Go.Proofs.YtlhidbbphngpcaaDoor
