/-
  source: what a line's deferred call does.
-/
import Derived.Defers
import Derived.Recover
import Derived.Test.YtcmlcmokjgkciaaGreatDoorJRdC
namespace Go.Proofs.YtcmlcmokjgkciaaGreatDoor
set_option linter.unusedVariables false
set_option linter.unusedSimpArgs false
open Go.ChangeShapes Go.WideShapes Go.ChangeAt Go.RowKit Civ

theorem is_fault (T : TypeId) (v : Value) (w : World) : (Instr.typeAssert (.iface 75 v) T 75 true).run Tryz.prog w = .ok (.tuple #[v, .bool true]) w := by kernel_rfl
set_option maxRecDepth 100000 in
set_option maxHeartbeats 2000000 in
theorem catch_pan (p : Addr) (x E : Int) (older : List PanicEntry) (w : World) (hc : w.cell? p = some (.int .i64 x)) (hz : w.frozen? p = false) (hs : p.spot = none) :
    CallsD Tryz.prog 26 #[.pointer (some p)] (.panicking ({ v := .iface 75 (.agg #[.int .i64 E]), recovered := false } :: older)) w fun e u' w' =>
      e = .returned (.tuple #[]) ∧ u' = .panicking ({ v := .iface 75 (.agg #[.int .i64 E]), recovered := true } :: older) ∧ w' = (w.setCell p (.int .i64 E)).alloc (.cells #[.int .i64 E] 75) := by
  have hta := fun T v w => is_fault T v w
  have hlt : p.block < w.heap.size := World.block_lt_of_cell? w p hc
  refine callsD_of_wpS Tryz.func26 rfl fun c₀ cs hu => ?_
  apply wpS_seq
  apply wpS_region
  simp [wpOpsS, go_sem, recoverD, hu, Tryz.ntmps26, Exit.thenS]
  refine wpS_of_wp ?_
  have e : (#[Value.pointer (some p)] ++ ((Array.replicate 16 undef).setIfInBounds 3 (.iface 75 (.agg #[.int .i64 E]))).setIfInBounds 0 (.iface 75 (.agg #[.int .i64 E]))) = #[.pointer (some p), (.iface 75 (.agg #[.int .i64 E])), undef, undef, (.iface 75 (.agg #[.int .i64 E])), undef, undef, undef, undef, undef, undef, undef, undef, undef, undef, undef, undef] := by rfl
  rw [e]
  clear e
  obtain ⟨pb, po, ps⟩ := p
  dsimp only at hs hlt
  subst hs
  clear hu
  go_wp2
  simp [bodyPostS, results, Tryz.results26]
theorem catch_idle (p : Addr) (w : World) :
    CallsD Tryz.prog 26 #[.pointer (some p)] .returning w fun e u' w' => e = .returned (.tuple #[]) ∧ u' = .returning ∧ w' = w := by
  refine callsD_of_wpS Tryz.func26 rfl fun c₀ cs hu => ?_
  apply wpS_seq
  apply wpS_region
  simp [wpOpsS, go_sem, recoverD, hu, Tryz.ntmps26, Exit.thenS]
  refine wpS_of_wp ?_
  have e : (#[Value.pointer (some p)] ++ ((Array.replicate 16 undef).setIfInBounds 3 .nilIface).setIfInBounds 0 .nilIface) = #[.pointer (some p), .nilIface, undef, undef, .nilIface, undef, undef, undef, undef, undef, undef, undef, undef, undef, undef, undef, undef] := by rfl
  rw [e]
  clear e
  go_wp2
  cases c₀
  simp_all [bodyPostS, results, Tryz.results26]
end Go.Proofs.YtcmlcmokjgkciaaGreatDoor
