/-
  THE WALK of maps.First: the first map.
-/
import Derived.Test.YtmkpljbkmkbnjaaApply
namespace Go.Proofs.Ytmkpljbkmkbnjaa
open Go.RowKit
set_option linter.unusedVariables false
set_option linter.unusedSimpArgs false

theorem results43 : Try.f43.results = #[.cell 0 57] := by kernel_rfl
def FirstPost (w : World) (e : Ending) (w' : World) : Prop := e = .returned (mpV Sp.first) ∧ Upd Nix w w'
set_option maxRecDepth 10000 in
set_option maxHeartbeats 1000000 in
theorem first_any (w : World) : Calls Try.prog 43 #[] w (FirstPost w) := by
  go_enter Try.func43, Try.ntmps43
  go_wp2
  refine wp_loop_rounds 6 ?_
  rw [rounds_succ]
  go_wp2
  rw [rounds_succ]
  go_wp2
  rw [rounds_succ]
  go_wp2
  rw [rounds_succ]
  go_wp2
  rw [rounds_succ]
  go_wp2
  rw [rounds_succ]
  go_wp2
  refine fin1 results43 w.heap.size rfl (cs := mpArr Sp.first) (t := 57) (fr := (0, 0)) ?_ Try.underlying57 rfl size57 rfl ⟨rfl, ?_⟩
  · rw [alloc_old _ _ _ (by simp)]
    exact alloc_new w _
  · exact ((Upd.refl _ _).alloc _).alloc _
end Go.Proofs.Ytmkpljbkmkbnjaa
