/-
  THE WALK of maps.Apply where it makes the next map.
-/
import Derived.Test.YtmkpljbkmkbnjaaApply
namespace Go.Proofs.Ytmkpljbkmkbnjaa
open Go.RowKit
set_option linter.unusedVariables false
set_option linter.unusedSimpArgs false

/-- the end: the map that was made is handed back -/
theorem apply_yes_end {w w2 w3 : World} {a : Act} {m m' : Sp.Mp} {x : Sp.Inc} (h4 : a.tmps.getD 4 undef = .pointer (some ⟨w.heap.size + 1 + 1, 0, none⟩)) (h5 : a.tmps.getD 5 undef = .int .i64 0) (hd : a.defers = [])
    (hu : Upd Nix (three m x w) w2) (hu3 : Upd (fun b => b = w.heap.size) w2 w3) : bodyPost Try.prog Try.f44 (ApplyYes m' w) .ret a (w3.setRow (w.heap.size + 1 + 1) (mpArr m')) := by
  refine fin2 results44 (w.heap.size + 1 + 1) h4 (setRow_new (mpArr m') (hu3.keep (hu.keep (three_2 m x w) (fun f => f)) (by omega))) Try.underlying57 rfl size57 hd ?_
  rw [h5]
  exact ⟨rfl, (((three_upd m x w).trans hu).trans' hu3 (fun i hi e => by omega)).setRow (.inr (by omega)) _⟩
theorem mp_one (m : Sp.Mp) : (mpArr m).toList.all (fun v => v.oneCell') = true := rfl

theorem upd1 (w : World) (b i : Nat) (u : Value) : Upd (fun k => k = b) w (w.setCell ⟨b, i, none⟩ u) := Upd.setCell (F := fun k => k = b) (Upd.refl _ w) (p := ⟨b, i, none⟩) (.inl rfl) u
theorem upd2 (w : World) (b i j : Nat) (u v : Value) : Upd (fun k => k = b) w ((w.setCell ⟨b, i, none⟩ u).setCell ⟨b, j, none⟩ v) := Upd.setCell (F := fun k => k = b) (upd1 w b i u) (p := ⟨b, j, none⟩) (.inl rfl) v
theorem blk1 {w : World} {b : Nat} {c : Array Value} {t : TypeId} (h : w.heap[b]? = some (.cells c t (0, 0))) (i : Nat) (u : Value) : (w.setCell ⟨b, i, none⟩ u).heap[b]? = some (.cells (c.setIfInBounds i u) t (0, 0)) := blk_setCell h
theorem blk2 {w : World} {b : Nat} {c : Array Value} {t : TypeId} (h : w.heap[b]? = some (.cells c t (0, 0))) (i j : Nat) (u v : Value) : ((w.setCell ⟨b, i, none⟩ u).setCell ⟨b, j, none⟩ v).heap[b]? = some (.cells ((c.setIfInBounds i u).setIfInBounds j v) t (0, 0)) := blk_setCell (blk_setCell h)
end Go.Proofs.Ytmkpljbkmkbnjaa
