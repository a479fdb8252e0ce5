/-
  THE WALK of straw.Best: the place of the greatest of a list, the first of equals.
-/
import Derived.Test.YtmkpljbkmkbnjaaDraw
namespace Go.Proofs.Ytmkpljbkmkbnjaa
open Go.RowKit
set_option linter.unusedVariables false
set_option linter.unusedSimpArgs false

theorem bestAt_bd (l : List Int) : ∀ k, -1 ≤ Sp.bestAt l k ∧ Sp.bestAt l k < k ∧ (0 < k → 0 ≤ Sp.bestAt l k) := by
  intro k
  induction k with
  | zero => simp [Sp.bestAt]
  | succ k ih =>
    simp only [Sp.bestAt]
    split
    · omega
    · rename_i h; omega

theorem best_neg {l : List Int} {k : Nat} {b : Int} (h : Sp.bestAt l k = b) (hb : b < 0) : Sp.bestAt l (k + 1) = k := by
  simp only [Sp.bestAt]; rw [h, if_pos (.inl hb)]
theorem best_hit {l : List Int} {k m : Nat} {x y : Int} (h : Sp.bestAt l k = m) (hx : l.getD k 0 = x) (hy : l.getD m 0 = y) (hlt : y < x) : Sp.bestAt l (k + 1) = k := by
  simp only [Sp.bestAt]; rw [h, if_pos (.inr (by rw [hx]; show l.getD m 0 < x; rw [hy]; exact hlt))]
theorem best_miss {l : List Int} {k m : Nat} {x y : Int} (h : Sp.bestAt l k = m) (hx : l.getD k 0 = x) (hy : l.getD m 0 = y) (hlt : x ≤ y) : Sp.bestAt l (k + 1) = m := by
  simp only [Sp.bestAt]; rw [h, if_neg]
  rintro (h1 | h1)
  · omega
  · rw [hx] at h1; replace h1 : l.getD m 0 < x := h1; rw [hy] at h1; omega
/-- the cells of an owned row of whole numbers -/
theorem ints_row {w : World} {base e n : Nat} {k : IntKind} {v : Value} {l : List Int} (h : w.ownsRow base e 1 v n (l.map (Value.int k))) (hn : 0 < n) :
    ∃ g cap, v = .slice (some ⟨g, 0, none⟩) n cap ∧ base ≤ g ∧ g < w.heap.size ∧ n ≤ cap ∧ cap ≤ maxLen ∧ l.length = n ∧ ∀ j, j < n → w.cell? ⟨g, j, none⟩ = some (.int k (l.getD j 0)) := by
  have hl : l.length = n := by have := h.1; simpa using this
  rcases h.2 with ⟨_, h0⟩ | ⟨g, cap, cur, rfl, hb, hg, h1, h2, h3, h4⟩
  · omega
  · refine ⟨g, cap, rfl, hb, blk_lt hg, h1, h2, hl, fun j hj => ?_⟩
    rw [cell_blk hg]
    have h5 : (cur.toList.take (n * 1))[j]? = (l.map (Value.int k))[j]? := by rw [h4]
    rw [List.getElem?_take, if_pos (by omega), List.getElem?_map, List.getElem?_eq_getElem (l := l) (by omega)] at h5
    rw [List.getD_eq_getElem?_getD, List.getElem?_eq_getElem (l := l) (by omega)]
    simpa using h5
theorem row_nil {w : World} {base e size : Nat} {v : Value} {n : Nat} {xs : List Value} (h : w.ownsRow base e size v n xs) : ∃ a cap, v = .slice a n cap := by
  rcases h.2 with ⟨rfl, rfl⟩ | ⟨g, cap, cur, rfl, _⟩
  · exact ⟨none, 0, rfl⟩
  · exact ⟨_, _, rfl⟩

set_option maxHeartbeats 400000 in
theorem best_any (l : List Int) (v : Value) (w : World) (base : Nat) (hr : w.ownsRow base 2 1 v l.length (l.map (Value.int .i64))) (hl : 0 < l.length) (hl2 : l.length ≤ 1000) :
    Calls Try.prog 105 #[v] w fun e w' => e = .returned (.int .i64 (Sp.bestAt l l.length)) ∧ w = w' := by
  obtain ⟨g, cap, rfl, _, hg, _, _, _, hc⟩ := ints_row hr hl
  obtain ⟨n, hn⟩ : ∃ n, n = l.length := ⟨_, rfl⟩
  rw [← hn] at hc hl hl2 ⊢
  have HC := hid hc
  clear hr hc hn
  go_enter Try.func105, Try.ntmps105
  go_wp2
  go_loop [3, 8] (fun b i => ∃ k : Nat, k ≤ n ∧ i = .int .i64 k ∧ b = .int .i64 (Sp.bestAt l k)) (fun _ i => n - (intOf i).toNat)
  case atStart => exact ⟨0, by omega, rfl, rfl⟩
  case round =>
    obtain ⟨k, hk, rfl, rfl⟩ := hrel
    by_cases hlt : k < n
    · have hck := HC.out k hlt
      have hbd := bestAt_bd l k
      generalize hx : l.getD k 0 = x at *
      generalize hb : Sp.bestAt l k = b at *
      obtain ⟨hb1, hb2, hb3⟩ := hbd
      have HX := hid hx; have HB := hid hb
      clear hx hb
      by_cases hneg : b < 0
      · clear hb3
        go_wp2
        go_round
        case rel => exact ⟨k + 1, by omega, by go_num, by rw [best_neg HB.out hneg]⟩
        case measure => simp [intOf]; omega
      · obtain ⟨m, hm⟩ : ∃ m : Nat, b = m := ⟨b.toNat, by omega⟩
        subst hm
        have hcm := HC.out m (by omega)
        generalize hy : l.getD m 0 = y at *
        have HY := hid hy
        clear hy hb3
        go_wp2
        all_goals
          go_round
          case rel => exact ⟨k + 1, by omega, by go_num, by first | (rw [best_hit HB.out HX.out HY.out (by omega)]) | (rw [best_miss HB.out HX.out HY.out (by omega)])⟩
          case measure => simp [intOf]; omega
    · have : k = n := by omega
      subst this
      go_wp2
      go_ret
      exact ⟨rfl, rfl⟩
end Go.Proofs.Ytmkpljbkmkbnjaa
