/-
  A ROW OF INTERVALS, cell by cell; a history that takes increments one after another.
-/
import Derived.Test.YtmkpljbkmkbnjaaMapsW
import Derived.Test.YtmkpljbkmkbnjaaCutsP
namespace Go.Proofs.Ytmkpljbkmkbnjaa
open Go.RowKit
set_option linter.unusedVariables false
set_option linter.unusedSimpArgs false

/-- the block b holds the intervals l; their daemons lie at av -/
def IvCells (w : World) (b : Nat) (av : Nat → Value) (l : List (Int × List Nat)) : Prop :=
  ∀ j t, l[j]? = some t → w.cell? ⟨b, j * 2, none⟩ = some (.int .u32 t.1) ∧ w.cell? ⟨b, j * 2 + 1, none⟩ = some (av j) ∧ RowN w 0 (av j) t.2
theorem IvCells.keep {w w' : World} {b : Nat} {av : Nat → Value} {l : List (Int × List Nat)} (h : IvCells w b av l) (hu : Upd Nix w w') : IvCells w' b av l := by
  intro j t ht
  obtain ⟨c0, c1, c2⟩ := h j t ht
  exact ⟨(hu.cell (World.block_lt_of_cell? _ _ c0) (fun f => f)).trans c0, (hu.cell (World.block_lt_of_cell? _ _ c1) (fun f => f)).trans c1, row_keep c2 hu (fun _ _ f => f)⟩
theorem IvAt.form {w : World} {v : Value} {l : List (Int × List Nat)} (h : IvAt w v l) (hpos : 0 < l.length) : ∃ b cap av, v = .slice (some ⟨b, 0, none⟩) l.length cap ∧ l.length ≤ cap ∧ IvCells w b av l := by
  obtain ⟨tl, h1, h2, h3⟩ := h
  subst h1
  rw [List.length_map] at hpos ⊢
  rcases h2.2 with ⟨_, h0⟩ | ⟨b, cap, cur, hv, hb, hc, hn, hm, hsz, htk⟩
  · omega
  · refine ⟨b, cap, fun j => ((tl[j]?).map (·.2.2)).getD (.slice none 0 0), hv, hn, fun j t ht => ?_⟩
    have hcell : ∀ k u, (ivCells tl)[k]? = some u → w.cell? ⟨b, k, none⟩ = some u := by
      intro k u hu
      rw [cell_blk hc, ← hu, ← htk, List.getElem?_take]
      have hk : k < (ivCells tl).length := by
        rcases Nat.lt_or_ge k (ivCells tl).length with h | h
        · exact h
        · rw [List.getElem?_eq_none h] at hu; simp at hu
      rw [ivCells_len] at hk
      rw [if_pos hk]; simp
    rw [List.getElem?_map] at ht
    cases hj : tl[j]? with
    | none => rw [hj] at ht; simp at ht
    | some t0 =>
      rw [hj] at ht
      simp at ht
      subst ht
      have hg := ivCells_get tl j t0 hj
      simp only [hj, Option.map_some, Option.getD_some]
      exact ⟨hcell _ _ hg.1, hcell _ _ hg.2, h3 t0 (List.mem_of_getElem? hj)⟩
theorem getLast_of {α : Type} {l : List α} {t : α} (h : l[l.length - 1]? = some t) : l.getLast? = some t := by
  rw [List.getLast?_eq_getElem?]; exact h
theorem wrap_two (N : Nat) (h : N ≤ 1000) : IntKind.u32.wrap (((N + 1 : Nat) : Int) + 1) = ((N + 2 : Nat) : Int) := by
  rw [show ((N + 1 : Nat) : Int) + 1 = (N : Int) + 2 by omega, show ((N + 2 : Nat) : Int) = (N : Int) + 2 by omega]
  simp only [IntKind.wrap, IntKind.signed, IntKind.bits]
  simp
  omega
theorem At.chain {w0 w : World} {h : Nat} {is : List Sp.Inc} (H : At w0 w h is) : Sp.Chain is := by obtain ⟨S, h1, _, _⟩ := H; exact h1.chain
theorem map_at {w0 w : World} {h : Nat} {is : List Sp.Inc} (H : At w0 w h is) (x : Nat) : Calls Try.prog 20 #[.pointer (some ⟨h, 0, none⟩), .int .u32 (x : Int)] w (MapS is x w) := by
  obtain ⟨S, h1, h2, h3⟩ := H; exact map_s h1 x
theorem inc_at {w0 w : World} {h : Nat} {is : List Sp.Inc} (H : At w0 w h is) (x : Nat) : Calls Try.prog 27 #[.pointer (some ⟨h, 0, none⟩), .int .u32 (x : Int)] w (IncS is x w) := by
  obtain ⟨S, h1, h2, h3⟩ := H; exact inc_s h1 x
theorem mapAt_in {is : List Sp.Inc} {x : Nat} (h : x ≤ is.length) : mapAt is (x + 1) = Sp.lastMap (is.take x) := by
  unfold mapAt; rw [if_pos (by omega)]; rfl
theorem mapsOf_at {is : List Sp.Inc} {k : Nat} (h : k ≤ is.length) : (Sp.mapsOf is)[k]? = some (Sp.lastMap (is.take k)) := by
  have := Sp.mapsOf_get is k h Sp.zeroMp
  rw [List.getD_eq_getElem?_getD] at this
  have hl : k < (Sp.mapsOf is).length := by rw [Sp.mapsOf_len]; omega
  rw [List.getElem?_eq_getElem hl] at this ⊢
  simp at this
  rw [this]
end Go.Proofs.Ytmkpljbkmkbnjaa
