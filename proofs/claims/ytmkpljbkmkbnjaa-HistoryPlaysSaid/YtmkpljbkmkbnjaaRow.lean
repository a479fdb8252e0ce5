/-
  THE INPUT: a slice of increments that came in.
-/
import Derived.Test.YtmkpljbkmkbnjaaFull
import Derived.ProofKit
import Derived.Deep.Strs
import Derived.Deep.SlicePairs
namespace Go.Proofs.Ytmkpljbkmkbnjaa
open Go.ChangeShapes Go.WideShapes Go.ChangeAt Go.RowKit Go.Deep
set_option linter.unusedVariables false
set_option linter.unusedSimpArgs false

theorem cells50 : Try.prog.cellsOf 50 = 3 := by kernel_rfl
theorem cells5 : Try.prog.cellsOf 5 = 1 := by kernel_rfl
theorem cells3 : Try.prog.cellsOf 3 = 1 := by kernel_rfl
/-- the three cells of an increment -/
def IncAt (w : World) (a : Addr) (k : Nat) (x : Sp.Inc) : Prop :=
  w.cell? (a.add (k * 3)) = some (.int .u8 x.kind) ∧ w.cell? (a.add (k * 3 + 1)) = some (.int .u8 x.osd) ∧ w.cell? (a.add (k * 3 + 2)) = some (.int .i64 x.n)
def InRow (w : World) (v : Value) (l : List Sp.Inc) : Prop :=
  (v = .slice none 0 0 ∧ l = []) ∨ ∃ (a : Addr) (cap : Nat), v = .slice (some a) l.length cap ∧ l.length ≤ cap ∧ cap ≤ maxLen ∧ ∀ k x, l[k]? = some x → IncAt w a k x
theorem InRow.keep {w w' : World} {v : Value} {l : List Sp.Inc} (h : InRow w v l) (hu : Upd Nix w w') : InRow w' v l := by
  rcases h with h | ⟨a, cap, h1, h2, h3, h4⟩
  · exact .inl h
  · refine .inr ⟨a, cap, h1, h2, h3, fun k x hx => ?_⟩
    obtain ⟨c0, c1, c2⟩ := h4 k x hx
    exact ⟨(hu.cell (World.block_lt_of_cell? _ _ c0) (fun f => f)).trans c0, (hu.cell (World.block_lt_of_cell? _ _ c1) (fun f => f)).trans c1, (hu.cell (World.block_lt_of_cell? _ _ c2) (fun f => f)).trans c2⟩
theorem list_three (l : List Value) (h : l.length = 3) : ∃ a b c, l = [a, b, c] := by
  match l, h with
  | [a, b, c], _ => exact ⟨a, b, c, rfl⟩
set_option maxRecDepth 100000 in
theorem open_incs {H : Type} {enc : TypeId × Value → H} {W : World} {base : Nat} {sp : Nat → Bool} {held : Bool} {fuel : Nat} {cs : List Value} {x : DataW H × List MemPlace} (h : DataW.trod enc Try.prog W base sp held fuel 43 cs = some x) :
    ∃ v l, cs = [v] ∧ InRow W v l ∧ ∀ x ∈ l, IncOk x := by
  rcases open_slice Try.underlying43 h with ⟨rfl, _⟩ | ⟨a, len, cap, m, n, D, Pl, rfl, hb, hl, hm, hmm, rfl, hx⟩
  · exact ⟨_, [], rfl, .inl ⟨rfl, rfl⟩, by simp⟩
  have hlm : len ≤ m := by rw [hmm]; split <;> omega
  have each : ∀ i, i < len → ∃ q : Sp.Inc, IncAt W a i q ∧ IncOk q := by
    intro i hi
    obtain ⟨cs', h1, h2⟩ := hx i (by omega)
    rw [cells50] at h1
    obtain ⟨_, hlen, hcell⟩ := World.cells?_some h1
    obtain ⟨y0, y1, y2, k, hxy, _, g0, g1, g2⟩ := trod_struct3 Try.underlying50 h2
    obtain ⟨v0, v1, v2, rfl⟩ := list_three cs' hlen
    · obtain ⟨p, e0, rfl, wa⟩ := DataW.trod_int Try.underlying5 g0
      obtain ⟨q, e1, rfl, wb⟩ := DataW.trod_int Try.underlying5 g1
      obtain ⟨r, e2, rfl, wc⟩ := DataW.trod_int Try.underlying3 g2
      simp [cells5, cells3] at e0 e1 e2
      subst e0 e1 e2
      have hxa : 0 ≤ p ∧ p ≤ 255 := by simpa [Lit.wf, IntKind.min, IntKind.max, IntKind.signed, IntKind.bits] using wa
      have hxb : 0 ≤ q ∧ q ≤ 255 := by simpa [Lit.wf, IntKind.min, IntKind.max, IntKind.signed, IntKind.bits] using wb
      have e0 := hcell 0 (by omega)
      have e1 := hcell 1 (by omega)
      have e2 := hcell 2 (by omega)
      rw [add_add] at e0 e1 e2
      exact ⟨⟨p, q, r⟩, ⟨by simpa using e0, by simpa using e1, by simpa using e2⟩, ⟨hxa.1, hxa.2, hxb.1, hxb.2⟩⟩
  haveI : Inhabited Sp.Inc := ⟨Sp.zeroInc⟩
  obtain ⟨q, hq⟩ := choose_lt (α := Sp.Inc) each
  refine ⟨_, (List.range len).map q, rfl, .inr ⟨a, cap, by simp, by simpa using hl, hm, fun k x hk => ?_⟩, fun x hxm => ?_⟩
  · rw [List.getElem?_map] at hk
    have hk2 : k < len := by
      rcases Nat.lt_or_ge k len with h | h
      · exact h
      · rw [List.getElem?_eq_none (by simpa using h)] at hk; simp at hk
    rw [List.getElem?_range hk2] at hk
    simp at hk
    subst hk
    exact (hq k hk2).1
  · rw [List.mem_map] at hxm
    obtain ⟨k, hk, rfl⟩ := hxm
    exact (hq k (List.mem_range.1 hk)).2
end Go.Proofs.Ytmkpljbkmkbnjaa
