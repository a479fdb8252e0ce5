/-
  PLAIN: the maps of a row of increments, and what a history answers.
-/
import Derived.Test.YtmkpljbkmkbnjaaSpecH
namespace Go.Proofs.Ytmkpljbkmkbnjaa.Sp
set_option linter.unusedVariables false
set_option linter.unusedSimpArgs false

/-- the map behind the increments -/
def lastMap (is : List Inc) : Mp := is.foldl apply first
/-- all maps, from the first one on -/
def mapsOf (is : List Inc) : List Mp := (List.range (is.length + 1)).map fun k => lastMap (is.take k)
theorem lastMap_snoc (is : List Inc) (x : Inc) : lastMap (is ++ [x]) = apply (lastMap is) x := by simp [lastMap]
theorem mapsOf_len (is : List Inc) : (mapsOf is).length = is.length + 1 := by simp [mapsOf]
theorem mapsOf_snoc (is : List Inc) (x : Inc) : mapsOf (is ++ [x]) = mapsOf is ++ [apply (lastMap is) x] := by
  unfold mapsOf
  rw [List.length_append, List.length_singleton, List.range_succ (n := is.length + 1), List.map_append]
  congr 1
  · apply List.map_congr_left
    intro k hk
    rw [List.mem_range] at hk
    rw [List.take_append_of_le_length (by omega)]
  · rw [List.map_singleton, List.take_of_length_le (by simp), lastMap_snoc]
theorem mapsOf_get (is : List Inc) (k : Nat) (h : k ≤ is.length) (d : Mp) : (mapsOf is).getD k d = lastMap (is.take k) := by
  simp [mapsOf, List.getD_eq_getElem?_getD, List.getElem?_map, List.getElem?_range (show k < is.length + 1 by omega)]
theorem mapsOf_nil : mapsOf [] = [first] := rfl

/-- increments that a history can hold -/
def Chain (is : List Inc) : Prop := (∀ x ∈ is, isInc x = true) ∧ is.length ≤ 59
theorem Chain.nil : Chain [] := ⟨by simp, by simp⟩
theorem Chain.take {is : List Inc} (h : Chain is) (k : Nat) : Chain (is.take k) := ⟨fun x hx => h.1 x (List.mem_of_mem_take hx), by rw [List.length_take]; have := h.2; omega⟩

theorem apply_ep (m : Mp) (x : Inc) : (apply m x).ep = m.ep + 1 := by
  unfold apply Mp.put; split <;> rfl
theorem change_ok {o : Osd} {x : Inc} (h : okOsd o = true) (hx : isInc x = true) : okOsd (change o x) = true := by
  unfold change
  split
  · exact h
  · split
    · exact h
    · split
      · rename_i h1 h2 h3
        unfold isInc at hx
        rw [if_neg (by omega), if_pos h3] at hx
        simp only [Bool.and_eq_true, decide_eq_true_eq] at hx
        unfold okOsd at h ⊢
        simp only [Bool.and_eq_true, decide_eq_true_eq] at h ⊢
        exact ⟨⟨hx.1.2, hx.2⟩, h.2⟩
      · exact h
theorem osd_ok {m : Mp} (h : isMap m = true) (k : Nat) : okOsd (m.osd k) = true := by
  unfold isMap at h
  simp only [Bool.and_eq_true] at h
  unfold Mp.osd
  split
  · exact h.1.1.1.1.1.1
  · exact h.1.1.1.1.1.2
  · exact h.1.1.1.1.2
  · exact h.1.1.1.2
  · exact h.1.1.2
theorem put_good {m : Mp} (k : Nat) {c : Osd} (hm : isMap m = true) (hc : okOsd c = true) (he : m.ep ≤ 59) : isMap (({ m with ep := m.ep + 1 } : Mp).put k c) = true := by
  unfold isMap at hm
  simp only [Bool.and_eq_true, decide_eq_true_eq] at hm
  obtain ⟨⟨⟨⟨⟨⟨h0, h1⟩, h2⟩, h3⟩, h4⟩, he1⟩, he2⟩ := hm
  unfold Mp.put
  split <;> simp only [isMap, Bool.and_eq_true, decide_eq_true_eq, h0, h1, h2, h3, h4, hc, true_and, and_true] <;> omega
theorem apply_good {m : Mp} {x : Inc} (h : okApply m x = true) : isMap (apply m x) = true := by
  unfold okApply at h
  simp only [Bool.and_eq_true, decide_eq_true_eq] at h
  obtain ⟨⟨hm, hx⟩, he⟩ := h
  have hep : m.ep ≤ 60 := by
    have := hm
    unfold isMap at this
    simp only [Bool.and_eq_true, decide_eq_true_eq] at this
    exact this.2
  exact put_good _ hm (change_ok (osd_ok hm x.osd.toNat) hx) (by omega)
theorem snocRec {α : Type} {P : List α → Prop} (h0 : P []) (h1 : ∀ l x, P l → P (l ++ [x])) (l : List α) : P l := by
  have h : ∀ r : List α, P r.reverse := by
    intro r
    induction r with
    | nil => exact h0
    | cons x r ih => rw [List.reverse_cons]; exact h1 _ _ ih
  have := h l.reverse
  rwa [List.reverse_reverse] at this
theorem lastMap_good {is : List Inc} (h : Chain is) : isMap (lastMap is) = true ∧ (lastMap is).ep = ((is.length + 1 : Nat) : Int) := by
  revert h
  refine snocRec (P := fun is => Chain is → isMap (lastMap is) = true ∧ (lastMap is).ep = ((is.length + 1 : Nat) : Int)) ?_ ?_ is
  · intro _; exact ⟨by decide, rfl⟩
  · intro is x ih h
    have h' : Chain is := ⟨fun y hy => h.1 y (by simp [hy]), by have := h.2; simp at this; omega⟩
    obtain ⟨i1, i2⟩ := ih h'
    have hl : is.length ≤ 58 := by have := h.2; simp at this; omega
    rw [lastMap_snoc]
    refine ⟨apply_good ?_, by rw [apply_ep, i2]; simp⟩
    unfold okApply
    rw [i1, h.1 x (by simp)]
    simp only [Bool.true_and, decide_eq_true_eq, i2]
    omega
theorem okApply_last {is : List Inc} (h : Chain is) (x : Inc) : okApply (lastMap is) x = (isInc x && decide (is.length ≠ 59)) := by
  obtain ⟨h1, h2⟩ := lastMap_good h
  unfold okApply
  rw [h1, h2, Bool.true_and]
  congr 1
  apply decide_eq_decide.2
  omega
theorem Chain.snoc {is : List Inc} (h : Chain is) {x : Inc} (hx : okApply (lastMap is) x = true) : Chain (is ++ [x]) := by
  rw [okApply_last h] at hx
  simp only [Bool.and_eq_true, decide_eq_true_eq] at hx
  refine ⟨fun y hy => ?_, by have := h.2; have := hx.2; simp; omega⟩
  rw [List.mem_append] at hy
  rcases hy with hy | hy
  · exact h.1 y hy
  · simp at hy; rw [hy]; exact hx.1
/-- what Add answers, and the increments behind it -/
def add (is : List Inc) (e : Nat) (x : Inc) : Int × List Inc :=
  if e ≤ is.length + 1 then (51, is) else if is.length + 2 < e then (50, is) else if isInc x = true ∧ is.length ≠ 59 then (0, is ++ [x]) else (40, is)
theorem add_chain {is : List Inc} (h : Chain is) (e : Nat) (x : Inc) : Chain (add is e x).2 := by
  unfold add
  split
  · exact h
  · split
    · exact h
    · split
      · rename_i hx
        refine h.snoc ?_
        rw [okApply_last h]; simp [hx]
      · exact h
end Go.Proofs.Ytmkpljbkmkbnjaa.Sp
