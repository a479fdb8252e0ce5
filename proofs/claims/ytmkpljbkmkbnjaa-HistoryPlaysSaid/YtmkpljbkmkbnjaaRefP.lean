/-
  PLAIN: how the reference picks a group's daemons: the same ones.
-/
import Derived.Test.YtmkpljbkmkbnjaaPicks
import Derived.Test.YtmkpljbkmkbnjaaActing
namespace Go.Proofs.Ytmkpljbkmkbnjaa.Sp
set_option linter.unusedVariables false
set_option linter.unusedSimpArgs false

theorem bestAt_app (l r : List Int) : ∀ k, k ≤ l.length → bestAt (l ++ r) k = bestAt l k := by
  intro k
  induction k with
  | zero => intro _; rfl
  | succ k ih =>
    intro hk
    have hb := bestAt_bd l k
    have e1 : (l ++ r).getD k 0 = l.getD k 0 := by simp only [List.getD_eq_getElem?_getD, List.getElem?_append_left (show k < l.length by omega)]
    simp only [bestAt]
    rw [ih (by omega), e1]
    by_cases h : bestAt l k < 0
    · rw [if_pos (.inl h), if_pos (.inl h)]
    · have hlt : (bestAt l k).toNat < l.length := by have := hb.2.1; omega
      have e2 : (l ++ r).getD (bestAt l k).toNat 0 = l.getD (bestAt l k).toNat 0 := by simp only [List.getD_eq_getElem?_getD, List.getElem?_append_left hlt]
      rw [e2]
/-- the longest one among the first i of those that W takes -/
def rbestG (W : Nat → Bool) (D : Nat → Int) : Nat → Int × Int
  | 0 => (-1, 0)
  | i + 1 => if W i = false then rbestG W D i else if (rbestG W D i).1 < 0 ∨ (rbestG W D i).2 < D i then ((i : Int), D i) else rbestG W D i
def inG (W : Nat → Bool) : Nat → List Nat
  | 0 => []
  | k + 1 => if W k = true then inG W k ++ [k] else inG W k
theorem getD_last {α : Type} (l : List α) (x d : α) (n : Nat) (h : l.length = n) : (l ++ [x]).getD n d = x := by
  rw [List.getD_eq_getElem?_getD, List.getElem?_append_right (by omega)]; simp [h]
theorem getD_left {α : Type} (l : List α) (x d : α) (n : Nat) (h : n < l.length) : (l ++ [x]).getD n d = l.getD n d := by
  rw [List.getD_eq_getElem?_getD, List.getD_eq_getElem?_getD, List.getElem?_append_left h]
theorem rbestG_is (W : Nat → Bool) (D : Nat → Int) : ∀ i, (inG W i = [] ∧ rbestG W D i = (-1, 0)) ∨
    (∃ b : Nat, b < (inG W i).length ∧ bestAt ((inG W i).map D) (inG W i).length = (b : Int) ∧ rbestG W D i = ((((inG W i).getD b 0 : Nat) : Int), ((inG W i).map D).getD b 0)) := by
  intro i
  induction i with
  | zero => left; exact ⟨rfl, rfl⟩
  | succ i ih =>
    cases hw : W i
    · have e1 : inG W (i + 1) = inG W i := by simp only [inG]; rw [if_neg (by rw [hw]; simp)]
      have er : rbestG W D (i + 1) = rbestG W D i := by simp only [rbestG]; rw [if_pos hw]
      rw [e1, er]; exact ih
    · have e1 : inG W (i + 1) = inG W i ++ [i] := by simp only [inG]; rw [if_pos hw]
      have er : rbestG W D (i + 1) = if (rbestG W D i).1 < 0 ∨ (rbestG W D i).2 < D i then ((i : Int), D i) else rbestG W D i := by
        simp only [rbestG]; rw [if_neg (by rw [hw]; simp)]
      right
      rw [er, e1, List.map_append, List.length_append, List.length_singleton]
      generalize inG W i = L at *
      generalize rbestG W D i = R at *
      have hS : (L.map D).length = L.length := by simp
      rw [show List.map D [i] = [D i] from rfl]
      generalize L.map D = M at *
      generalize D i = s at *
      have happ : bestAt (M ++ [s]) L.length = bestAt M L.length := bestAt_app M [s] _ (by omega)
      have hlast : (M ++ [s]).getD L.length 0 = s := getD_last M s 0 _ hS
      have hlast2 : (L ++ [i]).getD L.length 0 = i := getD_last L i 0 _ rfl
      rcases ih with ⟨h1, h2⟩ | ⟨b, h1, h2, h3⟩
      · subst h2
        refine ⟨L.length, by omega, best_neg (b := -1) (by rw [happ, h1]; rfl) (by omega), ?_⟩
        rw [if_pos (.inl (show (-1 : Int) < 0 by omega)), hlast, hlast2]
      · subst h3
        have hg : (M ++ [s]).getD b 0 = M.getD b 0 := getD_left M s 0 b (by omega)
        have hg2 : (L ++ [i]).getD b 0 = L.getD b 0 := getD_left L i 0 b h1
        have hbb : bestAt (M ++ [s]) L.length = (b : Int) := by rw [happ, h2]
        generalize M.getD b 0 = y at *
        by_cases hc : y < s
        · refine ⟨L.length, by omega, best_hit hbb hlast hg hc, ?_⟩
          rw [if_pos (.inr hc), hlast, hlast2]
        · refine ⟨b, by omega, best_miss hbb hlast hg (by omega), ?_⟩
          rw [if_neg (by rintro (h | h); · have h' : ((L.getD b 0 : Nat) : Int) < 0 := h; omega
                         · exact hc h), hg, hg2]
/-- the longest straw among the first i daemons, and its length -/
def rbest (m : Mp) (g t : Nat) (i : Nat) : Int × Int := rbestG (fun o => decide (0 < (m.osd o).wt)) (fun o => draw g o t (m.osd o).wt) i
theorem rbest_zero (m : Mp) (g t : Nat) : rbest m g t 0 = (-1, 0) := rfl
theorem rbest_skip (m : Mp) (g t i : Nat) (h : (m.osd i).wt < 1) : rbest m g t (i + 1) = rbest m g t i := by
  unfold rbest; rw [rbestG, if_pos (by simp; omega)]
theorem rbest_take (m : Mp) (g t i : Nat) {b s d : Int} (h : 1 ≤ (m.osd i).wt) (hr : rbest m g t i = (b, s)) (hd : draw g i t (m.osd i).wt = d) : rbest m g t (i + 1) = if b < 0 ∨ s < d then ((i : Int), d) else (b, s) := by
  unfold rbest at hr ⊢
  rw [rbestG, if_neg (by simp; omega), hr]
  simp only [hd]
theorem inG_eq (m : Mp) : ∀ i, inG (fun o => decide (0 < (m.osd o).wt)) i = inUpto m i := by
  intro i
  induction i with
  | zero => rfl
  | succ i ih => simp only [inG, inUpto, ih, decide_eq_true_eq]
theorem rbest_bd (m : Mp) (g t : Nat) : ∀ i, 0 ≤ (rbest m g t i).1 ∧ (rbest m g t i).1 < i ∨ (rbest m g t i).1 = -1 := by
  intro i
  induction i with
  | zero => right; rfl
  | succ i ih =>
    by_cases h : (m.osd i).wt < 1
    · rw [rbest_skip m g t i h]
      rcases ih with h | h
      · left; omega
      · right; exact h
    · rw [rbest_take m g t i (b := (rbest m g t i).1) (s := (rbest m g t i).2) (by omega) rfl rfl]
      split
      · left; dsimp only; omega
      · rcases ih with h | h
        · left; dsimp only; omega
        · right; exact h
/-- one more from the try t on, as the reference does it -/
def rpickFrom (m : Mp) (g r : Nat) (picked : List Nat) : Nat → Nat → List Nat
  | 0, _ => picked
  | n + 1, t => if 0 ≤ (rbest m g (r + t * 3) 5).1 ∧ fits m picked (rbest m g (r + t * 3) 5).1.toNat = true then picked ++ [(rbest m g (r + t * 3) 5).1.toNat] else rpickFrom m g r picked n (t + 1)
def rpickUpto (m : Mp) (g : Nat) : Nat → List Nat
  | 0 => []
  | r + 1 => rpickFrom m g r (rpickUpto m g r) 20 0
theorem rbest_draw (m : Mp) (g t : Nat) (h : 0 < (inL m).length) : (rbest m g t 5).1 = ((drawO m g t : Nat) : Int) := by
  unfold rbest drawO straws inL at *
  rw [← inG_eq m 5] at *
  rcases rbestG_is (fun o => decide (0 < (m.osd o).wt)) (fun o => draw g o t (m.osd o).wt) 5 with ⟨h1, _⟩ | ⟨b, h1, h2, h3⟩
  · rw [h1] at h; simp at h
  · rw [h3, h2]; rfl
theorem rbest_none (m : Mp) (g t : Nat) (h : ¬ 0 < (inL m).length) : (rbest m g t 5).1 = -1 := by
  unfold rbest inL at *
  rw [← inG_eq m 5] at h
  rcases rbestG_is (fun o => decide (0 < (m.osd o).wt)) (fun o => draw g o t (m.osd o).wt) 5 with ⟨_, h2⟩ | ⟨b, h1, h2, h3⟩
  · rw [h2]
  · omega
theorem rpickFrom_eq (m : Mp) (g r : Nat) (h : 0 < (inL m).length) (picked : List Nat) : ∀ n t, rpickFrom m g r picked n t = pickFrom m g r picked n t := by
  intro n
  induction n with
  | zero => intro t; rfl
  | succ n ih =>
    intro t
    simp only [rpickFrom, pickFrom]
    rw [rbest_draw m g _ h, ih]
    simp
theorem rpickFrom_none (m : Mp) (g r : Nat) (h : ¬ 0 < (inL m).length) (picked : List Nat) : ∀ n t, rpickFrom m g r picked n t = picked := by
  intro n
  induction n with
  | zero => intro t; rfl
  | succ n ih =>
    intro t
    simp only [rpickFrom]
    rw [ih, if_neg]
    rintro ⟨h1, _⟩
    rw [rbest_none m g _ h] at h1
    omega
theorem rpick_eq (m : Mp) (g : Nat) (h1 : isMap m = true) (h2 : g < 4) : rpickUpto m g 3 = pick m g := by
  by_cases h : 0 < (inL m).length
  · rw [pick_yes h1 h2 h]
    simp only [rpickUpto, pickUpto, rpickFrom_eq m g _ h]
  · rw [pick_none h1 h2 h]
    simp only [rpickUpto, rpickFrom_none m g _ h]
theorem rpickFrom_len (m : Mp) (g r : Nat) (picked : List Nat) : ∀ n t, (rpickFrom m g r picked n t).length ≤ picked.length + 1 := by
  intro n
  induction n with
  | zero => intro t; simp [rpickFrom]
  | succ n ih =>
    intro t
    simp only [rpickFrom]
    split
    · simp
    · exact ih _
theorem rpickUpto_len (m : Mp) (g : Nat) : ∀ r, (rpickUpto m g r).length ≤ r := by
  intro r
  induction r with
  | zero => simp [rpickUpto]
  | succ r ih => have := rpickFrom_len m g r (rpickUpto m g r) 20 0; simp only [rpickUpto]; omega
theorem rpickFrom_lt (m : Mp) (g r : Nat) (picked : List Nat) (h : ∀ o ∈ picked, o < 5) : ∀ n t, ∀ o ∈ rpickFrom m g r picked n t, o < 5 := by
  intro n
  induction n with
  | zero => intro t; exact h
  | succ n ih =>
    intro t
    simp only [rpickFrom]
    split
    · rename_i hc
      intro o ho
      rw [List.mem_append] at ho
      rcases ho with ho | ho
      · exact h o ho
      · simp at ho; subst ho
        rcases rbest_bd m g (r + t * 3) 5 with h | h
        · have := h.2; have := hc.1; omega
        · have := hc.1; omega
    · exact ih _
theorem rpickUpto_lt (m : Mp) (g : Nat) : ∀ r, ∀ o ∈ rpickUpto m g r, o < 5 := by
  intro r
  induction r with
  | zero => simp [rpickUpto]
  | succ r ih => exact rpickFrom_lt m g r _ ih 20 0
theorem fits_succ (m : Mp) (P : List Nat) (k o x : Nat) (h : P[k]? = some x) : fits m (P.take (k + 1)) o = (fits m (P.take k) o && !clash m o x) := by
  unfold fits
  rw [List.take_add_one, h]
  simp
theorem fits_no {m : Mp} {P : List Nat} {k o : Nat} (h : fits m (P.take k) o = false) : fits m P o = false := by
  unfold fits at h ⊢
  simp only [Bool.not_eq_false', List.any_eq_true] at h ⊢
  obtain ⟨x, hx, hc⟩ := h
  exact ⟨x, List.mem_of_mem_take hx, hc⟩
end Go.Proofs.Ytmkpljbkmkbnjaa.Sp
