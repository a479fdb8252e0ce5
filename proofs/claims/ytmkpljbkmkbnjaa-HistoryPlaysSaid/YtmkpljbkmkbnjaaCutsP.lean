/-
  PLAIN: the intervals part the epochs.
-/
import Derived.Test.YtmkpljbkmkbnjaaChain
namespace Go.Proofs.Ytmkpljbkmkbnjaa.Sp
set_option linter.unusedVariables false
set_option linter.unusedSimpArgs false

theorem ivStep_pre (g : Nat) (acc : List (Int × List Nat)) (m : Mp) : ∃ r, ivStep g acc m = acc ++ r ∧ ∀ t ∈ r, t.1 = m.ep := by
  unfold ivStep
  split
  · exact ⟨[], by simp, by simp⟩
  · exact ⟨_, rfl, by simp⟩
theorem ivFold_pre (g : Nat) (ms : List Mp) : ∀ (acc : List (Int × List Nat)) (e : Int), (∀ m ∈ ms, e < m.ep) → ∃ r, ms.foldl (ivStep g) acc = acc ++ r ∧ ∀ t ∈ r, e < t.1 := by
  induction ms with
  | nil => intro acc e _; exact ⟨[], by simp, by simp⟩
  | cons m rest ih =>
    intro acc e h
    obtain ⟨r1, h1, h2⟩ := ivStep_pre g acc m
    obtain ⟨r2, h3, h4⟩ := ih (ivStep g acc m) e (fun x hx => h x (List.mem_cons_of_mem _ hx))
    refine ⟨r1 ++ r2, by rw [List.foldl_cons, h3, h1, List.append_assoc], fun t ht => ?_⟩
    rw [List.mem_append] at ht
    rcases ht with ht | ht
    · rw [h2 t ht]; exact h m (List.mem_cons_self ..)
    · exact h4 t ht
/-- the epochs are counted from one on -/
def Eps (ms : List Mp) : Prop := ∀ k m, ms[k]? = some m → m.ep = ((k + 1 : Nat) : Int)
theorem eps_mapsOf {is : List Inc} (h : Chain is) : Eps (mapsOf is) := by
  intro k m hk
  have hlt : k < (mapsOf is).length := by
    rcases Nat.lt_or_ge k (mapsOf is).length with h | h
    · exact h
    · rw [List.getElem?_eq_none h] at hk; simp at hk
  rw [mapsOf_len] at hlt
  have := mapsOf_get is k (by omega) zeroMp
  rw [List.getD_eq_getElem?_getD, hk] at this
  simp only [Option.getD_some] at this
  rw [this, (lastMap_good (h.take k)).2, List.length_take]
  congr 1; omega
/-- how many intervals the first e maps have -/
def nIv (ms : List Mp) (g e : Nat) : Nat := (ivs (ms.take e) g).length
theorem ivs_split {ms : List Mp} (h : Eps ms) (g e : Nat) : ∃ r, ivs ms g = ivs (ms.take e) g ++ r ∧ ∀ t ∈ r, (e : Int) < t.1 := by
  have hd : ∀ m ∈ ms.drop e, (e : Int) < m.ep := by
    intro m hm
    obtain ⟨k, hk⟩ := List.mem_iff_getElem?.1 hm
    rw [List.getElem?_drop] at hk
    rw [h _ m hk]; omega
  obtain ⟨r, h1, h2⟩ := ivFold_pre g (ms.drop e) (ivs (ms.take e) g) e hd
  refine ⟨r, ?_, h2⟩
  rw [← h1]
  unfold ivs
  rw [← List.foldl_append, List.take_append_drop]
theorem nIv_pos (ms : List Mp) (g e : Nat) (he : 0 < e) (hm : 0 < ms.length) : 0 < nIv ms g e := ivs_pos _ g (by rw [List.length_take]; omega)
theorem nIv_le {ms : List Mp} (h : Eps ms) (g e : Nat) : nIv ms g e ≤ (ivs ms g).length := by
  obtain ⟨r, h1, _⟩ := ivs_split h g e
  unfold nIv; rw [h1]; simp
theorem nIv_all (ms : List Mp) (g e : Nat) (he : ms.length ≤ e) : nIv ms g e = (ivs ms g).length := by
  unfold nIv; rw [List.take_of_length_le he]
/-- one epoch more: e maps were told of, the next one is m -/
theorem cut_step {ms : List Mp} (h : Eps ms) (g e : Nat) (m : Mp) (hm : ms[e]? = some m) :
    ∃ t t', (ivs ms g)[nIv ms g e - 1]? = some t ∧ (ivs ms g)[nIv ms g (e + 1) - 1]? = some t' ∧ t'.2 = acting m g ∧
      ((nIv ms g (e + 1) - 1 = nIv ms g e - 1 ∧ ∀ u, (ivs ms g)[nIv ms g e - 1 + 1]? = some u → u.1 ≠ ((e + 1 : Nat) : Int)) ∨
       (nIv ms g (e + 1) - 1 = nIv ms g e - 1 + 1 ∧ t'.1 = ((e + 1 : Nat) : Int) ∧ t'.2 ≠ t.2)) := by
  have hlt : e < ms.length := by
    rcases Nat.lt_or_ge e ms.length with h | h
    · exact h
    · rw [List.getElem?_eq_none h] at hm; simp at hm
  have hep := h e m hm
  obtain ⟨r0, s0, q0⟩ := ivs_split h g e
  obtain ⟨r1, s1, q1⟩ := ivs_split h g (e + 1)
  have hst : ivs (ms.take (e + 1)) g = ivStep g (ivs (ms.take e) g) m := by
    rw [List.take_add_one, hm, Option.toList_some, ivs_snoc]
  have beyond : ∀ j u, nIv ms g (e + 1) ≤ j → (ivs ms g)[j]? = some u → u.1 ≠ ((e + 1 : Nat) : Int) := by
    intro j u hj hu
    rw [s1, List.getElem?_append_right hj] at hu
    have := q1 u (List.mem_of_getElem? hu)
    omega
  rcases Nat.eq_zero_or_pos e with h0 | h0
  · subst h0
    have h1 : ivs (ms.take (0 + 1)) g = [(m.ep, acting m g)] := by rw [hst]; simp [ivs, ivStep]
    have n1 : nIv ms g (0 + 1) = 1 := by unfold nIv; rw [h1]; rfl
    have n0 : nIv ms g 0 = 0 := by unfold nIv; simp [ivs]
    have hv : (ivs ms g)[0]? = some (m.ep, acting m g) := by rw [s1, h1]; rfl
    refine ⟨(m.ep, acting m g), (m.ep, acting m g), ?_, ?_, rfl, .inl ⟨?_, ?_⟩⟩
    · rw [n0]; exact hv
    · rw [n1]; exact hv
    · rw [n0, n1]
    · intro u hu; rw [n0] at hu; exact beyond 1 u (by rw [n1]; omega) hu
  · have hp := nIv_pos ms g e h0 (by omega)
    have hlast : ∃ t, (ivs (ms.take e) g).getLast? = some t ∧ (ivs ms g)[nIv ms g e - 1]? = some t := by
      obtain ⟨t, ht⟩ : ∃ t, (ivs (ms.take e) g).getLast? = some t := ⟨_, List.getLast?_eq_some_getLast (by intro c; unfold nIv at hp; rw [c] at hp; simp at hp)⟩
      refine ⟨t, ht, ?_⟩
      rw [List.getLast?_eq_getElem?] at ht
      rw [s0, List.getElem?_append_left (by unfold nIv at hp ⊢; omega)]
      exact ht
    obtain ⟨t, ht, hv⟩ := hlast
    by_cases hc : t.2 = acting m g
    · have h1 : ivs (ms.take (e + 1)) g = ivs (ms.take e) g := by rw [hst]; unfold ivStep; rw [if_pos (by rw [ht]; simp [hc])]
      have n1 : nIv ms g (e + 1) = nIv ms g e := by unfold nIv; rw [h1]
      refine ⟨t, t, hv, by rw [n1]; exact hv, hc, .inl ⟨by rw [n1], fun u hu => beyond _ u (by rw [n1]; omega) hu⟩⟩
    · have h1 : ivs (ms.take (e + 1)) g = ivs (ms.take e) g ++ [(m.ep, acting m g)] := by rw [hst]; unfold ivStep; rw [if_neg (by rw [ht]; simp [hc])]
      have n1 : nIv ms g (e + 1) = nIv ms g e + 1 := by unfold nIv; rw [h1]; simp
      have hv1 : (ivs ms g)[nIv ms g e]? = some (m.ep, acting m g) := by
        rw [s1, List.getElem?_append_left (by rw [h1]; unfold nIv; simp), h1]
        unfold nIv; simp
      refine ⟨t, (m.ep, acting m g), hv, by rw [n1, Nat.add_sub_cancel]; exact hv1, rfl, .inr ⟨by rw [n1]; omega, hep, fun c => hc c.symm⟩⟩
theorem ivs_zero {ms : List Mp} (h : Eps ms) (g : Nat) (hm : 0 < ms.length) : ∃ t, (ivs ms g)[0]? = some t ∧ t.1 = 1 := by
  obtain ⟨m, hm⟩ : ∃ m, ms[0]? = some m := ⟨_, List.getElem?_eq_getElem hm⟩
  obtain ⟨t, t', h1, h2, h3, h4⟩ := cut_step h g 0 m hm
  obtain ⟨r1, s1, q1⟩ := ivs_split h g (0 + 1)
  have h1 : ivs (ms.take (0 + 1)) g = [(m.ep, acting m g)] := by
    rw [List.take_add_one, hm, Option.toList_some, ivs_snoc]; simp [ivs, ivStep]
  exact ⟨(m.ep, acting m g), by rw [s1, h1]; rfl, h 0 m hm⟩
end Go.Proofs.Ytmkpljbkmkbnjaa.Sp
