/-
  THE WALK of maps.Apply where it makes the next map: all kinds.
-/
import Derived.Test.YtmkpljbkmkbnjaaApplyU
import Derived.Test.YtmkpljbkmkbnjaaApplyD
import Derived.Test.YtmkpljbkmkbnjaaApplyW
namespace Go.Proofs.Ytmkpljbkmkbnjaa
open Go.RowKit
set_option linter.unusedVariables false
set_option linter.unusedSimpArgs false

theorem apply_yes (m : Sp.Mp) (x : Sp.Inc) (w : World) (h : Sp.okApply m x = true) (hx : IncOk x) : Calls Try.prog 44 #[mpV m, incV x] w (ApplyYes (Sp.apply m x) w) := by
  obtain ⟨k, o, n⟩ := x
  obtain ⟨k0, k1, o0, o1⟩ := hx
  simp only at k0 k1 o0 o1
  have hk : Sp.isMap m = true ∧ Sp.isInc ⟨k, o, n⟩ = true ∧ m.ep ≠ 60 := by
    simp only [Sp.okApply, Bool.and_eq_true, decide_eq_true_eq] at h; exact ⟨h.1.1, h.1.2, h.2⟩
  obtain ⟨h1, h2, h3⟩ := hk
  have he : 0 ≤ m.ep ∧ m.ep ≤ 60 := by
    have := h1
    simp only [Sp.isMap, Bool.and_eq_true, decide_eq_true_eq] at this; omega
  have hc : (k = 1 ∨ k = 2 ∨ k = 3) ∧ o < 5 ∨ k = 4 ∧ o = 0 := by
    have := h2
    simp only [Sp.isInc] at this
    split at this
    · simp only [Bool.and_eq_true, decide_eq_true_eq] at this; omega
    · split at this
      · simp only [Bool.and_eq_true, decide_eq_true_eq] at this; omega
      · simp only [Bool.and_eq_true, decide_eq_true_eq] at this; omega
  rcases hc with ⟨hk, ho⟩ | ⟨rfl, rfl⟩
  · have ho' : o = 0 ∨ o = 1 ∨ o = 2 ∨ o = 3 ∨ o = 4 := by omega
    rcases hk with rfl | rfl | rfl
    · rcases ho' with rfl | rfl | rfl | rfl | rfl
      · exact apply_1_0 m n w h1 h2 h3 he
      · exact apply_1_1 m n w h1 h2 h3 he
      · exact apply_1_2 m n w h1 h2 h3 he
      · exact apply_1_3 m n w h1 h2 h3 he
      · exact apply_1_4 m n w h1 h2 h3 he
    · rcases ho' with rfl | rfl | rfl | rfl | rfl
      · exact apply_2_0 m n w h1 h2 h3 he
      · exact apply_2_1 m n w h1 h2 h3 he
      · exact apply_2_2 m n w h1 h2 h3 he
      · exact apply_2_3 m n w h1 h2 h3 he
      · exact apply_2_4 m n w h1 h2 h3 he
    · rcases ho' with rfl | rfl | rfl | rfl | rfl
      · exact apply_3_0 m n w h1 h2 h3 he
      · exact apply_3_1 m n w h1 h2 h3 he
      · exact apply_3_2 m n w h1 h2 h3 he
      · exact apply_3_3 m n w h1 h2 h3 he
      · exact apply_3_4 m n w h1 h2 h3 he
  · exact apply_4_0 m n w h1 h2 h3 he
end Go.Proofs.Ytmkpljbkmkbnjaa
