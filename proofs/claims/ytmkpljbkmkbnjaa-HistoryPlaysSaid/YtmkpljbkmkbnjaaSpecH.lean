/-
  PLAIN DEFINITIONS on histories: the intervals of a row of maps.
-/
import Derived.Test.YtmkpljbkmkbnjaaSpec
namespace Go.Proofs.Ytmkpljbkmkbnjaa.Sp

/-- one more map: a group's intervals behind it -/
def ivStep (g : Nat) (acc : List (Int × List Nat)) (m : Mp) : List (Int × List Nat) :=
  if (acc.getLast?.map (·.2)) = some (acting m g) then acc else acc ++ [(m.ep, acting m g)]
def ivs (ms : List Mp) (g : Nat) : List (Int × List Nat) := ms.foldl (ivStep g) []
theorem ivs_snoc (ms : List Mp) (m : Mp) (g : Nat) : ivs (ms ++ [m]) g = ivStep g (ivs ms g) m := by simp [ivs]
theorem ivStep_len (g : Nat) (acc : List (Int × List Nat)) (m : Mp) : (ivStep g acc m).length ≤ acc.length + 1 := by
  unfold ivStep; split <;> simp
theorem ivStep_pos (g : Nat) (acc : List (Int × List Nat)) (m : Mp) : 0 < (ivStep g acc m).length := by
  unfold ivStep
  split
  · rename_i h
    cases acc with
    | nil => simp at h
    | cons x r => simp
  · simp
theorem ivs_len (ms : List Mp) (g : Nat) : (ivs ms g).length ≤ ms.length := by
  suffices h : ∀ (l : List Mp) (acc : List (Int × List Nat)), (l.foldl (ivStep g) acc).length ≤ acc.length + l.length by
    have := h ms []; simpa [ivs] using this
  intro l
  induction l with
  | nil => intro acc; simp
  | cons m r ih =>
    intro acc
    have h1 := ih (ivStep g acc m)
    have h2 := ivStep_len g acc m
    simp only [List.foldl_cons, List.length_cons]
    omega
theorem ivs_pos (ms : List Mp) (g : Nat) (h : 0 < ms.length) : 0 < (ivs ms g).length := by
  obtain ⟨r, m, rfl⟩ : ∃ r m, ms = r ++ [m] := by
    rcases List.eq_nil_or_concat ms with h0 | ⟨r, m, h0⟩
    · subst h0; simp at h
    · exact ⟨r, m, by simpa using h0⟩
  rw [ivs_snoc]; exact ivStep_pos _ _ _

def zeroMp : Mp := ⟨0, ⟨false, 0, 0⟩, ⟨false, 0, 0⟩, ⟨false, 0, 0⟩, ⟨false, 0, 0⟩, ⟨false, 0, 0⟩⟩
def zeroInc : Inc := ⟨0, 0, 0⟩
end Go.Proofs.Ytmkpljbkmkbnjaa.Sp
