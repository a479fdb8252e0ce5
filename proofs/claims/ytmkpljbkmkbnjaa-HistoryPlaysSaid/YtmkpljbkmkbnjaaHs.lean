/-
  WHAT THE CALLS OF A HISTORY ANSWER, said of a history that holds the increments is.
-/
import Derived.Test.YtmkpljbkmkbnjaaAdd
import Derived.Test.YtmkpljbkmkbnjaaTell
namespace Go.Proofs.Ytmkpljbkmkbnjaa
open Go.RowKit
set_option linter.unusedVariables false
set_option linter.unusedSimpArgs false

theorem Hs.maps {S : Nat → Prop} {w : World} {h : Nat} {is : List Sp.Inc} (H : Hs w h is S) : (Sp.mapsOf is).length = is.length + 1 ∧ is.length ≤ 59 := ⟨Sp.mapsOf_len is, H.chain.2⟩
def NewS (w : World) (e : Ending) (w' : World) : Prop := ∃ h S, e = .returned (.pointer (some ⟨h, 0, none⟩)) ∧ Hs w' h [] S ∧ Upd Nix w w' ∧ ∀ b, S b → w.heap.size ≤ b
theorem new_s (w : World) : Calls Try.prog 16 #[] w (NewS w) := by
  refine (new_any w).mono ?_
  rintro e w' ⟨h, a, i, v, rfl, hc, hu, hf⟩
  exact ⟨h, _, rfl, ⟨a, i, v, hc, Sp.Chain.nil, rfl⟩, hu, hf⟩
theorem last_s {S : Nat → Prop} {w : World} {h : Nat} {is : List Sp.Inc} (H : Hs w h is S) : Calls Try.prog 18 #[.pointer (some ⟨h, 0, none⟩)] w fun e w' => e = .returned (.int .u32 ((is.length + 1 : Nat) : Int)) ∧ w = w' := by
  have hm := H.maps
  obtain ⟨a, i, v, hc, hch, rfl⟩ := H
  have := last_any h a i v _ is w hc
  rw [hm.1] at this
  exact this
/-- an epoch's map -/
def mapAt (is : List Sp.Inc) (x : Nat) : Sp.Mp := if 1 ≤ x ∧ x ≤ is.length + 1 then Sp.lastMap (is.take (x - 1)) else Sp.zeroMp
theorem mapAt_eq (is : List Sp.Inc) (x : Nat) : mapOf (Sp.mapsOf is) x = mapAt is x := by
  unfold mapOf mapAt
  rw [Sp.mapsOf_len]
  by_cases h : 1 ≤ x ∧ x ≤ is.length + 1
  · rw [if_pos (by omega), if_pos h, Sp.mapsOf_get is _ (by omega)]
  · rw [if_neg (by omega), if_neg h]
def MapS (is : List Sp.Inc) (x : Nat) (w : World) (e : Ending) (w' : World) : Prop :=
  e = .returned (.tuple #[mpV (mapAt is x), .bool (decide (1 ≤ x ∧ x ≤ is.length + 1))]) ∧ Upd Nix w w'
theorem map_s {S : Nat → Prop} {w : World} {h : Nat} {is : List Sp.Inc} (H : Hs w h is S) (x : Nat) : Calls Try.prog 20 #[.pointer (some ⟨h, 0, none⟩), .int .u32 (x : Int)] w (MapS is x w) := by
  have hm := H.maps
  obtain ⟨a, i, v, hc, hch, rfl⟩ := H
  refine (map_any h a i v _ is x w hc).mono ?_
  rintro e w' ⟨rfl, hu⟩
  refine ⟨?_, hu⟩
  rw [mapAt_eq, hm.1, show decide (1 ≤ x ∧ x < is.length + 1 + 1) = decide (1 ≤ x ∧ x ≤ is.length + 1) from decide_eq_decide.2 (by omega)]
def IncS (is : List Sp.Inc) (x : Nat) (w : World) (e : Ending) (w' : World) : Prop :=
  e = .returned (.tuple #[incV (incOf is x), .bool (decide (2 ≤ x ∧ x < is.length + 2))]) ∧ Upd Nix w w'
theorem inc_s {S : Nat → Prop} {w : World} {h : Nat} {is : List Sp.Inc} (H : Hs w h is S) (x : Nat) : Calls Try.prog 27 #[.pointer (some ⟨h, 0, none⟩), .int .u32 (x : Int)] w (IncS is x w) := by
  obtain ⟨a, i, v, hc, hch, rfl⟩ := H
  exact inc_any h a i v _ is x w hc
/-- a group's intervals -/
def ivsOf (is : List Sp.Inc) (g : Nat) : List (Int × List Nat) := ivsG (Sp.mapsOf is) g
def lastOf (is : List Sp.Inc) (g : Nat) : Int × List Nat := lastIv (Sp.mapsOf is) g
theorem since_s {S : Nat → Prop} {w : World} {h : Nat} {is : List Sp.Inc} (H : Hs w h is S) (g : Nat) (hg : g < 256) : Calls Try.prog 23 #[.pointer (some ⟨h, 0, none⟩), .int .u8 (g : Int)] w fun e w' => e = .returned (.int .u32 (lastOf is g).1) ∧ Upd Nix w w' := by
  have hm := H.maps
  obtain ⟨a, i, v, hc, hch, rfl⟩ := H
  exact since_any h a i v _ is g hg w hc (by omega) (by omega)
def HActS (is : List Sp.Inc) (g : Nat) (w : World) (e : Ending) (w' : World) : Prop :=
  ∃ v, e = .returned v ∧ RowN w' w.heap.size v (lastOf is g).2 ∧ Upd Nix w w'
theorem hacting_s {S : Nat → Prop} {w : World} {h : Nat} {is : List Sp.Inc} (H : Hs w h is S) (g : Nat) (hg : g < 256) : Calls Try.prog 25 #[.pointer (some ⟨h, 0, none⟩), .int .u8 (g : Int)] w (HActS is g w) := by
  have hm := H.maps
  obtain ⟨a, i, v, hc, hch, rfl⟩ := H
  exact hacting_any h a i v _ is g hg w hc (by omega) (by omega)
def IvsS (is : List Sp.Inc) (g : Nat) (w : World) (e : Ending) (w' : World) : Prop :=
  ∃ v', e = .returned v' ∧ IvAt w' v' (ivsOf is g) ∧ Upd Nix w w'
theorem intervals_s {S : Nat → Prop} {w : World} {h : Nat} {is : List Sp.Inc} (H : Hs w h is S) (g : Nat) (hg : g < 256) : Calls Try.prog 19 #[.pointer (some ⟨h, 0, none⟩), .int .u8 (g : Int)] w (IvsS is g w) := by
  have hm := H.maps
  obtain ⟨a, i, v, hc, hch, rfl⟩ := H
  exact intervals_any h a i v _ is g hg w hc (by omega) (by omega)
end Go.Proofs.Ytmkpljbkmkbnjaa
