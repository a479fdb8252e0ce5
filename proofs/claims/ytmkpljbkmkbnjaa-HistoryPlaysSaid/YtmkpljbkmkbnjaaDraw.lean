/-
  THE WALKS of straw.Straw, straw.Draw, paddockref2.Straw, paddockref2.Draw.
-/
import Derived.Test.YtmkpljbkmkbnjaaStraw
namespace Go.Proofs.Ytmkpljbkmkbnjaa
open Go.RowKit
set_option linter.unusedVariables false
set_option linter.unusedSimpArgs false

theorem clampW_bd (wt : Int) : 1 ≤ Sp.clampW wt ∧ Sp.clampW wt ≤ 16 := by unfold Sp.clampW; split <;> (try split) <;> omega
theorem clampW_eq (wt : Int) : min (max wt 1) 16 = Sp.clampW wt := by unfold Sp.clampW; split <;> (try split) <;> omega
theorem clampW_eq' (wt : Int) : max 1 (min wt 16) = Sp.clampW wt := by unfold Sp.clampW; split <;> (try split) <;> omega
theorem log_bd (u : Nat) (h1 : 1 ≤ u) (h2 : u ≤ 65536) : Sp.log u ≤ 1114112 := by
  have h := log2_lt u 16 h1 (by omega)
  have := literate_bits 16 (u * 2 ^ (31 - Nat.log2 u), 0) rfl
  unfold Sp.log
  omega
theorem quo_bd (x y : Int) (h1 : -1000000000000 ≤ x) (h2 : x ≤ 1000000000000) (hy : 1 ≤ y) : -1000000000000 ≤ x.tdiv y ∧ x.tdiv y ≤ 1000000000000 := by
  rw [tdiv_eq_if]
  split
  · rename_i hx; have := IntWalk.tdiv_le x y hx hy; omega
  · rename_i hx; have := IntWalk.tdiv_le (-x) y (by omega) hy; omega

theorem straw_any (h : Nat) (hh : h < 4294967296) (wt : Int) (w : World) :
    Calls Try.prog 114 #[.int .u32 h, .int .i64 wt] w fun e w' => e = .returned (.int .i64 (Sp.straw h wt)) ∧ Upd Nix w w' := by
  obtain ⟨c, hc, HC⟩ : ∃ c : Int, min (max wt 1) 16 = c ∧ Hid (c = Sp.clampW wt) := ⟨_, clampW_eq wt, rfl⟩
  have hc1 : 1 ≤ c ∧ c ≤ 16 := by rw [HC.out]; exact clampW_bd wt
  obtain ⟨hc1, hc2⟩ := hc1
  obtain ⟨u, hu, HU⟩ : ∃ u : Nat, (h : Int) % 65536 + 1 = u ∧ Hid (u = h % 65536 + 1) := ⟨h % 65536 + 1, by omega, rfl⟩
  have hu1 : 1 ≤ u ∧ u ≤ 65536 := by have := HU.out; omega
  obtain ⟨l, hl, HLB⟩ : ∃ l, l = Sp.log u ∧ l ≤ 1114112 := ⟨_, rfl, log_bd u hu1.1 hu1.2⟩
  have hlog := log_any u hu1.1 hu1.2 w
  unfold LogPost at hlog
  rw [← hl] at hlog
  have HLG := hid hlog; have HL := hid hl
  clear hlog hl
  obtain ⟨q, hq⟩ : ∃ q : Int, q = ((1048576 - (l : Int)) * 4096).tdiv c := ⟨_, rfl⟩
  have hqb : -1000000000000 ≤ q ∧ q ≤ 1000000000000 := by rw [hq]; exact quo_bd _ _ (by omega) (by omega) hc1
  have hq' : ((1048576 - (l : Int)) * 4096).tdiv c = q := hq.symm
  have HQ := hid hq
  clear hq hu1
  obtain ⟨hq1, hq2⟩ := hqb
  go_enter Try.func114, Try.ntmps114
  go_wp2_with fail
  refine HLG.out.mono ?_
  rintro e w' ⟨rfl, hup⟩
  have HUP := hid hup
  clear hup
  go_wp2_with fail
  go_ret
  refine ⟨ret_eq ?_, HUP.out⟩
  unfold Sp.straw
  rw [HQ.out, HL.out, HC.out, HU.out]

theorem rstraw_any (h : Nat) (hh : h < 4294967296) (wt : Int) (w : World) :
    Calls Try.prog 116 #[.int .u32 h, .int .i64 wt] w fun e w' => e = .returned (.int .i64 (Sp.straw h wt)) ∧ w = w' := by
  obtain ⟨c, hc, HC⟩ : ∃ c : Int, max 1 (min wt 16) = c ∧ Hid (c = Sp.clampW wt) := ⟨_, clampW_eq' wt, rfl⟩
  have hc1 : 1 ≤ c ∧ c ≤ 16 := by rw [HC.out]; exact clampW_bd wt
  obtain ⟨hc1, hc2⟩ := hc1
  obtain ⟨u, hu, HU⟩ : ∃ u : Nat, (h : Int) % 65536 + 1 = u ∧ Hid (u = h % 65536 + 1) := ⟨h % 65536 + 1, by omega, rfl⟩
  have hu1 : 1 ≤ u ∧ u ≤ 65536 := by have := HU.out; omega
  obtain ⟨l, hl, HLB⟩ : ∃ l, l = Sp.log u ∧ l ≤ 1114112 := ⟨_, rfl, log_bd u hu1.1 hu1.2⟩
  have hlog := rlog_any u hu1.1 hu1.2 w
  rw [← hl] at hlog
  have HLG := hid hlog; have HL := hid hl
  clear hlog hl
  obtain ⟨q, hq⟩ : ∃ q : Int, q = ((1048576 - (l : Int)) * 4096).tdiv c := ⟨_, rfl⟩
  have hqb : -1000000000000 ≤ q ∧ q ≤ 1000000000000 := by rw [hq]; exact quo_bd _ _ (by omega) (by omega) hc1
  have hq' : ((1048576 - (l : Int)) * 4096).tdiv c = q := hq.symm
  have HQ := hid hq
  clear hq hu1
  obtain ⟨hq1, hq2⟩ := hqb
  go_enter Try.func116, Try.ntmps116
  go_wp2_with fail
  refine HLG.out.mono ?_
  rintro e w' ⟨rfl, rfl⟩
  go_wp2_with fail
  go_ret
  refine ⟨ret_eq ?_, rfl⟩
  unfold Sp.straw
  rw [HQ.out, HL.out, HC.out, HU.out]

theorem draw_any (g o t : Nat) (hg : g < 256) (ho : o < 1000) (ht : t < 1000) (wt : Int) (w : World) :
    Calls Try.prog 104 #[.int .u8 g, .int .i64 o, .int .i64 t, .int .i64 wt] w fun e w' => e = .returned (.int .i64 (Sp.draw g o t wt)) ∧ Upd Nix w w' := by
  have HH := hid (show Sp.hash g o t < 4294967296 from Nat.mod_lt _ (by omega))
  go_enter Try.func104, Try.ntmps104
  go_wp2_with fail
  refine (hash_any g o t (by omega) (by omega) (by omega) _).mono ?_
  rintro e w' ⟨rfl, rfl⟩
  go_wp2_with fail
  refine (straw_any _ HH.out wt _).mono ?_
  rintro e w' ⟨rfl, hup⟩
  have HUP := hid hup
  clear hup
  go_wp2_with fail
  go_ret
  exact ⟨rfl, HUP.out⟩
theorem rdraw_any (g o t : Nat) (hg : g < 256) (ho : o < 1000) (ht : t < 1000) (wt : Int) (w : World) :
    Calls Try.prog 107 #[.int .u8 g, .int .i64 o, .int .i64 t, .int .i64 wt] w fun e w' => e = .returned (.int .i64 (Sp.draw g o t wt)) ∧ w = w' := by
  have HH := hid (show Sp.hash g o t < 4294967296 from Nat.mod_lt _ (by omega))
  go_enter Try.func107, Try.ntmps107
  go_wp2_with fail
  refine (rhash_any g o t (by omega) (by omega) (by omega) _).mono ?_
  rintro e w' ⟨rfl, rfl⟩
  go_wp2_with fail
  refine (rstraw_any _ HH.out wt _).mono ?_
  rintro e w' ⟨rfl, rfl⟩
  go_wp2_with fail
  go_ret
  exact ⟨rfl, rfl⟩
end Go.Proofs.Ytmkpljbkmkbnjaa
