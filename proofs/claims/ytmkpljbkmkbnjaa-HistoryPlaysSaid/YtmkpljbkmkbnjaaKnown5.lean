/-
  THE WALK of paddocklaw5.known.
-/
import Derived.Test.YtmkpljbkmkbnjaaHs
namespace Go.Proofs.Ytmkpljbkmkbnjaa
open Go.RowKit
set_option linter.unusedVariables false
set_option linter.unusedSimpArgs false

def inone : Sp.Inc := ⟨4, 0, 0⟩
theorem inone_ok : IncOk inone := ⟨by decide, by decide, by decide, by decide⟩
theorem add_k1 : Sp.add [] 3 inone = (50, []) := by decide
theorem add_k2 : Sp.add [] 1 inone = (51, []) := by decide
theorem add_k3 : Sp.add [] 2 inone = (0, [inone]) := by decide
theorem ivs_k : ivsOf [inone] 0 = [(1, [4, 3, 2])] := by decide +kernel
theorem since_k : (lastOf [inone] 0).1 = 1 := by decide +kernel
theorem since_k4 : (lastOf [inone] 4).1 = 0 := by decide +kernel
theorem map_k : (mapAt [inone] 2).ep = 2 := by decide +kernel
def KnownPost (w : World) (e : Ending) (w' : World) : Prop := e = .returned (.bool true) ∧ Upd Nix w w'
theorem addS_next {h : Nat} {is : List Sp.Inc} {S : Nat → Prop} {e : Nat} {x : Sp.Inc} {w0 w w' : World} {en : Ending} (hp : AddPost h is S e x w en w') (hu : Upd Nix w0 w) (hS : ∀ b, S b → w0.heap.size ≤ b) :
    en = .returned (.int .i64 (Sp.add is e x).1) ∧ ∃ S', Hs w' h (Sp.add is e x).2 S' ∧ Upd Nix w0 w' ∧ ∀ b, S' b → w0.heap.size ≤ b := by
  obtain ⟨h1, S', h2, h3, h4⟩ := hp
  refine ⟨h1, S', h2, hu.trans' h3 (fun b hb f => ?_), fun b hb => ?_⟩
  · have := hS b f; omega
  · rcases h4 b hb with h | h
    · exact hS b h
    · have := hu.size; omega
set_option maxRecDepth 10000 in
theorem known5_any (w : World) : Calls Try.prog 15 #[] w (KnownPost w) := by
  go_enter Try.func15, Try.ntmps15
  go_wp2_with fail
  refine (new_s _).mono ?_
  rintro e w1 ⟨h, S, rfl, hH, hu, hf⟩
  have HH := hid (And.intro hH (And.intro hu hf))
  have HL := hid (last_s hH)
  have HA := hid (add_any h [] S 3 inone w1 hH (by omega) inone_ok)
  clear hH hu hf
  go_wp2_with fail
  refine HL.out.mono ?_
  rintro e w' ⟨rfl, rfl⟩
  clear HL
  go_wp2_with fail
  refine HA.out.mono ?_
  rintro e w2 hp
  obtain ⟨rfl, S2, hH, hu, hf⟩ := addS_next hp HH.out.2.1 HH.out.2.2
  rw [add_k1] at *
  clear HA HH hp
  have HH := hid (And.intro hH (And.intro hu hf))
  have HA := hid (add_any h [] S2 1 inone w2 hH (by omega) inone_ok)
  clear hH hu hf
  go_wp2_with fail
  refine HA.out.mono ?_
  rintro e w3 hp
  obtain ⟨rfl, S3, hH, hu, hf⟩ := addS_next hp HH.out.2.1 HH.out.2.2
  rw [add_k2] at *
  clear HA HH hp
  have HH := hid (And.intro hH (And.intro hu hf))
  have HA := hid (add_any h [] S3 2 inone w3 hH (by omega) inone_ok)
  clear hH hu hf
  go_wp2_with fail
  refine HA.out.mono ?_
  rintro e w4 hp
  obtain ⟨rfl, S4, hH, hu, hf⟩ := addS_next hp HH.out.2.1 HH.out.2.2
  rw [add_k3] at *
  clear HA HH hp
  have HH := hid (And.intro hH (And.intro hu hf))
  have HA := hid (intervals_s hH 0 (by omega))
  clear hH hu hf
  go_wp2_with fail
  refine HA.out.mono ?_
  rintro e w5 ⟨vi, rfl, hiv, hu5⟩
  rw [ivs_k] at hiv
  have hlast := hiv.last (s := 1) (o := [4, 3, 2]) rfl
  obtain ⟨bi, ci, av, rfl, _, ci0, _, _⟩ := hlast
  have HH5 := hid (And.intro (HH.out.1.keep0 hu5) (And.intro (HH.out.2.1.trans hu5) HH.out.2.2))
  have HI := hid hiv
  have HM := hid (map_s HH5.out.1 2)
  clear hiv hu5 HA HH
  go_wp2_with fail
  refine HM.out.mono ?_
  rintro e w6 ⟨rfl, hu6⟩
  have HH6 := hid (And.intro (HH5.out.1.keep0 hu6) (And.intro (HH5.out.2.1.trans hu6) HH5.out.2.2))
  have HI6 := hid (HI.out.keep hu6 (fun _ _ f => f.elim))
  have hep : (mapAt [inone] 2).ep = 2 := map_k
  rw [show decide (1 ≤ 2 ∧ 2 ≤ [inone].length + 1) = true from rfl]
  generalize mapAt [inone] 2 = m2 at *
  have HEP := hid hep
  clear HM HH5 HI hu6 hep
  go_upto_region 6 with ((with_reducible refine at_store 57 (.tmp 3) (.tmp 38) ?_); refine wpList_store_row rfl 57 (.tmp 3) (.tmp 38) rfl w6.heap.size rfl (mpArr m2) rfl 57 zeroArr (alloc_new w6 _) rfl size57 rfl ?_)
  change Code.wp _ _ _ _ ((w6.alloc (.cells zeroArr 57)).setRow w6.heap.size (mpArr m2))
  have hu7 : Upd Nix w6 ((w6.alloc (.cells zeroArr 57)).setRow w6.heap.size (mpArr m2)) := ((Upd.refl _ _).alloc _).setRow (.inr (Nat.le_refl _)) _
  have HB7 := hid (setRow_new (mpArr m2) (alloc_new w6 (.cells zeroArr 57)))
  have HH7 := hid (And.intro (HH6.out.1.keep0 hu7) (And.intro (HH6.out.2.1.trans hu7) HH6.out.2.2))
  have HI7 := hid (HI6.out.keep hu7 (fun _ _ f => f.elim))
  clear hu7 HH6 HI6
  generalize (w6.alloc (.cells zeroArr 57)).setRow w6.heap.size (mpArr m2) = w7 at *
  generalize w6.heap.size = b3 at *
  have HM := hid (map_s HH7.out.1 3)
  go_wp2_with fail
  refine HM.out.mono ?_
  rintro e w8 ⟨rfl, hu8⟩
  have HH8 := hid (And.intro (HH7.out.1.keep0 hu8) (And.intro (HH7.out.2.1.trans hu8) HH7.out.2.2))
  have HI8 := hid (HI7.out.keep hu8 (fun _ _ f => f.elim))
  have HB8 := hid (hu8.keep HB7.out (fun f => f))
  rw [show decide (1 ≤ 3 ∧ 3 ≤ [inone].length + 1) = false from rfl]
  generalize mapAt [inone] 3 = m3 at *
  clear HM HH7 HI7 HB7 hu8
  go_upto_region 7 with ((with_reducible refine at_store 57 (.tmp 5) (.tmp 43) ?_); refine wpList_store_row rfl 57 (.tmp 5) (.tmp 43) rfl w8.heap.size rfl (mpArr m3) rfl 57 zeroArr (alloc_new w8 _) rfl size57 rfl ?_)
  change Code.wp _ _ _ _ ((w8.alloc (.cells zeroArr 57)).setRow w8.heap.size (mpArr m3))
  have hu9 : Upd Nix w8 ((w8.alloc (.cells zeroArr 57)).setRow w8.heap.size (mpArr m3)) := ((Upd.refl _ _).alloc _).setRow (.inr (Nat.le_refl _)) _
  have HH9 := hid (And.intro (HH8.out.1.keep0 hu9) (And.intro (HH8.out.2.1.trans hu9) HH8.out.2.2))
  have HI9 := hid (HI8.out.keep hu9 (fun _ _ f => f.elim))
  have HB9 := hid (hu9.keep HB8.out (fun f => f))
  clear HH8 HI8 HB8 hu9
  generalize (w8.alloc (.cells zeroArr 57)).setRow w8.heap.size (mpArr m3) = w9 at *
  have hlast := HI9.out.last (s := 1) (o := [4, 3, 2]) rfl
  obtain ⟨bi', ci', av', he, _, ci0', _, _⟩ := hlast
  simp only [Value.slice.injEq, Option.some.injEq, Addr.mk.injEq, and_true, true_and] at he
  obtain ⟨rfl, rfl⟩ := he
  have di0 : w9.cell? ⟨bi, 0, none⟩ = some (.int .u32 1) := ci0'
  have HS := hid (since_s HH9.out.1 0 (by omega))
  rw [since_k] at HS
  clear ci0 ci0'
  go_wp2_with fail
  refine HS.out.mono ?_
  rintro e w10 ⟨rfl, hu10⟩
  have HH10 := hid (And.intro (HH9.out.1.keep0 hu10) (And.intro (HH9.out.2.1.trans hu10) HH9.out.2.2))
  have HB10 := hid (hu10.keep HB9.out (fun f => f))
  clear HS HH9 HB9 HI9 hu10 di0
  have d3 : w10.cell? ⟨b3, 0, none⟩ = some (.int .u32 2) := by rw [cell_blk HB10.out, ← HEP.out]; rfl
  have HS := hid (since_s HH10.out.1 4 (by omega))
  rw [since_k4] at HS
  go_wp2_with fail
  refine HS.out.mono ?_
  rintro e w11 ⟨rfl, hu11⟩
  have HU := hid (HH10.out.2.1.trans hu11)
  clear HS HH10 HB10 hu11
  go_wp2_with fail
  go_ret
  exact ⟨rfl, HU.out⟩
end Go.Proofs.Ytmkpljbkmkbnjaa
