/-
  THE WALK of paddocklaw5.HistoryFull.
-/
import Derived.Test.YtmkpljbkmkbnjaaKnown5
import Derived.Deep.RegionHeld3
namespace Go.Proofs.Ytmkpljbkmkbnjaa
open Go.RowKit
set_option linter.unusedVariables false
set_option linter.unusedSimpArgs false

theorem full_bad {x : Sp.Inc} (h : Sp.isInc x = false) : (Sp.add [] 2 x).1 = 40 := by unfold Sp.add; rw [if_neg (by simp), if_neg (by simp), if_neg (by rw [h]; simp)]
theorem full_step {x : Sp.Inc} {k : Nat} (h : Sp.isInc x = true) (hk : k ≠ 59) : Sp.add (List.replicate k x) (k + 2) x = (0, List.replicate (k + 1) x) := by
  unfold Sp.add
  rw [List.length_replicate, if_neg (by omega), if_neg (by omega), if_pos ⟨h, hk⟩, List.replicate_succ']
theorem full_61 (x : Sp.Inc) : Sp.add (List.replicate 59 x) 61 x = (40, List.replicate 59 x) := by
  unfold Sp.add
  rw [List.length_replicate, if_neg (by omega), if_neg (by omega), if_neg (by omega)]
theorem full_60 (x : Sp.Inc) : Sp.add (List.replicate 59 x) 60 x = (51, List.replicate 59 x) := by
  unfold Sp.add
  rw [List.length_replicate, if_pos (by omega)]
/-- a history in the midst of a law: h's blocks are all new -/
def At (w0 w : World) (h : Nat) (is : List Sp.Inc) : Prop := ∃ S, Hs w h is S ∧ Upd Nix w0 w ∧ ∀ b, S b → w0.heap.size ≤ b
theorem At.keep0 {w0 w w' : World} {h : Nat} {is : List Sp.Inc} (H : At w0 w h is) (hu : Upd Nix w w') : At w0 w' h is := by
  obtain ⟨S, h1, h2, h3⟩ := H
  exact ⟨S, h1.keep0 hu, h2.trans hu, h3⟩
theorem At.upd {w0 w : World} {h : Nat} {is : List Sp.Inc} (H : At w0 w h is) : Upd Nix w0 w := by obtain ⟨S, h1, h2, h3⟩ := H; exact h2
def NewAt (w0 w : World) (e : Ending) (w' : World) : Prop := ∃ h, e = .returned (.pointer (some ⟨h, 0, none⟩)) ∧ At w0 w' h []
theorem new_at {w0 w : World} (hu : Upd Nix w0 w) : Calls Try.prog 16 #[] w (NewAt w0 w) := by
  refine (new_s w).mono ?_
  rintro e w' ⟨h, S, rfl, h1, h2, h3⟩
  exact ⟨h, rfl, S, h1, hu.trans h2, fun b hb => Nat.le_trans hu.size (h3 b hb)⟩
def AddAt (w0 : World) (h : Nat) (is : List Sp.Inc) (e : Nat) (x : Sp.Inc) (en : Ending) (w' : World) : Prop := en = .returned (.int .i64 (Sp.add is e x).1) ∧ At w0 w' h (Sp.add is e x).2
theorem add_at {w0 w : World} {h : Nat} {is : List Sp.Inc} (H : At w0 w h is) (e : Nat) (x : Sp.Inc) (he : e < 4294967296) (hx : IncOk x) :
    Calls Try.prog 17 #[.pointer (some ⟨h, 0, none⟩), .int .u32 (e : Int), incV x] w (AddAt w0 h is e x) := by
  obtain ⟨S, h1, h2, h3⟩ := H
  refine (add_any h is S e x w h1 he hx).mono ?_
  rintro en w' hp
  obtain ⟨rfl, S', k1, k2, k3⟩ := addS_next hp h2 h3
  exact ⟨rfl, S', k1, k2, k3⟩
theorem last_at {w0 w : World} {h : Nat} {is : List Sp.Inc} (H : At w0 w h is) : Calls Try.prog 18 #[.pointer (some ⟨h, 0, none⟩)] w fun e w' => e = .returned (.int .u32 ((is.length + 1 : Nat) : Int)) ∧ w = w' := by
  obtain ⟨S, h1, h2, h3⟩ := H
  exact last_s h1

set_option maxRecDepth 10000 in
theorem full_any (x : Sp.Inc) (hx : IncOk x) (w : World) : Calls Try.prog 5 #[incV x] w (KnownPost w) := by
  have hb1 : (w.alloc (.cells (incArr x) 50)).heap[w.heap.size]? = some (.cells (incArr x) 50 (0, 0)) := alloc_new w _
  have hu1 : Upd Nix w (w.alloc (.cells (incArr x) 50)) := (Upd.refl Nix w).alloc _
  have HX := hid hx; have HB1 := hid hb1; have HU1 := hid hu1
  clear hx hb1 hu1
  go_enter Try.func5, Try.ntmps5
  go_upto_region 1 with (fail)
  change Code.wp _ _ _ _ (w.alloc (.cells (incArr x) 50))
  generalize w.alloc (.cells (incArr x) 50) = w1 at *
  go_wp2_with fail
  refine (known5_any _).mono ?_
  rintro e w2 ⟨rfl, hu2⟩
  have HU2 := hid (HU1.out.trans hu2); have HB2 := hid (hu2.keep HB1.out (fun f => f))
  clear HU1 HB1 hu2
  have x0 : w2.cell? ⟨w.heap.size, 0, none⟩ = some (.int .u8 x.kind) := by rw [cell_blk HB2.out]; rfl
  have x1 : w2.cell? ⟨w.heap.size, 1, none⟩ = some (.int .u8 x.osd) := by rw [cell_blk HB2.out]; rfl
  have x2 : w2.cell? ⟨w.heap.size, 2, none⟩ = some (.int .i64 x.n) := by rw [cell_blk HB2.out]; rfl
  go_wp2_with fail
  refine (isInc_any x _).mono ?_
  rintro e w3 ⟨rfl, hu3⟩
  have HU3 := hid (HU2.out.trans hu3); have HB3 := hid (hu3.keep HB2.out (fun f => f))
  clear HU2 HB2 hu3 x0 x1 x2
  cases hi : Sp.isInc x
  · have HI := hid hi
    clear hi
    have hS : ∀ w', Upd Nix w3 w' → w'.cell? ⟨w.heap.size, 0, none⟩ = some (.int .u8 x.kind) ∧ w'.cell? ⟨w.heap.size, 1, none⟩ = some (.int .u8 x.osd) ∧ w'.cell? ⟨w.heap.size, 2, none⟩ = some (.int .i64 x.n) := by
      intro w' hu
      have hb := hu.keep HB3.out (fun f => f)
      exact ⟨by rw [cell_blk hb]; rfl, by rw [cell_blk hb]; rfl, by rw [cell_blk hb]; rfl⟩
    have HS := hid hS
    have hNA : ∀ w', Upd Nix w3 w' → Calls Try.prog 16 #[] w' (NewAt w3 w') := fun w' hu => new_at hu
    have HNA := hid hNA
    clear hS hNA
    go_upto_region 4 with (fail)
    go_cut [2] (fun r wx => r = .bool true ∧ Hid (Upd Nix w wx))
    case first =>
      go_region_held3 (fun w' => w'.cell? ⟨w.heap.size, 0, none⟩ = some (.int .u8 x.kind) ∧ w'.cell? ⟨w.heap.size, 1, none⟩ = some (.int .u8 x.osd) ∧ w'.cell? ⟨w.heap.size, 2, none⟩ = some (.int .i64 x.n))
        ((refine HS.out _ ?_; first
          | with_reducible exact ((Upd.refl Nix w3).drew)
          | with_reducible exact hat.out.upd
          | with_reducible exact hat2.out.upd))
        (first
          | (go_at_call 16; refine (HNA.out _ ((Upd.refl Nix w3).drew)).mono ?_; rintro e w4 ⟨h4, rfl, hat⟩; have hat := hid hat)
          | (go_at_call 17; refine (add_at hat.out 2 x (by omega) HX.out).mono ?_; rintro e w5 ⟨rfl, hat2⟩; have hat2 := hid hat2; rw [full_bad HI.out]))
      all_goals go_wp2
      all_goals go_meet
      all_goals exact ⟨rfl, HU3.out.trans hat2.out.upd⟩
    case rest =>
      obtain ⟨rfl, HC⟩ := hcut
      go_wp2_with fail
      go_ret
      exact ⟨rfl, HC.out⟩
  · have HI := hid hi
    clear hi
    have HNA := hid (new_at (w0 := w3) (Upd.refl Nix w3))
    go_wp2_with fail
    refine HNA.out.mono ?_
    rintro e w4 ⟨h, rfl, hat⟩
    have HAT := hid hat
    clear hat HNA
    go_wp2_with fail
    go_loopw [4] (fun j wr => ∃ k : Nat, k ≤ 59 ∧ j = .int .u32 ((k : Int) + 2) ∧ Hid (At w3 wr h (List.replicate k x))) (fun j _ => 61 - (intOf j).toNat)
    case atStart => exact ⟨0, by omega, rfl, HAT.out⟩
    case round =>
      obtain ⟨k, hk, rfl, HR⟩ := hrel
      clear HAT
      by_cases hlt : k < 59
      · have hki : (k : Int) + 2 ≤ 60 := by omega
        have hbr := HR.out.upd.keep HB3.out (fun f => f)
        have x0 : wr.cell? ⟨w.heap.size, 0, none⟩ = some (.int .u8 x.kind) := by rw [cell_blk hbr]; rfl
        have x1 : wr.cell? ⟨w.heap.size, 1, none⟩ = some (.int .u8 x.osd) := by rw [cell_blk hbr]; rfl
        have x2 : wr.cell? ⟨w.heap.size, 2, none⟩ = some (.int .i64 x.n) := by rw [cell_blk hbr]; rfl
        have ha := add_at HR.out (k + 2) x (by omega) HX.out
        rw [show ((k + 2 : Nat) : Int) = (k : Int) + 2 by simp] at ha
        have HA := hid ha
        clear hbr ha
        go_wp2_with fail
        refine HA.out.mono ?_
        rintro e w5 ⟨rfl, hat⟩
        rw [full_step HI.out (by omega)] at *
        have HAT := hid hat
        clear hat x0 x1 x2 HA
        go_wp2_with fail
        go_roundw
        case rel => exact ⟨k + 1, by omega, by go_num, HAT.out⟩
        case measure => simp [intOf]; omega
      · have : k = 59 := by omega
        subst this
        have HL := hid (last_at HR.out)
        have HA := hid (add_at HR.out 61 x (by omega) HX.out)
        have hbr := HR.out.upd.keep HB3.out (fun f => f)
        have x0 : wr.cell? ⟨w.heap.size, 0, none⟩ = some (.int .u8 x.kind) := by rw [cell_blk hbr]; rfl
        have x1 : wr.cell? ⟨w.heap.size, 1, none⟩ = some (.int .u8 x.osd) := by rw [cell_blk hbr]; rfl
        have x2 : wr.cell? ⟨w.heap.size, 2, none⟩ = some (.int .i64 x.n) := by rw [cell_blk hbr]; rfl
        clear hbr
        go_wp2_with fail
        refine HL.out.mono ?_
        rintro e w5 ⟨rfl, rfl⟩
        rw [List.length_replicate]
        go_wp2_with fail
        refine HA.out.mono ?_
        rintro e w6 ⟨rfl, hat⟩
        rw [full_61] at *
        have HB := hid (add_at hat 60 x (by omega) HX.out)
        have hbr := hat.upd.keep HB3.out (fun f => f)
        clear x0 x1 x2 hat HA HL
        have x0 : w6.cell? ⟨w.heap.size, 0, none⟩ = some (.int .u8 x.kind) := by rw [cell_blk hbr]; rfl
        have x1 : w6.cell? ⟨w.heap.size, 1, none⟩ = some (.int .u8 x.osd) := by rw [cell_blk hbr]; rfl
        have x2 : w6.cell? ⟨w.heap.size, 2, none⟩ = some (.int .i64 x.n) := by rw [cell_blk hbr]; rfl
        clear hbr
        go_wp2_with fail
        refine HB.out.mono ?_
        rintro e w7 ⟨rfl, hat⟩
        rw [full_60] at *
        have HL := hid (last_at hat)
        have HAT := hid hat
        clear hat HB x0 x1 x2
        go_wp2_with fail
        refine HL.out.mono ?_
        rintro e w8 ⟨rfl, rfl⟩
        rw [List.length_replicate]
        go_wp2_with fail
        go_ret
        exact ⟨rfl, HU3.out.trans HAT.out.upd⟩
end Go.Proofs.Ytmkpljbkmkbnjaa
