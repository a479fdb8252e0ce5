/-
  THE WALKS of paddockref3.Acting and of the reference's history: Last, Map, Add.
-/
import Derived.Test.YtmkpljbkmkbnjaaRef2
import Derived.Test.YtmkpljbkmkbnjaaHs
import Derived.Test.YtmkpljbkmkbnjaaFold
import Derived.Deep.AppendLies
import Derived.Deep.RegionHeld3
import Derived.IntWalk
namespace Go.Proofs.Ytmkpljbkmkbnjaa
open Go.RowKit
set_option linter.unusedVariables false
set_option linter.unusedSimpArgs false

theorem rpick_any (m : Sp.Mp) (g : Nat) (hg : g < 256) (w : World) (h1 : Sp.isMap m = true) : Calls Try.prog 98 #[mpV m, .int .u8 (g : Int)] w (PicksPost m g w) := by
  by_cases h4 : g < 4
  · exact rpick_yes m g w h1 h4
  · exact rpick_no m g hg w h1 h4
theorem filter_snoc (L : List Nat) (f : Nat → Bool) (k x : Nat) (h : L[k]? = some x) : (L.take (k + 1)).filter f = (L.take k).filter f ++ (if f x = true then [x] else []) := by
  rw [List.take_add_one, h, Option.toList_some, List.filter_append]
  congr 1
  cases hf : f x <;> simp [hf]
set_option maxRecDepth 10000 in
set_option maxHeartbeats 1000000 in
theorem racting_any (m : Sp.Mp) (g : Nat) (hg : g < 256) (w : World) (h1 : Sp.isMap m = true) : Calls Try.prog 80 #[mpV m, .int .u8 (g : Int)] w (ActPost m g w) := by
  have HPK := hid (fun w' => rpick_any m g hg w' h1)
  clear h1
  obtain ⟨i0, hi, hz0, hz1, hz2⟩ := info_parts info3
  have hb : (w.alloc (.cells (mpArr m) 57)).heap[w.heap.size]? = some (.cells (mpArr m) 57 (0, 0)) := alloc_new w _
  have hu : Upd Nix w (w.alloc (.cells (mpArr m) 57)) := (Upd.refl Nix w).alloc _
  have HB := hid hb; have HU := hid hu
  clear hb hu
  go_enter Try.func80, Try.ntmps80
  go_upto_region 1 with (fail)
  change Code.wp _ _ _ _ (w.alloc (.cells (mpArr m) 57))
  generalize w.alloc (.cells (mpArr m) 57) = w1 at *
  obtain ⟨p, hp⟩ : ∃ p, p = w.heap.size := ⟨_, rfl⟩
  have HPE := hid hp
  rw [← hp] at HB ⊢
  clear hp
  obtain ⟨j0, j1, j2, j3, j4, j5, j6, j7, j8, j9, j10, j11, j12, j13, j14, j15⟩ := mp_cells HB.out
  go_wp2_with fail
  refine (HPK.out _).mono ?_
  rintro e w2 ⟨v, rfl, hr, hu2, hl3, hl5⟩
  have HB2 := hid (hu2.keep HB.out (fun f => f))
  have HU2 := hid (HU.out.trans hu2)
  have hact : Sp.acting m g = (Sp.pick m g).filter (fun o => (m.osd o).up) := rfl
  have hlen : (Sp.acting m g).length ≤ (Sp.pick m g).length := List.length_filter_le _ _
  have hsub : ∀ o ∈ Sp.acting m g, o < 5 := fun o ho => hl5 o (List.mem_filter.1 ho).1
  have HEND := hid (And.intro (show (Sp.acting m g).length ≤ 3 by omega) hsub)
  have HACT := hid hact; have HR := hid (row_mono hr (Nat.zero_le _)); have HL5 := hid hl5
  clear hu2 HB HU j0 j1 j2 j3 j4 j5 j6 j7 j8 j9 j10 j11 j12 j13 j14 j15 hr hl5 hact hlen hsub HPK
  generalize Sp.pick m g = L at *
  obtain ⟨va, vc, rfl⟩ := row_nil HR.out
  go_wp2_with fail
  go_loopw [6, 7] (fun ov iv wr => ∃ k : Nat, k ≤ L.length ∧ iv = .int .i64 k ∧ Hid (RowN wr w2.heap.size ov ((L.take k).filter (fun o => (m.osd o).up)) ∧ Upd Nix w2 wr)) (fun _ iv _ => L.length + 1 - (intOf iv).toNat)
  case atStart => exact ⟨0, by omega, rfl, World.ownsRow_nil _ _ _ _, Upd.refl _ _⟩
  case round =>
    obtain ⟨k, hk, rfl, HW⟩ := hrel
    by_cases hlt : k < L.length
    · obtain ⟨x, hx⟩ : ∃ x, L[k]? = some x := ⟨_, List.getElem?_eq_getElem hlt⟩
      have hx5 : x < 5 := HL5.out x (List.mem_of_getElem? hx)
      have hrow := row_keep HR.out HW.out.2 (fun _ _ f => f)
      obtain ⟨g0, c0, hv, _, hg0, _, _, hcell⟩ := nats_row hrow (by omega)
      simp only [Value.slice.injEq, true_and] at hv
      obtain ⟨rfl, rfl⟩ := hv
      have hc := hcell k hlt
      rw [List.getD_eq_getElem?_getD, hx] at hc
      simp only [Option.getD_some] at hc
      have hki : (k : Int) < (L.length : Int) := by omega
      have hxi : (x : Int) < 5 := by omega
      have hbr := HW.out.2.keep HB2.out (fun f => f)
      have y1 : wr.cell? ⟨p, 1 + x * 3, none⟩ = some (.bool (m.osd x).up) := by rw [cell_blk hbr]; exact (mp_osd m x hx5).1
      have hfs := filter_snoc L (fun o => (m.osd o).up) k x hx
      have hfl : ((L.take k).filter (fun o => (m.osd o).up)).length ≤ k := by
        refine Nat.le_trans (List.length_filter_le _ _) ?_
        rw [List.length_take]; omega
      generalize (L.take k).filter (fun o => (m.osd o).up) = A at *
      have HFS := hid hfs
      clear hfs hx hrow hcell hbr
      cases hup : (m.osd x).up
      · rw [hup] at y1 HFS
        clear hup
        go_wp2_with fail
        go_roundw
        case rel => exact ⟨k + 1, by omega, by go_num, by rw [HFS.out, if_neg (by simp), List.append_nil]; exact HW.out⟩
        case measure => simp [intOf]; omega
      · rw [hup] at y1 HFS
        clear hup
        have hown := HW.out.1
        have HU9 := hid HW.out.2
        obtain ⟨oa, oc, rfl⟩ := row_nil hown
        have HOWN := hid hown
        have hsz := HW.out.2.size
        clear hown HW
        go_wp2_with (at_builtin; refine wpList_append_lies _ rfl _ _ 60 rfl w2.heap.size 3 i0 (.int .i64 0) 1 8 Try.underlying60 hi hz0 hz1 hz2 rfl (by decide) (.slice oa A.length oc) A.length (natsV A) rfl (HOWN.out.alloc _) ⟨wr.heap.size, 0, none⟩ 1 1 [.int .i64 (x : Int)] rfl rfl (one_cell_new _ _ _) (one_oneCell _) (by decide) (by unfold maxLen; omega) (by omega) (by simp; omega) _ rfl ?_; intro g4 cap4 w4 hown4 hgr hat4 hlt4)
        have hU : Upd (fun b => some b = (Value.slice oa A.length oc).ownBlock) wr w4 := ((Upd.refl _ wr).alloc _).trans' (Upd.of_grown hgr) (fun _ _ f => f)
        refine ⟨⟨k + 1, by omega, by go_num, hid ⟨?_, HU9.out.trans' hU (fun b hb f => ?_)⟩⟩, by simp [intOf]; omega⟩
        · rw [HFS.out, if_pos rfl]
          unfold RowN
          rw [natsV_snoc, List.length_append]
          exact hown4
        · have := (row_blk HOWN.out f.symm).1
          omega
    · obtain rfl : k = L.length := by omega
      have hW := HW.out
      rw [List.take_length, ← HACT.out] at hW
      have HW2 := hid hW
      clear hW HW
      go_wp2_with fail
      go_ret
      exact ⟨_, rfl, row_mono HW2.out.1 HU2.out.size, HU2.out.trans HW2.out.2, HEND.out.1, HEND.out.2⟩
end Go.Proofs.Ytmkpljbkmkbnjaa
