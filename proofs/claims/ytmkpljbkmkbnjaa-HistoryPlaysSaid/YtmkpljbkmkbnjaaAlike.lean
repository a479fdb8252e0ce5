/-
  THE WALK of paddocklaw5.alike: a history and the reference's, of the same increments.
-/
import Derived.Test.YtmkpljbkmkbnjaaRef5
import Derived.Test.YtmkpljbkmkbnjaaIvs
namespace Go.Proofs.Ytmkpljbkmkbnjaa
open Go.RowKit
set_option linter.unusedVariables false
set_option linter.unusedSimpArgs false

set_option maxRecDepth 100000 in
theorem neq57 (m : Sp.Mp) (w : World) : (binOp .neq 57 (mpV m) (mpV m)).run Try.prog w = .ok (.bool false) w := by
  have h := eq57 m w
  rw [run_eql_struct] at h
  rw [run_neq_struct]
  cases hq : (Op.equalIn 10000 57 (mpV m) (mpV m)).run Try.prog w with
  | ok b w' =>
    rw [hq] at h
    simp only [Result.andThen] at h ⊢
    simp only [Result.ok.injEq, Value.bool.injEq] at h
    rw [h.1, h.2]; rfl
  | _ => rw [hq] at h; simp [Result.andThen] at h
theorem ivsLen (G : List Sp.Inc) (g : Nat) : (ivsOf G g).length ≤ G.length + 1 := by
  unfold ivsOf ivsG
  split
  · have := Sp.ivs_len (Sp.mapsOf G) g; rw [Sp.mapsOf_len] at this; exact this
  · simp
theorem ivsAct (G : List Sp.Inc) (g : Nat) : ∀ t ∈ ivsOf G g, t.2.length ≤ 3 := by
  unfold ivsOf ivsG
  split
  · exact ivs_act_len _ g
  · simp
theorem IvAt.keepN {w w' : World} {v : Value} {l : List (Int × List Nat)} (h : IvAt w v l) (hu : Upd Nix w w') : IvAt w' v l := h.keep hu (fun _ _ f => f.elim)
theorem lastOf_none {is : List Sp.Inc} {g : Nat} (h : ¬ g < 4) : lastOf is g = (0, []) ∧ ivsOf is g = [] := by
  constructor
  · unfold lastOf lastIv; rw [if_neg h]
  · unfold ivsOf ivsG; rw [if_neg h]
theorem lastOf_len (is : List Sp.Inc) (g : Nat) : (lastOf is g).2.length ≤ 3 := lastIv_len _ _
set_option maxRecDepth 10000 in
set_option maxHeartbeats 2000000 in
theorem alike_any {T : Nat → Prop} {w0 w : World} {h rb : Nat} {is : List Sp.Inc} (H : At w0 w h is) (R : RHs w rb is T) (g0 : Nat) (hg0 : g0 < 256) :
    Calls Try.prog 32 #[.pointer (some ⟨h, 0, none⟩), .pointer (some ⟨rb, 0, none⟩), .int .u8 (g0 : Int)] w (KnownPost w) := by
  have hch := H.chain
  have hl := hch.2
  have hlast := last_at H
  have hrl := fun w' (hu : Upd Nix w w') => rlast_any (R.keep0 hu)
  have hmap := map_at H (is.length + 1)
  unfold MapS at hmap
  rw [mapAt_in (Nat.le_refl _), List.take_length, decide_eq_true (show 1 ≤ is.length + 1 ∧ is.length + 1 ≤ is.length + 1 by omega)] at hmap
  have hrm := fun w' (hu : Upd Nix w w') => rmap_any (R.keep0 hu) (is.length + 1) (by omega)
  unfold RMapPost at hrm
  simp only [Nat.add_sub_cancel, List.take_length] at hrm
  have HH := hid H; have HR := hid R
  have HLEN := hid (fun g => ivsLen is g)
  clear H R hch
  generalize Sp.lastMap is = m at *
  generalize hn : is.length = n at *
  have HN := hid hn
  clear hn
  rw [show ((n + 1 : Nat) : Int) = (n : Int) + 1 by omega] at hlast hrl hmap hrm
  have hneq := neq57 m
  have HNEQ := hid hneq
  have HLAST := hid hlast; have HRL := hid hrl; have HMAP := hid hmap; have HRM := hid hrm
  clear hlast hrl hmap hrm hneq
  go_enter Try.func32, Try.ntmps32
  go_wp2_with fail
  refine HLAST.out.mono ?_
  rintro e w1 ⟨rfl, rfl⟩
  go_wp2_with fail
  refine (HRL.out _ (Upd.refl _ _)).mono ?_
  rintro e w1 ⟨rfl, rfl⟩
  go_wp2_with fail
  refine (HRL.out _ (Upd.refl _ _)).mono ?_
  rintro e w1 ⟨rfl, rfl⟩
  go_wp2_with fail
  refine HMAP.out.mono ?_
  rintro e w2 ⟨rfl, hu2⟩
  have HU2 := hid hu2
  clear hu2 HLAST HMAP
  go_upto_region 4 with ((with_reducible refine at_store 57 (.tmp 7) (.tmp 20) ?_); refine wpList_store_row rfl 57 (.tmp 7) (.tmp 20) rfl w2.heap.size rfl (mpArr m) rfl 57 zeroArr (alloc_new w2 _) rfl size57 rfl ?_)
  change Code.wp _ _ _ _ ((w2.alloc (.cells zeroArr 57)).setRow w2.heap.size (mpArr m))
  have hus : Upd Nix w2 ((w2.alloc (.cells zeroArr 57)).setRow w2.heap.size (mpArr m)) := ((Upd.refl _ _).alloc _).setRow (.inr (Nat.le_refl _)) _
  have HB7 := hid (setRow_new (mpArr m) (alloc_new w2 (.cells zeroArr 57)))
  have HU3 := hid (HU2.out.trans hus)
  clear hus HU2
  generalize (w2.alloc (.cells zeroArr 57)).setRow w2.heap.size (mpArr m) = w3 at *
  generalize w2.heap.size = b7 at *
  obtain ⟨j0, j1, j2, j3, j4, j5, j6, j7, j8, j9, j10, j11, j12, j13, j14, j15⟩ := mp_cells HB7.out
  have hneq := HNEQ.out
  go_cut [31] (fun r wx => r = .bool false ∧ Hid (Upd Nix w wx))
  case first =>
    go_region_held3 (fun w' => w'.cell? ⟨b7, 0, none⟩ = some (.int .u32 m.ep) ∧ w'.cell? ⟨b7, 1, none⟩ = some (.bool m.o0.up) ∧ w'.cell? ⟨b7, 2, none⟩ = some (.int .i64 m.o0.wt) ∧ w'.cell? ⟨b7, 3, none⟩ = some (.int .u8 m.o0.host) ∧ w'.cell? ⟨b7, 4, none⟩ = some (.bool m.o1.up) ∧ w'.cell? ⟨b7, 5, none⟩ = some (.int .i64 m.o1.wt) ∧ w'.cell? ⟨b7, 6, none⟩ = some (.int .u8 m.o1.host) ∧ w'.cell? ⟨b7, 7, none⟩ = some (.bool m.o2.up) ∧ w'.cell? ⟨b7, 8, none⟩ = some (.int .i64 m.o2.wt) ∧ w'.cell? ⟨b7, 9, none⟩ = some (.int .u8 m.o2.host) ∧ w'.cell? ⟨b7, 10, none⟩ = some (.bool m.o3.up) ∧ w'.cell? ⟨b7, 11, none⟩ = some (.int .i64 m.o3.wt) ∧ w'.cell? ⟨b7, 12, none⟩ = some (.int .u8 m.o3.host) ∧ w'.cell? ⟨b7, 13, none⟩ = some (.bool m.o4.up) ∧ w'.cell? ⟨b7, 14, none⟩ = some (.int .i64 m.o4.wt) ∧ w'.cell? ⟨b7, 15, none⟩ = some (.int .u8 m.o4.host))
      ((first
        | (refine mp_cells (Upd.keep (show Upd Nix w3 _ from (Upd.refl Nix w3).drew) HB7.out (fun f => f)); done)
        | (refine mp_cells HB8.out; done)))
      (first
        | (go_at_call 30; refine (HRL.out _ ?_).mono ?_; (with_reducible exact HU3.out.drew); rintro e w4 ⟨rfl, rfl⟩)
        | (go_at_call 33; refine (HRM.out _ ?_).mono ?_; (with_reducible exact HU3.out.drew); rintro e w4 ⟨rfl, hu4⟩; have HU4 := hid (HU3.out.drew.trans hu4); have HB8 := hid (hu4.keep (show w3.drew.heap[b7]? = _ from HB7.out) (fun f => f))))
    all_goals go_wp2
    all_goals go_meet
    all_goals exact ⟨rfl, HU4.out⟩
  case rest =>
    obtain ⟨rfl, HU⟩ := hcut
    clear j0 j1 j2 j3 j4 j5 j6 j7 j8 j9 j10 j11 j12 j13 j14 j15 hneq HB7 HU3 HNEQ HRM HRL
    have F0 := fld0
    have F1 := fld1
    go_wp2_with fail
    go_loopw [9] (fun gv wr => ∃ g : Nat, g ≤ 4 ∧ gv = .int .u8 g ∧ Hid (Upd Nix w wr)) (fun gv _ => 4 - (intOf gv).toNat)
    case atStart => exact ⟨0, by omega, rfl, HU.out⟩
    case round =>
      obtain ⟨g, hg, rfl, HW⟩ := hrel
      clear HU
      by_cases hlt : g < 4
      · have hgi : (g : Int) < 4 := by omega
        have HI1 := hid (intervals_at (HH.out.keep0 HW.out) g (by omega))
        go_wp2_with fail
        refine HI1.out.mono ?_
        rintro e w4 ⟨v1, rfl, hv1, hu4⟩
        have HV1 := hid hv1; have HU4 := hid (HW.out.trans hu4)
        have HI2 := hid (rivs_any (HR.out.keep0 HU4.out) g (by omega))
        clear hv1 hu4 HI1
        go_wp2_with fail
        refine HI2.out.mono ?_
        rintro e w5 ⟨v2, rfl, hv2, hu5⟩
        have HU5 := hid (HU4.out.trans hu5)
        have HI3 := hid (ivs28_any (ivsOf is g) v1 v2 w5 (HV1.out.keepN hu5) hv2 (by have := HLEN.out g; have := HN.out; omega) (ivsAct is g))
        clear hv2 hu5 HI2 HV1 HU4
        go_wp2_with fail
        refine HI3.out.mono ?_
        rintro e w6 ⟨rfl, hu6⟩
        have HU6 := hid (HU5.out.trans hu6)
        have HI4 := hid (hacting_at (HH.out.keep0 HU6.out) g (by omega))
        clear hu6 HI3 HU5
        go_wp2_with fail
        refine HI4.out.mono ?_
        rintro e w7 ⟨v3, rfl, hv3, hu7⟩
        have HU7 := hid (HU6.out.trans hu7)
        have HI5 := hid (rnow_any (HR.out.keep0 HU7.out) g (by omega))
        have HV3 := hid hv3
        clear hv3 hu7 HI4 HU6
        obtain ⟨qa, qc, rfl⟩ := row_nil HV3.out
        go_wp2_with fail
        refine HI5.out.mono ?_
        rintro e w8 ⟨v4, rfl, hv4, hu8⟩
        obtain ⟨ra, rc, rfl⟩ := row_nil hv4
        have HU8 := hid (HU7.out.trans hu8)
        have HI6 := hid (ints_any (lastOf is g).2 (lastOf is g).2 _ _ 0 0 w8 (row_mono (row_keep HV3.out hu8 (fun _ _ f => f)) (Nat.zero_le _)) hv4 (by have := lastOf_len is g; omega) (by have := lastOf_len is g; omega))
        clear hv4 hu8 HI5 HU7 HV3
        generalize hls : lastOf is g = lo at *
        have HLS := hid hls
        clear hls
        go_wp2_with fail
        refine HI6.out.mono ?_
        rintro e w9 ⟨rfl, hu9⟩
        rw [decide_eq_true rfl]
        have HU9 := hid (HU8.out.trans hu9)
        have hsn := since_at (HH.out.keep0 HU9.out) g (by omega)
        rw [HLS.out] at hsn
        have HI7 := hid hsn
        clear hsn hu9 HI6 HU8
        go_wp2_with fail
        refine HI7.out.mono ?_
        rintro e w10 ⟨rfl, hu10⟩
        have HU10 := hid (HU9.out.trans hu10)
        have hnw := rnow_any (HR.out.keep0 HU10.out) g (by omega)
        unfold RNowPost at hnw
        rw [HLS.out] at hnw
        have HI8 := hid hnw
        clear hnw hu10 HI7 HU9
        go_wp2_with fail
        refine HI8.out.mono ?_
        rintro e w11 ⟨v5, rfl, hv5, hu11⟩
        obtain ⟨ra, rc, rfl⟩ := row_nil hv5
        have HU11 := hid (HU10.out.trans hu11)
        clear hv5 hu11 HI8 HU10
        go_wp2_with fail
        go_roundw
        case rel => exact ⟨g + 1, by omega, by go_num, HU11.out⟩
        case measure => simp [intOf]; omega
      · obtain rfl : g = 4 := by omega
        by_cases h4 : g0 < 4
        · have hgi : (g0 : Int) < 4 := by omega
          go_wp2_with fail
          go_ret
          exact ⟨rfl, HW.out⟩
        · have hgi : (4 : Int) ≤ (g0 : Int) := by omega
          obtain ⟨n1, n2⟩ := lastOf_none (is := is) h4
          have HI1 := hid (intervals_at (HH.out.keep0 HW.out) g0 hg0)
          have HN1 := hid n1; have HN2 := hid n2
          clear n1 n2 h4
          go_wp2_with fail
          refine HI1.out.mono ?_
          rintro e w4 ⟨v1, rfl, hv1, hu4⟩
          rw [HN2.out] at hv1
          obtain ⟨qa, qc, rfl⟩ := hv1.len
          have HU4 := hid (HW.out.trans hu4)
          have HI4 := hid (hacting_at (HH.out.keep0 HU4.out) g0 hg0)
          clear hv1 hu4 HI1
          go_wp2_with fail
          refine HI4.out.mono ?_
          rintro e w7 ⟨v3, rfl, hv3, hu7⟩
          rw [HN1.out] at hv3
          obtain ⟨ra, rc, rfl⟩ := row_nil hv3
          have HU7 := hid (HU4.out.trans hu7)
          have hsn := since_at (HH.out.keep0 HU7.out) g0 hg0
          rw [HN1.out] at hsn
          have HI7 := hid hsn
          clear hsn hv3 hu7 HI4 HU4
          go_wp2_with fail
          refine HI7.out.mono ?_
          rintro e w10 ⟨rfl, hu10⟩
          have HU10 := hid (HU7.out.trans hu10)
          clear hu10 HI7
          go_wp2_with fail
          go_ret
          exact ⟨rfl, HU10.out⟩
end Go.Proofs.Ytmkpljbkmkbnjaa
