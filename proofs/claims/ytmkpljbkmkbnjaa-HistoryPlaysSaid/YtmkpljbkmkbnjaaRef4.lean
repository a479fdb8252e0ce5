/-
  THE WALKS of the reference's history: Last, Map, Add.
-/
import Derived.Test.YtmkpljbkmkbnjaaRef3
import Derived.Test.YtmkpljbkmkbnjaaIvC
import Derived.Deep.RegionLaw
namespace Go.Proofs.Ytmkpljbkmkbnjaa
open Go.RowKit
set_option linter.unusedVariables false
set_option linter.unusedSimpArgs false

/-- the reference's history at block rb holds the increments; its own blocks are T -/
def RHs (w : World) (rb : Nat) (is : List Sp.Inc) (T : Nat → Prop) : Prop :=
  ∃ v, w.heap[rb]? = some (.cells #[v] 79 (0, 0)) ∧ IncRow w 0 v is ∧ Sp.Chain is ∧ (∀ x ∈ is, IncOk x) ∧ T = fun b => b = rb ∨ v.ownBlock = some b
theorem RHs.keep {F T : Nat → Prop} {w w' : World} {rb : Nat} {is : List Sp.Inc} (H : RHs w rb is T) (hu : Upd F w w') (hF : ∀ b, F b → ¬ T b) : RHs w' rb is T := by
  obtain ⟨v, h1, h2, h3, h4, rfl⟩ := H
  exact ⟨v, hu.keep h1 (fun f => hF _ f (.inl rfl)), row_keep h2 hu (fun b hb f => hF _ f (.inr hb)), h3, h4, rfl⟩
theorem RHs.keep0 {T : Nat → Prop} {w w' : World} {rb : Nat} {is : List Sp.Inc} (H : RHs w rb is T) (hu : Upd Nix w w') : RHs w' rb is T := H.keep hu (fun _ f => f.elim)
theorem RHs.lt {T : Nat → Prop} {w : World} {rb : Nat} {is : List Sp.Inc} (H : RHs w rb is T) {b : Nat} (hb : T b) : b < w.heap.size := by
  obtain ⟨v, h1, h2, h3, h4, rfl⟩ := H
  rcases hb with rfl | hb
  · exact blk_lt h1
  · obtain ⟨_, cur, hc⟩ := row_blk h2 hb; exact blk_lt hc
theorem RHs.ty {T : Nat → Prop} {w : World} {rb : Nat} {is : List Sp.Inc} (H : RHs w rb is T) {b : Nat} (hb : T b) : (∃ cur, w.heap[b]? = some (.cells cur 79 (0, 0))) ∨ ∃ cur, w.heap[b]? = some (.cells cur 50 (0, 0)) := by
  obtain ⟨v, h1, h2, h3, h4, rfl⟩ := H
  rcases hb with rfl | hb
  · exact .inl ⟨_, h1⟩
  · obtain ⟨_, cur, hc⟩ := row_blk h2 hb; exact .inr ⟨cur, hc⟩
theorem rlast_any {T : Nat → Prop} {w : World} {rb : Nat} {is : List Sp.Inc} (H : RHs w rb is T) : Calls Try.prog 30 #[.pointer (some ⟨rb, 0, none⟩)] w fun e w' => e = .returned (.int .u32 ((is.length + 1 : Nat) : Int)) ∧ w = w' := by
  obtain ⟨v, h1, h2, h3, h4, rfl⟩ := H
  obtain ⟨va, vc, rfl⟩ := row_nil h2
  have c0 : w.cell? ⟨rb, 0, none⟩ = some (.slice va is.length vc) := by rw [cell_blk h1]; rfl
  have hl := h3.2
  clear h1 h2 h3 h4
  generalize is.length = n at *
  have hni : (n : Int) ≤ 59 := by omega
  go_enter Try.func30, Try.ntmps30
  go_wp2
  go_ret
  exact ⟨ret_eq (by omega), rfl⟩
theorem results33 : Try.f33.results = #[.cell 4 57] := by kernel_rfl
def RMapPost (is : List Sp.Inc) (ep : Nat) (w : World) (e : Ending) (w' : World) : Prop := e = .returned (mpV (Sp.lastMap (is.take (ep - 1)))) ∧ Upd Nix w w'
set_option maxRecDepth 10000 in
set_option maxHeartbeats 1000000 in
theorem rmap_any {T : Nat → Prop} {w : World} {rb : Nat} {is : List Sp.Inc} (H : RHs w rb is T) (ep : Nat) (hep : ep < 4294967296) : Calls Try.prog 33 #[.pointer (some ⟨rb, 0, none⟩), .int .u32 (ep : Int)] w (RMapPost is ep w) := by
  obtain ⟨v, h1, h2, h3, h4, rfl⟩ := H
  obtain ⟨va, vc, rfl⟩ := row_nil h2
  have hl := h3.2
  have hu0 : Upd Nix w (w.alloc (.cells zeroArr 57)) := (Upd.refl Nix w).alloc _
  have hb0 : (w.alloc (.cells zeroArr 57)).heap[w.heap.size]? = some (.cells zeroArr 57 (0, 0)) := alloc_new w _
  have HR := hid (hu0.keep h1 (fun f => f)); have HV := hid (row_keep h2 hu0 (fun _ _ f => f)); have HC := hid h3; have HOK := hid h4
  have HU0 := hid hu0; have HB0 := hid hb0
  clear h1 h2 h3 h4 hu0 hb0
  generalize hn : is.length = n at *
  have HN := hid hn
  clear hn
  have hepi : (ep : Int) ≤ 4294967295 := by omega
  have hni : (n : Int) ≤ 59 := by omega
  go_enter Try.func33, Try.ntmps33
  go_upto_region 1 with (fail)
  change Code.wp _ _ _ _ (w.alloc (.cells zeroArr 57))
  have hs0 := blk_lt HB0.out
  generalize w.alloc (.cells zeroArr 57) = w1 at *
  go_wp2_with fail
  refine (rfirst_any _).mono ?_
  rintro e w2 ⟨rfl, hu2⟩
  have hs2 := hu2.size
  have HU2 := hid hu2
  clear hu2
  go_upto_region 2 with ((with_reducible refine at_store 57 (.tmp 5) (.tmp 7) ?_); refine wpList_store_row rfl 57 (.tmp 5) (.tmp 7) rfl w2.heap.size rfl (mpArr Sp.first) rfl 57 zeroArr (alloc_new w2 _) rfl size57 rfl ?_)
  change Code.wp _ _ _ _ ((w2.alloc (.cells zeroArr 57)).setRow w2.heap.size (mpArr Sp.first))
  have HB3 := hid (setRow_new (mpArr Sp.first) (alloc_new w2 (.cells zeroArr 57)))
  have HU3 := hid ((HU2.out.alloc (.cells zeroArr 57)).setRow (.inr HU2.out.size) (mpArr Sp.first))
  generalize (w2.alloc (.cells zeroArr 57)).setRow w2.heap.size (mpArr Sp.first) = w3 at *
  generalize hb5 : w2.heap.size = b5 at *
  clear HU2 hb5
  have hinv : Hid (w3.heap[b5]? = some (.cells (mpArr (Sp.lastMap (is.take 0))) 57 (0, 0)) ∧ Upd Nix w1 w3) := hid ⟨HB3.out, HU3.out⟩
  clear HB3 HU3
  go_wp2_with fail
  go_loopw [6] (fun iv wr => ∃ k : Nat, k ≤ n ∧ k ≤ ep - 1 ∧ iv = .int .i64 k ∧ Hid (wr.heap[b5]? = some (.cells (mpArr (Sp.lastMap (is.take k))) 57 (0, 0)) ∧ Upd Nix w1 wr)) (fun iv _ => n - (intOf iv).toNat)
  case atStart => exact ⟨0, by omega, by omega, rfl, hinv.out⟩
  case round =>
    obtain ⟨k, hk, hke, rfl, HI⟩ := hrel
    clear hinv
    have crb : wr.cell? ⟨rb, 0, none⟩ = some (.slice va n vc) := by rw [cell_blk (HI.out.2.keep HR.out (fun f => f))]; rfl
    by_cases hlt : k < n ∧ k + 2 ≤ ep
    · obtain ⟨hlt1, hlt2⟩ := hlt
      have hki : (k : Int) < (n : Int) := by omega
      have hkei : (k : Int) + 2 ≤ (ep : Int) := by omega
      obtain ⟨x, hx⟩ : ∃ x, is[k]? = some x := ⟨_, List.getElem?_eq_getElem (by have := HN.out; omega)⟩
      obtain ⟨hok, hnx⟩ := take_ok HC.out hx
      have hxo := HOK.out x (List.mem_of_getElem? hx)
      have hrr := row_keep HV.out HI.out.2 (fun _ _ f => f)
      obtain ⟨c, cap, hv⟩ : ∃ c cap, Value.slice va n vc = .slice (some ⟨c, 0, none⟩) n cap := by
        rcases hrr.2 with ⟨_, h0⟩ | ⟨c, cap, cur, hv, _⟩
        · omega
        · exact ⟨c, cap, hv⟩
      simp only [Value.slice.injEq, true_and] at hv
      obtain ⟨rfl, rfl⟩ := hv
      obtain ⟨x0, x1, x2⟩ := IncRow.cells (base := 0) (cap := vc) (by unfold IncRow; rw [HN.out]; exact hrr) hx
      have hb := HI.out.1
      have hu := HI.out.2
      obtain ⟨vs, hvs⟩ : ∃ vs, vs = mpArr (Sp.lastMap (is.take (k + 1))) := ⟨_, rfl⟩
      have hap : ∀ w', Calls Try.prog 53 #[mpV (Sp.lastMap (is.take k)), incV x] w' fun e w'' => e = .returned (.tuple #[.agg vs, .bool true]) ∧ Upd Nix w' w'' := by
        intro w'
        rw [hvs, hnx]
        exact rapply_yes _ x w' hok hxo
      have hv16 : vs.size = 16 := by rw [hvs]; rfl
      have hv1 : vs.toList.all (fun v => v.oneCell') = true := by rw [hvs]; rfl
      generalize Sp.lastMap (is.take k) = m0 at *
      obtain ⟨j0, j1, j2, j3, j4, j5, j6, j7, j8, j9, j10, j11, j12, j13, j14, j15⟩ := mp_cells hb
      have HAP := hid hap; have HV1 := hid hv1; have HVS := hid hvs; have HB := hid hb; have HU := hid hu
      have hb5w := hu.size
      clear hap hv1 hvs hb hu hok hnx hxo hrr hx HI
      go_upto_region 5 with (fail)
      go_region_law (first
          | (go_simp; go_at_call 53; refine (HAP.out _).mono ?_; rintro e w5 ⟨rfl, hu5⟩; have hu5' : Upd Nix wr w5 := ((Upd.refl Nix wr).drew).trans hu5; have HB5 := hid (hu5'.keep HB.out (fun f => f)); have HU5 := hid (HU.out.trans hu5'); have st1 := run_store_vs (w := w5) vs HB5.out hv16.symm HV1.out; clear hu5 hu5'))
      all_goals clear j0 j1 j2 j3 j4 j5 j6 j7 j8 j9 j10 j11 j12 j13 j14 j15 x0 x1 x2 crb
      all_goals clear st1
      all_goals go_wp2_with fail
      all_goals go_roundw
      all_goals first
        | exact ⟨k + 1, by omega, by omega, by go_num, hid ⟨by rw [← HVS.out]; exact setRow_new vs HB5.out, HU5.out.setRow (.inr hs2) _⟩⟩
        | (simp [intOf]; omega)
    · have hfin : is.take k = is.take (ep - 1) := by
        by_cases h2 : k + 2 ≤ ep
        · rw [List.take_of_length_le (show is.length ≤ k by have := HN.out; omega), List.take_of_length_le (show is.length ≤ ep - 1 by have := HN.out; omega)]
        · rw [show k = ep - 1 by omega]
      rw [hfin] at HI
      have HB9 := hid HI.out.1
      have HU9 := hid HI.out.2
      have HB10 := hid (HI.out.2.keep HB0.out (fun f => f))
      clear hfin HI
      generalize hm9 : Sp.lastMap (is.take (ep - 1)) = m9 at *
      have HM9 := hid hm9
      clear hm9
      by_cases h2 : k + 2 ≤ ep
      · have hnk : n ≤ k := by omega
        have h2i : (k : Int) + 2 ≤ (ep : Int) := by omega
        have hnki : (n : Int) ≤ (k : Int) := by omega
        go_wp2_with (first
          | ((with_reducible refine at_loadv 57 (.tmp 5) ?_); refine wpList_load_row rfl 57 (.tmp 5) rfl b5 rfl 57 (mpArr m9) (0, 0) _ HB9.out Try.underlying57 rfl size57 ?_)
          | ((with_reducible refine at_store 57 (.tmp 4) (.tmp 36) ?_); refine wpList_store_row rfl 57 (.tmp 4) (.tmp 36) rfl w.heap.size rfl (mpArr m9) rfl 57 zeroArr HB10.out rfl size57 rfl ?_))
        refine fin1 results33 w.heap.size rfl (setRow_new (mpArr m9) HB10.out) Try.underlying57 rfl size57 rfl ⟨by rw [HM9.out], (HU0.out.trans HU9.out).setRow (.inr (Nat.le_refl _)) _⟩
      · have h2i : (ep : Int) < (k : Int) + 2 := by omega
        go_wp2_with (first
          | ((with_reducible refine at_loadv 57 (.tmp 5) ?_); refine wpList_load_row rfl 57 (.tmp 5) rfl b5 rfl 57 (mpArr m9) (0, 0) _ HB9.out Try.underlying57 rfl size57 ?_)
          | ((with_reducible refine at_store 57 (.tmp 4) (.tmp 36) ?_); refine wpList_store_row rfl 57 (.tmp 4) (.tmp 36) rfl w.heap.size rfl (mpArr m9) rfl 57 zeroArr HB10.out rfl size57 rfl ?_))
        refine fin1 results33 w.heap.size rfl (setRow_new (mpArr m9) HB10.out) Try.underlying57 rfl size57 rfl ⟨by rw [HM9.out], (HU0.out.trans HU9.out).setRow (.inr (Nat.le_refl _)) _⟩
theorem inc_blk' {w : World} {b : Nat} {x : Sp.Inc} (h : w.heap[b]? = some (.cells (incArr x) 50 (0, 0))) : w.cell? ⟨b, 0, none⟩ = some (.int .u8 x.kind) ∧ w.cell? ⟨b, 1, none⟩ = some (.int .u8 x.osd) ∧ w.cell? ⟨b, 2, none⟩ = some (.int .i64 x.n) :=
  ⟨by rw [cell_blk h]; rfl, by rw [cell_blk h]; rfl, by rw [cell_blk h]; rfl⟩
/-- what the reference's Add answers -/
def RAddPost (rb : Nat) (is : List Sp.Inc) (T : Nat → Prop) (e : Nat) (x : Sp.Inc) (w : World) (en : Ending) (w' : World) : Prop :=
  en = .returned (.int .i64 (Sp.add is e x).1) ∧ ∃ T', RHs w' rb (Sp.add is e x).2 T' ∧ Upd T w w' ∧ ∀ b, T' b → T b ∨ w.heap.size ≤ b
set_option maxRecDepth 10000 in
set_option maxHeartbeats 1000000 in
theorem radd_any {T : Nat → Prop} {w : World} {rb : Nat} {is : List Sp.Inc} (H : RHs w rb is T) (e : Nat) (x : Sp.Inc) (he : e < 4294967296) (hx : IncOk x) : Calls Try.prog 31 #[.pointer (some ⟨rb, 0, none⟩), .int .u32 (e : Int), incV x] w (RAddPost rb is T e x w) := by
  have hu1 : Upd Nix w (w.alloc (.cells (incArr x) 50)) := (Upd.refl Nix w).alloc _
  have hb1 : (w.alloc (.cells (incArr x) 50)).heap[w.heap.size]? = some (.cells (incArr x) 50 (0, 0)) := alloc_new w _
  have HH := hid (H.keep0 hu1); have HU := hid hu1; have HB := hid hb1
  have HLAST := hid (fun w' (hu : Upd Nix (w.alloc (.cells (incArr x) 50)) w') => rlast_any ((H.keep0 hu1).keep0 hu))
  have hch : Sp.Chain is := by obtain ⟨_, _, _, h, _⟩ := H; exact h
  have hl := hch.2
  have HCH := hid hch; have HXO := hid hx
  clear H hu1 hb1 hch hx
  have hei : (e : Int) ≤ 4294967295 := by omega
  generalize hn : is.length = n at *
  have HN := hid hn
  clear hn
  rw [show ((n + 1 : Nat) : Int) = (n : Int) + 1 by omega] at HLAST
  by_cases h1 : e ≤ n + 1
  · have h1i : (e : Int) ≤ (n : Int) + 1 := by omega
    go_enter Try.func31, Try.ntmps31
    go_upto_region 1 with (fail)
    change Code.wp _ _ _ _ (w.alloc (.cells (incArr x) 50))
    generalize w.alloc (.cells (incArr x) 50) = w1 at *
    go_wp2_with fail
    refine (HLAST.out _ (Upd.refl _ _)).mono ?_
    rintro en w2 ⟨rfl, rfl⟩
    go_wp2_with fail
    go_ret
    have hadd := add_old (is := is) x (show e ≤ is.length + 1 by have := HN.out; omega)
    exact ⟨by rw [hadd]; rfl, T, by rw [hadd]; exact HH.out, HU.out.nix, fun b hb => .inl hb⟩
  · by_cases h2 : n + 2 < e
    · have h1i : (n : Int) + 1 < (e : Int) := by omega
      have h2i : (n : Int) + 1 + 1 < (e : Int) := by omega
      go_enter Try.func31, Try.ntmps31
      go_upto_region 1 with (fail)
      change Code.wp _ _ _ _ (w.alloc (.cells (incArr x) 50))
      generalize w.alloc (.cells (incArr x) 50) = w1 at *
      go_wp2_with fail
      refine (HLAST.out _ (Upd.refl _ _)).mono ?_
      rintro en w2 ⟨rfl, rfl⟩
      go_wp2_with fail
      refine (HLAST.out _ (Upd.refl _ _)).mono ?_
      rintro en w2 ⟨rfl, rfl⟩
      go_wp2_with fail
      go_ret
      have hadd := add_gap (is := is) x (show is.length + 2 < e by have := HN.out; omega)
      exact ⟨by rw [hadd]; rfl, T, by rw [hadd]; exact HH.out, HU.out.nix, fun b hb => .inl hb⟩
    · have hen : e = n + 2 := by omega
      have hadd : Sp.add is e x = if Sp.isInc x = true ∧ is.length ≠ 59 then (0, is ++ [x]) else (40, is) := by
        unfold Sp.add; rw [if_neg (by have := HN.out; omega), if_neg (by have := HN.out; omega)]
      have hokl := Sp.okApply_last HCH.out x
      obtain ⟨hgood, _⟩ := Sp.lastMap_good HCH.out
      have hmap : ∀ w', Upd Nix (w.alloc (.cells (incArr x) 50)) w' → Calls Try.prog 33 #[.pointer (some ⟨rb, 0, none⟩), .int .u32 ((n : Int) + 1)] w' (fun en w'' => en = .returned (mpV (Sp.lastMap is)) ∧ Upd Nix w' w'') := by
        intro w' hu
        have h := rmap_any (HH.out.keep0 hu) (n + 1) (by omega)
        unfold RMapPost at h
        rw [show n + 1 - 1 = n by omega, List.take_of_length_le (by have := HN.out; omega), show ((n + 1 : Nat) : Int) = (n : Int) + 1 by omega] at h
        exact h
      have hap := fun w' => rapply_any (Sp.lastMap is) x w' hgood HXO.out
      unfold RApply at hap
      generalize Sp.lastMap is = m0 at *
      obtain ⟨vs, hvs⟩ : ∃ vs, vs = mpArr (applyRes' m0 x) := ⟨_, rfl⟩
      generalize hok : Sp.okApply m0 x = OKB at *
      have hap' : ∀ w', Calls Try.prog 53 #[mpV m0, incV x] w' fun en w'' => en = Ending.returned (Value.tuple #[.agg vs, .bool OKB]) ∧ Upd Nix w' w'' := by rw [hvs]; exact hap
      have hv16 : vs.size = 16 := by rw [hvs]; rfl
      have hv1 : vs.toList.all (fun v => v.oneCell') = true := by rw [hvs]; rfl
      have HV1 := hid hv1; have HAP := hid hap'; have HMAP := hid hmap; have HADD := hid hadd; have HOKL := hid hokl; have HE := hid hen
      have h1i : (n : Int) + 1 < (e : Int) := by omega
      have h2i : (e : Int) ≤ (n : Int) + 1 + 1 := by omega
      have hS : ∀ w', Upd Nix (w.alloc (.cells (incArr x) 50)) w' → w'.cell? ⟨w.heap.size, 0, none⟩ = some (.int .u8 x.kind) ∧ w'.cell? ⟨w.heap.size, 1, none⟩ = some (.int .u8 x.osd) ∧ w'.cell? ⟨w.heap.size, 2, none⟩ = some (.int .i64 x.n) := by
        intro w' hu
        have hb := hu.keep HB.out (fun f => f)
        exact ⟨by rw [cell_blk hb]; rfl, by rw [cell_blk hb]; rfl, by rw [cell_blk hb]; rfl⟩
      have HS := hid hS
      clear hv1 hap hap' hmap hadd hokl hgood hvs hok hen hS
      go_enter Try.func31, Try.ntmps31
      go_upto_region 1 with (fail)
      change Code.wp _ _ _ _ (w.alloc (.cells (incArr x) 50))
      generalize w.alloc (.cells (incArr x) 50) = w1 at *
      go_wp2_with fail
      refine (HLAST.out _ (Upd.refl _ _)).mono ?_
      rintro en w2 ⟨rfl, rfl⟩
      go_wp2_with fail
      refine (HLAST.out _ (Upd.refl _ _)).mono ?_
      rintro en w2 ⟨rfl, rfl⟩
      go_upto_region 5 with (fail)
      have HB0 : Hid (((w1.alloc (.cells zeroArr 57)).drew).heap[w1.heap.size]? = some (.cells zeroArr 57 (0, 0))) := alloc_new w1 _
      have hwr : IntKind.u32.wrap ((n : Int) + 1) = (n : Int) + 1 := by simp only [IntKind.wrap, IntKind.signed, IntKind.bits]; simp; omega
      obtain ⟨s1, s2, s3⟩ := HS.out w1 (Upd.refl _ _)
      go_cut [8] (fun r wx => r = .bool OKB ∧ Hid (Upd Nix w1 wx))
      case first =>
        go_region_held3 (fun w' => w'.cell? ⟨w.heap.size, 0, none⟩ = some (.int .u8 x.kind) ∧ w'.cell? ⟨w.heap.size, 1, none⟩ = some (.int .u8 x.osd) ∧ w'.cell? ⟨w.heap.size, 2, none⟩ = some (.int .i64 x.n))
          ((refine HS.out _ ?_; (repeat' (first | with_reducible exact Upd.refl _ _ | with_reducible exact HA.out | with_reducible exact HA2.out | with_reducible refine Upd.drew ?_ | with_reducible refine Upd.alloc ?_ _ | ((with_reducible refine Upd.setRow ?_ (.inr ?_) _)) | with_reducible exact Nat.le_refl _ | with_reducible exact HA.out.size | with_reducible exact HA2.out.size))))
          (first
            | (go_at_call 30; refine (HLAST.out _ (by (repeat' (first | with_reducible exact Upd.refl _ _ | with_reducible exact HA.out | with_reducible exact HA2.out | with_reducible refine Upd.drew ?_ | with_reducible refine Upd.alloc ?_ _)))).mono ?_; rintro en w2 ⟨rfl, rfl⟩)
            | (go_at_call 33; refine (HMAP.out _ (by (repeat' (first | with_reducible exact Upd.refl _ _ | with_reducible exact HA.out | with_reducible exact HA2.out | with_reducible refine Upd.drew ?_ | with_reducible refine Upd.alloc ?_ _)))).mono ?_; rintro en w3 ⟨rfl, hu3⟩; have HA : Hid (Upd Nix w1 w3) := hid (Upd.trans (by (repeat' (first | with_reducible exact Upd.refl _ _ | with_reducible exact HA.out | with_reducible exact HA2.out | with_reducible refine Upd.drew ?_ | with_reducible refine Upd.alloc ?_ _))) hu3); (try (have HZ := hid (hu3.keep HB0.out (fun f => f)))))
            | (go_at_call 53; refine (HAP.out _).mono ?_; rintro en w4 ⟨rfl, hu4⟩; have HA2 : Hid (Upd Nix w1 w4) := hid (Upd.trans (by (repeat' (first | with_reducible exact Upd.refl _ _ | with_reducible exact HA.out | with_reducible exact HA2.out | with_reducible refine Upd.drew ?_ | with_reducible refine Upd.alloc ?_ _))) hu4); have st1 := run_store_vs (w := w4.alloc (.cells zeroArr 57)) vs (alloc_new w4 _) hv16.symm HV1.out; (try (have st2 := run_store_vs vs (hu4.keep HZ.out (fun f => f)) hv16.symm HV1.out)); (try (have st3 := run_store_vs vs (hu4.keep (alloc_new w3 _) (fun f => f)) hv16.symm HV1.out))))
        all_goals go_wp2
        all_goals go_meet
        all_goals refine ⟨rfl, hid ?_⟩
        all_goals (repeat' (first | with_reducible exact Upd.refl _ _ | with_reducible exact HA.out | with_reducible exact HA2.out | with_reducible refine Upd.drew ?_ | with_reducible refine Upd.alloc ?_ _ | ((with_reducible refine Upd.setRow ?_ (.inr ?_) _)) | with_reducible exact Nat.le_refl _ | with_reducible exact HA.out.size | with_reducible exact HA2.out.size))
      case rest =>
        obtain ⟨rfl, HU2⟩ := hcut
        clear s1 s2 s3 hwr HB0 HMAP HAP HV1 hv16
        cases OKB
        · have hno : ¬ (Sp.isInc x = true ∧ is.length ≠ 59) := by
            rintro ⟨q1, q2⟩
            have := HOKL.out
            rw [q1, decide_eq_true q2] at this
            simp at this
          have HNO := hid hno
          clear hno
          go_wp2_with fail
          go_ret
          have hr := HADD.out
          rw [if_neg HNO.out] at hr
          exact ⟨by rw [hr]; rfl, T, by rw [hr]; exact HH.out.keep0 HU2.out, (HU.out.trans HU2.out).nix, fun b hb => .inl hb⟩
        · have hyes : Sp.isInc x = true ∧ is.length ≠ 59 := by
            have := HOKL.out
            simp only [Bool.true_eq, Bool.and_eq_true, decide_eq_true_eq] at this
            exact this
          have HYES := hid hyes
          clear hyes
          obtain ⟨i0, hi, hz0, hz1, hz2⟩ := info_parts info50
          obtain ⟨v, k1, k2, k3, k4, hT⟩ := HH.out.keep0 HU2.out
          obtain ⟨va, vc, rfl⟩ := row_nil k2
          unfold IncRow at k2
          rw [HN.out] at k1 k2 hT
          have crb : wc.cell? ⟨rb, 0, none⟩ = some (.slice va n vc) := by rw [cell_blk k1]; rfl
          have hrl := blk_lt k1
          have hnew := World.new_ne wc _ crb
          have hxb := HU2.out.keep HB.out (fun f => f)
          obtain ⟨x0, x1, x2⟩ := inc_blk' hxb
          have hne : (Value.slice va n vc).ownBlock ≠ some rb := fun f => by
            obtain ⟨_, cur, hc⟩ := row_blk k2 f
            rw [k1] at hc; simp at hc
          have K1 := hid k1; have K2 := hid k2; have K4 := hid k4; have HT := hid hT; have HNE := hid hne
          clear k1 k2 k3 k4 hT hxb hne
          go_upto_region 8 with (fail)
          go_region_law (refine step_append_lies _ rfl (.tmp 35) (.tmp 37) 43 rfl 0 50 i0 (.agg #[.int .u8 0, .int .u8 0, .int .i64 0]) 3 16 Try.underlying43 hi hz0 hz1 hz2 rfl (by decide) (.slice va n vc) n (incCells is) (by simp [Act.eval, Act.put]) ((row_keep K2.out ((Upd.refl Nix wc).drew) (fun _ _ f => f)).alloc _) ⟨wc.heap.size, 0, none⟩ 1 1 [.int .u8 x.kind, .int .u8 x.osd, .int .i64 x.n] (by simp [Act.eval, Act.put]) rfl (three_new _ _ _ _ _) (three_one _ _ _) (by decide) (by unfold maxLen; omega) (by omega) (Nat.zero_le _) _ rfl ?_; intro g4 cap4 w4 hown4 hgr hat hlt4; have hb4 := behind_append (show wc.drew.heap[rb]? = _ from K1.out) hgr HNE.out; have ck4 : w4.cell? ⟨rb, 0, none⟩ = some (.slice va n vc) := (cell_blk hb4 0).trans rfl; have ff4 := free_blk hb4 0; have HB4 := hid hb4; clear hb4)
          all_goals have HOWN := hid hown4
          all_goals have HGR := hid hgr
          all_goals have HAT := hid hat
          all_goals clear hown4 hgr hat x0 x1 x2 crb hnew
          all_goals go_wp2_with fail
          all_goals go_ret
          all_goals (
            have hr := HADD.out
            rw [if_pos HYES.out] at hr
            refine ⟨by rw [hr]; rfl, (fun b => b = rb ∨ (Value.slice (some ⟨g4, 0, none⟩) (n + 1) cap4).ownBlock = some b), ?_, ?_, ?_⟩
            · rw [hr]
              refine ⟨_, blk_setCell HB4.out, ?_, ?_, fun y hy => ?_, rfl⟩
              · have hset : Upd (fun b => b = rb) w4 (w4.setCell ⟨rb, 0, none⟩ (.slice (some ⟨g4, 0, none⟩) (n + 1) cap4)) := Upd.setCell (F := fun b => b = rb) (Upd.refl _ w4) (p := ⟨rb, 0, none⟩) (.inl rfl) _
                unfold IncRow
                rw [List.length_append, List.length_singleton, HN.out, incCells_snoc]
                refine row_keep HOWN.out hset (fun b hb f => ?_)
                obtain ⟨_, cur, hc⟩ := row_blk HOWN.out hb
                rw [f, HB4.out] at hc; simp at hc
              · refine ⟨fun y hy => ?_, by rw [List.length_append, List.length_singleton]; have := HYES.out.2; have := HCH.out.2; omega⟩
                rw [List.mem_append] at hy
                rcases hy with hy | hy
                · exact HCH.out.1 y hy
                · simp at hy; rw [hy]; exact HYES.out.1
              · rw [List.mem_append] at hy
                rcases hy with hy | hy
                · exact K4.out y hy
                · simp at hy; rw [hy]; exact HXO.out
            · have hU : Upd (fun b => some b = (Value.slice va n vc).ownBlock) wc w4 := (((Upd.refl _ wc).drew).alloc _).trans' (Upd.of_grown HGR.out) (fun _ _ f => f)
              rw [HT.out]
              exact (((HU.out.trans HU2.out).nix).trans' hU (fun i hi f => .inr f.symm)).setCell (.inl (.inl rfl)) _
            · rw [HT.out]
              rintro b (rfl | hb)
              · exact .inl (.inl rfl)
              · simp only [Value.ownBlock, Option.some.injEq] at hb
                subst hb
                rcases HAT.out with h | h
                · exact .inl (.inr h)
                · right
                  have q1 := HU.out.size
                  have q2 := HU2.out.size
                  have q3 : ∀ o : Obj, (wc.drew.alloc o).heap.size = wc.heap.size + 1 := fun o => by simp
                  first
                    | (rw [h]; simp; omega)
                    | omega)
end Go.Proofs.Ytmkpljbkmkbnjaa
