/-
  THE WALK of history.Add.
-/
import Derived.Test.YtmkpljbkmkbnjaaNew
import Derived.Test.YtmkpljbkmkbnjaaChain
import Derived.Deep.RegionHeld3
namespace Go.Proofs.Ytmkpljbkmkbnjaa
open Go.RowKit
set_option linter.unusedVariables false
set_option linter.unusedSimpArgs false

/-- a history in memory at block h that holds the increments is; S: its own blocks -/
def Hs (w : World) (h : Nat) (is : List Sp.Inc) (S : Nat → Prop) : Prop := ∃ a i v, HistAt w h a i v (Sp.mapsOf is) is ∧ Sp.Chain is ∧ S = Foot h a i v
theorem Hs.keep {F S : Nat → Prop} {w w' : World} {h : Nat} {is : List Sp.Inc} (H : Hs w h is S) (hu : Upd F w w') (hF : ∀ b, b < w.heap.size → F b → ¬ S b ∧ ∀ cur fr, w.heap[b]? ≠ some (.cells cur 3 fr)) : Hs w' h is S := by
  obtain ⟨a, i, v, hc, hch, rfl⟩ := H
  exact ⟨a, i, v, hc.keep hu hF, hch, rfl⟩
theorem Hs.keep0 {S : Nat → Prop} {w w' : World} {h : Nat} {is : List Sp.Inc} (H : Hs w h is S) (hu : Upd Nix w w') : Hs w' h is S := H.keep hu (fun _ _ f => f.elim)
theorem Hs.lt {S : Nat → Prop} {w : World} {h : Nat} {is : List Sp.Inc} (H : Hs w h is S) {b : Nat} (hb : S b) : b < w.heap.size := by
  obtain ⟨a, i, v, hc, hch, rfl⟩ := H
  exact hc.foot_lt hb
theorem Hs.ty {S : Nat → Prop} {w : World} {h : Nat} {is : List Sp.Inc} (H : Hs w h is S) {b : Nat} (hb : S b) : ∀ cur fr, w.heap[b]? ≠ some (.cells cur 3 fr) := by
  obtain ⟨a, i, v, hc, hch, rfl⟩ := H
  exact hc.foot_ty hb
theorem Hs.chain {S : Nat → Prop} {w : World} {h : Nat} {is : List Sp.Inc} (H : Hs w h is S) : Sp.Chain is := by
  obtain ⟨a, i, v, hc, hch, rfl⟩ := H
  exact hch
/-- another one stays as it was -/
theorem Hs.apart {S T : Nat → Prop} {w w' : World} {h k : Nat} {is js : List Sp.Inc} (H : Hs w h is S) (K : Hs w k js T) (hd : ∀ b, S b → ¬ T b) (hu : Upd T w w') : Hs w' h is S :=
  H.keep hu (fun b _ f => ⟨fun s => hd b s f, K.ty f⟩)

def AddPost (h : Nat) (is : List Sp.Inc) (S : Nat → Prop) (e : Nat) (x : Sp.Inc) (w : World) (en : Ending) (w' : World) : Prop :=
  en = .returned (.int .i64 (Sp.add is e x).1) ∧ ∃ S', Hs w' h (Sp.add is e x).2 S' ∧ Upd S w w' ∧ ∀ b, S' b → S b ∨ w.heap.size ≤ b

/-- behind the store into the map of the increments -/
theorem core_put_inc {w : World} {h a i n : Nat} {v : Nat → Value} {ms : List Sp.Mp} {is : List Sp.Inc} {L : Nat → List (Int × List Nat)} (H : HCore w h a i n v ms is L) (x : Sp.Inc) (q : Int) (hq : q = ((is.length + 2 : Nat) : Int)) :
    HCore (putMap w i (.map (iEnts is ++ ([⟨.int .u32 q, incV x, is.length⟩] : List MapEntry)).toArray (is.length + 1))) h a i n v ms (is ++ [x]) L := by
  have hhi : h ≠ i := fun e => by have h1 := H.blk; rw [e, H.iblk] at h1; simp at h1
  have hu := Upd.putMap (F := fun b => b = i) (Upd.refl _ w) (r := i) (.inl rfl) (.map (iEnts is ++ ([⟨.int .u32 q, incV x, is.length⟩] : List MapEntry)).toArray (is.length + 1))
  refine ⟨hu.keep H.blk hhi, hu.keep H.mblk (fun e => H.ai e), ?_, H.ai, fun g hg => (H.iv g hg).keep hu (fun b hb e => ⟨fun e2 => ?_, fun cur fr e2 => ?_⟩), H.sep⟩
  · rw [putMap_new (blk_lt H.iblk), hq, iEnts_snoc]; simp
  · obtain ⟨cur, hc⟩ := (H.iv g hg).blk e2
    subst e
    rw [H.iblk] at hc; simp at hc
  · subst e
    rw [H.iblk] at e2; simp at e2

theorem add_old {is : List Sp.Inc} {e : Nat} (x : Sp.Inc) (h : e ≤ is.length + 1) : Sp.add is e x = (51, is) := by unfold Sp.add; rw [if_pos h]
theorem add_gap {is : List Sp.Inc} {e : Nat} (x : Sp.Inc) (h : is.length + 2 < e) : Sp.add is e x = (50, is) := by unfold Sp.add; rw [if_neg (by omega), if_pos h]
theorem add_yes {is : List Sp.Inc} {e : Nat} {x : Sp.Inc} (h : e = is.length + 2) (hc : Sp.Chain is) (hx : Sp.okApply (Sp.lastMap is) x = true) : Sp.add is e x = (0, is ++ [x]) := by
  rw [Sp.okApply_last hc] at hx
  unfold Sp.add; rw [if_neg (by omega), if_neg (by omega), if_pos (by simpa using hx)]
theorem add_no {is : List Sp.Inc} {e : Nat} {x : Sp.Inc} (h : e = is.length + 2) (hc : Sp.Chain is) (hx : Sp.okApply (Sp.lastMap is) x = false) : Sp.add is e x = (40, is) := by
  rw [Sp.okApply_last hc] at hx
  unfold Sp.add; rw [if_neg (by omega), if_neg (by omega), if_neg (by intro h2; simp [h2.1, h2.2] at hx)]

theorem run_store_vs {w : World} {g : Nat} {t : TypeId} {cur : Array Value} (vs : Array Value) (hg : w.heap[g]? = some (.cells cur t (0, 0))) (hsz : cur.size = vs.size) (h1 : vs.toList.all (fun v => v.oneCell') = true) :
    (storeCells ⟨g, 0, none⟩ vs.toList).run Try.prog w = .ok () (w.setRow g vs) := by
  have hst := run_storeCells_at Try.prog g 0 t vs.toList 0 cur w hg (by simp [hsz]) (fun v hv => List.all_eq_true.1 h1 v hv)
  have e : (cur.toList.take (0 + 0) ++ vs.toList ++ cur.toList.drop (0 + 0 + vs.toList.length)).toArray = vs := by
    have : cur.toList.drop vs.size = [] := List.drop_eq_nil_of_le (by simp [hsz])
    simp [this]
  rw [e] at hst
  exact hst
def applyRes (m : Sp.Mp) (x : Sp.Inc) : Sp.Mp := if Sp.okApply m x = true then Sp.apply m x else Sp.zeroMp
def applyErr (m : Sp.Mp) (x : Sp.Inc) : Int := if Sp.okApply m x = true then 0 else 40
def ApplyPost (m : Sp.Mp) (x : Sp.Inc) (w : World) (e : Ending) (w' : World) : Prop := e = .returned (.tuple #[mpV (applyRes m x), .int .i64 (applyErr m x)]) ∧ Upd Nix w w'
theorem apply_any (m : Sp.Mp) (x : Sp.Inc) (w : World) (hx : IncOk x) : Calls Try.prog 44 #[mpV m, incV x] w (ApplyPost m x w) := by
  unfold ApplyPost applyRes applyErr
  cases h : Sp.okApply m x
  · refine (apply_no m x w h).mono ?_
    rintro e w' ⟨rfl, hu⟩
    exact ⟨rfl, hu⟩
  · refine (apply_yes m x w h hx).mono ?_
    rintro e w' ⟨rfl, hu⟩
    exact ⟨rfl, hu⟩

set_option maxRecDepth 10000 in
theorem add_any (h : Nat) (is : List Sp.Inc) (S : Nat → Prop) (e : Nat) (x : Sp.Inc) (w : World) (H : Hs w h is S) (he : e < 4294967296) (hx : IncOk x) :
    Calls Try.prog 17 #[.pointer (some ⟨h, 0, none⟩), .int .u32 (e : Int), incV x] w (AddPost h is S e x w) := by
  obtain ⟨a, i, v, hcore, hch, rfl⟩ := H
  have hml := Sp.mapsOf_len is
  have hn : (Sp.mapsOf is).length ≤ 60 := by have := hch.2; omega
  have hh := blk_lt hcore.blk
  have hu1 : Upd Nix w (w.alloc (.cells (incArr x) 50)) := (Upd.refl Nix w).alloc _
  have hc1 := hcore.keep0 hu1
  have c2 : (w.alloc (.cells (incArr x) 50)).cell? ⟨h, 2, none⟩ = some (.int .u32 ((Sp.mapsOf is).length : Int)) := by rw [cell_blk hc1.blk]; rfl
  have c2' : w.cell? ⟨h, 2, none⟩ = some (.int .u32 ((Sp.mapsOf is).length : Int)) := by rw [cell_blk hcore.blk]; rfl
  have hfr : ∀ b, Foot h a i v b → Foot h a i v b ∨ w.heap.size ≤ b := fun b hb => .inl hb
  by_cases h1 : e ≤ is.length + 1
  · have hle : (e : Int) ≤ ((Sp.mapsOf is).length : Int) := by omega
    have HC := hid (show Hs (w.alloc (.cells (incArr x) 50)) h is (Foot h a i v) from ⟨a, i, v, hc1, hch, rfl⟩)
    have HU := hid hu1; have HF := hid hfr; have HE := hid h1
    clear hcore hc1 hch hml hu1 hfr h1
    go_enter Try.func17, Try.ntmps17
    go_wp2_with fail
    go_ret
    refine ⟨by rw [add_old x HE.out]; rfl, _, ?_, HU.out.nix, HF.out⟩
    rw [add_old x HE.out]; exact HC.out
  · by_cases h2 : is.length + 2 < e
    · have hle : ¬ e ≤ (Sp.mapsOf is).length := by omega
      have hd : (1 : Int) < (e : Int) - ((Sp.mapsOf is).length : Int) := by omega
      have HC := hid (show Hs (w.alloc (.cells (incArr x) 50)) h is (Foot h a i v) from ⟨a, i, v, hc1, hch, rfl⟩)
      have HU := hid hu1; have HF := hid hfr; have HE := hid h2
      clear hcore hc1 hch hml hu1 hfr h1 h2
      go_enter Try.func17, Try.ntmps17
      go_wp2_with fail
      go_ret
      refine ⟨by rw [add_gap x HE.out]; rfl, _, ?_, HU.out.nix, HF.out⟩
      rw [add_gap x HE.out]; exact HC.out
    · have he2 : e = is.length + 2 := by omega
      have hle : ¬ e ≤ (Sp.mapsOf is).length := by omega
      have hd : ¬ (1 : Int) < (e : Int) - ((Sp.mapsOf is).length : Int) := by omega
      have c0 : (w.alloc (.cells (incArr x) 50)).cell? ⟨h, 0, none⟩ = some (.map (some a)) := by rw [cell_blk hc1.blk]; rfl
      have hm1 : (Sp.mapsOf is).getD ((Sp.mapsOf is).length - 1) Sp.zeroMp = Sp.lastMap is := by
        rw [hml, Nat.add_sub_cancel, Sp.mapsOf_get is _ (Nat.le_refl _), List.take_length]
      have HM1 := hid hm1
      have HMI := hid (blk_lt hcore.iblk)
      have hB : (w.alloc (.cells (incArr x) 50)).heap[w.heap.size]? = some (.cells (incArr x) 50 (0, 0)) := alloc_new w _
      have HC := hid hc1; have HCH := hid hch; have HU := hid hu1; have HE := hid he2; have HN := hid hn; have HML := hid hml; have HB := hid hB
      clear hcore hc1 hch hml hu1 hfr h1 h2 hn hm1 he2 hB
      go_enter Try.func17, Try.ntmps17
      go_upto_region 5 with (fail)
      change Code.wp _ _ _ _ (w.alloc (.cells (incArr x) 50))
      generalize w.alloc (.cells (incArr x) 50) = w1 at *
      have hS : ∀ w', Upd Nix w1 w' → w'.cell? ⟨h, 0, none⟩ = some (.map (some a)) ∧ w'.cell? ⟨h, 2, none⟩ = some (.int .u32 ((Sp.mapsOf is).length : Int)) ∧
          w'.cell? ⟨w.heap.size, 0, none⟩ = some (.int .u8 x.kind) ∧ w'.cell? ⟨w.heap.size, 1, none⟩ = some (.int .u8 x.osd) ∧ w'.cell? ⟨w.heap.size, 2, none⟩ = some (.int .i64 x.n) ∧
          (Instr.lookup 105 (.map (some a)) (.int .u32 ((Sp.mapsOf is).length : Int)) false).run Try.prog w' = .ok (mpV (Sp.lastMap is)) w' := by
        intro w' hu
        have hc := HC.out.keep0 hu
        have hb := hu.keep HB.out (fun f => f)
        refine ⟨by rw [cell_blk hc.blk]; rfl, by rw [cell_blk hc.blk]; rfl, by rw [cell_blk hb]; rfl, by rw [cell_blk hb]; rfl, by rw [cell_blk hb]; rfl, ?_⟩
        have hlk := run_lookup_at (f := fun k => mpV ((Sp.mapsOf is).getD k Sp.zeroMp)) (k0 := 1) Try.underlying105 hc.mblk (Sp.mapsOf is).length (by have := HML.out; omega)
        simp only [HM1.out] at hlk
        exact hlk
      have hs1 : w.heap.size < w1.heap.size := blk_lt HB.out
      have hs2 : h < w1.heap.size := by omega
      have HS := hid hS
      have HB0 : Hid (((w1.alloc (.cells zeroArr 57)).drew).heap[w1.heap.size]? = some (.cells zeroArr 57 (0, 0))) := alloc_new w1 _
      clear hS c2 c0 HM1
      generalize hm0 : Sp.lastMap is = m0 at *
      have HM0 := hid hm0
      clear hm0
      have hap := fun w' => apply_any m0 x w' hx
      unfold ApplyPost at hap
      generalize hm1 : applyRes m0 x = m1 at *
      have HM1 := hid hm1
      obtain ⟨vs, hvs⟩ : ∃ vs, vs = mpArr m1 := ⟨_, rfl⟩
      have hap' : ∀ w', Calls Try.prog 44 #[mpV m0, incV x] w' fun e w'_1 => e = Ending.returned (Value.tuple #[.agg vs, Value.int IntKind.i64 (applyErr m0 x)]) ∧ Upd Nix w' w'_1 := by rw [hvs]; exact hap
      have hv16 : vs.size = 16 := by rw [hvs]; rfl
      have hv1 : vs.toList.all (fun v => v.oneCell') = true := by rw [hvs]; rfl
      have HV1 := hid hv1
      have HAP := hid hap'
      have HVS := hid hvs
      clear hap' hvs hv1
      clear hap hm1
      generalize hN : (Sp.mapsOf is).length = N at *
      have HNN := hid hN
      clear hN
      go_cut [7, 8] (fun p er wx => ∃ b : Nat, p = .pointer (some ⟨b, 0, none⟩) ∧ er = .int .i64 (applyErr m0 x) ∧ Hid (wx.heap[b]? = some (.cells (mpArr m1) 57 (0, 0)) ∧ w1.heap.size ≤ b ∧ Upd Nix w1 wx))
      case first =>
        go_region_held3 (fun w' => w'.cell? ⟨h, 0, none⟩ = some (.map (some a)) ∧ w'.cell? ⟨h, 2, none⟩ = some (.int .u32 (N : Int)) ∧
          w'.cell? ⟨w.heap.size, 0, none⟩ = some (.int .u8 x.kind) ∧ w'.cell? ⟨w.heap.size, 1, none⟩ = some (.int .u8 x.osd) ∧ w'.cell? ⟨w.heap.size, 2, none⟩ = some (.int .i64 x.n) ∧
          (Instr.lookup 105 (.map (some a)) (.int .u32 (N : Int)) false).run Try.prog w' = .ok (mpV m0) w')
          ((refine HS.out _ ?_; first
            | with_reducible exact ((Upd.refl Nix w1).drew)
            | with_reducible exact (((Upd.refl Nix w1).alloc _).drew)
            | with_reducible exact (((Upd.refl Nix w1).drew).trans hu3)
            | with_reducible exact (((Upd.refl Nix w1).alloc _).drew).trans hu3
            | with_reducible exact (((Upd.refl Nix w1).drew).trans hu3).alloc _
            | ((with_reducible refine Upd.setRow ?_ (.inr (Nat.le_refl _)) _); exact (((Upd.refl Nix w1).alloc _).drew).trans hu3)
            | ((with_reducible refine Upd.setRow ?_ (.inr ?_) _); (exact (((Upd.refl Nix w1).drew).trans hu3).alloc _); exact hu3.size)))
          (first | (go_at_call 44; refine (HAP.out _).mono ?_; rintro e w3 ⟨rfl, hu3⟩; have st1 := run_store_vs (w := w3.alloc (.cells zeroArr 57)) vs (alloc_new w3 _) hv16.symm HV1.out; (try (have hu3' : Upd Nix ((w1.alloc (.cells zeroArr 57)).drew) w3 := (by with_reducible exact hu3); have st2 := run_store_vs vs (hu3'.keep HB0.out (fun f => f)) hv16.symm HV1.out; clear hu3'))))
        all_goals go_wp2
        all_goals go_meet
        all_goals refine ⟨_, rfl, rfl, ?_, ?_, ?_⟩
        all_goals first
          | exact hu3.size
          | exact Nat.le_refl _
          | (rw [← HVS.out]; exact setRow_new vs (alloc_new w3 _))
          | (rw [← HVS.out]; exact setRow_new vs (hu3.keep HB0.out (fun f => f)))
          | ((with_reducible refine Upd.setRow ?_ (.inr (Nat.le_refl _)) _); exact (((Upd.refl Nix w1).alloc _).drew).trans hu3)
          | ((with_reducible refine Upd.setRow ?_ (.inr ?_) _); (exact (((Upd.refl Nix w1).drew).trans hu3).alloc _); exact hu3.size)
      case rest =>
        obtain ⟨b, rfl, rfl, HW⟩ := hcut
        have HC2 := hid (HC.out.keep0 HW.out.2.2)
        have HU2 := hid (HU.out.trans HW.out.2.2)
        have HB2 := hid (HW.out.2.2.keep HB.out (fun f => f))
        have HB7 := hid HW.out.1
        have hs3 := HW.out.2.2.size
        have hs4 := HW.out.2.1
        clear HW HC HU HB HS HAP HV1 HVS hv16
        cases hok : Sp.okApply m0 x
        · have herr : applyErr m0 x = 40 := by unfold applyErr; rw [hok]; rfl
          have HOK := hid hok
          rw [herr]
          clear hok herr
          go_wp2_with fail
          go_ret
          have hadd := add_no HE.out HCH.out (by rw [HM0.out]; exact HOK.out)
          refine ⟨by rw [hadd]; rfl, _, ?_, HU2.out.nix, fun b hb => .inl hb⟩
          rw [hadd]
          exact ⟨a, i, v, by unfold HistAt; simp only; rw [HNN.out]; exact HC2.out, HCH.out, rfl⟩
        · have herr : applyErr m0 x = 0 := by unfold applyErr; rw [hok]; rfl
          have hm : m1 = Sp.apply m0 x := by rw [← HM1.out]; unfold applyRes; rw [if_pos hok]
          have HOK := hid hok; have HM := hid hm
          rw [herr]
          clear hok herr hm
          go_upto_region 8 with (fail)
          have c1 : wc.cell? ⟨h, 1, none⟩ = some (.map (some i)) := by rw [cell_blk HC2.out.blk]; rfl
          have l0 : wc.cell? ⟨w.heap.size, 0, none⟩ = some (.int .u8 x.kind) := by rw [cell_blk HB2.out]; rfl
          have l1 : wc.cell? ⟨w.heap.size, 1, none⟩ = some (.int .u8 x.osd) := by rw [cell_blk HB2.out]; rfl
          have l2 : wc.cell? ⟨w.heap.size, 2, none⟩ = some (.int .i64 x.n) := by rw [cell_blk HB2.out]; rfl
          go_still_tail 6, (by kernel_rfl)
          change wpList _ _ _ _ _ wc.drew
          have HC3 := hid (HC2.out.keep0 ((Upd.refl Nix wc).drew))
          have HU3 := hid ((HU2.out).drew)
          have HB8 : Hid (wc.drew.heap[b]? = some (.cells (mpArr m1) 57 (0, 0))) := HB7.out
          clear c1 l0 l1 l2 HC2 HU2 HB2 HB7
          have hs5 : w1.heap.size ≤ wc.drew.heap.size := hs3
          generalize wc.drew = w2 at *
          have hq : (e : Int) = ((is.length + 2 : Nat) : Int) := by have := HE.out; omega
          have hmu := run_update_new (f := fun k => incV (is.getD k Sp.zeroInc)) (k0 := 2) Try.underlying106 HC3.out.iblk (incV x) (e : Int) hq
          have hmu' : (Instr.mapUpdate 106 (.map (some i)) (.int .u32 (e : Int)) (incV x)).run Try.prog w2 = .ok () (putMap w2 i (.map (iEnts is ++ ([⟨.int .u32 (e : Int), incV x, is.length⟩] : List MapEntry)).toArray (is.length + 1))) := hmu
          have hput := core_put_inc HC3.out x (e : Int) hq
          have hi := blk_lt HC3.out.iblk
          have hbi : b ≠ i := by have := HMI.out; omega
          have HB9 := hid ((putMap_old (o := .map (iEnts is ++ ([⟨.int .u32 (e : Int), incV x, is.length⟩] : List MapEntry)).toArray (is.length + 1)) b hbi).trans HB8.out)
          have HU4 := hid ((HU3.out.nix).putMap (F := Foot h a i v) (r := i) (.inl (.inr (.inr (.inl rfl)))) (.map (iEnts is ++ ([⟨.int .u32 (e : Int), incV x, is.length⟩] : List MapEntry)).toArray (is.length + 1)))
          have HP := hid hput
          clear hmu hput hq hi hbi HC3 HU3 HB8
          go_upto_region 9 with (fail)
          change Code.wp _ _ _ _ (putMap w2 i (.map (iEnts is ++ ([⟨.int .u32 (e : Int), incV x, is.length⟩] : List MapEntry)).toArray (is.length + 1)))
          have hsz4 : w.heap.size ≤ (putMap w2 i (.map (iEnts is ++ ([⟨.int .u32 (e : Int), incV x, is.length⟩] : List MapEntry)).toArray (is.length + 1))).heap.size := HU4.out.size
          generalize putMap w2 i (.map (iEnts is ++ ([⟨.int .u32 (e : Int), incV x, is.length⟩] : List MapEntry)).toArray (is.length + 1)) = w4 at *
          have hep : m1.ep = (((Sp.mapsOf is).length + 1 : Nat) : Int) := by
            have h1 := (Sp.lastMap_good HCH.out).2
            have h2 := HML.out; have h3 := HNN.out
            rw [HM.out, Sp.apply_ep, ← HM0.out, h1, h3, h2]; simp
          have hl := lays_any h a i N v (Sp.mapsOf is) (is ++ [x]) m1 w4 HP.out hep (by have := HN.out; have := HNN.out; omega)
          have HL := hid hl
          clear hl hep hmu'
          go_wp2_with ((with_reducible refine at_loadv 57 (.tmp 7) ?_); refine wpList_load_row rfl 57 (.tmp 7) rfl b rfl 57 (mpArr m1) (0, 0) _ HB9.out Try.underlying57 rfl size57 ?_)
          refine HL.out.mono ?_
          rintro e5 w5 ⟨rfl, v', hc5, hu5, hf5⟩
          have HC5 := hid hc5; have HU5 := hid hu5; have HF5 := hid hf5
          clear hc5 hu5 hf5 HL HP HB9
          go_wp2_with fail
          go_ret
          have hadd := add_yes HE.out HCH.out (by rw [HM0.out]; exact HOK.out)
          have hms : Sp.mapsOf (is ++ [x]) = Sp.mapsOf is ++ [m1] := by rw [Sp.mapsOf_snoc, HM0.out, HM.out]
          refine ⟨by rw [hadd]; rfl, Foot h a i v', ?_, HU4.out.trans' HU5.out (fun _ _ f => f), ?_⟩
          · rw [hadd]
            refine ⟨a, i, v', ?_, HCH.out.snoc (by rw [HM0.out]; exact HOK.out), rfl⟩
            unfold HistAt
            simp only
            rw [hms, List.length_append, List.length_singleton]
            exact HC5.out
          · rintro b (rfl | rfl | rfl | ⟨g, hg, hb⟩)
            · exact .inl (.inl rfl)
            · exact .inl (.inr (.inl rfl))
            · exact .inl (.inr (.inr (.inl rfl)))
            · rcases HF5.out g hg b hb with h | h
              · exact .inl (.inr (.inr (.inr ⟨g, hg, h⟩)))
              · exact .inr (by omega)
end Go.Proofs.Ytmkpljbkmkbnjaa
