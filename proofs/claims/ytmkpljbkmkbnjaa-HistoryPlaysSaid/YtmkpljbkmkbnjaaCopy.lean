/-
  THE WALKS of history.Copy and of maps.Clone at its two types.
-/
import Derived.Test.YtmkpljbkmkbnjaaTwo
import Derived.Deep.DeepCutAuto
import Derived.Shelf.SlMaps.Clone
namespace Go.Proofs.Ytmkpljbkmkbnjaa
open Go.RowKit
set_option linter.unusedVariables false
set_option linter.unusedSimpArgs false

def ClonePost (es : Array MapEntry) (clock : Nat) (w : World) (e : Ending) (w' : World) : Prop :=
  ∃ r, e = .returned (.map (some r)) ∧ w.heap.size ≤ r ∧ w'.heap[r]? = some (.map es clock) ∧ Upd Nix w w'
set_option maxRecDepth 10000 in
theorem clone51_any (b : Nat) (es : Array MapEntry) (clock : Nat) (w : World) (hb : w.heap[b]? = some (.map es clock)) : Calls Try.prog 51 #[.map (some b)] w (ClonePost es clock w) := by
  have hq := fun w => run_eql_map_nil_sl (P := Try.prog) w 105 _ _ (some b) Try.underlying105
  have HB := hid hb
  clear hb
  go_enter Try.func51, Try.ntmps51
  go_wp2
  rw [run_callFunc_extern Try.func77 (by kernel_rfl) (by kernel_rfl) (by kernel_rfl) (e := Extern.MapsClone.clone) (by kernel_rfl), run_maps_clone_sl w 105 HB.out]
  simp only [Result.andThen]
  rw [Oper.upon_value]
  go_wp2
  rw [run_typeAssert_map_sl _ 105 20 _ _ _ Try.underlying105]
  simp only [Result.andThen]
  rw [Oper.upon_value]
  go_wp2
  go_ret
  exact ⟨_, rfl, Nat.le_refl _, alloc_new w _, (Upd.refl _ _).alloc _⟩
set_option maxRecDepth 10000 in
theorem clone52_any (b : Nat) (es : Array MapEntry) (clock : Nat) (w : World) (hb : w.heap[b]? = some (.map es clock)) : Calls Try.prog 52 #[.map (some b)] w (ClonePost es clock w) := by
  have hq := fun w => run_eql_map_nil_sl (P := Try.prog) w 106 _ _ (some b) Try.underlying106
  have HB := hid hb
  clear hb
  go_enter Try.func52, Try.ntmps52
  go_wp2
  rw [run_callFunc_extern Try.func77 (by kernel_rfl) (by kernel_rfl) (by kernel_rfl) (e := Extern.MapsClone.clone) (by kernel_rfl), run_maps_clone_sl w 106 HB.out]
  simp only [Result.andThen]
  rw [Oper.upon_value]
  go_wp2
  rw [run_typeAssert_map_sl _ 106 20 _ _ _ Try.underlying106]
  simp only [Result.andThen]
  rw [Oper.upon_value]
  go_wp2
  go_ret
  exact ⟨_, rfl, Nat.le_refl _, alloc_new w _, (Upd.refl _ _).alloc _⟩

/-- one group's intervals, cloned, in a new history -/
theorem core_put_iv {w4 w5 : World} {h a i N k : Nat} {v : Nat → Value} {ms : List Sp.Mp} {is : List Sp.Inc} {L : Nat → List (Int × List Nat)} {nv : Value} (HL : HCore w4 h a i N v ms is L) (hu : Upd Nix w4 w5) (hk : k < 4)
    {tl : List (Int × List Nat × Value)} (hrow : w5.ownsRow w4.heap.size 62 2 nv tl.length (ivCells tl)) (hin : ∀ t ∈ tl, RowN w5 0 t.2.2 t.2.1) :
    HCore (w5.setCell ⟨h, 3 + k, none⟩ nv) h a i N (setIv v k nv) ms is (fun g => if g = k then tl.map (fun t => (t.1, t.2.1)) else L g) := by
  have H5 := HL.keep0 hu
  have hset : Upd (fun b => b = h) w5 (w5.setCell ⟨h, 3 + k, none⟩ nv) := Upd.setCell (F := fun b => b = h) (Upd.refl _ w5) (p := ⟨h, 3 + k, none⟩) (.inl rfl) _
  have hb := blk_setCell (i := 3 + k) (v := nv) H5.blk
  rw [hArr_set _ _ _ _ _ hk] at hb
  have hlt : ∀ g b, g < 4 → (v g).ownBlock = some b → b < w4.heap.size := by
    intro g b hg e
    obtain ⟨cur, hc⟩ := (HL.iv g hg).blk e
    exact blk_lt hc
  refine ⟨hb, hset.keep H5.mblk (fun e => ?_), hset.keep H5.iblk (fun e => ?_), HL.ai, fun g hg => ?_, fun g k' hg hk' hgk b hb1 hb2 => ?_⟩
  · have := H5.mblk; rw [e, H5.blk] at this; simp at this
  · have := H5.iblk; rw [e, H5.blk] at this; simp at this
  · by_cases e : g = k
    · subst e
      rw [setIv_same, if_pos rfl]
      exact IvAt.setCell ⟨tl, rfl, row_mono hrow (Nat.zero_le _), hin⟩ H5.blk _
    · rw [setIv_other _ _ _ _ e, if_neg e]
      exact IvAt.setCell (H5.iv g hg) H5.blk _
  · by_cases e : g = k
    · subst e
      rw [setIv_same] at hb1
      rw [setIv_other _ _ _ _ (fun c => hgk c.symm)] at hb2
      have := (row_blk hrow hb1).1
      have := hlt k' b hk' hb2
      omega
    · rw [setIv_other _ _ _ _ e] at hb1
      by_cases e2 : k' = k
      · subst e2
        rw [setIv_same] at hb2
        have := (row_blk hrow hb2).1
        have := hlt g b hg hb1
        omega
      · rw [setIv_other _ _ _ _ e2] at hb2
        exact HL.sep g k' hg hk' hgk b hb1 hb2
/-- the copy in the midst -/
structure CopyMid (hh r1 r2 : Nat) (ms : List Sp.Mp) (is : List Sp.Inc) (k : Nat) (v' : Nat → Value) (w wr : World) : Prop where
  core : HCore wr hh r1 r2 ms.length v' ms is (fun g => if g < k then Sp.ivs ms g else [])
  upd : Upd Nix w wr
  nil : ∀ g, k ≤ g → v' g = .slice none 0 0
  new : ∀ g b, g < 4 → (v' g).ownBlock = some b → w.heap.size ≤ b
theorem mid_next {hh r1 r2 k : Nat} {ms : List Sp.Mp} {is : List Sp.Inc} {v' : Nat → Value} {w w4 w5 : World} {nv : Value} (H : CopyMid hh r1 r2 ms is k v' w w4) (hhn : w.heap.size ≤ hh) (hu : Upd Nix w4 w5) (hk : k < 4)
    {tl : List (Int × List Nat × Value)} (htl : tl.map (fun t => (t.1, t.2.1)) = Sp.ivs ms k) (hrow : w5.ownsRow w4.heap.size 62 2 nv tl.length (ivCells tl)) (hin : ∀ t ∈ tl, RowN w5 0 t.2.2 t.2.1) :
    CopyMid hh r1 r2 ms is (k + 1) (setIv v' k nv) w (w5.setCell ⟨hh, 3 + k, none⟩ nv) := by
  refine ⟨(core_put_iv H.core hu hk hrow hin).congrL (fun g hg => ?_), (H.upd.trans hu).setCell (.inr hhn) _, fun g hg => ?_, fun g b hg hb => ?_⟩
  · by_cases e : g = k
    · subst e; rw [if_pos rfl, if_pos (by omega), htl]
    · rw [if_neg e]
      by_cases e2 : g < k
      · rw [if_pos e2, if_pos (by omega)]
      · rw [if_neg e2, if_neg (by omega)]
  · rw [setIv_other _ _ _ _ (by omega)]; exact H.nil g (by omega)
  · by_cases e : g = k
    · subst e
      rw [setIv_same] at hb
      have := (row_blk hrow hb).1
      have := H.upd.size
      omega
    · rw [setIv_other _ _ _ _ e] at hb
      exact H.new g b hg hb
theorem idx107 (v : Nat → Value) (k : Nat) (hk : k < 4) (w : World) : (Instr.index 107 (.agg #[v 0, v 1, v 2, v 3]) (.int .i64 (k : Int))).run Try.prog w = .ok (v k) w := by
  rcases (show k = 0 ∨ k = 1 ∨ k = 2 ∨ k = 3 by omega) with rfl | rfl | rfl | rfl <;> kernel_rfl
def CopyPost (ms : List Sp.Mp) (is : List Sp.Inc) (w : World) (e : Ending) (w' : World) : Prop :=
  ∃ h a i v, e = .returned (.pointer (some ⟨h, 0, none⟩)) ∧ HistAt w' h a i v ms is ∧ Upd Nix w w' ∧ ∀ b, Foot h a i v b → w.heap.size ≤ b
set_option maxRecDepth 10000 in
theorem copy_any (h a i : Nat) (v : Nat → Value) (ms : List Sp.Mp) (is : List Sp.Inc) (w : World) (H : HistAt w h a i v ms is) (hlen : ms.length ≤ 60) :
    Calls Try.prog 29 #[.pointer (some ⟨h, 0, none⟩)] w (CopyPost ms is w) := by
  have hS : ∀ w', Upd Nix w w' → w'.cell? ⟨h, 0, none⟩ = some (.map (some a)) ∧ w'.cell? ⟨h, 1, none⟩ = some (.map (some i)) ∧ w'.cell? ⟨h, 2, none⟩ = some (.int .u32 (ms.length : Int)) := by
    intro w' hu
    have hb := (H.keep0 hu).blk
    exact ⟨by rw [cell_blk hb]; rfl, by rw [cell_blk hb]; rfl, by rw [cell_blk hb]; rfl⟩
  have h1 : ∀ w', Upd Nix w w' → Calls Try.prog 51 #[.map (some a)] w' (ClonePost (mEnts ms).toArray ms.length w') := fun w' hu => clone51_any a _ _ w' (H.keep0 hu).mblk
  have h2 : ∀ w', Upd Nix w w' → Calls Try.prog 52 #[.map (some i)] w' (ClonePost (iEnts is).toArray is.length w') := fun w' hu => clone52_any i _ _ w' (H.keep0 hu).iblk
  have c0 : w.cell? ⟨h, 0, none⟩ = some (.map (some a)) := (hS w (Upd.refl _ _)).1
  have HH := hid H; have HS := hid hS; have H1 := hid h1; have H2 := hid h2
  clear H hS h1 h2
  generalize hN : ms.length = N at *
  have HN := hid hN
  clear hN
  go_enter Try.func29, Try.ntmps29
  go_upto_region 1 with (fail)
  go_cut [3] (fun p wx => ∃ hh r1 r2 : Nat, p = .pointer (some ⟨hh, 0, none⟩) ∧ Hid (HCore wx hh r1 r2 ms.length nilIv ms is (fun _ => []) ∧ Upd Nix w wx ∧ w.heap.size ≤ hh ∧ w.heap.size ≤ r1 ∧ w.heap.size ≤ r2))
  case first =>
    go_region_held3 (fun w' => w'.cell? ⟨h, 0, none⟩ = some (.map (some a)) ∧ w'.cell? ⟨h, 1, none⟩ = some (.map (some i)) ∧ w'.cell? ⟨h, 2, none⟩ = some (.int .u32 (N : Int)))
      ((refine HS.out _ ?_; first
        | with_reducible exact ((Upd.refl Nix w).drew)
        | with_reducible exact HU1.out
        | with_reducible exact HU2.out
        | with_reducible exact (HU2.out).alloc _))
      (first
        | (go_at_call 51; refine (H1.out _ ((Upd.refl Nix w).drew)).mono ?_; rintro e w3 ⟨r1, rfl, hr1, hb1, hu1⟩; have HU1 := hid (((Upd.refl Nix w).drew).trans hu1); have HB1 := hid hb1; have HR1 := hid hr1; clear hu1 hb1 hr1)
        | (go_at_call 52; refine (H2.out _ HU1.out).mono ?_; rintro e w4 ⟨r2, rfl, hr2, hb2, hu2⟩; have HU2 := hid (HU1.out.trans hu2); have HB2 := hid hb2; have HR2 := hid hr2; have HB3 := hid (hu2.keep HB1.out (fun f => f)); clear hu2 hb2 hr2))
    all_goals go_wp2
    all_goals go_meet
    all_goals refine ⟨w4.heap.size, r1, r2, rfl, ?_⟩
    all_goals (
      have a1 : w.heap.size ≤ r1 := HR1.out
      have a2 : w3.heap.size ≤ r2 := HR2.out
      have a3 := blk_lt HB1.out
      have a4 := HU1.out.size
      have a5 := HU2.out.size
      refine ⟨⟨?_, ?_, ?_, by omega, fun g hg => ⟨[], rfl, World.ownsRow_nil _ _ _ _, by simp⟩, fun g k hg hk hgk b hb => by simp [nilIv, Value.ownBlock] at hb⟩, HU2.out.alloc _, a5, a1, by omega⟩
      · rw [HN.out]; exact alloc_new w4 _
      · rw [alloc_old _ _ _ (blk_lt HB3.out), HN.out]; exact HB3.out
      · rw [alloc_old _ _ _ (blk_lt HB2.out)]; exact HB2.out)
  case rest =>
    obtain ⟨hh, r1, r2, rfl, HC⟩ := hcut
    have hH := HH.out.keep0 HC.out.2.1
    have k3 : wc.cell? ⟨h, 3, none⟩ = some (v 0) := by rw [cell_blk hH.blk]; rfl
    have k4 : wc.cell? ⟨h, 4, none⟩ = some (v 1) := by rw [cell_blk hH.blk]; rfl
    have k5 : wc.cell? ⟨h, 5, none⟩ = some (v 2) := by rw [cell_blk hH.blk]; rfl
    have k6 : wc.cell? ⟨h, 6, none⟩ = some (v 3) := by rw [cell_blk hH.blk]; rfl
    have HMID : Hid (CopyMid hh r1 r2 ms is 0 nilIv w wc) := hid ⟨HC.out.1.congrL (fun g hg => by rw [if_neg (by omega)]), HC.out.2.1, fun g hg => rfl, fun g b hg hb => by simp [nilIv, Value.ownBlock] at hb⟩
    have HF := hid HC.out.2.2
    have hFF := HF.out
    clear hH HS H1 H2 HC c0 hFF
    go_wp2_with fail
    go_loopw [26] (fun j wr => ∃ k : Nat, ∃ v' : Nat → Value, k ≤ 4 ∧ j = .int .i64 k ∧ Hid (CopyMid hh r1 r2 ms is k v' w wr)) (fun j _ => 4 - (intOf j).toNat)
    case atStart => exact ⟨0, nilIv, by omega, rfl, HMID.out⟩
    case round =>
      obtain ⟨k, v', hk, rfl, HR⟩ := hrel
      clear HMID k3 k4 k5 k6
      by_cases hlt : k < 4
      · have hki : (k : Int) < 4 := by omega
        have hidx := idx107 v k hlt
        go_upto_region 5 with (fail)
        clear hidx
        obtain ⟨tl, e1, hrow, hin⟩ := (HH.out.keep0 HR.out.upd).iv k hlt
        have htl : tl.length ≤ 60 := by have := Sp.ivs_len ms k; rw [← e1, List.length_map] at this; have := HN.out; omega
        have hcl := fun w' (hu : Upd Nix wr w') => clone45_any (v k) tl.length 0 (ivCells tl) w' (row_keep hrow hu (fun _ _ f => f)) (by omega) (ivCells_one hin)
        have hst : ∀ w', Upd Nix wr w' → w'.cell? ⟨hh, 3 + k, none⟩ = some (.slice none 0 0) ∧ w'.frozen? ⟨hh, 3 + k, none⟩ = false := by
          intro w' hu
          have hb := (HR.out.core.keep0 hu).blk
          refine ⟨?_, free_blk hb _⟩
          rw [cell_blk hb, hArr_iv _ _ _ _ k hlt, HR.out.nil k (Nat.le_refl _)]
        obtain ⟨s1, s2⟩ := hst wr (Upd.refl _ _)
        have HCL := hid hcl; have HST := hid hst; have HTL := hid (And.intro e1 hin)
        clear hcl hst e1 hin hrow
        clear s1 s2
        go_region_held3 (fun w' => True)
          ((exact trivial))
          (first
            | (go_at_call 45; refine (HCL.out _ ((Upd.refl Nix wr).drew)).mono ?_; rintro e w5 ⟨nv, rfl, hr5, hu5⟩; have HU5 := hid (((Upd.refl Nix wr).drew).trans hu5); obtain ⟨na, nc, rfl⟩ := row_nil hr5; have HR5 := hid hr5; clear hu5 hr5; obtain ⟨s1, s2⟩ := HST.out w5 HU5.out))
        all_goals clear s1 s2 HCL HST
        all_goals go_wp2_with fail
        all_goals go_roundw
        case rel => exact ⟨k + 1, _, by omega, by go_num, mid_next HR.out HF.out.1 HU5.out hlt HTL.out.1 HR5.out (fun t ht => row_keep (HTL.out.2 t ht) HU5.out (fun _ _ f => f))⟩
        case measure => simp [intOf]; omega
      · have : k = 4 := by omega
        subst this
        go_wp2_with fail
        go_ret
        refine ⟨hh, r1, r2, v', rfl, HR.out.core.congrL (fun g hg => by rw [if_pos hg]), HR.out.upd, ?_⟩
        rintro b (rfl | rfl | rfl | ⟨g, hg, hb⟩)
        · exact HF.out.1
        · exact HF.out.2.1
        · exact HF.out.2.2
        · exact HR.out.new g b hg hb
def CopyS (w0 : World) (h : Nat) (is : List Sp.Inc) (e : Ending) (w' : World) : Prop := ∃ c, e = .returned (.pointer (some ⟨c, 0, none⟩)) ∧ Two w0 w' h is c is
theorem copy_at {w0 w : World} {h : Nat} {is : List Sp.Inc} (H : At w0 w h is) : Calls Try.prog 29 #[.pointer (some ⟨h, 0, none⟩)] w (CopyS w0 h is) := by
  have H0 := H
  obtain ⟨S, h1, h2, h3⟩ := H
  have hm := h1.maps
  obtain ⟨a, i, v, hc, hch, rfl⟩ := h1
  refine (copy_any h a i v _ is w hc (by omega)).mono ?_
  rintro e w' ⟨c, a', i', v', rfl, hc', hu, hf⟩
  exact ⟨c, rfl, H0.two ⟨a', i', v', hc', hch, rfl⟩ hu hf⟩
end Go.Proofs.Ytmkpljbkmkbnjaa
