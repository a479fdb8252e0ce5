/-
  THE WALK of history's lays: one more map.
-/
import Derived.Test.YtmkpljbkmkbnjaaLayPush
import Derived.Deep.AppendLies
import Derived.Deep.RegionLaw
import Derived.StillTailTactics
import Derived.Deep.DeepCutAuto
namespace Go.Proofs.Ytmkpljbkmkbnjaa
open Go.RowKit
set_option linter.unusedVariables false
set_option linter.unusedSimpArgs false

def LaysPost (h a i : Nat) (v : Nat → Value) (ms : List Sp.Mp) (is : List Sp.Inc) (m : Sp.Mp) (w : World) (e : Ending) (w' : World) : Prop :=
  e = .returned (.tuple #[]) ∧ ∃ v', HCore w' h a i (ms.length + 1) v' (ms ++ [m]) is (fun g => Sp.ivs (ms ++ [m]) g) ∧ Upd (Foot h a i v) w w' ∧ ∀ g, g < 4 → ∀ b, (v' g).ownBlock = some b → (v g).ownBlock = some b ∨ w.heap.size ≤ b

/-- behind the map's store -/
theorem core_put {w : World} {h a i n : Nat} {v : Nat → Value} {ms : List Sp.Mp} {is : List Sp.Inc} {L : Nat → List (Int × List Nat)} (H : HCore w h a i n v ms is L) (m : Sp.Mp) (q : Int) (hq : q = ((ms.length + 1 : Nat) : Int)) :
    HCore (putMap w a (.map (mEnts ms ++ ([⟨.int .u32 q, mpV m, ms.length⟩] : List MapEntry)).toArray (ms.length + 1))) h a i n v (ms ++ [m]) is L := by
  have hha : h ≠ a := fun e => by have h1 := H.blk; rw [e, H.mblk] at h1; simp at h1
  have hu := Upd.putMap (F := fun b => b = a) (Upd.refl _ w) (r := a) (.inl rfl) (.map (mEnts ms ++ ([⟨.int .u32 q, mpV m, ms.length⟩] : List MapEntry)).toArray (ms.length + 1))
  refine ⟨hu.keep H.blk hha, ?_, hu.keep H.iblk (fun e => H.ai e.symm), H.ai, fun g hg => (H.iv g hg).keep hu (fun b hb e => ⟨fun e2 => ?_, fun cur fr e2 => ?_⟩), H.sep⟩
  · rw [putMap_new (blk_lt H.mblk), hq, mEnts_snoc]; simp
  · obtain ⟨cur, hc⟩ := (H.iv g hg).blk e2
    subst e
    rw [H.mblk] at hc; simp at hc
  · subst e
    rw [H.mblk] at e2; simp at e2

theorem acting_len (m : Sp.Mp) (g : Nat) : (Sp.acting m g).length ≤ 3 := by
  have h1 : (Sp.acting m g).length ≤ (Sp.pick m g).length := List.length_filter_le _ _
  have h2 : (Sp.pick m g).length ≤ 3 := by
    unfold Sp.pick
    split
    · split
      · simp
      · exact pickUpto_len m g 3
    · simp
  omega
theorem ivs_act_len (ms : List Sp.Mp) (g : Nat) : ∀ t ∈ Sp.ivs ms g, t.2.length ≤ 3 := by
  suffices h : ∀ (l : List Sp.Mp) (acc : List (Int × List Nat)), (∀ t ∈ acc, t.2.length ≤ 3) → ∀ t ∈ l.foldl (Sp.ivStep g) acc, t.2.length ≤ 3 from h ms [] (by simp)
  intro l
  induction l with
  | nil => intro acc h; exact h
  | cons m r ih =>
    intro acc h
    refine ih _ ?_
    intro t ht
    unfold Sp.ivStep at ht
    split at ht
    · exact h t ht
    · rw [List.mem_append] at ht
      rcases ht with ht | ht
      · exact h t ht
      · simp at ht; subst ht; exact acting_len m g
theorem two_oneCell (x : Int) (aa : Option Addr) (n c : Nat) : ∀ u ∈ [Value.int .u32 x, Value.slice aa n c], u.oneCell' = true := by
  intro u hu; simp at hu; rcases hu with rfl | rfl <;> rfl
theorem row_drew {w : World} {base e size n : Nat} {v : Value} {xs : List Value} (h : w.ownsRow base e size v n xs) : w.drew.ownsRow base e size v n xs := row_keep h ((Upd.refl Nix w).drew) (fun _ _ f => f)
theorem ivStep_new {k : Nat} {l : List (Int × List Nat)} {m : Sp.Mp} (h : l.getLast?.map (·.2) ≠ some (Sp.acting m k)) : Sp.ivStep k l m = l ++ [(m.ep, Sp.acting m k)] := by
  unfold Sp.ivStep; rw [if_neg h]
theorem ivStep_old {k : Nat} {l : List (Int × List Nat)} {m : Sp.Mp} (h : l.getLast?.map (·.2) = some (Sp.acting m k)) : Sp.ivStep k l m = l := by
  unfold Sp.ivStep; rw [if_pos h]
/-- what the store behind the append asks of the history's struct -/
theorem lay_cells {w3 w4 : World} {h a i N k : Nat} {v : Nat → Value} {ms : List Sp.Mp} {is : List Sp.Inc} {L : Nat → List (Int × List Nat)} (HL : HCore w3 h a i N v ms is L) (hk : k < 4) {o : Obj} (hgr : (w3.alloc o).grownBy w4 (v k).ownBlock) :
    w4.cell? ⟨h, 3 + k, none⟩ = some (v k) ∧ w4.frozen? ⟨h, 3 + k, none⟩ = false := by
  have hne_h : (v k).ownBlock ≠ some h := fun e => by obtain ⟨cur, hc⟩ := (HL.iv k hk).blk e; rw [HL.blk] at hc; simp at hc
  have hb4 := behind_append HL.blk hgr hne_h
  exact ⟨by rw [cell_blk hb4]; exact hArr_iv _ _ _ _ k hk, free_blk hb4 _⟩
set_option maxRecDepth 10000 in
set_option maxHeartbeats 1000000 in
theorem lays_any (h a i n : Nat) (v : Nat → Value) (ms : List Sp.Mp) (is : List Sp.Inc) (m : Sp.Mp) (w : World) (H : HCore w h a i n v ms is (fun g => Sp.ivs ms g)) (hm : m.ep = ((ms.length + 1 : Nat) : Int)) (hlen : ms.length ≤ 60) :
    Calls Try.prog 42 #[.pointer (some ⟨h, 0, none⟩), mpV m] w (LaysPost h a i v ms is m w) := by
  have hh := blk_lt H.blk
  have hu1 : Upd Nix w (w.alloc (.cells (mpArr m) 57)) := (Upd.refl Nix w).alloc _
  have hb1 : (w.alloc (.cells (mpArr m) 57)).heap[w.heap.size]? = some (.cells (mpArr m) 57 (0, 0)) := alloc_new w _
  obtain ⟨i0, hi, hz0, hz1, hz2⟩ := info_parts info62
  have HM := hid hm
  clear hm
  go_enter Try.func42, Try.ntmps42
  go_upto_region 1 with (fail)
  generalize w.alloc (.cells (mpArr m) 57) = w1 at *
  have hcore := H.keep0 hu1
  have hcore' : HCore w1.drew h a i n v ms is (fun g => Sp.ivs ms g) := hcore.keep0 ((Upd.refl _ _).drew)
  have c0 : w1.cell? ⟨h, 0, none⟩ = some (.map (some a)) := by rw [cell_blk hcore.blk]; rfl
  have cb := cell_blk hb1
  have hmu := run_update_new (f := fun k => mpV (ms.getD k Sp.zeroMp)) (k0 := 1) Try.underlying105 hcore'.mblk (mpV m) m.ep HM.out
  have hput := core_put hcore' m m.ep HM.out
  have hmu' : (Instr.mapUpdate 105 (.map (some a)) (.int .u32 m.ep) (mpV m)).run Try.prog w1.drew = .ok () (putMap w1.drew a (.map (mEnts ms ++ ([⟨.int .u32 m.ep, mpV m, ms.length⟩] : List MapEntry)).toArray (ms.length + 1))) := hmu
  have HH := hid H; have HP := hid hput; have HB := hid hb1; have HU := hid hu1
  have HMU := hid hmu'
  clear H hcore hcore' hmu hmu' hput hb1 hu1
  go_cut [3] (fun p wx => p = .pointer (some ⟨w.heap.size, 0, none⟩) ∧ Hid (HCore wx h a i n v (ms ++ [m]) is (fun g => Sp.ivs ms g) ∧ wx.heap[w.heap.size]? = some (.cells (mpArr m) 57 (0, 0)) ∧ Upd (Foot h a i v) w wx))
  case first =>
    go_still_tail 7, (by kernel_rfl)
    change wpList _ _ _ _ _ w1.drew
    have hmu2 := HMU.out
    have hU2 : Upd (Foot h a i v) w w1.drew := (HU.out.drew).nix
    have hB2 : w1.drew.heap[w.heap.size]? = some (.cells (mpArr m) 57 (0, 0)) := HB.out
    have ha := blk_lt HH.out.mblk
    have hne : w.heap.size ≠ a := by omega
    have HP2 := HP.out
    generalize w1.drew = w2 at *
    have HU2 := hid hU2; have HB2 := hid hB2; have HP3 := hid HP2
    clear hU2 hB2 HP2 HP HMU HB HU c0 cb
    go_wp2
    go_meet
    case rel => exact ⟨rfl, HP3.out, by rw [putMap_old _ hne]; exact HB2.out, HU2.out.putMap (.inl (.inr (.inl rfl))) _⟩
  case rest =>
    obtain ⟨rfl, HC⟩ := hcut
    have hw : Upd (Foot h a i v) w wc := HC.out.2.2
    have k2 : wc.cell? ⟨h, 2, none⟩ = some (.int .u32 (n : Int)) := by rw [cell_blk HC.out.1.blk]; rfl
    have f2 := free_blk HC.out.1.blk 2
    have cb := cell_blk HC.out.2.1 0
    have cb' : wc.cell? ⟨w.heap.size, 0, none⟩ = some (.int .u32 m.ep) := cb
    clear cb c0
    have hne : w.heap.size ≠ h := by omega
    go_wp2_with fail
    have hst : LayMid h a i v v ms is m 0 w (wc.setCell ⟨h, 2, none⟩ (.int .u32 m.ep)) := by
      have hset : Upd (fun b => b = h) wc (wc.setCell ⟨h, 2, none⟩ (.int .u32 m.ep)) := Upd.setCell (F := fun b => b = h) (Upd.refl _ wc) (p := ⟨h, 2, none⟩) (.inl rfl) _
      have hb := blk_setCell (i := 2) (v := .int .u32 m.ep) HC.out.1.blk
      rw [HM.out, hArr_last] at hb
      rw [HM.out] at hset ⊢
      have hty : ∀ b, b = h → ∀ c t, wc.heap[b]? = some (.cells c t (0, 0)) → t = 109 := fun b e c t hc => by
        subst e; rw [HC.out.1.blk] at hc; simp at hc; exact hc.2.symm
      refine ⟨⟨hb, hset.keep HC.out.1.mblk (fun e => ?_), hset.keep HC.out.1.iblk (fun e => ?_), HC.out.1.ai, fun g hg => ?_, HC.out.1.sep⟩, hset.keep HC.out.2.1 hne, hw.trans (hset.mono (fun _ _ e => .inl e)), fun g hg b hb => .inl hb⟩
      · have := HC.out.1.mblk; rw [e, HC.out.1.blk] at this; simp at this
      · have := HC.out.1.iblk; rw [e, HC.out.1.blk] at this; simp at this
      · rw [if_neg (by omega)]
        exact IvAt.setCell (HC.out.1.iv g hg) HC.out.1.blk _
    have HST := hid hst
    clear hst k2 f2 cb' hw HC HH hne
    generalize wc.setCell ⟨h, 2, none⟩ (.int .u32 m.ep) = ws at *
    go_loopw [19] (fun j wr => ∃ k : Nat, ∃ v' : Nat → Value, k ≤ 4 ∧ j = .int .i64 k ∧ Hid (LayMid h a i v v' ms is m k w wr)) (fun j _ => 4 - (intOf j).toNat)
    case atStart => exact ⟨0, v, by omega, rfl, HST.out⟩
    case round =>
      obtain ⟨k, v', hk, rfl, HR⟩ := hrel
      by_cases hlt : k < 4
      · have hmp := HR.out.mp
        have HMP := hid hmp
        clear hmp
        go_wp2_with ((with_reducible refine at_loadv 57 (.tmp 3) ?_); refine wpList_load_row rfl 57 (.tmp 3) rfl w.heap.size rfl 57 (mpArr m) (0, 0) _ HMP.out Try.underlying57 rfl size57 ?_)
        refine (acting_any m k (by omega) wr).mono ?_
        rintro e w2 ⟨av, rfl, hav, hu2, hal, _⟩
        obtain ⟨aa, acap, rfl⟩ := row_nil hav
        have hM2 := mid_keep HR.out hu2
        have hg : (if k < k then Sp.ivs (ms ++ [m]) k else Sp.ivs ms k) = Sp.ivs ms k := by rw [if_neg (by omega)]
        have hiv : IvAt w2 (v' k) (Sp.ivs ms k) := by have := hM2.core.iv k hlt; rwa [hg] at this
        have hlk := Sp.ivs_len ms k
        have ck : w2.cell? ⟨h, 3 + k, none⟩ = some (v' k) := by rw [cell_blk hM2.core.blk]; exact hArr_iv _ _ _ _ k hlt
        have hki : (k : Int) < 4 := by omega
        have HAV := hid (row_mono hav (Nat.zero_le _)); have HM2 := hid hM2; have HIV := hid hiv
        clear hav hu2 hM2 hg hiv HMP
        cases hl : (Sp.ivs ms k).getLast? with
        | none =>
          have hnil : Sp.ivs ms k = [] := by simpa using hl
          obtain ⟨ia, icap, hvk⟩ := HIV.out.len
          rw [hnil] at hvk
          simp only [List.length_nil] at hvk
          rw [hvk] at ck
          have HNIL := hid hnil; have HVK := hid hvk
          clear hl hnil hvk
          go_wp2_with fail
          obtain ⟨tl, e1, hrow, hacts⟩ := HIV.out
          have htl : tl.length = (Sp.ivs ms k).length := by rw [← e1, List.length_map]
          have htl2 : tl.length ≤ 60 := by omega
          have cm : w2.cell? ⟨w.heap.size, 0, none⟩ = some (.int .u32 m.ep) := by rw [cell_blk HM2.out.mp]; rfl
          have HROW := hid hrow; have HACTS := hid hacts; have HE1 := hid e1
          clear hrow hacts e1 htl ck hlk
          go_region_law (refine step_append_lies _ rfl (.tmp 49) (.tmp 54) 51 rfl 0 62 i0 (.agg #[.int .u32 0, .slice none 0 0]) 2 32 Try.underlying51 hi hz0 hz1 hz2 rfl (by decide) (v' k) tl.length (ivCells tl) (by simp [Act.eval, Act.put, HVK.out]) ((row_drew HROW.out).alloc _) ⟨w2.heap.size, 0, none⟩ 1 1 [.int .u32 m.ep, .slice aa (Sp.acting m k).length acap] (by simp [Act.eval, Act.put]) rfl (cell_two_new _ _ _ _) (two_oneCell _ _ _ _) (by decide) (by unfold maxLen; omega) (by omega) (Nat.zero_le _) _ rfl ?_; intro g4 cap4 w4 hown4 hgr hat hlt4; obtain ⟨ck4, ff4⟩ := lay_cells (HM2.out.core.keep0 ((Upd.refl _ _).drew)) hlt hgr)
          all_goals
            have hmid := mid_push (mid_keep HM2.out ((Upd.refl _ _).drew)) hlt (ivStep_new (by rw [HNIL.out]; simp)) HE1.out (fun t ht => row_keep (HACTS.out t ht) ((Upd.refl Nix _).drew) (fun _ _ f => f)) (row_keep HAV.out ((Upd.refl Nix _).drew) (fun _ _ f => f)) hown4 hgr hat
            have HMID := hid hmid
            clear hmid hown4 hgr hat hlt4
            go_wp2
            go_roundw
            case rel => exact ⟨k + 1, _, by omega, by go_num, HMID.out⟩
            case measure => simp [intOf]; omega
        | some so =>
          obtain ⟨si, so⟩ := so
          obtain ⟨b, cap, av0, hvk, hpos, _, cl, hav0⟩ := HIV.out.last hl
          obtain ⟨q, hq⟩ : ∃ q, (Sp.ivs ms k).length = q + 1 := ⟨(Sp.ivs ms k).length - 1, by omega⟩
          rw [hq] at hvk cl hlk
          rw [show (q + 1 - 1) * 2 + 1 = q * 2 + 1 by omega] at cl
          obtain ⟨a0, ac0, rfl⟩ := row_nil hav0
          rw [hvk] at ck
          have hso : so.length ≤ 1000 := by
            have h3 : so.length ≤ 3 := ivs_act_len ms k (si, so) (List.mem_of_getLast? hl)
            omega
          have heq := equal_any so (Sp.acting m k) _ _ 0 0 w2 hav0 HAV.out hso (by omega)
          have HVK := hid hvk; have HEQ := hid heq; have HL := hid hl; have HQ := hid hq
          clear hl hvk hpos hav0 heq hso hq
          go_wp2_with fail
          refine HEQ.out.mono ?_
          rintro e w3 ⟨rfl, hu3⟩
          have hM3 := mid_keep HM2.out hu3
          have hiv3 : IvAt w3 (v' k) (Sp.ivs ms k) := HIV.out.keep hu3 (fun _ _ f => f.elim)
          have hav3 := row_keep HAV.out hu3 (fun _ _ f => f)
          have HM3 := hid hM3; have HIV3 := hid hiv3; have HAV3 := hid hav3
          clear hM3 hiv3 hav3 hu3
          by_cases hsame : so = Sp.acting m k
          · have hd : decide (so = Sp.acting m k) = true := by simpa using hsame
            have HSAME := hid hsame
            clear hsame
            rw [hd]
            clear hd
            go_wp2
            go_roundw
            case rel => exact ⟨k + 1, v', by omega, by go_num, mid_same HM3.out (ivStep_old (by rw [HL.out, HSAME.out]; rfl))⟩
            case measure => simp [intOf]; omega
          · have hd : decide (so = Sp.acting m k) = false := by simpa using hsame
            have HSAME := hid hsame
            clear hsame
            rw [hd]
            clear hd
            go_wp2_with fail
            obtain ⟨tl, e1, hrow, hacts⟩ := HIV3.out
            have htl : tl.length = (Sp.ivs ms k).length := by rw [← e1, List.length_map]
            have htl2 : tl.length ≤ 60 := by have := HQ.out; omega
            have cm : w3.cell? ⟨w.heap.size, 0, none⟩ = some (.int .u32 m.ep) := by rw [cell_blk HM3.out.mp]; rfl
            have HROW := hid hrow; have HACTS := hid hacts; have HE1 := hid e1
            clear hrow hacts e1 htl ck hlk cl
            go_region_law (refine step_append_lies _ rfl (.tmp 49) (.tmp 54) 51 rfl 0 62 i0 (.agg #[.int .u32 0, .slice none 0 0]) 2 32 Try.underlying51 hi hz0 hz1 hz2 rfl (by decide) (v' k) tl.length (ivCells tl) (by simp [Act.eval, Act.put, HVK.out]) ((row_drew HROW.out).alloc _) ⟨w3.heap.size, 0, none⟩ 1 1 [.int .u32 m.ep, .slice aa (Sp.acting m k).length acap] (by simp [Act.eval, Act.put]) rfl (cell_two_new _ _ _ _) (two_oneCell _ _ _ _) (by decide) (by unfold maxLen; omega) (by omega) (Nat.zero_le _) _ rfl ?_; intro g4 cap4 w4 hown4 hgr hat hlt4; obtain ⟨ck4, ff4⟩ := lay_cells (HM3.out.core.keep0 ((Upd.refl _ _).drew)) hlt hgr)
            all_goals
              have hmid := mid_push (mid_keep HM3.out ((Upd.refl _ _).drew)) hlt (ivStep_new (by rw [HL.out]; simp; exact HSAME.out)) HE1.out (fun t ht => row_keep (HACTS.out t ht) ((Upd.refl Nix _).drew) (fun _ _ f => f)) (row_keep HAV3.out ((Upd.refl Nix _).drew) (fun _ _ f => f)) hown4 hgr hat
              have HMID := hid hmid
              clear hmid hown4 hgr hat hlt4
              go_wp2
              go_roundw
              case rel => exact ⟨k + 1, _, by omega, by go_num, HMID.out⟩
              case measure => simp [intOf]; omega
      · have : k = 4 := by omega
        subst this
        go_wp2
        go_end0
        exact ⟨rfl, v', HR.out.core.congrL (fun g hg => by rw [if_pos hg]), HR.out.upd, HR.out.fresh⟩
end Go.Proofs.Ytmkpljbkmkbnjaa
