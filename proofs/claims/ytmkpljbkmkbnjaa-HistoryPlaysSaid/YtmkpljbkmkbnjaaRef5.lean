/-
  THE WALKS of the reference's history: Intervals, Now.
-/
import Derived.Test.YtmkpljbkmkbnjaaRef4
import Derived.Deep.CutBlock
namespace Go.Proofs.Ytmkpljbkmkbnjaa
open Go.RowKit
set_option linter.unusedVariables false
set_option linter.unusedSimpArgs false

/-- as IvAt; the row lies in a block from B on -/
def OutAt (B : Nat) (w : World) (v : Value) (l : List (Int × List Nat)) : Prop :=
  ∃ tl : List (Int × List Nat × Value), tl.map (fun t => (t.1, t.2.1)) = l ∧ w.ownsRow B 62 2 v tl.length (ivCells tl) ∧ ∀ t ∈ tl, RowN w 0 t.2.2 t.2.1
theorem OutAt.iv {B : Nat} {w : World} {v : Value} {l : List (Int × List Nat)} (h : OutAt B w v l) : IvAt w v l := by
  obtain ⟨tl, h1, h2, h3⟩ := h; exact ⟨tl, h1, row_mono h2 (Nat.zero_le _), h3⟩
theorem OutAt.keep0 {B : Nat} {w w' : World} {v : Value} {l : List (Int × List Nat)} (h : OutAt B w v l) (hu : Upd Nix w w') : OutAt B w' v l := by
  obtain ⟨tl, h1, h2, h3⟩ := h; exact ⟨tl, h1, row_keep h2 hu (fun _ _ f => f), fun t ht => row_keep (h3 t ht) hu (fun _ _ f => f)⟩
theorem OutAt.keep57 {B b6 : Nat} {w w' : World} {v : Value} {l : List (Int × List Nat)} {c : Array Value} {fr : Nat × Nat} (h : OutAt B w v l) (hb : w.heap[b6]? = some (.cells c 57 fr)) (hu : Upd (fun k => k = b6) w w') : OutAt B w' v l := by
  obtain ⟨tl, h1, h2, h3⟩ := h
  refine ⟨tl, h1, row_keep h2 hu (fun b hb2 f => ?_), fun t ht => row_keep (h3 t ht) hu (fun b hb2 f => ?_)⟩
  · obtain ⟨_, cur, hc⟩ := row_blk h2 hb2
    rw [f, hb] at hc; simp at hc
  · obtain ⟨_, cur, hc⟩ := row_blk (h3 t ht) hb2
    rw [f, hb] at hc; simp at hc
theorem OutAt.nil (B : Nat) (w : World) : OutAt B w (.slice none 0 0) [] := ⟨[], rfl, World.ownsRow_nil _ _ _ _, by simp⟩
theorem OutAt.push {B : Nat} {w3 w4 : World} {g4 cap4 n : Nat} {v : Value} {tl : List (Int × List Nat × Value)} {L : List (Int × List Nat)} {ep : Int} {av : Value} {al : List Nat} {o : Obj} (hn : tl.length = n)
    (e1 : tl.map (fun t => (t.1, t.2.1)) = L) (hrow : w3.ownsRow B 62 2 v n (ivCells tl)) (hacts : ∀ t ∈ tl, RowN w3 0 t.2.2 t.2.1) (hav : RowN w3 0 av al)
    (hown : w4.ownsRow B 62 2 (.slice (some ⟨g4, 0, none⟩) (n + 1) cap4) (n + 1) (ivCells tl ++ [.int .u32 ep, av])) (hgr : (w3.alloc o).grownBy w4 v.ownBlock) : OutAt B w4 (.slice (some ⟨g4, 0, none⟩) (n + 1) cap4) (L ++ [(ep, al)]) := by
  have hU : Upd (fun b => some b = v.ownBlock) w3 w4 := ((Upd.refl _ w3).alloc o).trans' (Upd.of_grown hgr) (fun _ _ f => f)
  have hk : ∀ (v' : Value) (l : List Nat), RowN w3 0 v' l → RowN w4 0 v' l := fun v' l hr => row_keep hr hU (fun b hb f => by
    obtain ⟨_, cur, hc⟩ := row_blk hr hb
    obtain ⟨_, cur2, hc2⟩ := row_blk hrow f.symm
    rw [hc2] at hc; simp at hc)
  refine ⟨tl ++ [(ep, al, av)], by rw [List.map_append, e1]; rfl, ?_, fun t ht => ?_⟩
  · rw [List.length_append, List.length_singleton, hn, ivCells_snoc]; exact hown
  · rw [List.mem_append] at ht
    rcases ht with ht | ht
    · exact hk _ _ (hacts t ht)
    · simp at ht; subst ht; exact hk _ _ hav
theorem maps_step {is : List Sp.Inc} {i : Nat} (h : i ≤ is.length) (g : Nat) : Sp.ivs ((Sp.mapsOf is).take (i + 1)) g = Sp.ivStep g (Sp.ivs ((Sp.mapsOf is).take i) g) (Sp.lastMap (is.take i)) := by
  rw [List.take_add_one, mapsOf_at h, Option.toList_some, Sp.ivs_snoc]
theorem two_at (w : World) (x : Int) (av : Value) (t : TypeId) : ∀ (j : Nat) u, [Value.int .u32 x, av][j]? = some u → (w.alloc (.cells #[.int .u32 x, av] t)).cell? ((⟨w.heap.size, 0, none⟩ : Addr).add j) = some u := by
  intro j u hj
  match j, hj with
  | 0, hj => simp at hj; subst hj; simp [Addr.add]
  | 1, hj => simp at hj; subst hj; simp [Addr.add]
def RIvsPost (is : List Sp.Inc) (g : Nat) (w : World) (e : Ending) (w' : World) : Prop := ∃ v, e = .returned v ∧ IvAt w' v (ivsOf is g) ∧ Upd Nix w w'
set_option maxRecDepth 10000 in
set_option maxHeartbeats 2000000 in
theorem rivs_yes {T : Nat → Prop} {w : World} {rb : Nat} {is : List Sp.Inc} (H : RHs w rb is T) (g : Nat) (h4 : g < 4) : Calls Try.prog 54 #[.pointer (some ⟨rb, 0, none⟩), .int .u8 (g : Int)] w (RIvsPost is g w) := by
  obtain ⟨v, h1, h2, h3, hok4, rfl⟩ := H
  obtain ⟨va, vc, rfl⟩ := row_nil h2
  have hl := h3.2
  obtain ⟨i0, hi, hz0, hz1, hz2⟩ := info_parts info62
  have hivg : ivsOf is g = Sp.ivs (Sp.mapsOf is) g := by unfold ivsOf ivsG; rw [if_pos h4]
  have HIVG := hid hivg
  have HR := hid h1; have HV := hid (row_keep h2 (Upd.refl Nix w) (fun _ _ f => f)); have HC := hid h3; have HOK := hid hok4
  clear h1 h2 h3 hok4 hivg
  generalize hn : is.length = n at *
  have HN := hid hn
  clear hn
  have hgi : (g : Int) < 4 := by omega
  have hni : (n : Int) ≤ 59 := by omega
  go_enter Try.func54, Try.ntmps54
  go_wp2_with fail
  refine (rfirst_any _).mono ?_
  rintro e w2 ⟨rfl, hu2⟩
  have hs2 := hu2.size
  have HU2 := hid hu2
  clear hu2
  go_upto_region 5 with ((with_reducible refine at_store 57 (.tmp 6) (.tmp 11) ?_); refine wpList_store_row rfl 57 (.tmp 6) (.tmp 11) rfl w2.heap.size rfl (mpArr Sp.first) rfl 57 zeroArr (alloc_new w2 _) rfl size57 rfl ?_)
  change Code.wp _ _ _ _ ((w2.alloc (.cells zeroArr 57)).setRow w2.heap.size (mpArr Sp.first))
  have HB3 := hid (setRow_new (mpArr Sp.first) (alloc_new w2 (.cells zeroArr 57)))
  have HU3 := hid ((HU2.out.alloc (.cells zeroArr 57)).setRow (.inr HU2.out.size) (mpArr Sp.first))
  generalize (w2.alloc (.cells zeroArr 57)).setRow w2.heap.size (mpArr Sp.first) = w3 at *
  generalize hb6 : w2.heap.size = b6 at *
  have HB6 := hid (show w.heap.size ≤ b6 by omega)
  clear HU2 hb6
  have hinv : Hid (w3.heap[b6]? = some (.cells (mpArr (Sp.lastMap (is.take (0 - 1)))) 57 (0, 0)) ∧ Upd Nix w w3) := hid ⟨HB3.out, HU3.out⟩
  clear HB3 HU3
  go_wp2_with fail
  go_loopw [5, 7] (fun ov iv wr => ∃ i : Nat, i ≤ n + 1 ∧ iv = .int .i64 i ∧ Hid (wr.heap[b6]? = some (.cells (mpArr (Sp.lastMap (is.take (i - 1)))) 57 (0, 0)) ∧ Upd Nix w wr ∧ OutAt w.heap.size wr ov (Sp.ivs ((Sp.mapsOf is).take i) g))) (fun _ iv _ => n + 2 - (intOf iv).toNat)
  case atStart => exact ⟨0, by omega, rfl, hinv.out.1, hinv.out.2, OutAt.nil _ _⟩
  case round =>
    obtain ⟨i, hi1, rfl, HI⟩ := hrel
    clear hinv
    have crb : wr.cell? ⟨rb, 0, none⟩ = some (.slice va n vc) := by rw [cell_blk (HI.out.2.1.keep HR.out (fun f => f))]; rfl
    by_cases hlt : i ≤ n
    · have hii : (i : Int) ≤ (n : Int) := by omega
      go_upto_if 22 with (fail)
      go_cut [5] (fun ov wx => ov = u5 ∧ Hid (wx.heap[b6]? = some (.cells (mpArr (Sp.lastMap (is.take i))) 57 (0, 0)) ∧ Upd (fun k => k = b6) wr wx))
      case first =>
        by_cases hi0 : i = 0
        · subst hi0
          go_wp2_with fail
          go_meet
          exact ⟨by trivial, hid ⟨HI.out.1, Upd.refl _ _⟩⟩
        · obtain ⟨j, hj⟩ : ∃ j, i = j + 1 := ⟨i - 1, by omega⟩
          have hi0i : (0 : Int) < (i : Int) := by omega
          have hjn : (j : Int) < (n : Int) := by omega
          have hjl : j < n := by omega
          have hwr : IntKind.i64.wrap ((i : Int) - 1) = (j : Int) := by rw [IntWalk.i64_in _ (by omega)]; omega
          obtain ⟨x, hx⟩ : ∃ x, is[j]? = some x := ⟨_, List.getElem?_eq_getElem (by have := HN.out; omega)⟩
          obtain ⟨hok, hnx⟩ := take_ok HC.out hx
          have hxo := HOK.out x (List.mem_of_getElem? hx)
          have hrr := row_keep HV.out HI.out.2.1 (fun _ _ f => f)
          obtain ⟨c, cap, hv⟩ : ∃ c cap, Value.slice va n vc = .slice (some ⟨c, 0, none⟩) n cap := by
            rcases hrr.2 with ⟨_, h0⟩ | ⟨c, cap, cur, hv, _⟩
            · omega
            · exact ⟨c, cap, hv⟩
          simp only [Value.slice.injEq, true_and] at hv
          obtain ⟨rfl, rfl⟩ := hv
          obtain ⟨x0, x1, x2⟩ := IncRow.cells (base := 0) (cap := vc) (by unfold IncRow; rw [HN.out]; exact hrr) hx
          have hb := HI.out.1
          rw [show i - 1 = j by omega] at hb
          obtain ⟨vs, hvs⟩ : ∃ vs, vs = mpArr (Sp.lastMap (is.take i)) := ⟨_, rfl⟩
          have hap : ∀ w', Calls Try.prog 53 #[mpV (Sp.lastMap (is.take j)), incV x] w' fun e w'' => e = .returned (.tuple #[.agg vs, .bool true]) ∧ Upd Nix w' w'' := by
            intro w'
            rw [hvs, hj, hnx]
            exact rapply_yes _ x w' hok hxo
          have hv16 : vs.size = 16 := by rw [hvs]; rfl
          have hv1 : vs.toList.all (fun v => v.oneCell') = true := by rw [hvs]; rfl
          generalize Sp.lastMap (is.take j) = m0 at *
          obtain ⟨j0, j1, j2, j3, j4, j5, j6, j7, j8, j9, j10, j11, j12, j13, j14, j15⟩ := mp_cells hb
          have HAP := hid hap; have HV1 := hid hv1; have HVS := hid hvs; have HB := hid hb
          have hsw := HI.out.2.1.size
          have hb6w := blk_lt hb
          clear hap hv1 hvs hb hok hnx hxo hrr hx hj
          go_upto_region 9 with (fail)
          go_region_law (first
              | (go_simp; go_at_call 53; refine (HAP.out _).mono ?_; rintro e w5 ⟨rfl, hu5⟩; have hu5' : Upd Nix wr w5 := ((Upd.refl Nix wr).drew).trans hu5; have HB5 := hid (hu5'.keep HB.out (fun f => f)); have HU5 := hid hu5'; have st1 := run_store_vs (w := w5) vs HB5.out hv16.symm HV1.out; clear hu5 hu5'))
          all_goals clear j0 j1 j2 j3 j4 j5 j6 j7 j8 j9 j10 j11 j12 j13 j14 j15 x0 x1 x2 crb st1 hwr
          all_goals go_wp2_with fail
          all_goals go_meet
          all_goals refine ⟨by trivial, hid ⟨by rw [← HVS.out]; exact setRow_new vs HB5.out, ?_⟩⟩
          all_goals exact Upd.setRow (F := fun k => k = b6) HU5.out.nix (.inl rfl) _
      case rest =>
        obtain ⟨rfl, HW⟩ := hcut
        have hgood := (Sp.lastMap_good (HC.out.take i)).1
        have hst := maps_step (is := is) (i := i) (by have := HN.out; omega) g
        have hlen0 := Sp.ivs_len ((Sp.mapsOf is).take i) g
        have hll : ((Sp.mapsOf is).take i).length = i := by rw [List.length_take, Sp.mapsOf_len]; have := HN.out; omega
        rw [hll] at hlen0
        have hpos0 : 0 < i → 0 < (Sp.ivs ((Sp.mapsOf is).take i) g).length := fun h => Sp.ivs_pos _ g (by rw [hll]; exact h)
        have hzero : i = 0 → Sp.ivs ((Sp.mapsOf is).take i) g = [] := fun h => by rw [h]; rfl
        have how := HI.out.2.2.keep57 HI.out.1 HW.out.2
        have huw : Upd Nix w wc := HI.out.2.1.trans' HW.out.2 (fun b hb f => by have := HB6.out; omega)
        generalize hm : Sp.lastMap (is.take i) = m at *
        generalize hLL : Sp.ivs ((Sp.mapsOf is).take i) g = L at *
        have hact3 : ∀ t ∈ L, t.2.length ≤ 3 := by rw [← hLL]; exact ivs_act_len _ g
        have HST := hid hst; have HOW := hid how; have HUW := hid huw; have HB := hid HW.out.1; have HP0 := hid hpos0; have HZ0 := hid hzero; have HA3 := hid hact3
        have HGD := hid hgood; have HM := hid hm
        clear hst how huw hpos0 hzero hact3 hgood hll hm hLL HW HI crb
        have hap := racting_any m g (by omega) wc HGD.out
        unfold ActPost at hap
        have HAP := hid hap
        clear hap
        go_wp2_with ((with_reducible refine at_loadv 57 (.tmp 6) ?_); refine wpList_load_row rfl 57 (.tmp 6) rfl b6 rfl 57 (mpArr m) (0, 0) _ HB.out Try.underlying57 rfl size57 ?_)
        refine HAP.out.mono ?_
        rintro e w7 ⟨av, rfl, hav, hu7, hal, _⟩
        obtain ⟨aa, ac, rfl⟩ := row_nil hav
        have HAV := hid hav
        have HB7 := hid (hu7.keep HB.out (fun f => f))
        have HU7 := hid (HUW.out.trans hu7)
        obtain ⟨tl, e1, hrow, hacts⟩ := HOW.out.keep0 hu7
        have hq : tl.length = L.length := by rw [← e1, List.length_map]
        obtain ⟨oa, oc, rfl⟩ := row_nil hrow
        generalize hqq : tl.length = q at *
        have hsz7 := HU7.out.size
        have hq60 : q ≤ 60 := by omega
        have HROW := hid hrow; have HACTS := hid hacts; have HE1 := hid e1; have HQ := hid hqq; have HQL := hid hq
        have cep : w7.cell? ⟨b6, 0, none⟩ = some (.int .u32 m.ep) := by rw [cell_blk HB7.out]; rfl
        clear hav hu7 hrow hacts e1 hqq hq HAP HOW
        by_cases hi0 : i = 0
        · have hL : L = [] := HZ0.out hi0
          subst hL
          obtain rfl : q = 0 := by have := HQL.out; simpa using this
          have HI0 := hid hi0
          subst hi0
          go_wp2_with (at_builtin; refine wpList_append_lies _ rfl _ _ 51 rfl w.heap.size 62 i0 (.agg #[.int .u32 0, .slice none 0 0]) 2 32 Try.underlying51 hi hz0 hz1 hz2 rfl (by decide) (.slice oa 0 oc) 0 (ivCells tl) rfl (HROW.out.alloc _) ⟨w7.heap.size, 0, none⟩ 1 1 [.int .u32 m.ep, .slice aa (Sp.acting m g).length ac] rfl rfl (two_at _ _ _ _) (two_oneCell _ _ _ _) (by decide) (by unfold maxLen; omega) (by omega) (by simp; omega) _ rfl ?_; intro g4 cap4 w4 hown4 hgr hat4 hlt4)
          have hpush := OutAt.push HQ.out HE1.out HROW.out HACTS.out (row_mono HAV.out (Nat.zero_le _)) hown4 hgr
          have hU : Upd (fun kb => some kb = (Value.slice oa 0 oc).ownBlock) w7 w4 := ((Upd.refl _ w7).alloc _).trans' (Upd.of_grown hgr) (fun _ _ f => f)
          refine ⟨⟨0 + 1, by omega, by go_num, hid ⟨by rw [Nat.add_sub_cancel, HM.out]; exact hU.keep HB7.out (fun f => by
              obtain ⟨_, cur, hc⟩ := row_blk HROW.out f.symm
              have := HB7.out
              rw [this] at hc; simp at hc), HU7.out.trans' hU (fun kb hb f => by have := (row_blk HROW.out f.symm).1; omega), ?_⟩⟩, by simp [intOf] <;> omega⟩
          rw [HST.out, ivStep_new (by simp)]
          exact hpush
        · have hi0i : (0 : Int) < (i : Int) := by omega
          have hib : ((i : Int) == 0) = false := by rw [beq_eq_false_iff_ne]; omega
          have hLp := HP0.out (by omega)
          obtain ⟨⟨s, o⟩, hlast⟩ : ∃ t, L.getLast? = some t := ⟨_, List.getLast?_eq_some_getLast (by intro c; rw [c] at hLp; simp at hLp)⟩
          have hiv : IvAt w7 (.slice oa q oc) L := ⟨tl, HE1.out, by rw [HQ.out]; exact row_mono HROW.out (Nat.zero_le _), HACTS.out⟩
          obtain ⟨b, cap, av0, hv, hpos, _, cl, hro⟩ := hiv.last hlast
          simp only [Value.slice.injEq] at hv
          obtain ⟨rfl, hqL, rfl⟩ := hv
          obtain ⟨a0, ac0, rfl⟩ := row_nil hro
          obtain ⟨r, hr⟩ : ∃ r, q = r + 1 := ⟨q - 1, by omega⟩
          rw [← hqL, hr, Nat.add_sub_cancel] at cl
          have ho3 := HA3.out (s, o) (List.mem_of_getLast? hlast)
          have hsm := rsame_any o (Sp.acting m g) _ _ 0 0 w7 hro (row_mono HAV.out (Nat.zero_le _)) (by dsimp only at ho3; omega) (by omega)
          have HSM := hid hsm; have HLAST := hid hlast
          have hwr : IntKind.i64.wrap ((q : Int) - 1) = (r : Int) := by rw [IntWalk.i64_in _ (by omega)]; omega
          have hqr : (q : Int) - 1 = (r : Int) := by omega
          have hrq : (r : Int) < (q : Int) := by omega
          have HRQ := hid hr
          clear hsm hlast hiv hpos hqL hro hr ho3 hLp
          go_wp2_with fail
          refine HSM.out.mono ?_
          rintro e w8 ⟨rfl, hu8⟩
          by_cases hsame : o = Sp.acting m g
          · rw [decide_eq_true hsame]
            have HSAME := hid hsame
            have HK := hid (And.intro (hu8.keep HB7.out (fun f => f)) (And.intro (HU7.out.trans hu8) (OutAt.keep0 ⟨tl, HE1.out, by rw [HQ.out]; exact HROW.out, HACTS.out⟩ hu8)))
            clear hsame hu8 cl cep hwr hqr
            go_wp2_with fail
            go_roundw
            case rel => exact ⟨i + 1, by omega, by go_num, hid ⟨by rw [Nat.add_sub_cancel, HM.out]; exact HK.out.1, HK.out.2.1, by rw [HST.out, ivStep_old (by rw [HLAST.out, HSAME.out]; rfl)]; exact HK.out.2.2⟩⟩
            case measure => simp [intOf]; omega
          · rw [decide_eq_false hsame]
            have HSAME := hid hsame
            have hav8 := row_keep HAV.out hu8 (fun _ _ f => f)
            have hrow8 := row_keep HROW.out hu8 (fun _ _ f => f)
            have hacts8 := fun t ht => row_keep (HACTS.out t ht) hu8 (fun _ _ f => f)
            have hb8 := hu8.keep HB7.out (fun f => f)
            have hU8 := HU7.out.trans hu8
            clear HAV HROW HACTS HB7 HU7
            have HAV := hid hav8; have HROW := hid hrow8; have HACTS := hid hacts8; have HB7 := hid hb8; have HU7 := hid hU8
            have hsz8 := hU8.size
            have cep8 : w8.cell? ⟨b6, 0, none⟩ = some (.int .u32 m.ep) := by rw [cell_blk hb8]; rfl
            clear hsame hu8 cl cep hwr hqr hav8 hrow8 hacts8 hb8 hU8 HSM
            go_wp2_with (at_builtin; refine wpList_append_lies _ rfl _ _ 51 rfl w.heap.size 62 i0 (.agg #[.int .u32 0, .slice none 0 0]) 2 32 Try.underlying51 hi hz0 hz1 hz2 rfl (by decide) (.slice (some ⟨b, 0, none⟩) q oc) q (ivCells tl) rfl (HROW.out.alloc _) ⟨w8.heap.size, 0, none⟩ 1 1 [.int .u32 m.ep, .slice aa (Sp.acting m g).length ac] rfl rfl (two_at _ _ _ _) (two_oneCell _ _ _ _) (by decide) (by unfold maxLen; omega) (by omega) (by simp; omega) _ rfl ?_; intro g4 cap4 w4 hown4 hgr hat4 hlt4)
            have hpush := OutAt.push HQ.out HE1.out HROW.out HACTS.out (row_mono HAV.out (Nat.zero_le _)) hown4 hgr
            have hU : Upd (fun kb => some kb = (Value.slice (some ⟨b, 0, none⟩) q oc).ownBlock) w8 w4 := ((Upd.refl _ w8).alloc _).trans' (Upd.of_grown hgr) (fun _ _ f => f)
            refine ⟨⟨i + 1, by omega, by go_num, hid ⟨by rw [Nat.add_sub_cancel, HM.out]; exact hU.keep HB7.out (fun f => by
                obtain ⟨_, cur, hc⟩ := row_blk HROW.out f.symm
                have := HB7.out
                rw [this] at hc; simp at hc), HU7.out.trans' hU (fun kb hb f => by have := (row_blk HROW.out f.symm).1; omega), ?_⟩⟩, by simp [intOf] <;> omega⟩
            rw [HST.out, ivStep_new (by rw [HLAST.out]; simp; exact HSAME.out)]
            exact hpush

    · have hie : i = n + 1 := by omega
      have hii : (n : Int) < (i : Int) := by omega
      have hfull : Sp.ivs ((Sp.mapsOf is).take i) g = ivsOf is g := by rw [HIVG.out, List.take_of_length_le (by rw [Sp.mapsOf_len]; have := HN.out; omega)]
      rw [hfull] at HI
      have HE := hid (And.intro HI.out.2.2.iv HI.out.2.1)
      clear HI hfull hie
      go_wp2_with fail
      go_ret
      exact ⟨_, rfl, HE.out.1, HE.out.2⟩
theorem rivs_any {T : Nat → Prop} {w : World} {rb : Nat} {is : List Sp.Inc} (H : RHs w rb is T) (g : Nat) (hg : g < 256) : Calls Try.prog 54 #[.pointer (some ⟨rb, 0, none⟩), .int .u8 (g : Int)] w (RIvsPost is g w) := by
  by_cases h4 : g < 4
  · exact rivs_yes H g h4
  · have hgi : (4 : Int) ≤ (g : Int) := by omega
    have hiv : ivsOf is g = [] := by unfold ivsOf ivsG; rw [if_neg h4]
    have HIV := hid hiv
    clear H hiv
    go_enter Try.func54, Try.ntmps54
    go_wp2_with fail
    go_ret
    refine ⟨_, rfl, ?_, Upd.refl _ _⟩
    rw [HIV.out]
    exact ⟨[], rfl, World.ownsRow_nil _ _ _ _, by simp⟩
theorem results55 : Try.f55.results = #[.cell 4 62] := by kernel_rfl
def RNowPost (is : List Sp.Inc) (g : Nat) (w : World) (e : Ending) (w' : World) : Prop :=
  ∃ av, e = .returned (.agg #[.int .u32 (lastOf is g).1, av]) ∧ RowN w' 0 av (lastOf is g).2 ∧ Upd Nix w w'
set_option maxRecDepth 10000 in
theorem rnow_any {T : Nat → Prop} {w : World} {rb : Nat} {is : List Sp.Inc} (H : RHs w rb is T) (g : Nat) (hg : g < 256) : Calls Try.prog 55 #[.pointer (some ⟨rb, 0, none⟩), .int .u8 (g : Int)] w (RNowPost is g w) := by
  have hu1 : Upd Nix w (w.alloc (.cells zeroArr2 62)) := (Upd.refl Nix w).alloc _
  have hb1 : (w.alloc (.cells zeroArr2 62)).heap[w.heap.size]? = some (.cells zeroArr2 62 (0, 0)) := alloc_new w _
  have hch59 : is.length ≤ 59 := by obtain ⟨_, _, _, h, _⟩ := H; exact h.2
  have HI := hid (rivs_any (H.keep0 hu1) g hg)
  have HU := hid hu1; have HB := hid hb1
  clear H hu1 hb1
  by_cases h4 : g < 4
  · have hpos := Sp.ivs_pos (Sp.mapsOf is) g (by rw [Sp.mapsOf_len]; omega)
    have hivg : ivsOf is g = Sp.ivs (Sp.mapsOf is) g := by unfold ivsOf ivsG; rw [if_pos h4]
    rw [← hivg] at hpos
    obtain ⟨⟨s, o⟩, hl⟩ : ∃ t, (ivsOf is g).getLast? = some t := ⟨_, List.getLast?_eq_some_getLast (by intro e; rw [e] at hpos; simp at hpos)⟩
    have hiv : lastOf is g = (s, o) := by unfold lastOf lastIv; rw [if_pos h4, ← hivg, hl]; rfl
    have HIV := hid hiv; have HL := hid hl
    have hlen := Sp.ivs_len (Sp.mapsOf is) g
    rw [Sp.mapsOf_len, ← hivg] at hlen
    have HQ6 := hid (show (ivsOf is g).length ≤ 100000 by omega)
    clear hiv hl hivg hlen hch59
    go_enter Try.func55, Try.ntmps55
    go_upto_region 1 with (fail)
    change Code.wp _ _ _ _ (w.alloc (.cells zeroArr2 62))
    generalize w.alloc (.cells zeroArr2 62) = w1 at *
    go_wp2_with fail
    refine HI.out.mono ?_
    rintro e w2 ⟨v, rfl, hiv, hu2⟩
    obtain ⟨b, cap, av, rfl, hp, c0, c1, hr⟩ := hiv.last HL.out
    obtain ⟨aa, ac, rfl⟩ := row_nil hr
    have hq60 : (ivsOf is g).length ≤ 100000 := HQ6.out
    obtain ⟨q, hq⟩ : ∃ q, (ivsOf is g).length = q + 1 := ⟨(ivsOf is g).length - 1, by omega⟩
    rw [hq] at c0 c1 hpos hp ⊢
    simp only [Nat.add_sub_cancel] at c0 c1
    have HR := hid hr; have HB2 := hid (hu2.keep HB.out (fun f => f)); have HU2 := hid (HU.out.trans hu2)
    have hq6 : q ≤ 100000 := by omega
    clear hr hiv hu2 HI hq hq60 hpos hp
    go_wp2_with ((with_reducible refine at_store 62 (.tmp 4) (.tmp 18) ?_); refine wpList_store_row rfl 62 (.tmp 4) (.tmp 18) rfl w.heap.size rfl (ivArr s (.slice aa o.length ac)) rfl 62 zeroArr2 HB2.out rfl size62 rfl ?_)
    refine fin1 results55 w.heap.size rfl (setRow_new (ivArr s (.slice aa o.length ac)) HB2.out) Try.underlying62 rfl size62 rfl ?_
    refine ⟨.slice aa o.length ac, by rw [HIV.out], ?_, HU2.out.setRow (.inr (Nat.le_refl _)) _⟩
    rw [HIV.out]
    refine row_keep HR.out (Upd.setRow (F := fun b => b = w.heap.size) (Upd.refl _ _) (.inl rfl) _) (fun b hb e => ?_)
    obtain ⟨_, cur, hc⟩ := row_blk HR.out hb
    subst e
    rw [HB2.out] at hc; simp at hc
  · have hiv : lastOf is g = (0, []) := by unfold lastOf lastIv; rw [if_neg h4]
    have hnil : ivsOf is g = [] := by unfold ivsOf ivsG; rw [if_neg h4]
    have HIV := hid hiv; have HNIL := hid hnil
    clear hiv hnil
    go_enter Try.func55, Try.ntmps55
    go_upto_region 1 with (fail)
    change Code.wp _ _ _ _ (w.alloc (.cells zeroArr2 62))
    generalize w.alloc (.cells zeroArr2 62) = w1 at *
    go_wp2_with fail
    refine HI.out.mono ?_
    rintro e w2 ⟨v, rfl, hiv, hu2⟩
    rw [HNIL.out] at hiv
    obtain ⟨aa, ac, rfl⟩ := hiv.len
    have HB2 := hid (hu2.keep HB.out (fun f => f)); have HU2 := hid (HU.out.trans hu2)
    clear hiv hu2 HI
    go_wp2_with ((with_reducible refine at_store 62 (.tmp 4) (.tmp 12) ?_); refine wpList_store_row rfl 62 (.tmp 4) (.tmp 12) rfl w.heap.size rfl zeroArr2 rfl 62 zeroArr2 HB2.out rfl size62 rfl ?_)
    refine fin1 results55 w.heap.size rfl (setRow_new zeroArr2 HB2.out) Try.underlying62 rfl size62 rfl ?_
    refine ⟨.slice none 0 0, by rw [HIV.out], ?_, HU2.out.setRow (.inr (Nat.le_refl _)) _⟩
    rw [HIV.out]
    exact World.ownsRow_nil _ _ _ _
end Go.Proofs.Ytmkpljbkmkbnjaa
