/-
  THE WALK of paddocklaw5.HistoryCopies.
-/
import Derived.Test.YtmkpljbkmkbnjaaCopy
import Derived.IntWalk
namespace Go.Proofs.Ytmkpljbkmkbnjaa
open Go.RowKit
set_option linter.unusedVariables false
set_option linter.unusedSimpArgs false

theorem inc_blk {w : World} {b : Nat} {x : Sp.Inc} (h : w.heap[b]? = some (.cells (incArr x) 50 (0, 0))) : w.cell? ⟨b, 0, none⟩ = some (.int .u8 x.kind) ∧ w.cell? ⟨b, 1, none⟩ = some (.int .u8 x.osd) ∧ w.cell? ⟨b, 2, none⟩ = some (.int .i64 x.n) :=
  ⟨by rw [cell_blk h]; rfl, by rw [cell_blk h]; rfl, by rw [cell_blk h]; rfl⟩
theorem incOf_snoc (is : List Sp.Inc) (x : Sp.Inc) : incOf (is ++ [x]) (is.length + 2) = x := by
  unfold incOf
  rw [if_pos (by simp)]
  simp [List.getD_eq_getElem?_getD]
theorem add_next {is : List Sp.Inc} {x : Sp.Inc} (h : is.length ≤ 58) (hx : Sp.isInc x = true) : Sp.add is (is.length + 2) x = (0, is ++ [x]) := by
  rw [add_good is x h, if_pos hx]
theorem last_two {w0 w : World} {a b : Nat} {A B : List Sp.Inc} (H : Two w0 w a A b B) : Calls Try.prog 18 #[.pointer (some ⟨a, 0, none⟩)] w fun e w' => e = .returned (.int .u32 ((A.length + 1 : Nat) : Int)) ∧ w = w' := last_at H.fst

set_option maxRecDepth 10000 in
set_option maxHeartbeats 1000000 in
theorem copiesW_any (v : Value) (l : List Sp.Inc) (o : Nat) (ho : o < 256) (w : World) (hr : InRow w v l) (hok : ∀ x ∈ l, IncOk x) : Calls Try.prog 9 #[v, .int .u8 (o : Int)] w (KnownPost w) := by
  obtain ⟨va, vc, rfl, hcells⟩ := hr.form
  generalize hn : l.length = n at *
  have HCELLS := hid hcells; have HOK := hid hok; have HLN := hid hn
  clear hcells hok hr hn
  by_cases h30 : n ≤ 30
  · have hni : (n : Int) ≤ 30 := by omega
    have hrem : (o : Int).tmod 5 = ((o % 5 : Nat) : Int) := by rw [Int.tmod_eq_emod_of_nonneg (by omega)]; omega
    have hO : o % 5 < 5 := by omega
    generalize o % 5 = q at *
    go_enter Try.func9, Try.ntmps9
    go_wp2_with fail
    refine (known5_any _).mono ?_
    rintro e w1 ⟨rfl, hu1⟩
    have HN := hid (new_at (w0 := w) hu1)
    clear hu1
    go_wp2_with fail
    refine HN.out.mono ?_
    rintro e w2 ⟨h, rfl, hat⟩
    have HAT := hid hat
    clear hat HN
    go_wp2_with fail
    go_loopw [6] (fun j wr => ∃ k : Nat, k ≤ n ∧ j = .int .i64 k ∧ Hid (At w wr h (good (l.take k)))) (fun j _ => n - (intOf j).toNat)
    case atStart => exact ⟨0, by omega, rfl, HAT.out⟩
    case round =>
      obtain ⟨k, hk, rfl, HR⟩ := hrel
      clear HAT
      by_cases hlt : k < n
      · obtain ⟨x, hx⟩ : ∃ x, l[k]? = some x := ⟨_, List.getElem?_eq_getElem (by have := HLN.out; omega)⟩
        obtain ⟨a, rfl, hin⟩ := HCELLS.out k x hx
        have hki : (k : Int) < (n : Int) := by omega
        have HX := hid hx; have HIN := hid hin
        clear hx hin
        go_upto_region 9 with (fail)
        obtain ⟨N, hN⟩ : ∃ N, N = (good (l.take k)).length := ⟨_, rfl⟩
        have hNk : N ≤ 29 := by have := good_len (l.take k); rw [List.length_take] at this; have := HLN.out; omega
        have hw := wrap_two N (by omega)
        obtain ⟨N1, hN1⟩ : ∃ N1 : Int, N1 = ((N + 1 : Nat) : Int) := ⟨_, rfl⟩
        obtain ⟨N2, hN2⟩ : ∃ N2 : Int, N2 = ((N + 2 : Nat) : Int) := ⟨_, rfl⟩
        rw [← hN1, ← hN2] at hw
        have hla := last_at (HR.out.keep0 ((Upd.refl Nix wr).drew))
        rw [← hN, ← hN1] at hla
        have hxo := HOK.out x (List.mem_of_getElem? HX.out)
        have haa := add_at (HR.out.keep0 ((Upd.refl Nix wr).drew)) (N + 2) x (by omega) hxo
        rw [← hN2] at haa
        obtain ⟨c0, c1, c2⟩ := inc_cells (HIN.out.keep HR.out.upd)
        have HLA := hid hla; have HAA := hid haa
        have HNE := hid hN
        clear hla haa hxo hN hN1 hN2 hNk
        go_region_held3 (fun w' => w'.cell? (a.add (k * 3)) = some (.int .u8 x.kind) ∧ w'.cell? ⟨(a.add (k * 3)).block, (a.add (k * 3)).off + 1, none⟩ = some (.int .u8 x.osd) ∧ w'.cell? ⟨(a.add (k * 3)).block, (a.add (k * 3)).off + 2, none⟩ = some (.int .i64 x.n))
          ((first
            | exact ⟨c0, c1, c2⟩
            | exact inc_cells (HIN.out.keep hat.out.upd)))
          (first
            | (go_at_call 18; refine HLA.out.mono ?_; rintro e w3 ⟨rfl, rfl⟩)
            | (go_at_call 17; refine HAA.out.mono ?_; rintro e w4 ⟨rfl, hat0⟩; have hat := hid hat0; clear hat0))
        all_goals clear c0 c1 c2 hw HLA HAA
        all_goals go_wp2_with fail
        all_goals go_roundw
        case rel => exact ⟨k + 1, by omega, by go_num, by rw [good_step l k x HX.out, ← HNE.out]; exact hat.out⟩
        case measure => simp [intOf]; omega
      · have : k = n := by omega
        subst this
        have hl : l.take k = l := by rw [← HLN.out, List.take_length]
        rw [hl] at HR
        have HR2 := hid HR.out
        clear HR hl
        have hgk : (good l).length ≤ 30 := by have := good_len l; have := HLN.out; omega
        generalize good l = G at *
        generalize hM : G.length = M at *
        have HM := hid hM
        clear hM
        have hM2 : M ≤ 30 := by omega
        have HC := hid (copy_at HR2.out)
        go_wp2_with fail
        refine HC.out.mono ?_
        rintro e w3 ⟨c, rfl, htwo⟩
        have hla := last_two htwo
        rw [HM.out, show ((M + 1 : Nat) : Int) = (M : Int) + 1 by omega] at hla
        have HT := hid htwo; have HL := hid hla
        clear HC htwo hla HR2
        go_wp2_with fail
        refine HL.out.mono ?_
        rintro e w4 ⟨rfl, rfl⟩
        have hx3 : Sp.isInc ⟨3, q, 1⟩ = true := by
          have : (q : Int) < 5 := by omega
          unfold Sp.isInc; simp [this]
        have hadd := HT.out.add2 (M + 2) ⟨3, q, 1⟩ (by omega) ⟨by simp, by simp, by simp, by simp; omega⟩
        unfold Add2 at hadd
        have hae := add_next (is := G) (x := ⟨3, q, 1⟩) (by rw [HM.out]; omega) hx3
        rw [HM.out] at hae
        rw [hae, show ((M + 2 : Nat) : Int) = (M : Int) + 1 + 1 by omega] at hadd
        have HA := hid hadd
        clear hadd hae HL
        go_wp2_with fail
        refine HA.out.mono ?_
        rintro e w5 ⟨rfl, htwo, _⟩
        have hadd := htwo.add1 (M + 2) inone (by omega) inone_ok
        unfold Add1 at hadd
        have hae := add_next (is := G) (x := inone) (by rw [HM.out]; omega) (by decide)
        rw [HM.out] at hae
        rw [hae, show ((M + 2 : Nat) : Int) = (M : Int) + 1 + 1 by omega] at hadd
        have HA2 := hid hadd
        clear hadd hae HA HT htwo
        go_wp2_with fail
        refine HA2.out.mono ?_
        rintro e w6 ⟨rfl, htwo, _⟩
        have hinc := inc_at htwo.snd (M + 2)
        unfold IncS at hinc
        rw [← HM.out, incOf_snoc, decide_eq_true (show 2 ≤ G.length + 2 ∧ G.length + 2 < (G ++ [(⟨3, q, 1⟩ : Sp.Inc)]).length + 2 by simp), HM.out, show ((M + 2 : Nat) : Int) = (M : Int) + 1 + 1 by omega] at hinc
        have HI := hid hinc; have HT := hid htwo
        clear hinc htwo HA2
        go_wp2_with fail
        refine HI.out.mono ?_
        rintro e w7 ⟨rfl, hu7⟩
        have HT7 := hid (HT.out.keep0 hu7)
        clear hu7 HI HT
        go_upto_region 15 with ((with_reducible refine at_store 50 (.tmp 11) (.tmp 57) ?_); refine wpList_store_row rfl 50 (.tmp 11) (.tmp 57) rfl w7.heap.size rfl (incArr ⟨3, q, 1⟩) rfl 50 zeroArr3 (alloc_new w7 _) rfl size50 rfl ?_)
        change Code.wp _ _ _ _ ((w7.alloc (.cells zeroArr3 50)).setRow w7.heap.size (incArr ⟨3, q, 1⟩))
        have hu8 : Upd Nix w7 ((w7.alloc (.cells zeroArr3 50)).setRow w7.heap.size (incArr ⟨3, q, 1⟩)) := ((Upd.refl _ _).alloc _).setRow (.inr (Nat.le_refl _)) _
        have HB8 := hid (setRow_new (incArr ⟨3, q, 1⟩) (alloc_new w7 (.cells zeroArr3 50)))
        have HT8 := hid (HT7.out.keep0 hu8)
        clear hu8 HT7
        generalize (w7.alloc (.cells zeroArr3 50)).setRow w7.heap.size (incArr ⟨3, q, 1⟩) = w8 at *
        generalize w7.heap.size = b11 at *
        have hinc := inc_at HT8.out.fst (M + 2)
        unfold IncS at hinc
        rw [← HM.out, incOf_snoc, decide_eq_true (show 2 ≤ G.length + 2 ∧ G.length + 2 < (G ++ [inone]).length + 2 by simp), HM.out, show ((M + 2 : Nat) : Int) = (M : Int) + 1 + 1 by omega] at hinc
        have HI := hid hinc
        clear hinc
        go_wp2_with fail
        refine HI.out.mono ?_
        rintro e w9 ⟨rfl, hu9⟩
        have HT9 := hid (HT8.out.keep0 hu9)
        have HB9 := hid (hu9.keep HB8.out (fun f => f))
        clear hu9 HI HT8 HB8
        go_upto_region 16 with ((with_reducible refine at_store 50 (.tmp 13) (.tmp 64) ?_); refine wpList_store_row rfl 50 (.tmp 13) (.tmp 64) rfl w9.heap.size rfl (incArr inone) rfl 50 zeroArr3 (alloc_new w9 _) rfl size50 rfl ?_)
        change Code.wp _ _ _ _ ((w9.alloc (.cells zeroArr3 50)).setRow w9.heap.size (incArr inone))
        have hu10 : Upd Nix w9 ((w9.alloc (.cells zeroArr3 50)).setRow w9.heap.size (incArr inone)) := ((Upd.refl _ _).alloc _).setRow (.inr (Nat.le_refl _)) _
        have HB10 := hid (setRow_new (incArr inone) (alloc_new w9 (.cells zeroArr3 50)))
        have HB11 := hid (hu10.keep HB9.out (fun f => f))
        have HT10 := hid (HT9.out.keep0 hu10)
        clear hu10 HT9 HB9
        generalize (w9.alloc (.cells zeroArr3 50)).setRow w9.heap.size (incArr inone) = w10 at *
        generalize w9.heap.size = b13 at *
        obtain ⟨i0, i1, i2⟩ := inc_blk HB10.out
        obtain ⟨i3, i4, i5⟩ := inc_blk HB11.out
        have i0' : w10.cell? ⟨b13, 0, none⟩ = some (.int .u8 4) := i0
        have i3' : w10.cell? ⟨b11, 0, none⟩ = some (.int .u8 3) := i3
        clear i0 i1 i2 i3 i4 i5
        have hl1 := last_at HT10.out.snd
        have hl2 := last_at HT10.out.fst
        rw [List.length_append, HM.out, List.length_singleton, show ((M + 1 + 1 : Nat) : Int) = (M : Int) + 1 + 1 by omega] at hl1 hl2
        have HL1 := hid hl1; have HL2 := hid hl2
        clear hl1 hl2
        go_wp2_with fail
        refine HL1.out.mono ?_
        rintro e w11 ⟨rfl, rfl⟩
        go_wp2_with fail
        refine HL2.out.mono ?_
        rintro e w12 ⟨rfl, rfl⟩
        go_wp2_with fail
        go_ret
        exact ⟨rfl, HT10.out.upd⟩
  · have hni : (30 : Int) < (n : Int) := by omega
    go_enter Try.func9, Try.ntmps9
    go_wp2_with fail
    refine (known5_any _).mono ?_
    rintro e w1 ⟨rfl, hu1⟩
    have HU1 := hid hu1
    clear hu1
    go_wp2_with fail
    go_ret
    exact ⟨rfl, HU1.out⟩
end Go.Proofs.Ytmkpljbkmkbnjaa
