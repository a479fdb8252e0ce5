/-
  THE WALK of paddocklaw5.HistoryCuts.
-/
import Derived.Test.YtmkpljbkmkbnjaaIvC
import Derived.Deep.DeepCutAuto
import Derived.IntWalk
namespace Go.Proofs.Ytmkpljbkmkbnjaa
open Go.RowKit
set_option linter.unusedVariables false
set_option linter.unusedSimpArgs false

theorem last_iv {G : List Sp.Inc} {g : Nat} (h4 : g < 4) {t : Int × List Nat} (h : (Sp.ivs (Sp.mapsOf G) g).getLast? = some t) : lastOf G g = t := by
  unfold lastOf lastIv; rw [if_pos h4, h]; rfl
set_option maxRecDepth 10000 in
set_option maxHeartbeats 1000000 in
theorem cutsW_any (v : Value) (l : List Sp.Inc) (g : Nat) (hg : g < 256) (w : World) (hr : InRow w v l) (hok : ∀ x ∈ l, IncOk x) : Calls Try.prog 4 #[v, .int .u8 (g : Int)] w (KnownPost w) := by
  obtain ⟨va, vc, rfl, hcells⟩ := hr.form
  generalize hn : l.length = n at *
  have HCELLS := hid hcells; have HOK := hid hok; have HLN := hid hn
  clear hcells hok hr hn
  by_cases h25 : n ≤ 25
  · by_cases h4 : g < 4
    · have hni : (n : Int) ≤ 25 := by omega
      have hgi : (g : Int) < 4 := by omega
      go_enter Try.func4, Try.ntmps4
      go_wp2_with fail
      refine (known5_any _).mono ?_
      rintro e w1 ⟨rfl, hu1⟩
      have HN := hid (new_at (w0 := w) hu1)
      clear hu1
      go_wp2_with fail
      refine HN.out.mono ?_
      rintro e w2 ⟨h, rfl, hat⟩
      have HAT := hid hat
      clear hat HN
      go_wp2_with fail
      go_loopw [6] (fun j wr => ∃ k : Nat, k ≤ n ∧ j = .int .i64 k ∧ Hid (At w wr h (good (l.take k)))) (fun j _ => n - (intOf j).toNat)
      case atStart => exact ⟨0, by omega, rfl, HAT.out⟩
      case round =>
        obtain ⟨k, hk, rfl, HR⟩ := hrel
        clear HAT
        by_cases hlt : k < n
        · obtain ⟨x, hx⟩ : ∃ x, l[k]? = some x := ⟨_, List.getElem?_eq_getElem (by have := HLN.out; omega)⟩
          obtain ⟨a, rfl, hin⟩ := HCELLS.out k x hx
          have hki : (k : Int) < (n : Int) := by omega
          have HX := hid hx; have HIN := hid hin
          clear hx hin
          go_upto_region 9 with (fail)
          obtain ⟨N, hN⟩ : ∃ N, N = (good (l.take k)).length := ⟨_, rfl⟩
          have hNk : N ≤ 29 := by have := good_len (l.take k); rw [List.length_take] at this; have := HLN.out; omega
          have hw := wrap_two N (by omega)
          obtain ⟨N1, hN1⟩ : ∃ N1 : Int, N1 = ((N + 1 : Nat) : Int) := ⟨_, rfl⟩
          obtain ⟨N2, hN2⟩ : ∃ N2 : Int, N2 = ((N + 2 : Nat) : Int) := ⟨_, rfl⟩
          rw [← hN1, ← hN2] at hw
          have hla := last_at (HR.out.keep0 ((Upd.refl Nix wr).drew))
          rw [← hN, ← hN1] at hla
          have hxo := HOK.out x (List.mem_of_getElem? HX.out)
          have haa := add_at (HR.out.keep0 ((Upd.refl Nix wr).drew)) (N + 2) x (by omega) hxo
          rw [← hN2] at haa
          obtain ⟨c0, c1, c2⟩ := inc_cells (HIN.out.keep HR.out.upd)
          have HLA := hid hla; have HAA := hid haa
          have HNE := hid hN
          clear hla haa hxo hN hN1 hN2 hNk
          go_region_held3 (fun w' => w'.cell? (a.add (k * 3)) = some (.int .u8 x.kind) ∧ w'.cell? ⟨(a.add (k * 3)).block, (a.add (k * 3)).off + 1, none⟩ = some (.int .u8 x.osd) ∧ w'.cell? ⟨(a.add (k * 3)).block, (a.add (k * 3)).off + 2, none⟩ = some (.int .i64 x.n))
            ((first
              | exact ⟨c0, c1, c2⟩
              | exact inc_cells (HIN.out.keep hat.out.upd)))
            (first
              | (go_at_call 18; refine HLA.out.mono ?_; rintro e w3 ⟨rfl, rfl⟩)
              | (go_at_call 17; refine HAA.out.mono ?_; rintro e w4 ⟨rfl, hat0⟩; have hat := hid hat0; clear hat0))
          all_goals clear c0 c1 c2 hw HLA HAA
          all_goals go_wp2_with fail
          all_goals go_roundw
          case rel => exact ⟨k + 1, by omega, by go_num, by rw [good_step l k x HX.out, ← HNE.out]; exact hat.out⟩
          case measure => simp [intOf]; omega
        · have : k = n := by omega
          subst this
          have hl : l.take k = l := by rw [← HLN.out, List.take_length]
          rw [hl] at HR
          have HR2 := hid HR.out
          clear HR hl
          have hgk : (good l).length ≤ 25 := by have := good_len l; have := HLN.out; omega
          generalize good l = G at *
          have hch := HR2.out.chain
          have heps := Sp.eps_mapsOf hch
          have hml := Sp.mapsOf_len G
          have hpos := Sp.ivs_pos (Sp.mapsOf G) g (by omega)
          have hle := Sp.ivs_len (Sp.mapsOf G) g
          obtain ⟨t0, hz, hz1⟩ := Sp.ivs_zero heps g (by omega)
          have hlast := Sp.nIv_all (Sp.mapsOf G) g (G.length + 1) (by omega)
          have hivg : ivsOf G g = Sp.ivs (Sp.mapsOf G) g := by unfold ivsOf ivsG; rw [if_pos h4]
          have hac := ivs_act_len (Sp.mapsOf G) g
          have HAC := hid hac
          have HEPS := hid heps; have HZ := hid (And.intro hz hz1); have HLA := hid hlast; have HML := hid hml
          have HI := hid (intervals_at HR2.out g hg)
          clear hch heps hz hz1 hlast hac
          go_wp2_with fail
          refine HI.out.mono ?_
          rintro e w3 ⟨vi, rfl, hiv, hu3⟩
          rw [hivg] at hiv
          obtain ⟨b, cap, av, rfl, hcap, hcs⟩ := hiv.form hpos
          have HAT3 := hid (HR2.out.keep0 hu3)
          have HCS := hid hcs
          generalize hL : (Sp.ivs (Sp.mapsOf G) g).length = L at *
          have HL := hid hL
          generalize hM : G.length = M at *
          have HM := hid hM
          have hL2 : L ≤ 26 := by omega
          clear hiv hu3 hcs HI HR2 hivg hL hM hml hle
          go_wp2_with fail
          go_loopw [8, 9] (fun kv ev wr => ∃ kk E : Nat, E ≤ M + 1 ∧ kk < L ∧ kv = .int .i64 kk ∧ ev = .int .u32 ((E : Int) + 1) ∧ Hid (kk = Sp.nIv (Sp.mapsOf G) g E - 1 ∧ At w wr h G ∧ IvCells wr b av (Sp.ivs (Sp.mapsOf G) g))) (fun _ ev _ => M + 2 - (intOf ev).toNat)
          case atStart => exact ⟨0, 0, by omega, hpos, rfl, rfl, by unfold Sp.nIv; simp [Sp.ivs], HAT3.out, HCS.out⟩
          case round =>
            obtain ⟨kk, E, hE, hkk, rfl, rfl, HR⟩ := hrel
            clear HAT3 HCS
            have hla := last_at HR.out.2.1
            rw [HM.out, show ((M + 1 : Nat) : Int) = (M : Int) + 1 by omega] at hla
            have HLS := hid hla
            clear hla
            by_cases hlt : E ≤ M
            · have hEi : (E : Int) ≤ (M : Int) := by omega
              have hmap := map_at HR.out.2.1 (E + 1)
              rw [show ((E + 1 : Nat) : Int) = (E : Int) + 1 by omega] at hmap
              have HMP := hid hmap
              have hm2 := mapsOf_at (is := G) (k := E) (by have := HM.out; omega)
              obtain ⟨t, t', q1, q2, q3, q4⟩ := Sp.cut_step HEPS.out g E _ hm2
              have hme := mapAt_in (is := G) (x := E) (by have := HM.out; omega)
              generalize Sp.lastMap (G.take E) = m at *
              rw [← HR.out.1] at q1 q4
              obtain ⟨kn, hkn⟩ : ∃ kn, kn = Sp.nIv (Sp.mapsOf G) g (E + 1) - 1 := ⟨_, rfl⟩
              rw [← hkn] at q2 q4
              have hknL : kn < L := by
                rcases Nat.lt_or_ge kn L with h | h
                · exact h
                · rw [List.getElem?_eq_none (by rw [HL.out]; exact h)] at q2; simp at q2
              have hkn1 : kn ≤ kk + 1 := by rcases q4 with h | h <;> omega
              have HQ := hid (And.intro q1 (And.intro q2 (And.intro q3 q4))); have HKN := hid hkn; have HME := hid hme
              clear hmap hm2 hme q1 q2 q3 q4 hkn
              go_wp2_with fail
              refine HLS.out.mono ?_
              rintro e w4 ⟨rfl, rfl⟩
              go_wp2_with fail
              refine HMP.out.mono ?_
              rintro e w5 ⟨rfl, hu5⟩
              rw [HME.out, decide_eq_true (show 1 ≤ E + 1 ∧ E + 1 ≤ G.length + 1 by have := HM.out; omega)]
              have HAT5 := hid (HR.out.2.1.keep0 hu5)
              have HCS5 := hid (HR.out.2.2.keep hu5)
              have HKK := hid HR.out.1
              clear hu5 HMP HLS HR
              go_upto_region 16 with ((with_reducible refine at_store 57 (.tmp 10) (.tmp 50) ?_); refine wpList_store_row rfl 57 (.tmp 10) (.tmp 50) rfl w5.heap.size rfl (mpArr m) rfl 57 zeroArr (alloc_new w5 _) rfl size57 rfl ?_)
              change Code.wp _ _ _ _ ((w5.alloc (.cells zeroArr 57)).setRow w5.heap.size (mpArr m))
              have hu6 : Upd Nix w5 ((w5.alloc (.cells zeroArr 57)).setRow w5.heap.size (mpArr m)) := ((Upd.refl _ _).alloc _).setRow (.inr (Nat.le_refl _)) _
              have HB6 := hid (setRow_new (mpArr m) (alloc_new w5 (.cells zeroArr 57)))
              have HAT6 := hid (HAT5.out.keep0 hu6)
              have HCS6 := hid (HCS5.out.keep hu6)
              clear hu6 HAT5 HCS5
              generalize (w5.alloc (.cells zeroArr 57)).setRow w5.heap.size (mpArr m) = w6 at *
              generalize w5.heap.size = b10 at *
              have HIX := hid (And.intro hkn1 hkk)
              go_cut [8, 66] (fun kv r wx => kv = .int .i64 kk ∧ wx = w6 ∧ ∃ B : Bool, r = .bool B ∧ Hid ((B = true → kn = kk + 1 ∧ t'.2 ≠ t.2) ∧ (B = false → kn = kk)))
              case first =>
                obtain ⟨K1, hK1⟩ : ∃ K1, K1 = kk + 1 := ⟨_, rfl⟩
                have hk1 : (kk : Int) + 1 = (K1 : Int) := by omega
                rcases HQ.out.2.2.2 with ⟨e1, hno⟩ | ⟨e1, ht1, hne⟩
                · by_cases hkl : K1 < L
                  · obtain ⟨u, hu⟩ : ∃ u, (Sp.ivs (Sp.mapsOf G) g)[K1]? = some u := ⟨_, List.getElem?_eq_getElem (by rw [HL.out]; exact hkl)⟩
                    have hne := hno u (by rw [← hK1]; exact hu)
                    have hc := (HCS6.out K1 u hu).1
                    generalize u.1 = us at *
                    have hb : ((us : Int) == (E : Int) + 1) = false := by rw [beq_eq_false_iff_ne]; omega
                    have hkli : (K1 : Int) < (L : Int) := by omega
                    have HE1 := hid e1
                    clear hno hu hne hK1 e1 hkn1
                    go_wp2_with fail
                    go_meet
                    exact ⟨rfl, rfl, _, rfl, hid ⟨(fun h => by cases h), (fun _ => HE1.out)⟩⟩
                  · have hkli : (L : Int) ≤ (K1 : Int) := by omega
                    have HE1 := hid e1
                    clear hno hK1 e1 hkn1
                    go_wp2_with fail
                    go_meet
                    exact ⟨rfl, rfl, _, rfl, hid ⟨(fun h => by cases h), (fun _ => HE1.out)⟩⟩
                · obtain rfl : kn = K1 := by omega
                  have hc := (HCS6.out kn t' HQ.out.2.1).1
                  rw [ht1, show ((E + 1 : Nat) : Int) = (E : Int) + 1 by omega] at hc
                  have hkli : (kn : Int) < (L : Int) := by omega
                  have HE1 := hid (And.intro e1 hne)
                  clear hne hK1 e1 hkn1 ht1
                  go_wp2_with fail
                  go_meet
                  exact ⟨rfl, rfl, _, rfl, hid ⟨(fun _ => HE1.out), (fun h => by cases h)⟩⟩
              case rest =>
                obtain ⟨rfl, hw6, B, rfl, HBB⟩ := hcut
                obtain rfl : w6 = wc := hw6.symm
                clear hkn1 
                go_upto_if 66 with (fail)
                go_cut [8] (fun kv wx => kv = .int .i64 kn ∧ Hid (Upd Nix w6 wx))
                case first =>
                  cases B
                  · obtain rfl : kn = kk := HBB.out.2 rfl
                    go_wp2_with fail
                    go_meet
                    exact ⟨rfl, Upd.refl _ _⟩
                  · have hkn2 : (kk : Int) + 1 = (kn : Int) := by have := (HBB.out.1 rfl).1; omega
                    have hkn3 : (kn : Int) - 1 = (kk : Int) := by omega
                    have hkli : (kn : Int) < (L : Int) := by omega
                    have hr1 := (HCS6.out kn t' HQ.out.2.1).2.2
                    have hr2 := (HCS6.out kk t HQ.out.1).2.2
                    obtain ⟨ra1, rc1, re1⟩ := row_nil hr1
                    obtain ⟨ra2, rc2, re2⟩ := row_nil hr2
                    have hS : ∀ w', Upd Nix w6 w' → w'.cell? ⟨b, kn * 2 + 1, none⟩ = some (.slice ra1 t'.2.length rc1) ∧ w'.cell? ⟨b, kk * 2 + 1, none⟩ = some (.slice ra2 t.2.length rc2) := by
                      intro w' hu
                      have h := HCS6.out.keep hu
                      exact ⟨by rw [← re1]; exact (h kn t' HQ.out.2.1).2.1, by rw [← re2]; exact (h kk t HQ.out.1).2.1⟩
                    have l1 := HAC.out t' (List.mem_of_getElem? HQ.out.2.1)
                    have l2 := HAC.out t (List.mem_of_getElem? HQ.out.1)
                    have hin : ∀ w', Upd Nix w6 w' → Calls Try.prog 21 #[.slice ra1 t'.2.length rc1, .slice ra2 t.2.length rc2] w' (fun e w'' => e = .returned (.bool false) ∧ Upd Nix w' w'') := by
                      intro w' hu
                      rw [← re1, ← re2]
                      refine (ints_any t'.2 t.2 _ _ 0 0 w' (row_keep hr1 hu (fun _ _ f => f)) (row_keep hr2 hu (fun _ _ f => f)) (by omega) (by omega)).mono ?_
                      rintro e w'' ⟨rfl, hu2⟩
                      exact ⟨by rw [decide_eq_false (HBB.out.1 rfl).2], hu2⟩
                    obtain ⟨s1, s2⟩ := hS w6 (Upd.refl _ _)
                    have HS := hid hS; have HIN := hid hin
                    clear hS hin hr1 hr2 re1 re2 l1 l2
                    generalize t'.2.length = n1 at *
                    generalize t.2.length = n2 at *
                    clear hkn3
                    go_upto_region 18 with (fail)
                    have hwr : IntKind.i64.wrap ((kn : Int) - 1) = (kk : Int) := by rw [IntWalk.i64_in _ (by have := HIX.out; omega)]; omega
                    clear hkn2
                    go_cut [8, 80] (fun kv r wx => kv = .int .i64 kn ∧ r = .bool false ∧ Hid (Upd Nix w6 wx))
                    case first =>
                      go_region_held3 (fun w' => w'.cell? ⟨b, kn * 2 + 1, none⟩ = some (.slice ra1 n1 rc1) ∧ w'.cell? ⟨b, kk * 2 + 1, none⟩ = some (.slice ra2 n2 rc2))
                        ((refine HS.out _ ?_; first
                          | with_reducible exact ((Upd.refl Nix w6).drew)
                          | with_reducible exact HU7.out))
                        (first
                          | (go_at_call 21; refine (HIN.out _ ((Upd.refl Nix w6).drew)).mono ?_; rintro e w7 ⟨rfl, hu7⟩; have HU7 := hid (((Upd.refl Nix w6).drew).trans hu7); clear hu7))
                      all_goals go_wp2
                      all_goals go_meet
                      all_goals exact ⟨rfl, rfl, HU7.out⟩
                    case rest =>
                      obtain ⟨rfl, rfl, HU⟩ := hcut
                      go_wp2_with fail
                      go_meet
                      exact ⟨rfl, HU.out⟩
                case rest =>
                  obtain ⟨rfl, HU⟩ := hcut
                  have hkli : (kn : Int) < (L : Int) := by omega
                  have hr1 := (HCS6.out kn t' HQ.out.2.1).2.2
                  obtain ⟨ra1, rc1, re1⟩ := row_nil hr1
                  have hal := acting_len m g
                  rw [HQ.out.2.2.1] at re1 hr1
                  have hin : ∀ w' va bb, Upd Nix w6 w' → RowN w' bb va (Sp.acting m g) → Calls Try.prog 21 #[va, .slice ra1 (Sp.acting m g).length rc1] w' (fun e w'' => e = .returned (.bool true) ∧ Upd Nix w' w'') := by
                    intro w' va bb hu hra
                    rw [← re1]
                    refine (ints_any (Sp.acting m g) (Sp.acting m g) _ _ bb 0 w' hra (row_keep hr1 hu (fun _ _ f => f)) (by omega) (by omega)).mono ?_
                    rintro e w'' ⟨rfl, hu2⟩
                    exact ⟨by rw [decide_eq_true rfl], hu2⟩
                  have hS : ∀ w', Upd Nix w6 w' → w'.cell? ⟨b, kn * 2 + 1, none⟩ = some (.slice ra1 (Sp.acting m g).length rc1) ∧ w'.heap[b10]? = some (.cells (mpArr m) 57 (0, 0)) := by
                    intro w' hu
                    have h := HCS6.out.keep hu
                    exact ⟨by rw [← re1]; exact (h kn t' HQ.out.2.1).2.1, hu.keep HB6.out (fun f => f)⟩
                  have hact := fun w' => acting_any m g hg w'
                  have hacn : ∃ nA, nA = (Sp.acting m g).length := ⟨_, rfl⟩
                  obtain ⟨nA, hnA⟩ := hacn
                  rw [← hnA] at hin hS
                  have HS := hid hS; have HIN := hid hin; have HACT := hid hact; have HNA := hid hnA
                  clear hS hin hact hal hr1 re1 hnA
                  have hd1 : decide ((L : Int) ≤ (kn : Int)) = false := by rw [decide_eq_false_iff_not]; omega
                  have hd2 : decide (L ≤ kn) = false := by rw [decide_eq_false_iff_not]; omega
                  go_upto_region 20 with (fail)
                  obtain ⟨s1, hbm⟩ := HS.out wc HU.out
                  obtain ⟨j0, j1, j2, j3, j4, j5, j6, j7, j8, j9, j10, j11, j12, j13, j14, j15⟩ := mp_cells hbm
                  clear hbm
                  go_cut [8, 100] (fun kv r wx => kv = .int .i64 kn ∧ r = .bool false ∧ Hid (Upd Nix w6 wx))
                  case first =>
                    go_region_held3 (fun w' => w'.cell? ⟨b, kn * 2 + 1, none⟩ = some (.slice ra1 nA rc1) ∧ w'.cell? ⟨b10, 0, none⟩ = some (.int .u32 m.ep) ∧ w'.cell? ⟨b10, 1, none⟩ = some (.bool m.o0.up) ∧ w'.cell? ⟨b10, 2, none⟩ = some (.int .i64 m.o0.wt) ∧ w'.cell? ⟨b10, 3, none⟩ = some (.int .u8 m.o0.host) ∧ w'.cell? ⟨b10, 4, none⟩ = some (.bool m.o1.up) ∧ w'.cell? ⟨b10, 5, none⟩ = some (.int .i64 m.o1.wt) ∧ w'.cell? ⟨b10, 6, none⟩ = some (.int .u8 m.o1.host) ∧ w'.cell? ⟨b10, 7, none⟩ = some (.bool m.o2.up) ∧ w'.cell? ⟨b10, 8, none⟩ = some (.int .i64 m.o2.wt) ∧ w'.cell? ⟨b10, 9, none⟩ = some (.int .u8 m.o2.host) ∧ w'.cell? ⟨b10, 10, none⟩ = some (.bool m.o3.up) ∧ w'.cell? ⟨b10, 11, none⟩ = some (.int .i64 m.o3.wt) ∧ w'.cell? ⟨b10, 12, none⟩ = some (.int .u8 m.o3.host) ∧ w'.cell? ⟨b10, 13, none⟩ = some (.bool m.o4.up) ∧ w'.cell? ⟨b10, 14, none⟩ = some (.int .i64 m.o4.wt) ∧ w'.cell? ⟨b10, 15, none⟩ = some (.int .u8 m.o4.host))
                      ((first
                        | (refine ⟨(HS.out _ ((HU.out).drew)).1, mp_cells (HS.out _ ((HU.out).drew)).2⟩; done)
                        | (refine ⟨(HS.out _ HU7.out).1, mp_cells (HS.out _ HU7.out).2⟩; done)
                        | (refine ⟨(HS.out _ HU8.out).1, mp_cells (HS.out _ HU8.out).2⟩; done)))
                      (first
                        | (go_at_call 22; refine (HACT.out _).mono ?_; rintro e w7 ⟨va, rfl, hra, hu7, _, _⟩; have HU7 := hid ((HU.out.drew).trans hu7); obtain ⟨xa, xc, rfl⟩ := row_nil hra; have HRA := hid hra; clear hu7 hra)
                        | (go_at_call 21; refine (HIN.out _ _ _ HU7.out HRA.out).mono ?_; rintro e w8 ⟨rfl, hu8⟩; have HU8 := hid (HU7.out.trans hu8); clear hu8))
                    all_goals go_wp2
                    all_goals go_meet
                    all_goals exact ⟨rfl, rfl, HU8.out⟩
                  case rest =>
                    obtain ⟨rfl, rfl, HU9⟩ := hcut
                    clear s1 j0 j1 j2 j3 j4 j5 j6 j7 j8 j9 j10 j11 j12 j13 j14 j15
                    go_wp2_with fail
                    go_roundw
                    case rel => exact ⟨kn, E + 1, by omega, hknL, rfl, by go_num, HKN.out, HAT6.out.keep0 HU9.out, HCS6.out.keep HU9.out⟩
                    case measure => simp [intOf]; omega
            · have hEM : E = M + 1 := by omega
              have hEi : (M : Int) < (E : Int) := by omega
              have hkL : kk = L - 1 := by rw [HR.out.1, hEM, HLA.out]
              obtain ⟨t, ht⟩ : ∃ t, (Sp.ivs (Sp.mapsOf G) g)[kk]? = some t := ⟨_, List.getElem?_eq_getElem (by rw [HL.out]; exact hkk)⟩
              have hlt := last_iv h4 (getLast_of (by rw [HL.out, ← hkL]; exact ht))
              have c0 := (HR.out.2.2 0 t0 HZ.out.1).1
              rw [HZ.out.2] at c0
              have c1 := (HR.out.2.2 kk t ht).1
              simp only [Nat.zero_mul] at c0
              have hlt1 : (lastOf G g).1 = t.1 := by rw [hlt]
              clear hlt
              generalize t.1 = ts at *
              have hsn : ∀ w', Upd Nix wr w' → Calls Try.prog 23 #[.pointer (some ⟨h, 0, none⟩), .int .u8 (g : Int)] w' (fun e w'' => e = .returned (.int .u32 ts) ∧ Upd Nix w' w'') := by
                intro w' hu
                have := since_at (HR.out.2.1.keep0 hu) g hg
                rw [hlt1] at this
                exact this
              have hS : ∀ w', Upd Nix wr w' → w'.cell? ⟨b, 0, none⟩ = some (.int .u32 1) ∧ w'.cell? ⟨b, kk * 2, none⟩ = some (.int .u32 ts) := fun w' hu => ⟨(hu.cell (World.block_lt_of_cell? _ _ c0) (fun f => f)).trans c0, (hu.cell (World.block_lt_of_cell? _ _ c1) (fun f => f)).trans c1⟩
              have HS := hid hS; have HSN := hid hsn
              have hb1 : ((kk : Int) == (L : Int) - 1) = true := by rw [beq_iff_eq]; omega
              have hkki : (kk : Int) < (L : Int) := by omega
              have hposi : (0 : Int) < (L : Int) := by omega
              have hwr : IntKind.i64.wrap ((L : Int) - 1) = (kk : Int) := by rw [IntWalk.i64_in _ (by omega)]; omega
              have HUR := hid HR.out.2.1.upd
              clear hS hsn hlt1 ht hkL hEM
              go_wp2_with fail
              refine HLS.out.mono ?_
              rintro e w4 ⟨rfl, rfl⟩
              go_upto_region 22 with (fail)
              clear hb1
              go_region_held3 (fun w' => w'.cell? ⟨b, 0, none⟩ = some (.int .u32 1) ∧ w'.cell? ⟨b, kk * 2, none⟩ = some (.int .u32 ts))
                ((refine HS.out _ ?_; first
                  | with_reducible exact ((Upd.refl Nix wr).drew)
                  | with_reducible exact HU7.out))
                (first
                  | (go_at_call 23; refine (HSN.out _ ((Upd.refl Nix wr).drew)).mono ?_; rintro e w7 ⟨rfl, hu7⟩; have HU7 := hid (((Upd.refl Nix wr).drew).trans hu7); clear hu7))
              all_goals go_wp2_with fail
              all_goals go_ret
              all_goals exact ⟨rfl, HUR.out.trans HU7.out⟩
    · have hgi : (4 : Int) ≤ (g : Int) := by omega
      have hni : (n : Int) ≤ 25 := by omega
      go_enter Try.func4, Try.ntmps4
      go_wp2_with fail
      refine (known5_any _).mono ?_
      rintro e w1 ⟨rfl, hu1⟩
      have HU1 := hid hu1
      clear hu1
      go_wp2_with fail
      go_ret
      exact ⟨rfl, HU1.out⟩
  · have hni : (25 : Int) < (n : Int) := by omega
    go_enter Try.func4, Try.ntmps4
    go_wp2_with fail
    refine (known5_any _).mono ?_
    rintro e w1 ⟨rfl, hu1⟩
    have HU1 := hid hu1
    clear hu1
    go_wp2_with fail
    go_ret
    exact ⟨rfl, HU1.out⟩
end Go.Proofs.Ytmkpljbkmkbnjaa
