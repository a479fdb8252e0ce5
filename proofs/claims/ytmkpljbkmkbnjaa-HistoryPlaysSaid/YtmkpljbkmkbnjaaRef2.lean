/-
  THE WALKS of paddockref3.Pick and paddockref3.Acting.
-/
import Derived.Test.YtmkpljbkmkbnjaaRef1
import Derived.Test.YtmkpljbkmkbnjaaRefP
import Derived.Deep.CutBlock
namespace Go.Proofs.Ytmkpljbkmkbnjaa
open Go.RowKit
set_option linter.unusedVariables false
set_option linter.unusedSimpArgs false

theorem rstep_no {m : Sp.Mp} {g r t : Nat} {P : List Nat} (ht : t < 20) (h : ¬ (0 ≤ (Sp.rbest m g (r + t * 3) 5).1 ∧ Sp.fits m P (Sp.rbest m g (r + t * 3) 5).1.toNat = true)) :
    Sp.rpickFrom m g r P (20 - t) t = Sp.rpickFrom m g r P (20 - (t + 1)) (t + 1) := by
  obtain ⟨n, hn⟩ : ∃ n, 20 - t = n + 1 := ⟨20 - t - 1, by omega⟩
  rw [hn, show 20 - (t + 1) = n by omega]
  simp only [Sp.rpickFrom]
  rw [if_neg h]
theorem rstep_yes {m : Sp.Mp} {g r t o : Nat} {P : List Nat} (ht : t < 20) (h : (Sp.rbest m g (r + t * 3) 5).1 = (o : Int)) (hf : Sp.fits m P o = true) :
    Sp.rpickFrom m g r P (20 - t) t = P ++ [o] := by
  obtain ⟨n, hn⟩ : ∃ n, 20 - t = n + 1 := ⟨20 - t - 1, by omega⟩
  rw [hn]
  simp only [Sp.rpickFrom, h]
  rw [if_pos ⟨by omega, hf⟩]
  rfl
theorem rpick_no (m : Sp.Mp) (g : Nat) (hg : g < 256) (w : World) (h1 : Sp.isMap m = true) (h4 : ¬ g < 4) : Calls Try.prog 98 #[mpV m, .int .u8 (g : Int)] w (PicksPost m g w) := by
  have HP := hid (pick_no (m := m) (g := g) (fun h => h4 h.2))
  have h2' : (4 : Int) ≤ g := by omega
  have H1 := hid h1
  clear h1 h4
  go_enter Try.func98, Try.ntmps98
  go_wp2_with fail
  refine (ris_yes m _ H1.out).mono ?_
  rintro e w' ⟨rfl, hu⟩
  have HU := hid hu
  clear hu
  go_wp2_with fail
  go_ret
  exact picksPost_nil HP.out (((Upd.refl _ _).alloc _).trans HU.out)
set_option maxRecDepth 10000 in
set_option maxHeartbeats 2000000 in
theorem rpick_yes (m : Sp.Mp) (g : Nat) (w : World) (h1 : Sp.isMap m = true) (h4 : g < 4) : Calls Try.prog 98 #[mpV m, .int .u8 (g : Int)] w (PicksPost m g w) := by
  have hgi : (g : Int) < 4 := by omega
  have HEQ := hid (Sp.rpick_eq m g h1 h4)
  have H1 := hid h1
  clear h1
  obtain ⟨i0, hi, hz0, hz1, hz2⟩ := info_parts info3
  have hb : (w.alloc (.cells (mpArr m) 57)).heap[w.heap.size]? = some (.cells (mpArr m) 57 (0, 0)) := alloc_new w _
  have hu : Upd Nix w (w.alloc (.cells (mpArr m) 57)) := (Upd.refl Nix w).alloc _
  have HB := hid hb; have HU := hid hu
  clear hb hu
  go_enter Try.func98, Try.ntmps98
  go_upto_region 1 with (fail)
  change Code.wp _ _ _ _ (w.alloc (.cells (mpArr m) 57))
  generalize w.alloc (.cells (mpArr m) 57) = w1 at *
  obtain ⟨p, hp⟩ : ∃ p, p = w.heap.size := ⟨_, rfl⟩
  have HPE := hid hp
  rw [← hp] at HB ⊢
  clear hp
  obtain ⟨j0, j1, j2, j3, j4, j5, j6, j7, j8, j9, j10, j11, j12, j13, j14, j15⟩ := mp_cells HB.out
  go_wp2_with fail
  refine (ris_yes m _ H1.out).mono ?_
  rintro e w2 ⟨rfl, hu2⟩
  have HB2 := hid (hu2.keep HB.out (fun f => f))
  have HU2 := hid (HU.out.trans hu2)
  clear hu2 HB HU j0 j1 j2 j3 j4 j5 j6 j7 j8 j9 j10 j11 j12 j13 j14 j15
  have hsz := HU2.out.size
  go_wp2_with fail
  go_loopw [5, 6] (fun ov rv wr => ∃ r : Nat, r ≤ 3 ∧ rv = .int .i64 r ∧ Hid (RowN wr w2.heap.size ov (Sp.rpickUpto m g r) ∧ Upd Nix w2 wr)) (fun _ rv _ => 3 - (intOf rv).toNat)
  case atStart => exact ⟨0, by omega, rfl, World.ownsRow_nil _ _ _ _, Upd.refl _ _⟩
  case round =>
    obtain ⟨r, hr3, rfl, HR⟩ := hrel
    by_cases hlt : r < 3
    · have hri : (r : Int) < 3 := by omega
      have hPl := Sp.rpickUpto_len m g r
      have hP5 := Sp.rpickUpto_lt m g r
      have hnext : Sp.rpickFrom m g r (Sp.rpickUpto m g r) 20 0 = Sp.rpickUpto m g (r + 1) := rfl
      generalize Sp.rpickUpto m g r = P at *
      generalize hP2 : Sp.rpickUpto m g (r + 1) = P2 at *
      have HP2 := hid hP2
      clear hP2
      have HP5 := hid hP5; have HNX := hid hnext
      clear hP5 hnext
      obtain ⟨pa, pc, rfl⟩ := row_nil HR.out.1
      go_upto_block 1 with (fail)
      go_cut [5, 6] (fun ov rv wx => rv = .int .i64 r ∧ Hid (RowN wx w2.heap.size ov P2 ∧ Upd Nix w2 wx))
      case first =>
        go_wp2_with fail
        go_loopw [5, 7] (fun ov tv wt => ∃ t : Nat, t ≤ 20 ∧ tv = .int .i64 t ∧ ov = .slice pa P.length pc ∧ Hid (RowN wt w2.heap.size (.slice pa P.length pc) P ∧ Upd Nix w2 wt ∧ Sp.rpickFrom m g r P (20 - t) t = P2)) (fun _ tv _ => 20 - (intOf tv).toNat)
        case atStart => exact ⟨0, by omega, rfl, rfl, HR.out.1, HR.out.2, HNX.out⟩
        case round =>
          clear HR HNX
          obtain ⟨t, ht, rfl, rfl, HT⟩ := hrel
          by_cases hlt2 : t < 20
          · have hti : (t : Int) < 20 := by omega
            rename World => wt
            go_upto_block 4 with (fail)
            go_cut [8] (fun bv wx => wt = wx ∧ bv = .int .i64 (Sp.rbest m g (r + t * 3) 5).1)
            case first =>
              go_wp2_with fail
              go_loopw [8, 9, 10] (fun bv sv iv wx => ∃ (i : Nat) (B S : Int), i ≤ 5 ∧ iv = .int .i64 i ∧ bv = .int .i64 B ∧ sv = .int .i64 S ∧ Hid (wt = wx ∧ Sp.rbest m g (r + t * 3) i = (B, S))) (fun _ _ iv _ => 5 - (intOf iv).toNat)
              case atStart => exact ⟨0, -1, 0, by omega, rfl, rfl, rfl, hid ⟨rfl, Sp.rbest_zero m g _⟩⟩
              case round =>
                obtain ⟨i, B, S, hi5, rfl, rfl, rfl, HBS0⟩ := hrel
                obtain ⟨rfl, hbs⟩ := HBS0.out
                have HBS := hid hbs
                clear HBS0 hbs
                by_cases hlt3 : i < 5
                · have hii : (i : Int) < 5 := by omega
                  have hbr := HT.out.2.1.keep HB2.out (fun f => f)
                  obtain ⟨q1, q2, q3⟩ := mp_osd m i hlt3
                  have c2 : wt.cell? ⟨p, 1 + i * 3 + 1, none⟩ = some (.int .i64 (m.osd i).wt) := by rw [cell_blk hbr]; exact q2
                  have hsk := Sp.rbest_skip m g (r + t * 3) i
                  have htk := fun (h : 1 ≤ (m.osd i).wt) => Sp.rbest_take m g (r + t * 3) i h HBS.out rfl
                  have hdr := rdraw_any g i (r + t * 3) (by omega) (by omega) (by omega) (m.osd i).wt wt
                  rw [show ((r + t * 3 : Nat) : Int) = (r : Int) + (t : Int) * 3 by omega] at hdr
                  generalize Sp.draw g i (r + t * 3) (m.osd i).wt = d at *
                  generalize (m.osd i).wt = wt1 at *
                  have HSK := hid hsk; have HTK := hid htk; have HDR := hid hdr
                  clear hsk htk hdr q1 q2 q3 hbr
                  by_cases hw1 : wt1 < 1
                  · go_wp2_with fail
                    go_roundw
                    case rel => exact ⟨i + 1, B, S, by omega, by go_num, rfl, rfl, hid ⟨by trivial, by rw [HSK.out hw1]; exact HBS.out⟩⟩
                    case measure => simp [intOf]; omega
                  · have hw2 : 1 ≤ wt1 := by omega
                    go_wp2_with fail
                    refine HDR.out.mono ?_
                    rintro e w4 ⟨rfl, rfl⟩
                    by_cases hB : B < 0
                    · go_wp2_with fail
                      go_roundw
                      case rel => exact ⟨i + 1, i, d, by omega, by go_num, rfl, rfl, hid ⟨by trivial, by rw [HTK.out hw2, if_pos (.inl hB)]⟩⟩
                      case measure => simp [intOf]; omega
                    · have hB2 : 0 ≤ B := by omega
                      by_cases hS : S < d
                      · go_wp2_with fail
                        go_roundw
                        case rel => exact ⟨i + 1, i, d, by omega, by go_num, rfl, rfl, hid ⟨by trivial, by rw [HTK.out hw2, if_pos (.inr hS)]⟩⟩
                        case measure => simp [intOf]; omega
                      · go_wp2_with fail
                        go_roundw
                        case rel => exact ⟨i + 1, B, S, by omega, by go_num, rfl, rfl, hid ⟨by trivial, by rw [HTK.out hw2, if_neg (by omega)]⟩⟩
                        case measure => simp [intOf]; omega
                · obtain rfl : i = 5 := by omega
                  go_wp2_with fail
                  go_meet
                  exact ⟨rfl, by rw [HBS.out]⟩
            case rest =>
              obtain ⟨rfl, rfl⟩ := hcut
              have hbd := Sp.rbest_bd m g (r + t * 3) 5
              have hno := rstep_no (m := m) (g := g) (r := r) (t := t) (P := P) hlt2
              have hyes := fun o => rstep_yes (m := m) (g := g) (r := r) (t := t) (o := o) (P := P) hlt2
              generalize (Sp.rbest m g (r + t * 3) 5).1 = B at *
              rcases hbd with ⟨hB1, hB2⟩ | hB1
              · obtain ⟨o, rfl⟩ : ∃ o : Nat, B = (o : Int) := ⟨B.toNat, by omega⟩
                have ho : o < 5 := by omega
                have hoi : (o : Int) < 5 := by omega
                have HNO := hid hno; have HYES := hid hyes
                clear hno hyes hB1 hB2
                go_upto_block 6 with (fail)
                go_cut [12] (fun okv wx => okv = .bool (Sp.fits m P o) ∧ Hid (Upd Nix wt wx))
                case first =>
                  go_wp2_with fail
                  go_loopw [12, 13] (fun okv kv wx => ∃ (k : Nat) (F : Bool), k ≤ P.length ∧ kv = .int .i64 k ∧ okv = .bool F ∧ Hid (F = Sp.fits m (P.take k) o ∧ Upd Nix wt wx)) (fun _ kv _ => P.length + 1 - (intOf kv).toNat)
                  case atStart => exact ⟨0, true, by omega, rfl, rfl, rfl, Upd.refl _ _⟩
                  case round =>
                    obtain ⟨k, F, hk, rfl, rfl, HF⟩ := hrel
                    cases F
                    · go_wp2_with fail
                      go_meet
                      exact ⟨by rw [Sp.fits_no HF.out.1.symm], HF.out.2⟩
                    · by_cases hlt4 : k < P.length
                      · obtain ⟨x, hx⟩ : ∃ x, P[k]? = some x := ⟨_, List.getElem?_eq_getElem hlt4⟩
                        have hx5 : x < 5 := HP5.out x (List.mem_of_getElem? hx)
                        have hrow := row_keep HT.out.1 HF.out.2 (fun _ _ f => f)
                        obtain ⟨g0, c0, hv, _, hg0, _, _, hcell⟩ := nats_row hrow (by omega)
                        simp only [Value.slice.injEq, true_and] at hv
                        obtain ⟨rfl, rfl⟩ := hv
                        have hc := hcell k hlt4
                        rw [List.getD_eq_getElem?_getD, hx] at hc
                        simp only [Option.getD_some] at hc
                        have hki : (k : Int) < (P.length : Int) := by omega
                        have hxi : (x : Int) < 5 := by omega
                        have hbr := HF.out.2.keep (HT.out.2.1.keep HB2.out (fun f => f)) (fun f => f)
                        have y1 : wr.cell? ⟨p, 1 + x * 3 + 2, none⟩ = some (.int .u8 (m.osd x).host) := by rw [cell_blk hbr]; exact (mp_osd m x hx5).2.2
                        have y2 : wr.cell? ⟨p, 1 + o * 3 + 2, none⟩ = some (.int .u8 (m.osd o).host) := by rw [cell_blk hbr]; exact (mp_osd m o ho).2.2
                        have hfs := Sp.fits_succ m P k o x hx
                        rw [← HF.out.1] at hfs
                        unfold Sp.clash at hfs
                        generalize (m.osd x).host = ha at *
                        generalize (m.osd o).host = hb at *
                        have HFS := hid hfs
                        clear hfs hx hrow hcell hbr hx5
                        by_cases hxo : x = o
                        · have hb0 : ((x : Int) != (o : Int)) = false := by simp [hxo]
                          have HXO := hid hxo
                          clear hxo y1 y2
                          go_wp2_with fail
                          go_quiet (fail)
                          go_wp2_with fail
                          go_roundw
                          case rel => exact ⟨k + 1, false, by omega, by go_num, rfl, hid ⟨by rw [HFS.out, HXO.out]; simp, HF.out.2.drewN _⟩⟩
                          case measure => simp [intOf]; omega
                        · have hb0 : ((x : Int) != (o : Int)) = true := by rw [bne_iff_ne]; omega
                          have HXO := hid hxo
                          clear hxo
                          by_cases hab : ha = hb
                          · have hb1 : ((ha : Int) != hb) = false := by simp [hab]
                            have HAB := hid hab
                            clear hab
                            go_wp2_with fail
                            go_quiet (fail)
                            go_wp2_with fail
                            go_roundw
                            case rel => exact ⟨k + 1, false, by omega, by go_num, rfl, hid ⟨by rw [HFS.out, HAB.out]; simp, HF.out.2.drewN _⟩⟩
                            case measure => simp [intOf]; omega
                          · have hb1 : ((ha : Int) != hb) = true := by rw [bne_iff_ne]; exact hab
                            have HAB := hid hab
                            clear hab
                            go_wp2_with fail
                            go_quiet (fail)
                            go_wp2_with fail
                            go_roundw
                            case rel => exact ⟨k + 1, true, by omega, by go_num, rfl, hid ⟨by rw [HFS.out, decide_eq_false HXO.out, decide_eq_false HAB.out]; rfl, HF.out.2.drewN _⟩⟩
                            case measure => simp [intOf]; omega
                      · have hke : k = P.length := by omega
                        subst hke
                        go_wp2_with fail
                        go_meet
                        exact ⟨by rw [HF.out.1, List.take_length], HF.out.2⟩
                case rest =>
                  obtain ⟨rfl, HU3⟩ := hcut
                  cases hF : Sp.fits m P o
                  · have HFF := hid hF
                    clear hF
                    go_wp2_with fail
                    go_roundw
                    case rel => exact ⟨t + 1, by omega, by go_num, rfl, row_keep HT.out.1 HU3.out (fun _ _ f => f), HT.out.2.1.trans HU3.out, by rw [← HNO.out (fun h => by have := h.2; rw [show ((o : Int)).toNat = o from rfl, HFF.out] at this; simp at this)]; exact HT.out.2.2⟩
                    case measure => simp [intOf]; omega
                  · have HFF := hid hF
                    clear hF
                    have hown := row_keep HT.out.1 HU3.out (fun _ _ f => f)
                    have hsz2 := HT.out.2.1.size
                    have hsz3 := HU3.out.size
                    have HOWN := hid hown
                    clear hown
                    go_wp2_with (at_builtin; refine wpList_append_lies _ rfl _ _ 60 rfl w2.heap.size 3 i0 (.int .i64 0) 1 8 Try.underlying60 hi hz0 hz1 hz2 rfl (by decide) (.slice pa P.length pc) P.length (natsV P) rfl (HOWN.out.alloc _) ⟨wc.heap.size, 0, none⟩ 1 1 [.int .i64 (o : Int)] rfl rfl (one_cell_new _ _ _) (one_oneCell _) (by decide) (by unfold maxLen; omega) (by omega) (by simp; omega) _ rfl ?_; intro g4 cap4 w4 hown4 hgr hat4 hlt4)
                    go_meet
                    have hU : Upd (fun b => some b = (Value.slice pa P.length pc).ownBlock) wc w4 := ((Upd.refl _ wc).alloc _).trans' (Upd.of_grown hgr) (fun _ _ f => f)
                    refine ⟨rfl, hid ⟨?_, (HT.out.2.1.trans HU3.out).trans' hU (fun b hb f => ?_)⟩⟩
                    · rw [← HT.out.2.2, HYES.out o rfl HFF.out]
                      unfold RowN
                      rw [natsV_snoc, List.length_append]
                      exact hown4
                    · have := (row_blk HOWN.out f.symm).1
                      omega
              · subst hB1
                have HNO := hid (hno (fun h => by have := h.1; omega))
                clear hno hyes
                go_upto_block 6 with (fail)
                go_cut [12] (fun okv wx => okv = .bool false ∧ wt = wx)
                case first =>
                  go_wp2_with fail
                  refine wp_loop_rounds 1 ?_
                  rw [rounds_succ]
                  go_wp2
                  go_meet
                  exact ⟨rfl, rfl⟩
                case rest =>
                  obtain ⟨rfl, rfl⟩ := hcut
                  go_wp2_with fail
                  go_roundw
                  case rel => exact ⟨t + 1, by omega, by go_num, rfl, HT.out.1, HT.out.2.1, by rw [← HNO.out]; exact HT.out.2.2⟩
                  case measure => simp [intOf]; omega
          · obtain rfl : t = 20 := by omega
            go_wp2_with fail
            go_meet
            exact ⟨rfl, by rw [← HT.out.2.2]; exact HT.out.1, HT.out.2.1⟩
      case rest =>
        obtain ⟨rfl, HC⟩ := hcut
        go_wp2_with fail
        go_roundw
        case rel => exact ⟨r + 1, by omega, by go_num, by rw [HP2.out]; exact HC.out⟩
        case measure => simp [intOf]; omega
    · obtain rfl : r = 3 := by omega
      have hPl := Sp.rpickUpto_len m g 3
      have hP5 := Sp.rpickUpto_lt m g 3
      rw [HEQ.out] at hPl hP5 HR
      have HQ := hid (And.intro hPl hP5)
      clear hPl hP5
      go_wp2_with fail
      go_ret
      exact ⟨_, rfl, row_mono HR.out.1 HU2.out.size, HU2.out.trans HR.out.2, HQ.out.1, HQ.out.2⟩
end Go.Proofs.Ytmkpljbkmkbnjaa
