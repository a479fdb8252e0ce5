/-
  THE WALK of paddocklaw5.HistorySame.
-/
import Derived.Test.YtmkpljbkmkbnjaaCopies
import Derived.Test.YtmkpljbkmkbnjaaIvs
import Derived.Deep.CutBlock
namespace Go.Proofs.Ytmkpljbkmkbnjaa
open Go.RowKit
set_option linter.unusedVariables false
set_option linter.unusedSimpArgs false

theorem incOf_at {G : List Sp.Inc} {r : Nat} (hr : r < G.length) : G[r]? = some (incOf G (r + 2)) := by
  unfold incOf
  rw [if_pos (by omega), List.getD_eq_getElem?_getD, show r + 2 - 2 = r by omega, List.getElem?_eq_getElem hr]
  rfl
theorem add_take {G : List Sp.Inc} (hc : Sp.Chain G) {j r : Nat} (hj : j ≤ G.length) (hr : r < G.length) :
    (r + 1 ≤ j ∧ Sp.add (G.take j) (r + 2) (incOf G (r + 2)) = (51, G.take j)) ∨ (j < r ∧ Sp.add (G.take j) (r + 2) (incOf G (r + 2)) = (50, G.take j)) ∨
    (r = j ∧ Sp.add (G.take j) (r + 2) (incOf G (r + 2)) = (0, G.take (j + 1))) := by
  have hl : (G.take j).length = j := by rw [List.length_take]; omega
  have hx := incOf_at hr
  unfold Sp.add
  rw [hl]
  rcases Nat.lt_trichotomy r j with h | h | h
  · exact .inl ⟨by omega, by rw [if_pos (by omega)]⟩
  · subst h
    refine .inr (.inr ⟨rfl, ?_⟩)
    rw [if_neg (by omega), if_neg (by omega), if_pos ⟨hc.1 _ (List.mem_of_getElem? hx), by have := hc.2; omega⟩, List.take_add_one, hx]
    rfl
  · exact .inr (.inl ⟨h, by rw [if_neg (by omega), if_pos (by omega)]⟩)
theorem incOf_ok {G : List Sp.Inc} (h : ∀ x ∈ G, IncOk x) (e : Nat) : IncOk (incOf G e) := by
  unfold incOf
  split
  · rename_i he
    have hr : e - 2 < G.length := by omega
    rw [List.getD_eq_getElem?_getD, List.getElem?_eq_getElem hr]
    exact h _ (List.getElem_mem hr)
  · exact ⟨by decide, by decide, by decide, by decide⟩
theorem Two.grown {w0 w w' : World} {a b : Nat} {A B : List Sp.Inc} {l : List Sp.Inc} {v : Value} (H : Two w0 w a A b B) (hr : IncRow w w0.heap.size v l) (hu : Upd (fun b => some b = v.ownBlock) w w') : Two w0 w' a A b B := by
  obtain ⟨S, T, h1, h2, h3, h4, h5, h6⟩ := H
  have hty : ∀ {h : Nat} {is : List Sp.Inc} {S : Nat → Prop}, Hs w h is S → ∀ k, k < w.heap.size → some k = v.ownBlock → ¬ S k ∧ ∀ cur fr, w.heap[k]? ≠ some (.cells cur 3 fr) := by
    intro h is S hS k hk f
    obtain ⟨_, cur, hc⟩ := row_blk hr f.symm
    refine ⟨fun s => ?_, fun cur2 fr e => ?_⟩
    · rcases hS.ty2 s hc with h | h <;> simp at h
    · rw [hc] at e; simp at e
  refine ⟨S, T, h1.keep hu (hty h1), h2.keep hu (hty h2), h3, h4.trans' hu (fun k hk f => ?_), h5, h6⟩
  have := (World.ownsRow.lt hr k f.symm).1
  omega
theorem ivsOf_len (G : List Sp.Inc) (g : Nat) : (ivsOf G g).length ≤ G.length + 1 := by
  unfold ivsOf ivsG
  split
  · have := Sp.ivs_len (Sp.mapsOf G) g; rw [Sp.mapsOf_len] at this; exact this
  · simp
theorem ivsOf_act (G : List Sp.Inc) (g : Nat) : ∀ t ∈ ivsOf G g, t.2.length ≤ 3 := by
  unfold ivsOf ivsG
  split
  · exact ivs_act_len _ g
  · simp
theorem IvAt.keep0 {w w' : World} {v : Value} {l : List (Int × List Nat)} (h : IvAt w v l) (hu : Upd Nix w w') : IvAt w' v l := h.keep hu (fun _ _ f => f.elim)
/-- a slice of bytes that came in -/
def OrdRow (w : World) (oa : Option Addr) (l : List Nat) : Prop := ∀ (k x : Nat), l[k]? = some x → x < 256 ∧ ∃ a, oa = some a ∧ w.cell? (a.add k) = some (.int .u8 (x : Int))
theorem OrdRow.keep {w w' : World} {oa : Option Addr} {l : List Nat} (h : OrdRow w oa l) (hu : Upd Nix w w') : OrdRow w' oa l := by
  intro k x hx
  obtain ⟨h1, a, h2, h3⟩ := h k x hx
  exact ⟨h1, a, h2, (hu.cell (World.block_lt_of_cell? _ _ h3) (fun f => f)).trans h3⟩
set_option maxRecDepth 100000 in
set_option maxHeartbeats 2000000 in
theorem sameW_any (v : Value) (l : List Sp.Inc) (oa : Option Addr) (oc : Nat) (ord : List Nat) (w : World) (hr : InRow w v l) (hok : ∀ x ∈ l, IncOk x) (hor : OrdRow w oa ord) :
    Calls Try.prog 8 #[v, .slice oa ord.length oc] w (KnownPost w) := by
  obtain ⟨va, vc, rfl, hcells⟩ := hr.form
  generalize hn : l.length = n at *
  generalize hm : ord.length = m at *
  have HCELLS := hid hcells; have HOK := hid hok; have HLN := hid hn; have HOR := hid hor; have HLM := hid hm
  clear hcells hok hr hn hor hm
  by_cases h20 : n ≤ 20
  · by_cases h60 : m ≤ 60
    · have hni : (n : Int) ≤ 20 := by omega
      have hmi : (m : Int) ≤ 60 := by omega
      go_enter Try.func8, Try.ntmps8
      go_wp2_with fail
      refine (known5_any _).mono ?_
      rintro e w1 ⟨rfl, hu1⟩
      have HN := hid (new_at (w0 := w) hu1)
      clear hu1
      go_wp2_with fail
      refine HN.out.mono ?_
      rintro e w2 ⟨h, rfl, hat⟩
      have HAT := hid hat
      have HN2 := hid (new_s w2)
      clear hat HN
      go_wp2_with fail
      refine HN2.out.mono ?_
      rintro e w3 ⟨b, T, rfl, h1, h2, h3⟩
      have HT := hid (HAT.out.two h1 h2 h3)
      clear h1 h2 h3 HN2 HAT
      go_upto_block 0 with (fail)
      go_cut [4] (fun s4 wx => s4 = .bool false ∧ Hid (Two w wx h (good l) b []))
      case first =>
        go_wp2_with fail
        go_loopw [7] (fun j wr => ∃ k : Nat, k ≤ n ∧ j = .int .i64 k ∧ Hid (Two w wr h (good (l.take k)) b [])) (fun j _ => n - (intOf j).toNat)
        case atStart => exact ⟨0, by omega, rfl, HT.out⟩
        case round =>
          obtain ⟨k, hk, rfl, HR⟩ := hrel
          clear HT
          by_cases hlt : k < n
          · obtain ⟨x, hx⟩ : ∃ x, l[k]? = some x := ⟨_, List.getElem?_eq_getElem (by have := HLN.out; omega)⟩
            obtain ⟨a, rfl, hin⟩ := HCELLS.out k x hx
            have hki : (k : Int) < (n : Int) := by omega
            have HX := hid hx; have HIN := hid hin
            clear hx hin
            go_upto_region 9 with (fail)
            obtain ⟨N, hN⟩ : ∃ N, N = (good (l.take k)).length := ⟨_, rfl⟩
            have hNk : N ≤ 29 := by have := good_len (l.take k); rw [List.length_take] at this; have := HLN.out; omega
            have hw := wrap_two N (by omega)
            obtain ⟨N1, hN1⟩ : ∃ N1 : Int, N1 = ((N + 1 : Nat) : Int) := ⟨_, rfl⟩
            obtain ⟨N2, hN2⟩ : ∃ N2 : Int, N2 = ((N + 2 : Nat) : Int) := ⟨_, rfl⟩
            rw [← hN1, ← hN2] at hw
            have hla := last_two (HR.out.keep0 ((Upd.refl Nix wr).drew))
            rw [← hN, ← hN1] at hla
            have hxo := HOK.out x (List.mem_of_getElem? HX.out)
            have haa := (HR.out.keep0 ((Upd.refl Nix wr).drew)).add1 (N + 2) x (by omega) hxo
            rw [← hN2] at haa
            obtain ⟨c0, c1, c2⟩ := inc_cells (HIN.out.keep HR.out.upd)
            have HLA := hid hla; have HAA := hid haa
            have HNE := hid hN
            clear hla haa hxo hN hN1 hN2 hNk
            go_region_held3 (fun w' => w'.cell? (a.add (k * 3)) = some (.int .u8 x.kind) ∧ w'.cell? ⟨(a.add (k * 3)).block, (a.add (k * 3)).off + 1, none⟩ = some (.int .u8 x.osd) ∧ w'.cell? ⟨(a.add (k * 3)).block, (a.add (k * 3)).off + 2, none⟩ = some (.int .i64 x.n))
              ((first
                | exact ⟨c0, c1, c2⟩
                | exact inc_cells (HIN.out.keep hat.out.upd)))
              (first
                | (go_at_call 18; refine HLA.out.mono ?_; rintro e w4 ⟨rfl, rfl⟩)
                | (go_at_call 17; refine HAA.out.mono ?_; rintro e w5 ⟨rfl, hat0, _⟩; have hat := hid hat0; clear hat0))
            all_goals clear c0 c1 c2 hw HLA HAA
            all_goals go_wp2_with fail
            all_goals go_roundw
            case rel => exact ⟨k + 1, by omega, by go_num, by rw [good_step l k x HX.out, ← HNE.out]; exact hat.out⟩
            case measure => simp [intOf]; omega
          · have : k = n := by omega
            subst this
            have hl : l.take k = l := by rw [← HLN.out, List.take_length]
            rw [hl] at HR
            clear hl
            go_wp2_with fail
            go_meet
            exact ⟨rfl, HR.out⟩
      case rest =>
        obtain ⟨rfl, HC⟩ := hcut
        have hgk : (good l).length ≤ 20 := by have := good_len l; have := HLN.out; omega
        have hgo : ∀ x ∈ good l, IncOk x := fun x hx => HOK.out x (good_sub l x hx)
        generalize good l = G at *
        generalize hM : G.length = M at *
        have HM := hid hM; have HGO := hid hgo
        have HCH := hid HC.out.fst.chain
        have hMi : (M : Int) ≤ 20 := by omega
        clear hM hgo HT HCELLS HOK HLN
        go_upto_block 2 with (fail)
        go_cut [] (fun wx => ∃ j : Nat, j ≤ M ∧ Hid (Two w wx h G b (G.take j)))
        case first =>
          go_wp2_with fail
          go_loopw [8] (fun iv wr => ∃ i j : Nat, i ≤ m ∧ j ≤ M ∧ iv = .int .i64 i ∧ Hid (Two w wr h G b (G.take j))) (fun iv _ => m - (intOf iv).toNat)
          case atStart => exact ⟨0, 0, by omega, by omega, rfl, HC.out⟩
          case round =>
            obtain ⟨i, j, him, hj, rfl, HR⟩ := hrel
            clear HC
            have hla := last_two HR.out
            rw [HM.out, show ((M + 1 : Nat) : Int) = (M : Int) + 1 by omega] at hla
            have HLA := hid hla
            clear hla
            by_cases hlt : i < m
            · have hii : (i : Int) < (m : Int) := by omega
              by_cases hM1 : 0 < M
              · have hM1i : (0 : Int) < (M : Int) := by omega
                go_wp2_with fail
                refine HLA.out.mono ?_
                rintro e w4 ⟨rfl, rfl⟩
                obtain ⟨o, hord⟩ : ∃ o, ord[i]? = some o := ⟨_, List.getElem?_eq_getElem (by have := HLM.out; omega)⟩
                obtain ⟨ho, a, rfl, hc⟩ := HOR.out.keep HR.out.upd i o hord
                have hs1 : IntKind.u32.wrap ((M : Int) + 1 - 1) = (M : Int) := by rw [show (M : Int) + 1 - 1 = (M : Int) by omega]; simp only [IntKind.wrap, IntKind.signed, IntKind.bits]; simp; omega
                have hs2 : IntKind.u32.wrap (o : Int) = (o : Int) := by simp only [IntKind.wrap, IntKind.signed, IntKind.bits]; simp; omega
                have hs3 : (o : Int).tmod (M : Int) = ((o % M : Nat) : Int) := by rw [Int.tmod_eq_emod_of_nonneg (by omega)]; rfl
                have hrM : o % M < M := Nat.mod_lt _ hM1
                generalize o % M = r at *
                have hs4 : IntKind.u32.wrap ((r : Int) + 2) = (r : Int) + 2 := by simp only [IntKind.wrap, IntKind.signed, IntKind.bits]; simp; omega
                have hs5 : IntKind.u32.wrap (r : Int) = (r : Int) := by simp only [IntKind.wrap, IntKind.signed, IntKind.bits]; simp; omega
                have hs6 : IntKind.u32.wrap (M : Int) = (M : Int) := by simp only [IntKind.wrap, IntKind.signed, IntKind.bits]; simp; omega
                have hz1 : ((M : Int) == 0) = false := by rw [beq_eq_false_iff_ne]; omega
                have hz2 : ¬ M = 0 := by omega
                have hz3 : ¬ ((M : Int) = 0) := by omega
                have HCL := hid (fun w' (hu : Upd Nix wr w') => (hu.cell (World.block_lt_of_cell? _ _ hc) (fun f => f)).trans hc)
                have HLD := hid (HR.out.keep0 ((Upd.refl Nix wr).drew))
                have hld := last_two HLD.out
                rw [HM.out, show ((M + 1 : Nat) : Int) = (M : Int) + 1 by omega] at hld
                have HLA2 := hid hld
                clear hld hord
                go_upto_region 13 with (fail)
                go_cut [9] (fun ev wx => ev = .int .u32 ((r : Int) + 2) ∧ Hid (Upd Nix wr wx))
                case first =>
                  go_region_held3 (fun w' => w'.cell? (a.add i) = some (.int .u8 (o : Int)))
                    ((refine HCL.out _ ?_; first
                      | with_reducible exact ((Upd.refl Nix wr).drew)))
                    (first
                      | (go_at_call 18; refine HLA2.out.mono ?_; rintro e w5 ⟨rfl, rfl⟩))
                  all_goals go_wp2
                  all_goals go_meet
                  all_goals exact ⟨rfl, ((Upd.refl Nix wr).drew)⟩
                case rest =>
                  obtain ⟨rfl, HU⟩ := hcut
                  have HR5 := hid (HR.out.keep0 HU.out)
                  clear hs1 hs2 hs3 hs4 hs5 hs6 hz1 hz2 hz3 hc HCL HLD HLA2 HLA HR HU
                  have hinc := inc_at HR5.out.fst (r + 2)
                  unfold IncS at hinc
                  rw [decide_eq_true (show 2 ≤ r + 2 ∧ r + 2 < G.length + 2 by have := HM.out; omega), show ((r + 2 : Nat) : Int) = (r : Int) + 2 by omega] at hinc
                  have hxo := incOf_ok HGO.out (r + 2)
                  have hadd := add_take HCH.out (j := j) (r := r) (by have := HM.out; omega) (by have := HM.out; omega)
                  generalize incOf G (r + 2) = x at *
                  have HI := hid hinc; have HXO := hid hxo; have HAD := hid hadd
                  clear hinc hxo hadd
                  go_wp2_with fail
                  refine HI.out.mono ?_
                  rintro e w6 ⟨rfl, hu6⟩
                  have HR6 := hid (HR5.out.keep0 hu6)
                  clear hu6 HI HR5
                  go_upto_region 15 with ((with_reducible refine at_store 50 (.tmp 10) (.tmp 80) ?_); refine wpList_store_row rfl 50 (.tmp 10) (.tmp 80) rfl w6.heap.size rfl (incArr x) rfl 50 zeroArr3 (alloc_new w6 _) rfl size50 rfl ?_)
                  change Code.wp _ _ _ _ ((w6.alloc (.cells zeroArr3 50)).setRow w6.heap.size (incArr x))
                  have hu7 : Upd Nix w6 ((w6.alloc (.cells zeroArr3 50)).setRow w6.heap.size (incArr x)) := ((Upd.refl _ _).alloc _).setRow (.inr (Nat.le_refl _)) _
                  have HB7 := hid (setRow_new (incArr x) (alloc_new w6 (.cells zeroArr3 50)))
                  have HR7 := hid (HR6.out.keep0 hu7)
                  clear hu7 HR6
                  generalize (w6.alloc (.cells zeroArr3 50)).setRow w6.heap.size (incArr x) = w7 at *
                  generalize w6.heap.size = b10 at *
                  have hlb := last_at HR7.out.snd
                  rw [List.length_take, show ((min j G.length + 1 : Nat) : Int) = (j : Int) + 1 by have := HM.out; omega] at hlb
                  have HLB := hid hlb
                  have ha2 := HR7.out.add2 (r + 2) x (by omega) HXO.out
                  unfold Add2 at ha2
                  rw [show ((r + 2 : Nat) : Int) = (r : Int) + 2 by omega] at ha2
                  obtain ⟨F, B2, j2, hF, hB2, hj2, hcase⟩ : ∃ (F : Int) (B2 : List Sp.Inc) (j2 : Nat), Sp.add (G.take j) (r + 2) x = (F, B2) ∧ B2 = G.take j2 ∧ j2 ≤ M ∧ ((F = 51 ∧ r + 1 ≤ j) ∨ (F = 50 ∧ j < r) ∨ (F = 0 ∧ r = j)) := by
                    rcases HAD.out with ⟨q1, q2⟩ | ⟨q1, q2⟩ | ⟨q1, q2⟩
                    · exact ⟨_, _, j, q2, rfl, hj, .inl ⟨rfl, q1⟩⟩
                    · exact ⟨_, _, j, q2, rfl, hj, .inr (.inl ⟨rfl, q1⟩)⟩
                    · exact ⟨_, _, j + 1, q2, rfl, by omega, .inr (.inr ⟨rfl, q1⟩)⟩
                  rw [hF] at ha2
                  subst hB2
                  have HA2 := hid ha2
                  obtain ⟨i0, i1, i2⟩ := inc_blk HB7.out
                  clear hlb ha2 HR7 HAD hF HXO
                  go_wp2_with fail
                  refine HLB.out.mono ?_
                  rintro e w8 ⟨rfl, rfl⟩
                  go_wp2_with fail
                  refine HA2.out.mono ?_
                  rintro e w9 ⟨rfl, htwo, _⟩
                  have HR9 := hid htwo
                  clear htwo HA2 HLB i0 i1 i2 HB7
                  rcases hcase with ⟨rfl, hc⟩ | ⟨rfl, hc⟩ | ⟨rfl, hc⟩
                  · have hb : (((r : Int) + 2) == ((j : Int) + 1 + 1)) = false := by rw [beq_eq_false_iff_ne]; omega
                    have hb2 : decide ((r : Int) + 2 = (j : Int) + 1 + 1) = false := by rw [decide_eq_false_iff_not]; omega
                    go_wp2_with fail
                    go_roundw
                    case rel => exact ⟨i + 1, j2, by omega, hj2, by go_num, HR9.out⟩
                    case measure => simp [intOf]; omega
                  · have hb : (((r : Int) + 2) == ((j : Int) + 1 + 1)) = false := by rw [beq_eq_false_iff_ne]; omega
                    have hb2 : decide ((r : Int) + 2 = (j : Int) + 1 + 1) = false := by rw [decide_eq_false_iff_not]; omega
                    go_wp2_with fail
                    go_roundw
                    case rel => exact ⟨i + 1, j2, by omega, hj2, by go_num, HR9.out⟩
                    case measure => simp [intOf]; omega
                  · have hb : (((r : Int) + 2) == ((j : Int) + 1 + 1)) = true := by rw [beq_iff_eq]; omega
                    have hb2 : decide ((r : Int) + 2 = (j : Int) + 1 + 1) = true := by rw [decide_eq_true_iff]; omega
                    go_wp2_with fail
                    go_roundw
                    case rel => exact ⟨i + 1, j2, by omega, hj2, by go_num, HR9.out⟩
                    case measure => simp [intOf]; omega
              · obtain rfl : M = 0 := by omega
                go_wp2_with fail
                refine HLA.out.mono ?_
                rintro e w4 ⟨rfl, rfl⟩
                go_wp2_with fail
                go_meet
                exact ⟨j, hj, HR.out⟩
            · have : i = m := by omega
              subst this
              clear HLA
              go_wp2_with fail
              go_meet
              exact ⟨j, hj, HR.out⟩
        case rest =>
          obtain ⟨j, hj, HC2⟩ := hcut
          have hlb := last_at HC2.out.snd
          rw [List.length_take, show ((min j G.length + 1 : Nat) : Int) = (j : Int) + 1 by have := HM.out; omega] at hlb
          have HLB := hid hlb
          clear hlb HC HOR HLM
          go_wp2_with fail
          refine HLB.out.mono ?_
          rintro e w4 ⟨rfl, rfl⟩
          clear HLB
          go_upto_block 4 with (fail)
          go_cut [] (fun wx => Hid (Two w wx h G b G))
          case first =>
            go_wp2_with fail
            go_loopw [14] (fun ev wr => ∃ j : Nat, j ≤ M ∧ ev = .int .u32 ((j : Int) + 2) ∧ Hid (Two w wr h G b (G.take j))) (fun ev _ => M + 2 - (intOf ev).toNat)
            case atStart => exact ⟨j, hj, by go_num, HC2.out⟩
            case round =>
              clear HC2 hj
              obtain ⟨j, hj, rfl, HR⟩ := hrel
              have hla := last_two HR.out
              rw [HM.out, show ((M + 1 : Nat) : Int) = (M : Int) + 1 by omega] at hla
              have HLA := hid hla
              clear hla
              by_cases hlt : j < M
              · have hji : (j : Int) + 2 ≤ (M : Int) + 1 := by omega
                have hinc := inc_at HR.out.fst (j + 2)
                unfold IncS at hinc
                rw [decide_eq_true (show 2 ≤ j + 2 ∧ j + 2 < G.length + 2 by have := HM.out; omega), show ((j + 2 : Nat) : Int) = (j : Int) + 2 by omega] at hinc
                have hxo := incOf_ok HGO.out (j + 2)
                have hadd : Sp.add (G.take j) (j + 2) (incOf G (j + 2)) = (0, G.take (j + 1)) := by
                  rcases add_take HCH.out (j := j) (r := j) (by have := HM.out; omega) (by have := HM.out; omega) with ⟨q1, _⟩ | ⟨q1, _⟩ | ⟨_, q2⟩
                  · omega
                  · omega
                  · exact q2
                generalize incOf G (j + 2) = x at *
                have HI := hid hinc; have HXO := hid hxo; have HAD := hid hadd
                clear hinc hxo hadd
                go_wp2_with fail
                refine HLA.out.mono ?_
                rintro e w5 ⟨rfl, rfl⟩
                go_wp2_with fail
                refine HI.out.mono ?_
                rintro e w6 ⟨rfl, hu6⟩
                have HR6 := hid (HR.out.keep0 hu6)
                clear hu6 HI HR HLA
                go_upto_region 23 with ((with_reducible refine at_store 50 (.tmp 15) (.tmp 124) ?_); refine wpList_store_row rfl 50 (.tmp 15) (.tmp 124) rfl w6.heap.size rfl (incArr x) rfl 50 zeroArr3 (alloc_new w6 _) rfl size50 rfl ?_)
                change Code.wp _ _ _ _ ((w6.alloc (.cells zeroArr3 50)).setRow w6.heap.size (incArr x))
                have hu7 : Upd Nix w6 ((w6.alloc (.cells zeroArr3 50)).setRow w6.heap.size (incArr x)) := ((Upd.refl _ _).alloc _).setRow (.inr (Nat.le_refl _)) _
                have HB7 := hid (setRow_new (incArr x) (alloc_new w6 (.cells zeroArr3 50)))
                have HR7 := hid (HR6.out.keep0 hu7)
                clear hu7 HR6
                generalize (w6.alloc (.cells zeroArr3 50)).setRow w6.heap.size (incArr x) = w7 at *
                generalize w6.heap.size = b15 at *
                have ha2 := HR7.out.add2 (j + 2) x (by omega) HXO.out
                unfold Add2 at ha2
                rw [HAD.out, show ((j + 2 : Nat) : Int) = (j : Int) + 2 by omega] at ha2
                have HA2 := hid ha2
                obtain ⟨i0, i1, i2⟩ := inc_blk HB7.out
                clear ha2 HR7 HAD HXO
                go_wp2_with fail
                refine HA2.out.mono ?_
                rintro e w9 ⟨rfl, htwo, _⟩
                have HR9 := hid htwo
                clear htwo HA2 i0 i1 i2 HB7
                go_wp2_with fail
                go_roundw
                case rel => exact ⟨j + 1, by omega, by go_num, HR9.out⟩
                case measure => simp [intOf]; omega
              · obtain rfl : j = M := by omega
                have hji : (j : Int) + 1 < (j : Int) + 2 := by omega
                go_wp2_with fail
                refine HLA.out.mono ?_
                rintro e w5 ⟨rfl, rfl⟩
                have HR2 := HR.out
                rw [List.take_of_length_le (by have := HM.out; omega)] at HR2
                have HR3 := hid HR2
                clear HR2 HR HLA
                go_wp2_with fail
                go_meet
                exact HR3.out
          case rest =>
            have HC3 := hid hcut.out
            clear hcut HC2 hj
            have hmap : ∀ w' p, At w w' p G → Calls Try.prog 20 #[.pointer (some ⟨p, 0, none⟩), .int .u32 ((M : Int) + 1)] w' (fun e w'' => e = .returned (.tuple #[mpV (Sp.lastMap G), .bool true]) ∧ Upd Nix w' w'') := by
              intro w' p H
              have h := map_at H (M + 1)
              unfold MapS at h
              rw [mapAt_in (by have := HM.out; omega), List.take_of_length_le (by have := HM.out; omega), decide_eq_true (show 1 ≤ M + 1 ∧ M + 1 ≤ G.length + 1 by have := HM.out; omega), show ((M + 1 : Nat) : Int) = (M : Int) + 1 by omega] at h
              exact h
            have hlast : ∀ w' p, At w w' p G → Calls Try.prog 18 #[.pointer (some ⟨p, 0, none⟩)] w' (fun e w'' => e = .returned (.int .u32 ((M : Int) + 1)) ∧ w' = w'') := by
              intro w' p H
              have h := last_at H
              rw [HM.out, show ((M + 1 : Nat) : Int) = (M : Int) + 1 by omega] at h
              exact h
            generalize hmG : Sp.lastMap G = mG at *
            have HMG := hid hmG; have HMAP := hid hmap; have HLAST := hid hlast
            clear hmap hlast hmG
            go_wp2_with fail
            refine (HLAST.out _ _ HC3.out.fst).mono ?_
            rintro e w5 ⟨rfl, rfl⟩
            go_wp2_with fail
            refine (HMAP.out _ _ HC3.out.fst).mono ?_
            rintro e w6 ⟨rfl, hu6⟩
            have HC6 := hid (HC3.out.keep0 hu6)
            clear hu6 HC3
            go_upto_region 26 with ((with_reducible refine at_store 57 (.tmp 17) (.tmp 136) ?_); refine wpList_store_row rfl 57 (.tmp 17) (.tmp 136) rfl w6.heap.size rfl (mpArr mG) rfl 57 zeroArr (alloc_new w6 _) rfl size57 rfl ?_)
            change Code.wp _ _ _ _ ((w6.alloc (.cells zeroArr 57)).setRow w6.heap.size (mpArr mG))
            have hus : Upd Nix w6 ((w6.alloc (.cells zeroArr 57)).setRow w6.heap.size (mpArr mG)) := ((Upd.refl _ _).alloc _).setRow (.inr (Nat.le_refl _)) _
            have HB17 := hid (setRow_new (mpArr mG) (alloc_new w6 (.cells zeroArr 57)))
            have HC7 := hid (HC6.out.keep0 hus)
            clear hus HC6
            generalize (w6.alloc (.cells zeroArr 57)).setRow w6.heap.size (mpArr mG) = w7 at *
            generalize w6.heap.size = b17 at *
            go_wp2_with fail
            refine (HLAST.out _ _ HC7.out.snd).mono ?_
            rintro e w8 ⟨rfl, rfl⟩
            go_wp2_with fail
            refine (HMAP.out _ _ HC7.out.snd).mono ?_
            rintro e w9 ⟨rfl, hu9⟩
            have HC9 := hid (HC7.out.keep0 hu9)
            have HB17b := hid (hu9.keep HB17.out (fun f => f))
            clear hu9 HC7 HB17
            go_upto_region 27 with ((with_reducible refine at_store 57 (.tmp 19) (.tmp 143) ?_); refine wpList_store_row rfl 57 (.tmp 19) (.tmp 143) rfl w9.heap.size rfl (mpArr mG) rfl 57 zeroArr (alloc_new w9 _) rfl size57 rfl ?_)
            change Code.wp _ _ _ _ ((w9.alloc (.cells zeroArr 57)).setRow w9.heap.size (mpArr mG))
            have hus : Upd Nix w9 ((w9.alloc (.cells zeroArr 57)).setRow w9.heap.size (mpArr mG)) := ((Upd.refl _ _).alloc _).setRow (.inr (Nat.le_refl _)) _
            have HB19 := hid (setRow_new (mpArr mG) (alloc_new w9 (.cells zeroArr 57)))
            have HC10 := hid (HC9.out.keep0 hus)
            have HB17c := hid (hus.keep HB17b.out (fun f => f))
            clear hus HC9 HB17b
            generalize (w9.alloc (.cells zeroArr 57)).setRow w9.heap.size (mpArr mG) = w10 at *
            generalize w9.heap.size = b19 at *
            have HBS := hid (And.intro HB17c.out HB19.out)
            clear HB17c HB19
            go_upto_block 6 with (fail)
            obtain ⟨i0, hi, hz0, hz1, hz2⟩ := info_parts info50
            go_cut [21] (fun gv wx => Hid (Two w wx h G b G ∧ IncRow wx w.heap.size gv G ∧ wx.heap[b17]? = some (.cells (mpArr mG) 57 (0, 0)) ∧ wx.heap[b19]? = some (.cells (mpArr mG) 57 (0, 0))))
            case first =>
              go_wp2_with fail
              go_loopw [21, 22] (fun gv ev wr => ∃ j : Nat, j ≤ M ∧ ev = .int .u32 ((j : Int) + 2) ∧ Hid (Two w wr h G b G ∧ IncRow wr w.heap.size gv (G.take j) ∧ wr.heap[b17]? = some (.cells (mpArr mG) 57 (0, 0)) ∧ wr.heap[b19]? = some (.cells (mpArr mG) 57 (0, 0)))) (fun _ ev _ => M + 2 - (intOf ev).toNat)
              case atStart => exact ⟨0, by omega, rfl, HC10.out, World.ownsRow_nil _ _ _ _, HBS.out.1, HBS.out.2⟩
              case round =>
                clear HC10 HBS
                obtain ⟨j, hj, rfl, HR⟩ := hrel
                have HLA := hid (HLAST.out _ _ HR.out.1.fst)
                by_cases hlt : j < M
                · have hji : (j : Int) + 2 ≤ (M : Int) + 1 := by omega
                  have hinc := inc_at HR.out.1.fst (j + 2)
                  unfold IncS at hinc
                  rw [decide_eq_true (show 2 ≤ j + 2 ∧ j + 2 < G.length + 2 by have := HM.out; omega), show ((j + 2 : Nat) : Int) = (j : Int) + 2 by omega] at hinc
                  have hgx := incOf_at (G := G) (r := j) (by have := HM.out; omega)
                  generalize incOf G (j + 2) = x at *
                  have HI := hid hinc; have HGX := hid hgx
                  clear hinc hgx
                  go_wp2_with fail
                  refine HLA.out.mono ?_
                  rintro e w11 ⟨rfl, rfl⟩
                  go_wp2_with fail
                  refine HI.out.mono ?_
                  rintro e w12 ⟨rfl, hu⟩
                  have HR2 := hid (And.intro (HR.out.1.keep0 hu) (And.intro (row_keep HR.out.2.1 hu (fun _ _ f => f)) (And.intro (hu.keep HR.out.2.2.1 (fun f => f)) (hu.keep HR.out.2.2.2 (fun f => f)))))
                  clear hu HI HR HLA
                  go_upto_region 32 with ((with_reducible refine at_store 50 (.tmp 23) (.tmp 155) ?_); refine wpList_store_row rfl 50 (.tmp 23) (.tmp 155) rfl w12.heap.size rfl (incArr x) rfl 50 zeroArr3 (alloc_new w12 _) rfl size50 rfl ?_)
                  change Code.wp _ _ _ _ ((w12.alloc (.cells zeroArr3 50)).setRow w12.heap.size (incArr x))
                  have hu : Upd Nix w12 ((w12.alloc (.cells zeroArr3 50)).setRow w12.heap.size (incArr x)) := ((Upd.refl _ _).alloc _).setRow (.inr (Nat.le_refl _)) _
                  have HB23 := hid (setRow_new (incArr x) (alloc_new w12 (.cells zeroArr3 50)))
                  have HR3 := hid (And.intro (HR2.out.1.keep0 hu) (And.intro (row_keep HR2.out.2.1 hu (fun _ _ f => f)) (And.intro (hu.keep HR2.out.2.2.1 (fun f => f)) (hu.keep HR2.out.2.2.2 (fun f => f)))))
                  clear hu HR2
                  generalize (w12.alloc (.cells zeroArr3 50)).setRow w12.heap.size (incArr x) = w13 at *
                  generalize w12.heap.size = b23 at *
                  obtain ⟨q0, q1, q2⟩ := inc_blk HB23.out
                  have hlt2 : (G.take j).length = j := by rw [List.length_take]; have := HM.out; omega
                  obtain ⟨ga, gc, rfl⟩ := row_nil HR3.out.2.1
                  rw [hlt2]
                  have HR4 : Hid (Two w w13 h G b G ∧ w13.ownsRow w.heap.size 50 3 (.slice ga j gc) j (incCells (G.take j)) ∧ w13.heap[b17]? = some (.cells (mpArr mG) 57 (0, 0)) ∧ w13.heap[b19]? = some (.cells (mpArr mG) 57 (0, 0))) := hid (by have h := HR3.out; unfold IncRow at h; rw [hlt2] at h; exact h)
                  clear HR3 hlt2
                  go_wp2_with (at_builtin; refine wpList_append_lies _ rfl _ _ 43 rfl w.heap.size 50 i0 (.agg #[.int .u8 0, .int .u8 0, .int .i64 0]) 3 16 Try.underlying43 hi hz0 hz1 hz2 rfl (by decide) (.slice ga j gc) j (incCells (G.take j)) rfl (HR4.out.2.1.alloc _) ⟨w13.heap.size, 0, none⟩ 1 1 [.int .u8 x.kind, .int .u8 x.osd, .int .i64 x.n] rfl rfl (three_new _ _ _ _ _) (three_one _ _ _) (by decide) (by unfold maxLen; omega) (by omega) (by have := HR4.out.1.upd.size; simp; omega) _ rfl ?_; intro g4 cap4 w4 hown4 hgr hat4 hlt4)
                  have hU : Upd (fun b => some b = (Value.slice ga j gc).ownBlock) w13 w4 := ((Upd.refl _ w13).alloc _).trans' (Upd.of_grown hgr) (fun _ _ f => f)
                  have hgs : G.take (j + 1) = G.take j ++ [x] := by rw [List.take_add_one, HGX.out]; rfl
                  have hlt2 : (G.take j).length = j := by rw [List.length_take]; have := HM.out; omega
                  have hro : IncRow w13 w.heap.size (.slice ga j gc) (G.take j) := by unfold IncRow; rw [hlt2]; exact HR4.out.2.1
                  have hk57 : ∀ p : Nat, w13.heap[p]? = some (Obj.cells (mpArr mG) 57 (0, 0)) → w4.heap[p]? = some (Obj.cells (mpArr mG) 57 (0, 0)) := fun p hp => hU.keep hp (fun f => by
                    obtain ⟨_, cur, hc⟩ := row_blk hro f.symm
                    rw [hp] at hc; simp at hc)
                  refine ⟨⟨j + 1, by omega, by go_num, HR4.out.1.grown hro hU, ?_, hk57 _ HR4.out.2.2.1, hk57 _ HR4.out.2.2.2⟩, by simp [intOf]; omega⟩
                  rw [hgs]; unfold IncRow
                  rw [incCells_snoc, List.length_append, hlt2]
                  exact hown4
                · obtain rfl : j = M := by omega
                  have hji : (j : Int) + 1 < (j : Int) + 2 := by omega
                  go_wp2_with fail
                  refine HLA.out.mono ?_
                  rintro e w11 ⟨rfl, rfl⟩
                  have HR2 := HR.out
                  rw [List.take_of_length_le (by have := HM.out; omega)] at HR2
                  have HR3 := hid HR2
                  clear HR2 HR HLA
                  go_wp2_with fail
                  go_meet
                  exact HR3.out
            case rest =>
              have HD := hid hcut.out
              clear hcut HC10 HBS
              have hfo := fold_any G u21 w.heap.size wc HD.out.2.1 HCH.out HGO.out
              unfold FoldPost at hfo
              rw [HMG.out] at hfo
              have HFO := hid hfo
              have heq := eq57 mG
              have HEQ := hid heq
              clear hfo heq
              go_wp2_with fail
              refine HFO.out.mono ?_
              rintro e w14 ⟨rfl, hu⟩
              have HE := hid (And.intro (HD.out.1.keep0 hu) (And.intro (hu.keep HD.out.2.2.1 (fun f => f)) (hu.keep HD.out.2.2.2 (fun f => f))))
              clear hu HFO HD
              go_upto_region 34 with ((with_reducible refine at_store 57 (.tmp 25) (.tmp 164) ?_); refine wpList_store_row rfl 57 (.tmp 25) (.tmp 164) rfl w14.heap.size rfl (mpArr mG) rfl 57 zeroArr (alloc_new w14 _) rfl size57 rfl ?_)
              change Code.wp _ _ _ _ ((w14.alloc (.cells zeroArr 57)).setRow w14.heap.size (mpArr mG))
              have hu : Upd Nix w14 ((w14.alloc (.cells zeroArr 57)).setRow w14.heap.size (mpArr mG)) := ((Upd.refl _ _).alloc _).setRow (.inr (Nat.le_refl _)) _
              have HB25 := setRow_new (mpArr mG) (alloc_new w14 (.cells zeroArr 57))
              have HF := hid (And.intro (HE.out.1.keep0 hu) (And.intro (hu.keep HE.out.2.1 (fun f => f)) (And.intro (hu.keep HE.out.2.2 (fun f => f)) HB25)))
              clear hu HE HB25
              generalize (w14.alloc (.cells zeroArr 57)).setRow w14.heap.size (mpArr mG) = w15 at *
              generalize w14.heap.size = b25 at *
              go_upto_block 8 with (fail)
              go_cut [] (fun wx => Hid (Two w wx h G b G ∧ wx.heap[b17]? = some (.cells (mpArr mG) 57 (0, 0)) ∧ wx.heap[b19]? = some (.cells (mpArr mG) 57 (0, 0)) ∧ wx.heap[b25]? = some (.cells (mpArr mG) 57 (0, 0))))
              case first =>
                go_wp2_with fail
                go_loopw [27] (fun gv wr => ∃ g : Nat, g ≤ 4 ∧ gv = .int .u8 g ∧ Hid (Two w wr h G b G ∧ wr.heap[b17]? = some (.cells (mpArr mG) 57 (0, 0)) ∧ wr.heap[b19]? = some (.cells (mpArr mG) 57 (0, 0)) ∧ wr.heap[b25]? = some (.cells (mpArr mG) 57 (0, 0)))) (fun gv _ => 4 - (intOf gv).toNat)
                case atStart => exact ⟨0, by omega, rfl, HF.out⟩
                case round =>
                  clear HF
                  obtain ⟨g, hg, rfl, HR⟩ := hrel
                  by_cases hlt : g < 4
                  · have hgi : (g : Int) < 4 := by omega
                    have HI1 := hid (intervals_at HR.out.1.fst g (by omega))
                    go_wp2_with fail
                    refine HI1.out.mono ?_
                    rintro e w16 ⟨v1, rfl, hv1, hu1⟩
                    have HI2 := hid (intervals_at (HR.out.1.keep0 hu1).snd g (by omega))
                    have HV1 := hid hv1; have HU1 := hid hu1
                    clear hv1 hu1 HI1
                    go_wp2_with fail
                    refine HI2.out.mono ?_
                    rintro e w17 ⟨v2, rfl, hv2, hu2⟩
                    have hlen := ivsOf_len G g
                    have HI3 := hid (ivs28_any (ivsOf G g) v1 v2 w17 (HV1.out.keep0 hu2) hv2 (by have := HM.out; omega) (ivsOf_act G g))
                    have HU2 := hid (HU1.out.trans hu2)
                    clear hv2 hu2 HI2 HV1 HU1 hlen
                    go_wp2_with fail
                    refine HI3.out.mono ?_
                    rintro e w18 ⟨rfl, hu3⟩
                    have hu := HU2.out.trans hu3
                    have HR2 := hid (And.intro (HR.out.1.keep0 hu) (And.intro (hu.keep HR.out.2.1 (fun f => f)) (And.intro (hu.keep HR.out.2.2.1 (fun f => f)) (hu.keep HR.out.2.2.2 (fun f => f)))))
                    clear hu hu3 HU2 HI3 HR
                    go_wp2_with fail
                    go_roundw
                    case rel => exact ⟨g + 1, by omega, by go_num, HR2.out⟩
                    case measure => simp [intOf]; omega
                  · obtain rfl : g = 4 := by omega
                    go_wp2_with fail
                    go_meet
                    exact HR.out
              case rest =>
                have HG2 := hid hcut.out
                clear hcut HF
                obtain ⟨x0, x1, x2, x3, x4, x5, x6, x7, x8, x9, x10, x11, x12, x13, x14, x15⟩ := mp_cells HG2.out.2.1
                obtain ⟨y0, y1, y2, y3, y4, y5, y6, y7, y8, y9, y10, y11, y12, y13, y14, y15⟩ := mp_cells HG2.out.2.2.1
                obtain ⟨z0, z1, z2, z3, z4, z5, z6, z7, z8, z9, z10, z11, z12, z13, z14, z15⟩ := mp_cells HG2.out.2.2.2
                have heq := HEQ.out
                go_wp2_with fail
                go_ret
                exact ⟨rfl, HG2.out.1.upd⟩
    · have hmi : (60 : Int) < (m : Int) := by omega
      have hni : (n : Int) ≤ 20 := by omega
      go_enter Try.func8, Try.ntmps8
      go_wp2_with fail
      refine (known5_any _).mono ?_
      rintro e w1 ⟨rfl, hu1⟩
      have HU1 := hid hu1
      clear hu1
      go_wp2_with fail
      go_ret
      exact ⟨rfl, HU1.out⟩
  · have hni : (20 : Int) < (n : Int) := by omega
    go_enter Try.func8, Try.ntmps8
    go_wp2_with fail
    refine (known5_any _).mono ?_
    rintro e w1 ⟨rfl, hu1⟩
    have HU1 := hid hu1
    clear hu1
    go_wp2_with fail
    go_ret
    exact ⟨rfl, HU1.out⟩
end Go.Proofs.Ytmkpljbkmkbnjaa
