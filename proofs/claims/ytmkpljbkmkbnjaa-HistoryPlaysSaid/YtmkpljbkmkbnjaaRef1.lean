/-
  THE WALKS of paddockref3: Same, First, Is, IsInc, Apply.
-/
import Derived.Test.YtmkpljbkmkbnjaaInts
import Derived.Test.YtmkpljbkmkbnjaaFirst
import Derived.Test.YtmkpljbkmkbnjaaApply2
import Derived.Test.YtmkpljbkmkbnjaaChain
import Derived.Deep.DeepCutAuto
namespace Go.Proofs.Ytmkpljbkmkbnjaa
open Go.RowKit
set_option linter.unusedVariables false
set_option linter.unusedSimpArgs false

set_option maxRecDepth 10000 in
theorem rsame_any (l1 l2 : List Nat) (v1 v2 : Value) (b1 b2 : Nat) (w : World) (r1 : RowN w b1 v1 l1) (r2 : RowN w b2 v2 l2) (h1 : l1.length ≤ 1000) (h2 : l2.length ≤ 1000) :
    Calls Try.prog 81 #[v1, v2] w (EqPost l1 l2 w) := by
  by_cases hlen : l1.length = l2.length
  · by_cases h0 : 0 < l1.length
    · obtain ⟨g1, c1, rfl, _, hg1, _, _, hc1⟩ := nats_row r1 h0
      obtain ⟨g2, c2, rfl, _, hg2, _, _, hc2⟩ := nats_row r2 (by omega)
      obtain ⟨n, hn⟩ : ∃ n, n = l1.length := ⟨_, rfl⟩
      have hn2 : n = l2.length := by omega
      rw [← hn] at h0 h1 hc1 ⊢
      rw [← hn2] at h2 hc2 ⊢
      have HC1 := hid hc1; have HC2 := hid hc2; have HN := hid hn; have HN2 := hid hn2
      clear hc1 hc2 hn hn2 hlen r1 r2
      go_enter Try.func81, Try.ntmps81
      go_wp2
      go_loopw [5] (fun i wr => ∃ k : Nat, k ≤ n ∧ i = .int .i64 k ∧ Hid (Upd Nix w wr ∧ l1.take k = l2.take k)) (fun i _ => n - (intOf i).toNat)
      case atStart => exact ⟨0, by omega, rfl, Upd.refl _ _, rfl⟩
      case round =>
        obtain ⟨k, hk, rfl, H⟩ := hrel
        by_cases hlt : k < n
        · have k1 : wr.cell? ⟨g1, k, none⟩ = some (.int .i64 ((l1.getD k 0 : Nat) : Int)) := (H.out.1.cell hg1 (fun f => f)).trans (HC1.out k hlt)
          have k2 : wr.cell? ⟨g2, k, none⟩ = some (.int .i64 ((l2.getD k 0 : Nat) : Int)) := (H.out.1.cell hg2 (fun f => f)).trans (HC2.out k hlt)
          have hts := fun he => takes_succ H.out.2 (by rw [← HN.out]; exact hlt) (by rw [← HN2.out]; exact hlt) he
          have hne : l1.getD k 0 ≠ l2.getD k 0 → l1 ≠ l2 := fun h e => h (by rw [e])
          generalize l1.getD k 0 = x at *
          generalize l2.getD k 0 = y at *
          have HTS := hid hts; have HNE := hid hne
          clear hts hne
          have hlti : (k : Int) < n := by omega
          by_cases hxy : x = y
          · have hb : ((x : Int) != (y : Int)) = false := by simp [hxy]
            have HX := hid hxy
            clear hxy
            go_wp2_with fail
            go_quiet (fail)
            go_wp2
            go_roundw
            case rel => exact ⟨k + 1, by omega, by go_num, H.out.1.drewN _, HTS.out HX.out⟩
            case measure => simp [intOf]; omega
          · have hb : ((x : Int) != (y : Int)) = true := by rw [bne_iff_ne]; omega
            have HX := hid hxy
            clear hxy
            go_wp2_with fail
            go_quiet (fail)
            go_wp2
            go_ret
            exact ⟨ret_bool (by rw [decide_eq_false (HNE.out HX.out)]), H.out.1.drewN _⟩
        · have : k = n := by omega
          subst this
          go_wp2
          go_ret
          refine ⟨ret_bool ?_, H.out.1⟩
          have e := H.out.2
          rw [List.take_of_length_le (by have := HN.out; omega), List.take_of_length_le (by have := HN2.out; omega)] at e
          rw [decide_eq_true e]
    · obtain ⟨rfl, a1, c1, rfl⟩ := row_nil0 r1 h0
      obtain ⟨rfl, a2, c2, rfl⟩ := row_nil0 r2 (by omega)
      clear r1 r2
      go_enter Try.func81, Try.ntmps81
      go_wp2
      refine wp_loop_rounds 1 ?_
      rw [rounds_succ]
      go_wp2
      go_ret
      exact ⟨rfl, Upd.refl _ _⟩
  · obtain ⟨a1, c1, rfl⟩ := row_nil r1
    obtain ⟨a2, c2, rfl⟩ := row_nil r2
    have hb : ((l1.length : Int) != (l2.length : Int)) = true := by rw [bne_iff_ne]; omega
    have hne : l1 ≠ l2 := fun e => hlen (by rw [e])
    have HNE := hid hne
    clear r1 r2 hlen hne
    go_enter Try.func81, Try.ntmps81
    go_wp2
    go_ret
    exact ⟨ret_bool (by rw [decide_eq_false HNE.out]), Upd.refl _ _⟩


theorem results56 : Try.f56.results = #[.cell 0 57] := by kernel_rfl
/-- the first map, k of its daemons laid -/
def firstUpto (k : Nat) : Sp.Mp := ⟨1, if 0 < k then ⟨true, 8, 0⟩ else ⟨false, 0, 0⟩, if 1 < k then ⟨true, 8, 1⟩ else ⟨false, 0, 0⟩, if 2 < k then ⟨true, 8, 2⟩ else ⟨false, 0, 0⟩, if 3 < k then ⟨true, 8, 3⟩ else ⟨false, 0, 0⟩, if 4 < k then ⟨true, 8, 0⟩ else ⟨false, 0, 0⟩⟩
theorem firstUpto_five : firstUpto 5 = Sp.first := rfl
def RFirstPost (w : World) (e : Ending) (w' : World) : Prop := e = .returned (mpV Sp.first) ∧ Upd Nix w w'
set_option maxRecDepth 10000 in
set_option maxHeartbeats 1000000 in
theorem rfirst_any (w : World) : Calls Try.prog 56 #[] w (RFirstPost w) := by
  go_enter Try.func56, Try.ntmps56
  go_upto_region 1 with (fail)
  have hb0 : (w.alloc (.cells zeroArr 57)).heap[w.heap.size]? = some (.cells zeroArr 57 (0, 0)) := alloc_new w _
  have hu0 : Upd Nix w (w.alloc (.cells zeroArr 57)) := (Upd.refl Nix w).alloc _
  have HB0 := hid hb0; have HU0 := hid hu0
  clear hb0 hu0
  change Code.wp _ _ _ _ (w.alloc (.cells zeroArr 57))
  generalize w.alloc (.cells zeroArr 57) = w1 at *
  have hs1 := blk_lt HB0.out
  go_upto_region 2 with ((with_reducible refine at_store 57 (.tmp 1) (.tmp 3) ?_); refine wpList_store_row rfl 57 (.tmp 1) (.tmp 3) rfl w1.heap.size rfl (mpArr (firstUpto 0)) rfl 57 zeroArr (alloc_new w1 _) rfl size57 rfl ?_)
  change Code.wp _ _ _ _ ((w1.alloc (.cells zeroArr 57)).setRow w1.heap.size (mpArr (firstUpto 0)))
  have HB2 := hid (setRow_new (mpArr (firstUpto 0)) (alloc_new w1 (.cells zeroArr 57)))
  have hu2 : Upd Nix w1 ((w1.alloc (.cells zeroArr 57)).setRow w1.heap.size (mpArr (firstUpto 0))) := ((Upd.refl _ _).alloc _).setRow (.inr (Nat.le_refl _)) _
  have HU2 := hid hu2
  clear hu2
  generalize (w1.alloc (.cells zeroArr 57)).setRow w1.heap.size (mpArr (firstUpto 0)) = w2 at *
  generalize hb : w1.heap.size = b at *
  have HBE := hid hb
  clear hb
  go_wp2_with fail
  go_loopw [2] (fun iv wr => ∃ k : Nat, k ≤ 5 ∧ iv = .int .i64 k ∧ Hid (wr.heap[b]? = some (.cells (mpArr (firstUpto k)) 57 (0, 0)) ∧ Upd (fun i => i = b) w2 wr)) (fun iv _ => 5 - (intOf iv).toNat)
  case atStart => exact ⟨0, by omega, rfl, HB2.out, Upd.refl _ _⟩
  case round =>
    obtain ⟨k, hk, rfl, HR⟩ := hrel
    have hfin : ∀ (h : w2.heap[b]? = some (.cells (mpArr (firstUpto 0)) 57 (0, 0))), True := fun _ => trivial
    clear hfin
    rcases (show k = 5 ∨ k = 0 ∨ k = 1 ∨ k = 2 ∨ k = 3 ∨ k = 4 by omega) with rfl | rfl | rfl | rfl | rfl | rfl
    · have HB5 := hid HR.out.1
      rw [firstUpto_five] at HB5
      have hb9 := HR.out.2.keep (HU2.out.keep HB0.out (fun f => f)) (fun e => by omega)
      have HB9 := hid hb9
      clear hb9
      go_wp2_with (first | ((with_reducible refine at_loadv 57 (.tmp 1) ?_); refine wpList_load_row rfl 57 (.tmp 1) rfl b rfl 57 (mpArr Sp.first) (0, 0) _ HB5.out Try.underlying57 rfl size57 ?_) | ((with_reducible refine at_store 57 (.tmp 0) (.tmp 15) ?_); refine wpList_store_row rfl 57 (.tmp 0) (.tmp 15) rfl w.heap.size rfl (mpArr Sp.first) rfl 57 zeroArr HB9.out rfl size57 rfl ?_))
      refine fin1 results56 w.heap.size rfl (setRow_new (mpArr Sp.first) HB9.out) Try.underlying57 rfl size57 rfl ⟨rfl, ?_⟩
      refine Upd.setRow ?_ (.inr (Nat.le_refl _)) _
      exact (HU0.out.trans HU2.out).trans' HR.out.2 (fun i hi e => by have := HBE.out; have := HU0.out.size; omega)
    · have cc := cell_blk HR.out.1
      have ff := free_blk HR.out.1
      have HB := hid HR.out.1; have HU := hid HR.out.2
      clear HR
      go_wp2_with fail
      go_roundw
      case rel => exact ⟨1, by omega, rfl, (blk_setCell (blk_setCell (blk_setCell HB.out))).trans rfl, ((HU.out.setCell (.inl rfl) _).setCell (.inl rfl) _).setCell (.inl rfl) _⟩
      case measure => simp [intOf]
    · have cc := cell_blk HR.out.1
      have ff := free_blk HR.out.1
      have HB := hid HR.out.1; have HU := hid HR.out.2
      clear HR
      go_wp2_with fail
      go_roundw
      case rel => exact ⟨2, by omega, rfl, (blk_setCell (blk_setCell (blk_setCell HB.out))).trans rfl, ((HU.out.setCell (.inl rfl) _).setCell (.inl rfl) _).setCell (.inl rfl) _⟩
      case measure => simp [intOf]
    · have cc := cell_blk HR.out.1
      have ff := free_blk HR.out.1
      have HB := hid HR.out.1; have HU := hid HR.out.2
      clear HR
      go_wp2_with fail
      go_roundw
      case rel => exact ⟨3, by omega, rfl, (blk_setCell (blk_setCell (blk_setCell HB.out))).trans rfl, ((HU.out.setCell (.inl rfl) _).setCell (.inl rfl) _).setCell (.inl rfl) _⟩
      case measure => simp [intOf]
    · have cc := cell_blk HR.out.1
      have ff := free_blk HR.out.1
      have HB := hid HR.out.1; have HU := hid HR.out.2
      clear HR
      go_wp2_with fail
      go_roundw
      case rel => exact ⟨4, by omega, rfl, (blk_setCell (blk_setCell (blk_setCell HB.out))).trans rfl, ((HU.out.setCell (.inl rfl) _).setCell (.inl rfl) _).setCell (.inl rfl) _⟩
      case measure => simp [intOf]
    · have cc := cell_blk HR.out.1
      have ff := free_blk HR.out.1
      have HB := hid HR.out.1; have HU := hid HR.out.2
      clear HR
      go_wp2_with fail
      go_roundw
      case rel => exact ⟨5, by omega, rfl, (blk_setCell (blk_setCell (blk_setCell HB.out))).trans rfl, ((HU.out.setCell (.inl rfl) _).setCell (.inl rfl) _).setCell (.inl rfl) _⟩
      case measure => simp [intOf]

theorem isMap_parts {m : Sp.Mp} (h : Sp.isMap m = true) : (∀ k, 0 ≤ (m.osd k).wt ∧ (m.osd k).wt ≤ 16 ∧ (m.osd k).host < 8) ∧ 1 ≤ m.ep ∧ m.ep ≤ 60 := by
  refine ⟨fun k => ?_, ?_⟩
  · have := Sp.osd_ok h k
    simp only [Sp.okOsd, Bool.and_eq_true, decide_eq_true_eq] at this
    omega
  · simp only [Sp.isMap, Bool.and_eq_true, decide_eq_true_eq] at h
    omega
theorem mp_osd (m : Sp.Mp) (o : Nat) (ho : o < 5) : (mpArr m)[1 + o * 3]? = some (.bool (m.osd o).up) ∧ (mpArr m)[1 + o * 3 + 1]? = some (.int .i64 (m.osd o).wt) ∧ (mpArr m)[1 + o * 3 + 2]? = some (.int .u8 (m.osd o).host) := by
  rcases (show o = 0 ∨ o = 1 ∨ o = 2 ∨ o = 3 ∨ o = 4 by omega) with rfl | rfl | rfl | rfl | rfl <;> exact ⟨rfl, rfl, rfl⟩
set_option maxRecDepth 10000 in
set_option maxHeartbeats 1000000 in
theorem ris_yes (m : Sp.Mp) (w : World) (h : Sp.isMap m = true) : Calls Try.prog 78 #[mpV m] w (KnownPost w) := by
  obtain ⟨hp, e1, e2⟩ := isMap_parts h
  have HP := hid hp
  have hb : (w.alloc (.cells (mpArr m) 57)).heap[w.heap.size]? = some (.cells (mpArr m) 57 (0, 0)) := alloc_new w _
  have hu : Upd Nix w (w.alloc (.cells (mpArr m) 57)) := (Upd.refl Nix w).alloc _
  have HB := hid hb; have HU := hid hu
  clear h hp hb hu
  go_enter Try.func78, Try.ntmps78
  go_upto_region 1 with (fail)
  change Code.wp _ _ _ _ (w.alloc (.cells (mpArr m) 57))
  generalize w.alloc (.cells (mpArr m) 57) = w1 at *
  have c0 : w1.cell? ⟨w.heap.size, 0, none⟩ = some (.int .u32 m.ep) := by rw [cell_blk HB.out]; rfl
  go_wp2_with fail
  go_loopw [3] (fun iv wr => ∃ k : Nat, k ≤ 5 ∧ iv = .int .i64 k ∧ Hid (Upd Nix w1 wr)) (fun iv _ => 5 - (intOf iv).toNat)
  case atStart => exact ⟨0, by omega, rfl, Upd.refl _ _⟩
  case round =>
    obtain ⟨k, hk, rfl, HR⟩ := hrel
    clear c0
    have hbr := HR.out.keep HB.out (fun f => f)
    by_cases hlt : k < 5
    · have hki : (k : Int) < 5 := by omega
      obtain ⟨p1, p2, p3⟩ := HP.out k
      obtain ⟨q1, q2, q3⟩ := mp_osd m k hlt
      have c1 : wr.cell? ⟨w.heap.size, 1 + k * 3, none⟩ = some (.bool (m.osd k).up) := by rw [cell_blk hbr]; exact q1
      have c2 : wr.cell? ⟨w.heap.size, 1 + k * 3 + 1, none⟩ = some (.int .i64 (m.osd k).wt) := by rw [cell_blk hbr]; exact q2
      have c3 : wr.cell? ⟨w.heap.size, 1 + k * 3 + 2, none⟩ = some (.int .u8 (m.osd k).host) := by rw [cell_blk hbr]; exact q3
      generalize m.osd k = o at *
      clear q1 q2 q3 hbr
      go_wp2_with fail
      go_roundw
      case rel => exact ⟨k + 1, by omega, by go_num, HR.out.alloc _⟩
      case measure => simp [intOf]; omega
    · obtain rfl : k = 5 := by omega
      have c0 : wr.cell? ⟨w.heap.size, 0, none⟩ = some (.int .u32 m.ep) := by rw [cell_blk hbr]; rfl
      clear hbr
      go_wp2_with fail
      go_ret
      exact ⟨rfl, HU.out.trans HR.out⟩
set_option maxRecDepth 10000 in
theorem risInc_any (x : Sp.Inc) (w : World) : Calls Try.prog 79 #[incV x] w (IsIncPost x w) := by
  go_enter Try.func79, Try.ntmps79
  go_wp2
  all_goals go_ret
  all_goals refine ⟨ret_bool ?_, (Upd.refl _ _).alloc _⟩
  all_goals unfold Sp.isInc
  all_goals simp only [beq_iff_eq, beq_eq_false_iff_ne, ne_eq] at *
  all_goals (simp [*]; try omega)
  all_goals (rw [Bool.eq_iff_iff]; simp)
theorem results53 : Try.f53.results = #[.cell 4 57, .tmp 5] := by kernel_rfl
def RNo (w : World) (e : Ending) (w' : World) : Prop := e = .returned (.tuple #[zeroV, .bool false]) ∧ Upd Nix w w'
def RYes (m : Sp.Mp) (w : World) (e : Ending) (w' : World) : Prop := e = .returned (.tuple #[mpV m, .bool true]) ∧ Upd Nix w w'
theorem rno_end {w w2 : World} {a : Act} (h4 : a.tmps.getD 4 undef = .pointer (some ⟨w.heap.size + 1 + 1, 0, none⟩)) (h5 : a.tmps.getD 5 undef = .bool false) (hd : a.defers = []) {m : Sp.Mp} {x : Sp.Inc} (hu : Upd Nix (three m x w) w2) :
    bodyPost Try.prog Try.f53 (RNo w) .ret a (w2.setRow (w.heap.size + 1 + 1) zeroArr) := by
  refine fin2 results53 (w.heap.size + 1 + 1) h4 (setRow_new zeroArr (hu.keep (three_2 m x w) (fun f => f))) Try.underlying57 rfl size57 hd ?_
  rw [h5]
  exact ⟨rfl, ((three_upd m x w).trans hu).setRow (.inr (by omega)) _⟩
set_option maxRecDepth 10000 in
set_option maxHeartbeats 1000000 in
theorem rapply_no (m : Sp.Mp) (x : Sp.Inc) (w : World) (h1 : Sp.isMap m = true) (h : Sp.okApply m x = false) : Calls Try.prog 53 #[mpV m, incV x] w (RNo w) := by
  have Z1 := hid zero_one
  have he60 := (isMap_parts h1).2.2
  have h3 : Sp.isInc x = true → m.ep = 60 := by intro h2; simpa [Sp.okApply, h1, h2] using h
  have H1 := hid h1; have H3 := hid h3
  clear h h1 h3
  go_enter Try.func53, Try.ntmps53
  go_wp2_with fail
  refine (ris_yes m _ H1.out).mono ?_
  rintro e w1 ⟨rfl, hu⟩
  have hu1 : Upd Nix (three m x w) w1 := hu
  have c0 := cell_blk (hu1.keep (three_0 m x w) (fun f => f))
  have c1 := cell_blk (hu1.keep (three_1 m x w) (fun f => f))
  have HU := hid hu1
  clear hu hu1
  go_wp2_with fail
  refine (risInc_any x _).mono ?_
  rintro e w2 ⟨rfl, hu⟩
  have hu2 : Upd Nix (three m x w) w2 := HU.out.trans hu
  have d0 := cell_blk (hu2.keep (three_0 m x w) (fun f => f))
  have HU2 := hid hu2
  clear hu hu2 c0 c1
  cases h2 : Sp.isInc x
  · clear h2
    go_wp2_with ((with_reducible refine at_store 57 (.tmp 4) (.tmp 19) ?_); refine wpList_store_row rfl 57 (.tmp 4) (.tmp 19) rfl (w.heap.size + 1 + 1) rfl zeroArr rfl 57 zeroArr (HU2.out.keep (three_2 m x w) (fun f => f)) rfl size57 Z1.out ?_)
    exact rno_end rfl rfl rfl HU2.out
  · have h60 := H3.out h2
    have h60' : 60 ≤ m.ep := by omega
    clear h2 h60
    go_wp2_with ((with_reducible refine at_store 57 (.tmp 4) (.tmp 19) ?_); refine wpList_store_row rfl 57 (.tmp 4) (.tmp 19) rfl (w.heap.size + 1 + 1) rfl zeroArr rfl 57 zeroArr (HU2.out.keep (three_2 m x w) (fun f => f)) rfl size57 Z1.out ?_)
    exact rno_end rfl rfl rfl HU2.out
theorem ryes_end {w w2 w3 : World} {a : Act} {m m' : Sp.Mp} {x : Sp.Inc} (h4 : a.tmps.getD 4 undef = .pointer (some ⟨w.heap.size + 1 + 1, 0, none⟩)) (h5 : a.tmps.getD 5 undef = .bool true) (hd : a.defers = [])
    (hu : Upd Nix (three m x w) w2) (hu3 : Upd (fun b => b = w.heap.size) w2 w3) : bodyPost Try.prog Try.f53 (RYes m' w) .ret a (w3.setRow (w.heap.size + 1 + 1) (mpArr m')) := by
  refine fin2 results53 (w.heap.size + 1 + 1) h4 (setRow_new (mpArr m') (hu3.keep (hu.keep (three_2 m x w) (fun f => f)) (by omega))) Try.underlying57 rfl size57 hd ?_
  rw [h5]
  exact ⟨rfl, (((three_upd m x w).trans hu).trans' hu3 (fun i hi e => by omega)).setRow (.inr (by omega)) _⟩
theorem put_up (m : Sp.Mp) (o : Nat) (ho : o < 5) (u : Bool) : (mpArr m).setIfInBounds (1 + o * 3) (.bool u) = mpArr (m.put o { m.osd o with up := u }) := by
  rcases (show o = 0 ∨ o = 1 ∨ o = 2 ∨ o = 3 ∨ o = 4 by omega) with rfl | rfl | rfl | rfl | rfl <;> rfl
theorem put_wt (m : Sp.Mp) (o : Nat) (ho : o < 5) (u : Int) : (mpArr m).setIfInBounds (1 + o * 3 + 1) (.int .i64 u) = mpArr (m.put o { m.osd o with wt := u }) := by
  rcases (show o = 0 ∨ o = 1 ∨ o = 2 ∨ o = 3 ∨ o = 4 by omega) with rfl | rfl | rfl | rfl | rfl <;> rfl
theorem osd_ep (m : Sp.Mp) (o : Nat) (e : Int) : ({ m with ep := e } : Sp.Mp).osd o = m.osd o := by unfold Sp.Mp.osd; split <;> rfl
theorem put_same (m : Sp.Mp) (o : Nat) (ho : o < 5) : m.put o (m.osd o) = m := by
  rcases (show o = 0 ∨ o = 1 ∨ o = 2 ∨ o = 3 ∨ o = 4 by omega) with rfl | rfl | rfl | rfl | rfl <;> rfl

set_option maxRecDepth 10000 in
set_option maxHeartbeats 1000000 in
theorem rapply_1 (m : Sp.Mp) (o : Nat) (n : Int) (w : World) (h1 : Sp.isMap m = true) (h2 : Sp.isInc ⟨1, o, n⟩ = true) (h3 : m.ep ≤ 59) (ho : o < 5) :
    Calls Try.prog 53 #[mpV m, incV ⟨1, o, n⟩] w (RYes (Sp.apply m ⟨1, o, n⟩) w) := by
  have he1 := (isMap_parts h1).2.1
  have hoi : (o : Int) < 5 := by omega
  have H1 := hid h1; have H2 := hid h2
  clear h1 h2
  go_enter Try.func53, Try.ntmps53
  go_wp2_with fail
  refine (ris_yes m _ H1.out).mono ?_
  rintro e w1 ⟨rfl, hu⟩
  have hu1 : Upd Nix (three m ⟨1, o, n⟩ w) w1 := hu
  have c0 := cell_blk (hu1.keep (three_0 m ⟨1, o, n⟩ w) (fun f => f))
  have c1 := cell_blk (hu1.keep (three_1 m ⟨1, o, n⟩ w) (fun f => f))
  have HU := hid hu1
  clear hu hu1
  go_wp2_with fail
  refine (risInc_any ⟨1, o, n⟩ _).mono ?_
  rintro e w2 ⟨rfl, hu⟩
  rw [H2.out]
  have hu2 : Upd Nix (three m ⟨1, o, n⟩ w) w2 := HU.out.trans hu
  have d0 := cell_blk (hu2.keep (three_0 m ⟨1, o, n⟩ w) (fun f => f))
  have f0 := free_blk (hu2.keep (three_0 m ⟨1, o, n⟩ w) (fun f => f))
  have H0 := hid (hu2.keep (three_0 m ⟨1, o, n⟩ w) (fun f => f))
  have HX := hid (hu2.keep (three_1 m ⟨1, o, n⟩ w) (fun f => f))
  have HU2 := hid hu2
  clear hu hu2 c0 c1
  go_upto_region 4 with (fail)
  change Code.wp _ _ _ _ (w2.setCell ⟨w.heap.size, 0, none⟩ (.int .u32 (m.ep + 1)))
  have hb3 : (w2.setCell ⟨w.heap.size, 0, none⟩ (.int .u32 (m.ep + 1))).heap[w.heap.size]? = some (.cells (mpArr { m with ep := m.ep + 1 }) 57 (0, 0)) := blk_setCell H0.out
  have hu3 := upd1 w2 w.heap.size 0 (.int .u32 (m.ep + 1))
  have HX3 := hid (hu3.keep HX.out (by omega))
  have HB3 := hid hb3; have HU3 := hid hu3
  clear hb3 hu3 d0 f0 H0 HX
  generalize w2.setCell ⟨w.heap.size, 0, none⟩ (.int .u32 (m.ep + 1)) = w3 at *
  obtain ⟨m1, hm1⟩ : ∃ m1 : Sp.Mp, m1 = { m with ep := m.ep + 1 } := ⟨_, rfl⟩
  rw [← hm1] at HB3
  have x0 : w3.cell? ⟨w.heap.size + 1, 0, none⟩ = some (.int .u8 1) := by rw [cell_blk HX3.out]; rfl
  have x1 : w3.cell? ⟨w.heap.size + 1, 1, none⟩ = some (.int .u8 (o : Int)) := by rw [cell_blk HX3.out]; rfl
  have x2 : w3.cell? ⟨w.heap.size + 1, 2, none⟩ = some (.int .i64 n) := by rw [cell_blk HX3.out]; rfl
  obtain ⟨q1, q2, q3⟩ := mp_osd m1 o ho
  have y1 : w3.cell? ⟨w.heap.size, 1 + o * 3, none⟩ = some (.bool (m1.osd o).up) := by rw [cell_blk HB3.out]; exact q1
  have y2 : w3.cell? ⟨w.heap.size, 1 + o * 3 + 1, none⟩ = some (.int .i64 (m1.osd o).wt) := by rw [cell_blk HB3.out]; exact q2
  have f1 := free_blk HB3.out (1 + o * 3)
  have f2 := free_blk HB3.out (1 + o * 3 + 1)
  have HM1 := hid hm1
  clear q1 q2 q3 hm1
  go_upto_region 10 with (fail)
  change Code.wp _ _ _ _ (w3.setCell ⟨w.heap.size, 1 + o * 3, none⟩ (.bool true))
  have hb4 : (w3.setCell ⟨w.heap.size, 1 + o * 3, none⟩ (.bool true)).heap[w.heap.size]? = some (.cells ((mpArr m1).setIfInBounds (1 + o * 3) (.bool true)) 57 (0, 0)) := blk_setCell HB3.out
  rw [put_up m1 o ho, HM1.out, osd_ep] at hb4
  have HB4 : Hid ((w3.setCell ⟨w.heap.size, 1 + o * 3, none⟩ (.bool true)).heap[w.heap.size]? = some (.cells (mpArr (Sp.apply m ⟨1, o, n⟩)) 57 (0, 0))) := hid hb4
  have HU4 := hid (HU3.out.trans (upd1 w3 w.heap.size (1 + o * 3) (.bool true)))
  clear hb4 x0 x1 x2 y1 y2 f1 f2
  generalize w3.setCell ⟨w.heap.size, 1 + o * 3, none⟩ (.bool true) = w4 at *
  generalize hma : Sp.apply m ⟨1, o, n⟩ = ma at *
  go_wp2_with (first | ((with_reducible refine at_loadv 57 (.tmp 2) ?_); refine wpList_load_row rfl 57 (.tmp 2) rfl w.heap.size rfl 57 (mpArr ma) (0, 0) _ HB4.out Try.underlying57 rfl size57 ?_) | ((with_reducible refine at_store 57 (.tmp 4) (.tmp 46) ?_); refine wpList_store_row rfl 57 (.tmp 4) (.tmp 46) rfl (w.heap.size + 1 + 1) rfl (mpArr ma) rfl 57 zeroArr (HU4.out.keep (HU2.out.keep (three_2 m ⟨1, o, n⟩ w) (fun f => f)) (by omega)) rfl size57 (mp_one _) ?_))
  exact ryes_end rfl rfl rfl HU2.out HU4.out

set_option maxRecDepth 10000 in
set_option maxHeartbeats 1000000 in
theorem rapply_2 (m : Sp.Mp) (o : Nat) (n : Int) (w : World) (h1 : Sp.isMap m = true) (h2 : Sp.isInc ⟨2, o, n⟩ = true) (h3 : m.ep ≤ 59) (ho : o < 5) :
    Calls Try.prog 53 #[mpV m, incV ⟨2, o, n⟩] w (RYes (Sp.apply m ⟨2, o, n⟩) w) := by
  have he1 := (isMap_parts h1).2.1
  have hoi : (o : Int) < 5 := by omega
  have H1 := hid h1; have H2 := hid h2
  clear h1 h2
  go_enter Try.func53, Try.ntmps53
  go_wp2_with fail
  refine (ris_yes m _ H1.out).mono ?_
  rintro e w1 ⟨rfl, hu⟩
  have hu1 : Upd Nix (three m ⟨2, o, n⟩ w) w1 := hu
  have c0 := cell_blk (hu1.keep (three_0 m ⟨2, o, n⟩ w) (fun f => f))
  have c1 := cell_blk (hu1.keep (three_1 m ⟨2, o, n⟩ w) (fun f => f))
  have HU := hid hu1
  clear hu hu1
  go_wp2_with fail
  refine (risInc_any ⟨2, o, n⟩ _).mono ?_
  rintro e w2 ⟨rfl, hu⟩
  rw [H2.out]
  have hu2 : Upd Nix (three m ⟨2, o, n⟩ w) w2 := HU.out.trans hu
  have d0 := cell_blk (hu2.keep (three_0 m ⟨2, o, n⟩ w) (fun f => f))
  have f0 := free_blk (hu2.keep (three_0 m ⟨2, o, n⟩ w) (fun f => f))
  have H0 := hid (hu2.keep (three_0 m ⟨2, o, n⟩ w) (fun f => f))
  have HX := hid (hu2.keep (three_1 m ⟨2, o, n⟩ w) (fun f => f))
  have HU2 := hid hu2
  clear hu hu2 c0 c1
  go_upto_region 4 with (fail)
  change Code.wp _ _ _ _ (w2.setCell ⟨w.heap.size, 0, none⟩ (.int .u32 (m.ep + 1)))
  have hb3 : (w2.setCell ⟨w.heap.size, 0, none⟩ (.int .u32 (m.ep + 1))).heap[w.heap.size]? = some (.cells (mpArr { m with ep := m.ep + 1 }) 57 (0, 0)) := blk_setCell H0.out
  have hu3 := upd1 w2 w.heap.size 0 (.int .u32 (m.ep + 1))
  have HX3 := hid (hu3.keep HX.out (by omega))
  have HB3 := hid hb3; have HU3 := hid hu3
  clear hb3 hu3 d0 f0 H0 HX
  generalize w2.setCell ⟨w.heap.size, 0, none⟩ (.int .u32 (m.ep + 1)) = w3 at *
  obtain ⟨m1, hm1⟩ : ∃ m1 : Sp.Mp, m1 = { m with ep := m.ep + 1 } := ⟨_, rfl⟩
  rw [← hm1] at HB3
  have x0 : w3.cell? ⟨w.heap.size + 1, 0, none⟩ = some (.int .u8 2) := by rw [cell_blk HX3.out]; rfl
  have x1 : w3.cell? ⟨w.heap.size + 1, 1, none⟩ = some (.int .u8 (o : Int)) := by rw [cell_blk HX3.out]; rfl
  have x2 : w3.cell? ⟨w.heap.size + 1, 2, none⟩ = some (.int .i64 n) := by rw [cell_blk HX3.out]; rfl
  obtain ⟨q1, q2, q3⟩ := mp_osd m1 o ho
  have y1 : w3.cell? ⟨w.heap.size, 1 + o * 3, none⟩ = some (.bool (m1.osd o).up) := by rw [cell_blk HB3.out]; exact q1
  have y2 : w3.cell? ⟨w.heap.size, 1 + o * 3 + 1, none⟩ = some (.int .i64 (m1.osd o).wt) := by rw [cell_blk HB3.out]; exact q2
  have f1 := free_blk HB3.out (1 + o * 3)
  have f2 := free_blk HB3.out (1 + o * 3 + 1)
  have HM1 := hid hm1
  clear q1 q2 q3 hm1
  go_upto_region 10 with (fail)
  change Code.wp _ _ _ _ (w3.setCell ⟨w.heap.size, 1 + o * 3, none⟩ (.bool false))
  have hb4 : (w3.setCell ⟨w.heap.size, 1 + o * 3, none⟩ (.bool false)).heap[w.heap.size]? = some (.cells ((mpArr m1).setIfInBounds (1 + o * 3) (.bool false)) 57 (0, 0)) := blk_setCell HB3.out
  rw [put_up m1 o ho, HM1.out, osd_ep] at hb4
  have HB4 : Hid ((w3.setCell ⟨w.heap.size, 1 + o * 3, none⟩ (.bool false)).heap[w.heap.size]? = some (.cells (mpArr (Sp.apply m ⟨2, o, n⟩)) 57 (0, 0))) := hid hb4
  have HU4 := hid (HU3.out.trans (upd1 w3 w.heap.size (1 + o * 3) (.bool false)))
  clear hb4 x0 x1 x2 y1 y2 f1 f2
  generalize w3.setCell ⟨w.heap.size, 1 + o * 3, none⟩ (.bool false) = w4 at *
  generalize hma : Sp.apply m ⟨2, o, n⟩ = ma at *
  go_wp2_with (first | ((with_reducible refine at_loadv 57 (.tmp 2) ?_); refine wpList_load_row rfl 57 (.tmp 2) rfl w.heap.size rfl 57 (mpArr ma) (0, 0) _ HB4.out Try.underlying57 rfl size57 ?_) | ((with_reducible refine at_store 57 (.tmp 4) (.tmp 46) ?_); refine wpList_store_row rfl 57 (.tmp 4) (.tmp 46) rfl (w.heap.size + 1 + 1) rfl (mpArr ma) rfl 57 zeroArr (HU4.out.keep (HU2.out.keep (three_2 m ⟨2, o, n⟩ w) (fun f => f)) (by omega)) rfl size57 (mp_one _) ?_))
  exact ryes_end rfl rfl rfl HU2.out HU4.out

set_option maxRecDepth 10000 in
set_option maxHeartbeats 1000000 in
theorem rapply_3 (m : Sp.Mp) (o : Nat) (n : Int) (w : World) (h1 : Sp.isMap m = true) (h2 : Sp.isInc ⟨3, o, n⟩ = true) (h3 : m.ep ≤ 59) (ho : o < 5) :
    Calls Try.prog 53 #[mpV m, incV ⟨3, o, n⟩] w (RYes (Sp.apply m ⟨3, o, n⟩) w) := by
  have he1 := (isMap_parts h1).2.1
  have hoi : (o : Int) < 5 := by omega
  have H1 := hid h1; have H2 := hid h2
  clear h1 h2
  go_enter Try.func53, Try.ntmps53
  go_wp2_with fail
  refine (ris_yes m _ H1.out).mono ?_
  rintro e w1 ⟨rfl, hu⟩
  have hu1 : Upd Nix (three m ⟨3, o, n⟩ w) w1 := hu
  have c0 := cell_blk (hu1.keep (three_0 m ⟨3, o, n⟩ w) (fun f => f))
  have c1 := cell_blk (hu1.keep (three_1 m ⟨3, o, n⟩ w) (fun f => f))
  have HU := hid hu1
  clear hu hu1
  go_wp2_with fail
  refine (risInc_any ⟨3, o, n⟩ _).mono ?_
  rintro e w2 ⟨rfl, hu⟩
  rw [H2.out]
  have hu2 : Upd Nix (three m ⟨3, o, n⟩ w) w2 := HU.out.trans hu
  have d0 := cell_blk (hu2.keep (three_0 m ⟨3, o, n⟩ w) (fun f => f))
  have f0 := free_blk (hu2.keep (three_0 m ⟨3, o, n⟩ w) (fun f => f))
  have H0 := hid (hu2.keep (three_0 m ⟨3, o, n⟩ w) (fun f => f))
  have HX := hid (hu2.keep (three_1 m ⟨3, o, n⟩ w) (fun f => f))
  have HU2 := hid hu2
  clear hu hu2 c0 c1
  go_upto_region 4 with (fail)
  change Code.wp _ _ _ _ (w2.setCell ⟨w.heap.size, 0, none⟩ (.int .u32 (m.ep + 1)))
  have hb3 : (w2.setCell ⟨w.heap.size, 0, none⟩ (.int .u32 (m.ep + 1))).heap[w.heap.size]? = some (.cells (mpArr { m with ep := m.ep + 1 }) 57 (0, 0)) := blk_setCell H0.out
  have hu3 := upd1 w2 w.heap.size 0 (.int .u32 (m.ep + 1))
  have HX3 := hid (hu3.keep HX.out (by omega))
  have HB3 := hid hb3; have HU3 := hid hu3
  clear hb3 hu3 d0 f0 H0 HX
  generalize w2.setCell ⟨w.heap.size, 0, none⟩ (.int .u32 (m.ep + 1)) = w3 at *
  obtain ⟨m1, hm1⟩ : ∃ m1 : Sp.Mp, m1 = { m with ep := m.ep + 1 } := ⟨_, rfl⟩
  rw [← hm1] at HB3
  have x0 : w3.cell? ⟨w.heap.size + 1, 0, none⟩ = some (.int .u8 3) := by rw [cell_blk HX3.out]; rfl
  have x1 : w3.cell? ⟨w.heap.size + 1, 1, none⟩ = some (.int .u8 (o : Int)) := by rw [cell_blk HX3.out]; rfl
  have x2 : w3.cell? ⟨w.heap.size + 1, 2, none⟩ = some (.int .i64 n) := by rw [cell_blk HX3.out]; rfl
  obtain ⟨q1, q2, q3⟩ := mp_osd m1 o ho
  have y1 : w3.cell? ⟨w.heap.size, 1 + o * 3, none⟩ = some (.bool (m1.osd o).up) := by rw [cell_blk HB3.out]; exact q1
  have y2 : w3.cell? ⟨w.heap.size, 1 + o * 3 + 1, none⟩ = some (.int .i64 (m1.osd o).wt) := by rw [cell_blk HB3.out]; exact q2
  have f1 := free_blk HB3.out (1 + o * 3)
  have f2 := free_blk HB3.out (1 + o * 3 + 1)
  have HM1 := hid hm1
  clear q1 q2 q3 hm1
  go_upto_region 10 with (fail)
  change Code.wp _ _ _ _ (w3.setCell ⟨w.heap.size, 1 + o * 3 + 1, none⟩ (.int .i64 n))
  have hb4 : (w3.setCell ⟨w.heap.size, 1 + o * 3 + 1, none⟩ (.int .i64 n)).heap[w.heap.size]? = some (.cells ((mpArr m1).setIfInBounds (1 + o * 3 + 1) (.int .i64 n)) 57 (0, 0)) := blk_setCell HB3.out
  rw [put_wt m1 o ho, HM1.out, osd_ep] at hb4
  have HB4 : Hid ((w3.setCell ⟨w.heap.size, 1 + o * 3 + 1, none⟩ (.int .i64 n)).heap[w.heap.size]? = some (.cells (mpArr (Sp.apply m ⟨3, o, n⟩)) 57 (0, 0))) := hid hb4
  have HU4 := hid (HU3.out.trans (upd1 w3 w.heap.size (1 + o * 3 + 1) (.int .i64 n)))
  clear hb4 x0 x1 x2 y1 y2 f1 f2
  generalize w3.setCell ⟨w.heap.size, 1 + o * 3 + 1, none⟩ (.int .i64 n) = w4 at *
  generalize hma : Sp.apply m ⟨3, o, n⟩ = ma at *
  go_wp2_with (first | ((with_reducible refine at_loadv 57 (.tmp 2) ?_); refine wpList_load_row rfl 57 (.tmp 2) rfl w.heap.size rfl 57 (mpArr ma) (0, 0) _ HB4.out Try.underlying57 rfl size57 ?_) | ((with_reducible refine at_store 57 (.tmp 4) (.tmp 46) ?_); refine wpList_store_row rfl 57 (.tmp 4) (.tmp 46) rfl (w.heap.size + 1 + 1) rfl (mpArr ma) rfl 57 zeroArr (HU4.out.keep (HU2.out.keep (three_2 m ⟨3, o, n⟩ w) (fun f => f)) (by omega)) rfl size57 (mp_one _) ?_))
  exact ryes_end rfl rfl rfl HU2.out HU4.out

set_option maxRecDepth 10000 in
set_option maxHeartbeats 1000000 in
theorem rapply_4 (m : Sp.Mp) (o : Nat) (n : Int) (w : World) (h1 : Sp.isMap m = true) (h2 : Sp.isInc ⟨4, o, n⟩ = true) (h3 : m.ep ≤ 59) (ho : o < 5) :
    Calls Try.prog 53 #[mpV m, incV ⟨4, o, n⟩] w (RYes (Sp.apply m ⟨4, o, n⟩) w) := by
  have he1 := (isMap_parts h1).2.1
  have hoi : (o : Int) < 5 := by omega
  have H1 := hid h1; have H2 := hid h2
  clear h1 h2
  go_enter Try.func53, Try.ntmps53
  go_wp2_with fail
  refine (ris_yes m _ H1.out).mono ?_
  rintro e w1 ⟨rfl, hu⟩
  have hu1 : Upd Nix (three m ⟨4, o, n⟩ w) w1 := hu
  have c0 := cell_blk (hu1.keep (three_0 m ⟨4, o, n⟩ w) (fun f => f))
  have c1 := cell_blk (hu1.keep (three_1 m ⟨4, o, n⟩ w) (fun f => f))
  have HU := hid hu1
  clear hu hu1
  go_wp2_with fail
  refine (risInc_any ⟨4, o, n⟩ _).mono ?_
  rintro e w2 ⟨rfl, hu⟩
  rw [H2.out]
  have hu2 : Upd Nix (three m ⟨4, o, n⟩ w) w2 := HU.out.trans hu
  have d0 := cell_blk (hu2.keep (three_0 m ⟨4, o, n⟩ w) (fun f => f))
  have f0 := free_blk (hu2.keep (three_0 m ⟨4, o, n⟩ w) (fun f => f))
  have H0 := hid (hu2.keep (three_0 m ⟨4, o, n⟩ w) (fun f => f))
  have HX := hid (hu2.keep (three_1 m ⟨4, o, n⟩ w) (fun f => f))
  have HU2 := hid hu2
  clear hu hu2 c0 c1
  go_upto_region 4 with (fail)
  change Code.wp _ _ _ _ (w2.setCell ⟨w.heap.size, 0, none⟩ (.int .u32 (m.ep + 1)))
  have hb3 : (w2.setCell ⟨w.heap.size, 0, none⟩ (.int .u32 (m.ep + 1))).heap[w.heap.size]? = some (.cells (mpArr { m with ep := m.ep + 1 }) 57 (0, 0)) := blk_setCell H0.out
  have hu3 := upd1 w2 w.heap.size 0 (.int .u32 (m.ep + 1))
  have HX3 := hid (hu3.keep HX.out (by omega))
  have HB3 := hid hb3; have HU3 := hid hu3
  clear hb3 hu3 d0 f0 H0 HX
  generalize w2.setCell ⟨w.heap.size, 0, none⟩ (.int .u32 (m.ep + 1)) = w3 at *
  obtain ⟨m1, hm1⟩ : ∃ m1 : Sp.Mp, m1 = { m with ep := m.ep + 1 } := ⟨_, rfl⟩
  rw [← hm1] at HB3
  have x0 : w3.cell? ⟨w.heap.size + 1, 0, none⟩ = some (.int .u8 4) := by rw [cell_blk HX3.out]; rfl
  have x1 : w3.cell? ⟨w.heap.size + 1, 1, none⟩ = some (.int .u8 (o : Int)) := by rw [cell_blk HX3.out]; rfl
  have x2 : w3.cell? ⟨w.heap.size + 1, 2, none⟩ = some (.int .i64 n) := by rw [cell_blk HX3.out]; rfl
  obtain ⟨q1, q2, q3⟩ := mp_osd m1 o ho
  have y1 : w3.cell? ⟨w.heap.size, 1 + o * 3, none⟩ = some (.bool (m1.osd o).up) := by rw [cell_blk HB3.out]; exact q1
  have y2 : w3.cell? ⟨w.heap.size, 1 + o * 3 + 1, none⟩ = some (.int .i64 (m1.osd o).wt) := by rw [cell_blk HB3.out]; exact q2
  have f1 := free_blk HB3.out (1 + o * 3)
  have f2 := free_blk HB3.out (1 + o * 3 + 1)
  have HM1 := hid hm1
  clear q1 q2 q3 hm1
  have HB4 : Hid (w3.heap[w.heap.size]? = some (.cells (mpArr (Sp.apply m ⟨4, o, n⟩)) 57 (0, 0))) := hid (by
    have e : Sp.apply m ⟨4, o, n⟩ = m1 := by
      have h := put_same m1 o ho
      rw [HM1.out, osd_ep] at h
      rw [HM1.out]; exact h
    rw [e]; exact HB3.out)
  have HU4 := hid HU3.out
  clear y1 y2 f1 f2
  generalize hma : Sp.apply m ⟨4, o, n⟩ = ma at *
  go_wp2_with (first | ((with_reducible refine at_loadv 57 (.tmp 2) ?_); refine wpList_load_row rfl 57 (.tmp 2) rfl w.heap.size rfl 57 (mpArr ma) (0, 0) _ HB4.out Try.underlying57 rfl size57 ?_) | ((with_reducible refine at_store 57 (.tmp 4) (.tmp 46) ?_); refine wpList_store_row rfl 57 (.tmp 4) (.tmp 46) rfl (w.heap.size + 1 + 1) rfl (mpArr ma) rfl 57 zeroArr (HU4.out.keep (HU2.out.keep (three_2 m ⟨4, o, n⟩ w) (fun f => f)) (by omega)) rfl size57 (mp_one _) ?_))
  exact ryes_end rfl rfl rfl HU2.out HU4.out

theorem rapply_yes (m : Sp.Mp) (x : Sp.Inc) (w : World) (h : Sp.okApply m x = true) (hx : IncOk x) : Calls Try.prog 53 #[mpV m, incV x] w (RYes (Sp.apply m x) w) := by
  obtain ⟨k, o, n⟩ := x
  obtain ⟨k0, k1, o0, o1⟩ := hx
  simp only at k0 k1 o0 o1
  have hk : Sp.isMap m = true ∧ Sp.isInc ⟨k, o, n⟩ = true ∧ m.ep ≠ 60 := by
    simp only [Sp.okApply, Bool.and_eq_true, decide_eq_true_eq] at h; exact ⟨h.1.1, h.1.2, h.2⟩
  obtain ⟨h1, h2, h3⟩ := hk
  have he := (isMap_parts h1).2.2
  have hc : (k = 1 ∨ k = 2 ∨ k = 3) ∧ o < 5 ∨ k = 4 ∧ o = 0 := by
    have := h2
    simp only [Sp.isInc] at this
    split at this
    · simp only [Bool.and_eq_true, decide_eq_true_eq] at this; omega
    · split at this
      · simp only [Bool.and_eq_true, decide_eq_true_eq] at this; omega
      · simp only [Bool.and_eq_true, decide_eq_true_eq] at this; omega
  obtain ⟨q, rfl⟩ : ∃ q : Nat, o = (q : Int) := ⟨o.toNat, by omega⟩
  rcases hc with ⟨hk, ho⟩ | ⟨rfl, ho⟩
  · rcases hk with rfl | rfl | rfl
    · exact rapply_1 m q n w h1 h2 (by omega) (by omega)
    · exact rapply_2 m q n w h1 h2 (by omega) (by omega)
    · exact rapply_3 m q n w h1 h2 (by omega) (by omega)
  · exact rapply_4 m q n w h1 h2 (by omega) (by omega)
def applyRes' (m : Sp.Mp) (x : Sp.Inc) : Sp.Mp := if Sp.okApply m x = true then Sp.apply m x else zeroMp
def RApply (m : Sp.Mp) (x : Sp.Inc) (w : World) (e : Ending) (w' : World) : Prop := e = .returned (.tuple #[mpV (applyRes' m x), .bool (Sp.okApply m x)]) ∧ Upd Nix w w'
theorem rapply_any (m : Sp.Mp) (x : Sp.Inc) (w : World) (h1 : Sp.isMap m = true) (hx : IncOk x) : Calls Try.prog 53 #[mpV m, incV x] w (RApply m x w) := by
  unfold RApply applyRes'
  cases h : Sp.okApply m x
  · refine (rapply_no m x w h1 h).mono ?_
    rintro e w' ⟨rfl, hu⟩
    exact ⟨rfl, hu⟩
  · refine (rapply_yes m x w h hx).mono ?_
    rintro e w' ⟨rfl, hu⟩
    exact ⟨rfl, hu⟩
end Go.Proofs.Ytmkpljbkmkbnjaa
