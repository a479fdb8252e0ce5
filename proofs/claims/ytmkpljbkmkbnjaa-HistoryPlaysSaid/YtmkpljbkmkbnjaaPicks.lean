/-
  THE WALKS of place.Pick and place.Acting.
-/
import Derived.Test.YtmkpljbkmkbnjaaPick
import Derived.Deep.RegionWith
import Derived.Deep.DeepCutAuto
namespace Go.Proofs.Ytmkpljbkmkbnjaa
open Go.RowKit
set_option linter.unusedVariables false
set_option linter.unusedSimpArgs false

abbrev mpArr (m : Sp.Mp) : Array Value := #[.int .u32 m.ep, .bool m.o0.up, .int .i64 m.o0.wt, .int .u8 m.o0.host, .bool m.o1.up, .int .i64 m.o1.wt, .int .u8 m.o1.host, .bool m.o2.up, .int .i64 m.o2.wt, .int .u8 m.o2.host, .bool m.o3.up, .int .i64 m.o3.wt, .int .u8 m.o3.host, .bool m.o4.up, .int .i64 m.o4.wt, .int .u8 m.o4.host]
/-- the cells of a map in memory -/
def MpCells (w : World) (b : Nat) (m : Sp.Mp) : Prop :=
  w.cell? ⟨b, 0, none⟩ = some (.int .u32 m.ep) ∧
  w.cell? ⟨b, 1, none⟩ = some (.bool m.o0.up) ∧ w.cell? ⟨b, 2, none⟩ = some (.int .i64 m.o0.wt) ∧ w.cell? ⟨b, 3, none⟩ = some (.int .u8 m.o0.host) ∧
  w.cell? ⟨b, 4, none⟩ = some (.bool m.o1.up) ∧ w.cell? ⟨b, 5, none⟩ = some (.int .i64 m.o1.wt) ∧ w.cell? ⟨b, 6, none⟩ = some (.int .u8 m.o1.host) ∧
  w.cell? ⟨b, 7, none⟩ = some (.bool m.o2.up) ∧ w.cell? ⟨b, 8, none⟩ = some (.int .i64 m.o2.wt) ∧ w.cell? ⟨b, 9, none⟩ = some (.int .u8 m.o2.host) ∧
  w.cell? ⟨b, 10, none⟩ = some (.bool m.o3.up) ∧ w.cell? ⟨b, 11, none⟩ = some (.int .i64 m.o3.wt) ∧ w.cell? ⟨b, 12, none⟩ = some (.int .u8 m.o3.host) ∧
  w.cell? ⟨b, 13, none⟩ = some (.bool m.o4.up) ∧ w.cell? ⟨b, 14, none⟩ = some (.int .i64 m.o4.wt) ∧ w.cell? ⟨b, 15, none⟩ = some (.int .u8 m.o4.host)
theorem mp_cells {w : World} {b : Nat} {m : Sp.Mp} {f : Nat × Nat} {t : TypeId} (hb : w.heap[b]? = some (.cells (mpArr m) t f)) : MpCells w b m := by
  refine ⟨?_, ?_, ?_, ?_, ?_, ?_, ?_, ?_, ?_, ?_, ?_, ?_, ?_, ?_, ?_, ?_⟩ <;> (rw [cell_blk hb]; rfl)
theorem inUpto_lt (m : Sp.Mp) : ∀ k, ∀ o ∈ Sp.inUpto m k, o < k := by
  intro k
  induction k with
  | zero => intro o ho; simp [Sp.inUpto] at ho
  | succ k ih =>
    intro o ho
    simp only [Sp.inUpto] at ho
    split at ho
    · rw [List.mem_append] at ho
      rcases ho with ho | ho
      · have := ih o ho; omega
      · simp at ho; omega
    · have := ih o ho; omega
theorem pickUpto_len (m : Sp.Mp) (g : Nat) : ∀ r, (Sp.pickUpto m g r).length ≤ r := by
  intro r
  induction r with
  | zero => simp [Sp.pickUpto]
  | succ r ih =>
    have := pickFrom_len m g r (Sp.pickUpto m g r) 20 0
    simp only [Sp.pickUpto]; omega
def PicksPost (m : Sp.Mp) (g : Nat) (w : World) (e : Ending) (w' : World) : Prop :=
  ∃ v, e = .returned v ∧ RowN w' w.heap.size v (Sp.pick m g) ∧ Upd Nix w w' ∧ (Sp.pick m g).length ≤ 3 ∧ ∀ o ∈ Sp.pick m g, o < 5
theorem pick_no {m : Sp.Mp} {g : Nat} (h : ¬ (Sp.isMap m = true ∧ g < 4)) : Sp.pick m g = [] := by unfold Sp.pick; rw [if_neg h]
theorem pick_yes {m : Sp.Mp} {g : Nat} (h1 : Sp.isMap m = true) (h2 : g < 4) (h3 : 0 < (Sp.inL m).length) : Sp.pick m g = Sp.pickUpto m g 3 := by
  unfold Sp.pick; rw [if_pos ⟨h1, h2⟩, if_neg (by omega)]
theorem pick_none {m : Sp.Mp} {g : Nat} (h1 : Sp.isMap m = true) (h2 : g < 4) (h3 : ¬ 0 < (Sp.inL m).length) : Sp.pick m g = [] := by
  unfold Sp.pick; rw [if_pos ⟨h1, h2⟩, if_pos (by omega)]
theorem picksPost_nil {m : Sp.Mp} {g : Nat} {w w' : World} (h : Sp.pick m g = []) (hu : Upd Nix w w') : PicksPost m g w (.returned (.slice none 0 0)) w' :=
  ⟨_, rfl, by rw [h]; exact World.ownsRow_nil _ _ _ _, hu, by rw [h]; simp, by rw [h]; simp⟩

set_option maxRecDepth 10000 in
set_option maxHeartbeats 1000000 in
theorem picks_no (m : Sp.Mp) (g : Nat) (hg : g < 256) (w : World) (h : ¬ (Sp.isMap m = true ∧ g < 4)) : Calls Try.prog 48 #[mpV m, .int .u8 (g : Int)] w (PicksPost m g w) := by
  have HP := hid (pick_no h)
  by_cases h1 : Sp.isMap m = true
  · have h2 : ¬ g < 4 := fun e => h ⟨h1, e⟩
    have h2' : (4 : Int) ≤ g := by omega
    have H1 := hid h1
    clear h h1 h2
    go_enter Try.func48, Try.ntmps48
    go_wp2_with fail
    refine (is_any m _).mono ?_
    rintro e w' ⟨rfl, hu⟩
    rw [H1.out]
    have HU := hid hu
    clear hu
    go_wp2_with fail
    go_ret
    exact picksPost_nil HP.out (((Upd.refl _ _).alloc _).trans HU.out)
  · have h1' : Sp.isMap m = false := by simpa using h1
    have H1 := hid h1'
    clear h h1 h1'
    go_enter Try.func48, Try.ntmps48
    go_wp2_with fail
    refine (is_any m _).mono ?_
    rintro e w' ⟨rfl, hu⟩
    rw [H1.out]
    have HU := hid hu
    clear hu
    go_wp2_with fail
    go_ret
    exact picksPost_nil HP.out (((Upd.refl _ _).alloc _).trans HU.out)

theorem choice_made {B : Nat} {w1 w2 : World} {m : Sp.Mp} {g : Nat} {iV : Value} (hir : RowN w2 w1.heap.size iV (Sp.inL m)) (hiu : Upd Nix w1 w2) (hB : B ≤ w1.heap.size) :
    ChoiceAt B (w2.alloc (.cells (chArr m g iV (.slice none 0 0)) 137)) w2.heap.size m g iV (.slice none 0 0) (Sp.inL m) [] :=
  ⟨alloc_new w2 _, row_mono (World.ownsRow.alloc hir _) (Nat.zero_le _), World.ownsRow_nil _ _ _ _, fun o ho => inUpto_lt m 5 o ho, fun o ho => by simp at ho, inUpto_le m 5, by simp,
    fun b hb => by simp [Value.ownBlock] at hb, Nat.le_trans hB hiu.size⟩
set_option maxRecDepth 10000 in
set_option maxHeartbeats 1000000 in
theorem picks_yes (m : Sp.Mp) (g : Nat) (w : World) (h1 : Sp.isMap m = true) (h2 : g < 4) : Calls Try.prog 48 #[mpV m, .int .u8 (g : Int)] w (PicksPost m g w) := by
  have H1 := hid h1
  have h2' : (g : Int) < 4 := by omega
  clear h1
  go_enter Try.func48, Try.ntmps48
  go_wp2_with fail
  refine (is_any m _).mono ?_
  rintro e w' ⟨rfl, hu⟩
  rw [H1.out]
  have hb : w'.heap[w.heap.size]? = some (.cells (mpArr m) 57 (0, 0)) := hu.keep (alloc_new w _) (fun f => f)
  have hU : Upd Nix w w' := ((Upd.refl _ _).alloc _).trans hu
  have hsz : w.heap.size < w'.heap.size := blk_lt hb
  have hc := mp_cells hb
  obtain ⟨k0, k1, k2, k3, k4, k5, k6, k7, k8, k9, k10, k11, k12, k13, k14, k15⟩ := hc
  have HU := hid hU; have HB := hid hb
  clear hu hU hb
  go_upto_region 3 with (fail)
  go_cut [5] (fun p wx => ∃ cb : Nat, ∃ iV : Value, p = .pointer (some ⟨cb, 0, none⟩) ∧ Hid (ChoiceAt w.heap.size wx cb m g iV (.slice none 0 0) (Sp.inL m) [] ∧ Upd Nix w wx))
  case first =>
    go_region_with (go_at_call 75; refine (in_any m _).mono ?_; rintro e w2 ⟨iV, rfl, hir, hiu⟩; obtain ⟨ia, icap, rfl⟩ := row_nil hir; have hb2 := hiu.keep (show w'.drew.heap[w.heap.size]? = some (.cells (mpArr m) 57 (0, 0)) from HB.out) (fun f => f); obtain ⟨j0, j1, j2, j3, j4, j5, j6, j7, j8, j9, j10, j11, j12, j13, j14, j15⟩ := mp_cells hb2; have HB2 := hid hb2; clear hb2)
    all_goals
      have hcp := choice_made (g := g) hir (hiu := (hiu : Upd Nix _ _)) (show w.heap.size ≤ w'.heap.size by omega)
      have HCP := hid hcp
      clear hcp k0 k1 k2 k3 k4 k5 k6 k7 k8 k9 k10 k11 k12 k13 k14 k15 j0 j1 j2 j3 j4 j5 j6 j7 j8 j9 j10 j11 j12 j13 j14 j15
      go_wp2_with fail
      go_meet
      case rel => exact ⟨_, _, rfl, HCP.out, (HU.out.drew.trans hiu).alloc _⟩
  case rest =>
    clear k0 k1 k2 k3 k4 k5 k6 k7 k8 k9 k10 k11 k12 k13 k14 k15 hsz
    obtain ⟨cb, iV, rfl, HC⟩ := hcut
    obtain ⟨ia, icap, rfl⟩ := row_nil HC.out.1.inR
    obtain ⟨n, hn⟩ : ∃ n, n = (Sp.inL m).length := ⟨_, rfl⟩
    have hn5 : n ≤ 5 := by rw [hn]; exact HC.out.1.inL
    rw [← hn] at HC
    have HN := hid hn
    clear hn
    go_wp2_with fail
    go_loopw [6] (fun i wr => ∃ r : Nat, r ≤ 3 ∧ i = .int .i64 r ∧ Hid (∃ pV, ChoiceAt w.heap.size wr cb m g (.slice ia n icap) pV (Sp.inL m) (Sp.pickUpto m g r) ∧ Upd Nix w wr) ∧ Hid (0 < r → 0 < n)) (fun i _ => 3 - (intOf i).toNat)
    case atStart => exact ⟨0, by omega, rfl, ⟨_, HC.out⟩, fun h => by omega⟩
    case round =>
      obtain ⟨r, hr, rfl, HR, H0⟩ := hrel
      obtain ⟨pV, hL, hU⟩ := HR.out
      have ci : wr.cell? ⟨cb, 17, none⟩ = some (.slice ia n icap) := by rw [cell_blk hL.blk]; rfl
      have cp : wr.cell? ⟨cb, 18, none⟩ = some pV := by rw [cell_blk hL.blk]; rfl
      have HL := hid hL; have HU2 := hid hU
      clear hL hU
      by_cases hlt : r < 3 ∧ 0 < n
      · obtain ⟨hlt, hn0⟩ := hlt
        have hcall := pick1_any m g cb r _ pV _ (by omega) hlt (by rw [← HN.out]; exact hn0) (by have := pickUpto_len m g r; omega) wr HL.out
        have HCALL := hid hcall
        clear hcall cp
        go_wp2_with fail
        refine HCALL.out.mono ?_
        rintro e w2 ⟨rfl, pV2, hL2, hu2⟩
        have hU2 : Upd Nix w w2 := HU2.out.trans' hu2 (fun i hi e => by
          rcases e with e | e
          · have := HL.out.cB; omega
          · have := (row_blk HL.out.pR e).1; omega)
        have H2 := hid (And.intro hL2 hU2)
        clear hL2 hu2 hU2 ci
        go_wp2_with fail
        go_roundw
        case rel => exact ⟨r + 1, by omega, by go_num, ⟨pV2, H2.out⟩, fun _ => hn0⟩
        case measure => simp [intOf]; omega
      · by_cases hr3 : r < 3
        · have hn0 : n = 0 := by omega
          have hr0 : ¬ 0 < r := fun h => by have := H0.out h; omega
          have : r = 0 := by omega
          subst this
          subst hn0
          have hpv : pV = .slice none 0 0 ∨ ∃ a c, pV = .slice a 0 c := by
            obtain ⟨a, c, e⟩ := row_nil HL.out.pR
            exact .inr ⟨a, c, e⟩
          clear hlt
          go_wp2
          go_ret
          have hno := pick_none H1.out h2 (by have := HN.out; omega)
          exact ⟨_, rfl, by rw [hno]; exact HL.out.pR, HU2.out, by rw [hno]; simp, by rw [hno]; simp⟩
        · have : r = 3 := by omega
          subst this
          have hn0 : 0 < n := H0.out (by omega)
          clear hlt hr3
          go_wp2
          go_ret
          have hyes := pick_yes H1.out h2 (by rw [← HN.out]; exact hn0)
          exact ⟨_, rfl, by rw [hyes]; exact HL.out.pR, HU2.out, by rw [hyes]; exact HL.out.pL, by rw [hyes]; exact HL.out.pB⟩
end Go.Proofs.Ytmkpljbkmkbnjaa
