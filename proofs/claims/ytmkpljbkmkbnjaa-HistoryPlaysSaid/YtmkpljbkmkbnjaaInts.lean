/-
  THE WALK of paddocklaw5.ints: two rows of whole numbers are alike.
-/
import Derived.Test.YtmkpljbkmkbnjaaFull
namespace Go.Proofs.Ytmkpljbkmkbnjaa
open Go.RowKit
set_option linter.unusedVariables false
set_option linter.unusedSimpArgs false

set_option maxRecDepth 10000 in
theorem ints_any (l1 l2 : List Nat) (v1 v2 : Value) (b1 b2 : Nat) (w : World) (r1 : RowN w b1 v1 l1) (r2 : RowN w b2 v2 l2) (h1 : l1.length ≤ 1000) (h2 : l2.length ≤ 1000) :
    Calls Try.prog 21 #[v1, v2] w (EqPost l1 l2 w) := by
  by_cases hlen : l1.length = l2.length
  · by_cases h0 : 0 < l1.length
    · obtain ⟨g1, c1, rfl, _, hg1, _, _, hc1⟩ := nats_row r1 h0
      obtain ⟨g2, c2, rfl, _, hg2, _, _, hc2⟩ := nats_row r2 (by omega)
      obtain ⟨n, hn⟩ : ∃ n, n = l1.length := ⟨_, rfl⟩
      have hn2 : n = l2.length := by omega
      rw [← hn] at h0 h1 hc1 ⊢
      rw [← hn2] at h2 hc2 ⊢
      have HC1 := hid hc1; have HC2 := hid hc2; have HN := hid hn; have HN2 := hid hn2
      clear hc1 hc2 hn hn2 hlen r1 r2
      go_enter Try.func21, Try.ntmps21
      go_wp2
      go_loopw [5] (fun i wr => ∃ k : Nat, k ≤ n ∧ i = .int .i64 k ∧ Hid (Upd Nix w wr ∧ l1.take k = l2.take k)) (fun i _ => n - (intOf i).toNat)
      case atStart => exact ⟨0, by omega, rfl, Upd.refl _ _, rfl⟩
      case round =>
        obtain ⟨k, hk, rfl, H⟩ := hrel
        by_cases hlt : k < n
        · have k1 : wr.cell? ⟨g1, k, none⟩ = some (.int .i64 ((l1.getD k 0 : Nat) : Int)) := (H.out.1.cell hg1 (fun f => f)).trans (HC1.out k hlt)
          have k2 : wr.cell? ⟨g2, k, none⟩ = some (.int .i64 ((l2.getD k 0 : Nat) : Int)) := (H.out.1.cell hg2 (fun f => f)).trans (HC2.out k hlt)
          have hts := fun he => takes_succ H.out.2 (by rw [← HN.out]; exact hlt) (by rw [← HN2.out]; exact hlt) he
          have hne : l1.getD k 0 ≠ l2.getD k 0 → l1 ≠ l2 := fun h e => h (by rw [e])
          generalize l1.getD k 0 = x at *
          generalize l2.getD k 0 = y at *
          have HTS := hid hts; have HNE := hid hne
          clear hts hne
          have hlti : (k : Int) < n := by omega
          by_cases hxy : x = y
          · have hb : ((x : Int) != (y : Int)) = false := by simp [hxy]
            have HX := hid hxy
            clear hxy
            go_wp2_with fail
            go_quiet (fail)
            go_wp2
            go_roundw
            case rel => exact ⟨k + 1, by omega, by go_num, H.out.1.drewN _, HTS.out HX.out⟩
            case measure => simp [intOf]; omega
          · have hb : ((x : Int) != (y : Int)) = true := by rw [bne_iff_ne]; omega
            have HX := hid hxy
            clear hxy
            go_wp2_with fail
            go_quiet (fail)
            go_wp2
            go_ret
            exact ⟨ret_bool (by rw [decide_eq_false (HNE.out HX.out)]), H.out.1.drewN _⟩
        · have : k = n := by omega
          subst this
          go_wp2
          go_ret
          refine ⟨ret_bool ?_, H.out.1⟩
          have e := H.out.2
          rw [List.take_of_length_le (by have := HN.out; omega), List.take_of_length_le (by have := HN2.out; omega)] at e
          rw [decide_eq_true e]
    · obtain ⟨rfl, a1, c1, rfl⟩ := row_nil0 r1 h0
      obtain ⟨rfl, a2, c2, rfl⟩ := row_nil0 r2 (by omega)
      clear r1 r2
      go_enter Try.func21, Try.ntmps21
      go_wp2
      refine wp_loop_rounds 1 ?_
      rw [rounds_succ]
      go_wp2
      go_ret
      exact ⟨rfl, Upd.refl _ _⟩
  · obtain ⟨a1, c1, rfl⟩ := row_nil r1
    obtain ⟨a2, c2, rfl⟩ := row_nil r2
    have hb : ((l1.length : Int) != (l2.length : Int)) = true := by rw [bne_iff_ne]; omega
    have hne : l1 ≠ l2 := fun e => hlen (by rw [e])
    have HNE := hid hne
    clear r1 r2 hlen hne
    go_enter Try.func21, Try.ntmps21
    go_wp2
    go_ret
    exact ⟨ret_bool (by rw [decide_eq_false HNE.out]), Upd.refl _ _⟩

end Go.Proofs.Ytmkpljbkmkbnjaa
