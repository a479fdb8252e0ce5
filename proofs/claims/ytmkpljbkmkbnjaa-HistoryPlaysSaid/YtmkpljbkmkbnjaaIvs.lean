/-
  THE WALK of paddocklaw5.intervals at two rows that hold the same intervals.
-/
import Derived.Test.YtmkpljbkmkbnjaaIvC
import Derived.Deep.DeepCutAuto
import Derived.IntWalk
namespace Go.Proofs.Ytmkpljbkmkbnjaa
open Go.RowKit
set_option linter.unusedVariables false
set_option linter.unusedSimpArgs false

set_option maxRecDepth 10000 in
theorem ivs28_any (l : List (Int × List Nat)) (v1 v2 : Value) (w : World) (h1 : IvAt w v1 l) (h2 : IvAt w v2 l) (hlen : l.length ≤ 1000) (hact : ∀ t ∈ l, t.2.length ≤ 3) :
    Calls Try.prog 28 #[v1, v2] w (KnownPost w) := by
  by_cases h0 : 0 < l.length
  · obtain ⟨b1, q1, av1, rfl, _, hc1⟩ := h1.form h0
    obtain ⟨b2, q2, av2, rfl, _, hc2⟩ := h2.form h0
    generalize hL : l.length = L at *
    have HL := hid hL; have HC1 := hid hc1; have HC2 := hid hc2; have HACT := hid hact
    clear hL hc1 hc2 hact h1 h2
    go_enter Try.func28, Try.ntmps28
    go_wp2_with fail
    go_loopw [5] (fun j wr => ∃ k : Nat, k ≤ L ∧ j = .int .i64 k ∧ Hid (Upd Nix w wr)) (fun j _ => L - (intOf j).toNat)
    case atStart => exact ⟨0, by omega, rfl, Upd.refl _ _⟩
    case round =>
      obtain ⟨k, hk, rfl, HR⟩ := hrel
      by_cases hlt : k < L
      · obtain ⟨t, ht⟩ : ∃ t, l[k]? = some t := ⟨_, List.getElem?_eq_getElem (by have := HL.out; omega)⟩
        obtain ⟨c0, c1, hr1⟩ := HC1.out.keep HR.out k t ht
        obtain ⟨d0, d1, hr2⟩ := HC2.out.keep HR.out k t ht
        obtain ⟨ra1, rc1, re1⟩ := row_nil hr1
        obtain ⟨ra2, rc2, re2⟩ := row_nil hr2
        have hal := HACT.out t (List.mem_of_getElem? ht)
        have hin : ∀ w', Upd Nix wr w' → Calls Try.prog 21 #[av1 k, av2 k] w' (fun e w'' => e = .returned (.bool true) ∧ Upd Nix w' w'') := by
          intro w' hu
          refine (ints_any t.2 t.2 _ _ 0 0 w' (row_keep hr1 hu (fun _ _ f => f)) (row_keep hr2 hu (fun _ _ f => f)) (by omega) (by omega)).mono ?_
          rintro e w'' ⟨rfl, hu2⟩
          exact ⟨by rw [decide_eq_true rfl], hu2⟩
        have hS : ∀ w', Upd Nix wr w' → w'.cell? ⟨b1, k * 2, none⟩ = some (.int .u32 t.1) ∧ w'.cell? ⟨b2, k * 2, none⟩ = some (.int .u32 t.1) ∧ w'.cell? ⟨b1, k * 2 + 1, none⟩ = some (av1 k) ∧ w'.cell? ⟨b2, k * 2 + 1, none⟩ = some (av2 k) := by
          intro w' hu
          obtain ⟨c0, c1, _⟩ := (HC1.out.keep HR.out).keep hu k t ht
          obtain ⟨d0, d1, _⟩ := (HC2.out.keep HR.out).keep hu k t ht
          exact ⟨c0, d0, c1, d1⟩
        rw [re1, re2] at hin hS
        clear c0 c1 d0 d1 hr1 hr2 re1 re2 hal ht
        generalize t.1 = ts at *
        generalize t.2.length = tn at *
        have HS := hid hS; have HIN := hid hin
        clear hS hin
        obtain ⟨c0, d0, c1, d1⟩ := HS.out wr (Upd.refl _ _)
        have hki : (k : Int) < (L : Int) := by omega
        go_upto_region 6 with (fail)
        go_cut [5, 41] (fun j r wx => j = .int .i64 k ∧ r = .bool false ∧ Hid (Upd Nix w wx))
        case first =>
          go_region_held3 (fun w' => w'.cell? ⟨b1, k * 2, none⟩ = some (.int .u32 ts) ∧ w'.cell? ⟨b2, k * 2, none⟩ = some (.int .u32 ts) ∧ w'.cell? ⟨b1, k * 2 + 1, none⟩ = some (.slice ra1 tn rc1) ∧ w'.cell? ⟨b2, k * 2 + 1, none⟩ = some (.slice ra2 tn rc2))
            ((refine HS.out _ ?_; first
              | with_reducible exact ((Upd.refl Nix wr).drew)
              | with_reducible exact HU7.out))
            (first
              | (go_at_call 21; refine (HIN.out _ ((Upd.refl Nix wr).drew)).mono ?_; rintro e w7 ⟨rfl, hu7⟩; have HU7 := hid (((Upd.refl Nix wr).drew).trans hu7); clear hu7))
          all_goals go_wp2
          all_goals go_meet
          all_goals exact ⟨rfl, rfl, HR.out.trans HU7.out⟩
        case rest =>
          obtain ⟨rfl, rfl, HU⟩ := hcut
          clear c0 d0 c1 d1
          go_wp2_with fail
          go_roundw
          case rel => exact ⟨k + 1, by omega, by go_num, HU.out⟩
          case measure => simp [intOf]; omega
      · have : k = L := by omega
        subst this
        go_wp2_with fail
        go_ret
        exact ⟨rfl, HR.out⟩
  · have e : l = [] := List.eq_nil_of_length_eq_zero (by omega)
    subst e
    obtain ⟨a1, q1, rfl⟩ := h1.len
    obtain ⟨a2, q2, rfl⟩ := h2.len
    clear h1 h2 hact
    go_enter Try.func28, Try.ntmps28
    go_wp2
    refine wp_loop_rounds 1 ?_
    rw [rounds_succ]
    go_wp2
    go_ret
    exact ⟨rfl, Upd.refl _ _⟩
end Go.Proofs.Ytmkpljbkmkbnjaa
