/-
  THE WALKS of slices.Equal, slices.Clone at whole numbers, slices.Clone at intervals.
-/
import Derived.Test.YtmkpljbkmkbnjaaHist
namespace Go.Proofs.Ytmkpljbkmkbnjaa
open Go.RowKit
set_option linter.unusedVariables false
set_option linter.unusedSimpArgs false

def EqPost (l1 l2 : List Nat) (w : World) (e : Ending) (w' : World) : Prop := e = .returned (.bool (decide (l1 = l2))) ∧ Upd Nix w w'
theorem takes_succ {l1 l2 : List Nat} {k : Nat} (h : l1.take k = l2.take k) (h1 : k < l1.length) (h2 : k < l2.length) (he : l1.getD k 0 = l2.getD k 0) : l1.take (k + 1) = l2.take (k + 1) := by
  rw [List.take_succ_eq_append_getElem h1, List.take_succ_eq_append_getElem h2, h]
  rw [List.getD_eq_getElem?_getD, List.getD_eq_getElem?_getD, List.getElem?_eq_getElem h1, List.getElem?_eq_getElem h2] at he
  have he' : l1[k] = l2[k] := by simpa using he
  rw [he']
set_option maxRecDepth 10000 in
theorem equal_any (l1 l2 : List Nat) (v1 v2 : Value) (b1 b2 : Nat) (w : World) (r1 : RowN w b1 v1 l1) (r2 : RowN w b2 v2 l2) (h1 : l1.length ≤ 1000) (h2 : l2.length ≤ 1000) :
    Calls Try.prog 72 #[v1, v2] w (EqPost l1 l2 w) := by
  by_cases hlen : l1.length = l2.length
  · by_cases h0 : 0 < l1.length
    · obtain ⟨g1, c1, rfl, _, hg1, _, _, hc1⟩ := nats_row r1 h0
      obtain ⟨g2, c2, rfl, _, hg2, _, _, hc2⟩ := nats_row r2 (by omega)
      obtain ⟨n, hn⟩ : ∃ n, n = l1.length := ⟨_, rfl⟩
      have hn2 : n = l2.length := by omega
      rw [← hn] at h0 h1 hc1 ⊢
      rw [← hn2] at h2 hc2 ⊢
      have HC1 := hid hc1; have HC2 := hid hc2; have HN := hid hn; have HN2 := hid hn2
      clear hc1 hc2 hn hn2 hlen r1 r2
      go_enter Try.func72, Try.ntmps72
      go_wp2
      go_loopw [13] (fun i wr => ∃ k : Nat, k ≤ n ∧ i = .int .i64 k ∧ Hid (Upd Nix w wr ∧ l1.take k = l2.take k)) (fun i _ => n - (intOf i).toNat)
      case atStart => exact ⟨0, by omega, rfl, Upd.refl _ _, rfl⟩
      case round =>
        obtain ⟨k, hk, rfl, H⟩ := hrel
        by_cases hlt : k < n
        · have k1 : wr.cell? ⟨g1, k, none⟩ = some (.int .i64 ((l1.getD k 0 : Nat) : Int)) := (H.out.1.cell hg1 (fun f => f)).trans (HC1.out k hlt)
          have k2 : wr.cell? ⟨g2, k, none⟩ = some (.int .i64 ((l2.getD k 0 : Nat) : Int)) := (H.out.1.cell hg2 (fun f => f)).trans (HC2.out k hlt)
          have hts := fun he => takes_succ H.out.2 (by rw [← HN.out]; exact hlt) (by rw [← HN2.out]; exact hlt) he
          have hne : l1.getD k 0 ≠ l2.getD k 0 → l1 ≠ l2 := fun h e => h (by rw [e])
          generalize l1.getD k 0 = x at *
          generalize l2.getD k 0 = y at *
          have HTS := hid hts; have HNE := hid hne
          clear hts hne
          have hlti : (k : Int) < n := by omega
          by_cases hxy : x = y
          · have hb : ((x : Int) != (y : Int)) = false := by simp [hxy]
            have HX := hid hxy
            clear hxy
            go_wp2_with fail
            go_quiet (fail)
            go_wp2
            go_roundw
            case rel => exact ⟨k + 1, by omega, by go_num, H.out.1.drewN _, HTS.out HX.out⟩
            case measure => simp [intOf]; omega
          · have hb : ((x : Int) != (y : Int)) = true := by rw [bne_iff_ne]; omega
            have HX := hid hxy
            clear hxy
            go_wp2_with fail
            go_quiet (fail)
            go_wp2
            go_ret
            exact ⟨ret_bool (by rw [decide_eq_false (HNE.out HX.out)]), H.out.1.drewN _⟩
        · have : k = n := by omega
          subst this
          go_wp2
          go_ret
          refine ⟨ret_bool ?_, H.out.1⟩
          have e := H.out.2
          rw [List.take_of_length_le (by have := HN.out; omega), List.take_of_length_le (by have := HN2.out; omega)] at e
          rw [decide_eq_true e]
    · obtain ⟨rfl, a1, c1, rfl⟩ := row_nil0 r1 h0
      obtain ⟨rfl, a2, c2, rfl⟩ := row_nil0 r2 (by omega)
      clear r1 r2
      go_enter Try.func72, Try.ntmps72
      go_wp2
      refine wp_loop_rounds 1 ?_
      rw [rounds_succ]
      go_wp2
      go_ret
      exact ⟨rfl, Upd.refl _ _⟩
  · obtain ⟨a1, c1, rfl⟩ := row_nil r1
    obtain ⟨a2, c2, rfl⟩ := row_nil r2
    have hb : ((l1.length : Int) != (l2.length : Int)) = true := by rw [bne_iff_ne]; omega
    have hne : l1 ≠ l2 := fun e => hlen (by rw [e])
    have HNE := hid hne
    clear r1 r2 hlen hne
    go_enter Try.func72, Try.ntmps72
    go_wp2
    go_ret
    exact ⟨ret_bool (by rw [decide_eq_false HNE.out]), Upd.refl _ _⟩

def CloneRow (e size n : Nat) (xs : List Value) (w : World) (en : Ending) (w' : World) : Prop :=
  ∃ v', en = .returned v' ∧ w'.ownsRow w.heap.size e size v' n xs ∧ Upd Nix w w'
theorem info62 : (Try.prog.info? 62).map (fun i => (i.zero, i.size, i.bytes)) = some (some (.agg #[.int .u32 0, .slice none 0 0]), 2, 32) := by kernel_rfl
theorem eql_nil (t e : TypeId) (h : Try.prog.underlying t = some (.slice e)) (a : Option Addr) (n c : Nat) (w : World) : (binOp .eql t (.slice a n c) (.slice none 0 0)).run Try.prog w = .ok (.bool a.isNone) w := by
  simp only [binOp]
  simp [Op.equal, Op.maxDepth, Lib.run_equalIn_slice_nil w 9999 t e a n c 0 0 h]
theorem row_cells {w : World} {base e size n g cap : Nat} {xs : List Value} (h : w.ownsRow base e size (.slice (some ⟨g, 0, none⟩) n cap) n xs) (o : Obj) :
    ∀ (j : Nat) (u : Value), xs[j]? = some u → (w.alloc o).cell? ((⟨g, 0, none⟩ : Addr).add j) = some u := World.ownsRow.cells (h.alloc o) rfl
set_option maxRecDepth 10000 in
theorem clone46_any (v : Value) (n base : Nat) (xs : List Value) (w : World) (hr : w.ownsRow base 3 1 v n xs) (hn : n ≤ 1000) (h1 : ∀ u ∈ xs, u.oneCell' = true) :
    Calls Try.prog 46 #[v] w (CloneRow 3 1 n xs w) := by
  have he := eql_nil 60 3 Try.underlying60
  have hr' := hr
  rcases hr'.2 with ⟨rfl, rfl⟩ | ⟨g, cap, cur, rfl, hb, hg, hnc, hcm, hsz, htk⟩
  · have hx : xs = [] := List.eq_nil_of_length_eq_zero (by simpa using hr.1)
    subst hx
    clear hr hr' h1
    go_enter Try.func46, Try.ntmps46
    go_wp2
    go_ret
    exact ⟨_, rfl, World.ownsRow_nil _ _ _ _, Upd.refl _ _⟩
  · obtain ⟨i0, hi, hz0, hz1, hz2⟩ := info_parts info3
    have hcs := row_cells hr (.cells #[] 3)
    have hmade := World.ownsRow_made (size := 1) (e := 3) (base := w.heap.size) w #[] 0 (Nat.le_refl _) (by unfold maxLen; omega) rfl
    have HC := hid hcs; have HM := hid hmade; have H1 := hid h1
    have hl := hr.1
    clear hcs hmade h1 hr hr' hg htk hsz
    go_enter Try.func46, Try.ntmps46
    go_wp2_with (at_builtin; refine wpList_append_own _ rfl _ _ 60 rfl w.heap.size 3 i0 (.int .i64 0) 1 8 Try.underlying60 hi hz0 hz1 hz2 rfl (by decide) _ 0 [] rfl HM.out ⟨g, 0, none⟩ n cap xs rfl hl HC.out H1.out (by unfold maxLen; omega) (by omega) (by simp) ?_; intro v' w1 hown hgr _; have hown' : w1.ownsRow w.heap.size 3 1 v' n xs := by rw [Nat.zero_add, List.nil_append] at hown; exact hown)
    go_ret
    exact ⟨_, rfl, hown', ((Upd.refl _ _).alloc _).trans' (Upd.of_grown hgr) (fun i hi e => by have e' : some i = some w.heap.size := e; simp at e'; omega)⟩

set_option maxRecDepth 10000 in
theorem clone45_any (v : Value) (n base : Nat) (xs : List Value) (w : World) (hr : w.ownsRow base 62 2 v n xs) (hn : n ≤ 1000) (h1 : ∀ u ∈ xs, u.oneCell' = true) :
    Calls Try.prog 45 #[v] w (CloneRow 62 2 n xs w) := by
  have he := eql_nil 51 62 Try.underlying51
  have hr' := hr
  rcases hr'.2 with ⟨rfl, rfl⟩ | ⟨g, cap, cur, rfl, hb, hg, hnc, hcm, hsz, htk⟩
  · have hx : xs = [] := List.eq_nil_of_length_eq_zero (by simpa using hr.1)
    subst hx
    clear hr hr' h1
    go_enter Try.func45, Try.ntmps45
    go_wp2
    go_ret
    exact ⟨_, rfl, World.ownsRow_nil _ _ _ _, Upd.refl _ _⟩
  · obtain ⟨i0, hi, hz0, hz1, hz2⟩ := info_parts info62
    have hcs := row_cells hr (.cells #[] 62)
    have hmade := World.ownsRow_made (size := 2) (e := 62) (base := w.heap.size) w #[] 0 (Nat.le_refl _) (by unfold maxLen; omega) rfl
    have HC := hid hcs; have HM := hid hmade; have H1 := hid h1
    have hl := hr.1
    clear hcs hmade h1 hr hr' hg htk hsz
    go_enter Try.func45, Try.ntmps45
    go_wp2_with (at_builtin; refine wpList_append_own _ rfl _ _ 51 rfl w.heap.size 62 i0 (.agg #[.int .u32 0, .slice none 0 0]) 2 32 Try.underlying51 hi hz0 hz1 hz2 rfl (by decide) _ 0 [] rfl HM.out ⟨g, 0, none⟩ n cap xs rfl hl HC.out H1.out (by unfold maxLen; omega) (by omega) (by simp) ?_; intro v' w1 hown hgr _; have hown' : w1.ownsRow w.heap.size 62 2 v' n xs := by rw [Nat.zero_add, List.nil_append] at hown; exact hown)
    go_ret
    exact ⟨_, rfl, hown', ((Upd.refl _ _).alloc _).trans' (Upd.of_grown hgr) (fun i hi e => by have e' : some i = some w.heap.size := e; simp at e'; omega)⟩
end Go.Proofs.Ytmkpljbkmkbnjaa
