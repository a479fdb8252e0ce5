/-
  THE WALK of maps.Apply where it makes the next map: weight, none.
-/
import Derived.Test.YtmkpljbkmkbnjaaApply2
namespace Go.Proofs.Ytmkpljbkmkbnjaa
open Go.RowKit
set_option linter.unusedVariables false
set_option linter.unusedSimpArgs false

set_option maxRecDepth 10000 in
set_option maxHeartbeats 1000000 in
theorem apply_3_0 (m : Sp.Mp) (n : Int) (w : World) (h1 : Sp.isMap m = true) (h2 : Sp.isInc ⟨3, 0, n⟩ = true) (h3 : m.ep ≠ 60) (he : 0 ≤ m.ep ∧ m.ep ≤ 60) :
    Calls Try.prog 44 #[mpV m, incV ⟨3, 0, n⟩] w (ApplyYes (Sp.apply m ⟨3, 0, n⟩) w) := by
  obtain ⟨he1, he2⟩ := he
  have h3' : (m.ep == 60) = false := by simpa using h3
  have H1 := hid h1; have H2 := hid h2
  clear h1 h2 h3
  go_enter Try.func44, Try.ntmps44
  go_wp2_with fail
  refine (is_any m _).mono ?_
  rintro e w1 ⟨rfl, hu⟩
  rw [H1.out]
  have hu1 : Upd Nix (three m ⟨3, 0, n⟩ w) w1 := hu
  have c0 := cell_blk (hu1.keep (three_0 m ⟨3, 0, n⟩ w) (fun f => f))
  have c1 := cell_blk (hu1.keep (three_1 m ⟨3, 0, n⟩ w) (fun f => f))
  have HU := hid hu1
  clear hu hu1
  go_wp2_with fail
  refine (isInc_any ⟨3, 0, n⟩ _).mono ?_
  rintro e w2 ⟨rfl, hu⟩
  rw [H2.out]
  have hu2 : Upd Nix (three m ⟨3, 0, n⟩ w) w2 := HU.out.trans hu
  have d0 := cell_blk (hu2.keep (three_0 m ⟨3, 0, n⟩ w) (fun f => f))
  have d1 := cell_blk (hu2.keep (three_1 m ⟨3, 0, n⟩ w) (fun f => f))
  have f0 := free_blk (hu2.keep (three_0 m ⟨3, 0, n⟩ w) (fun f => f))
  have H0 := hid (hu2.keep (three_0 m ⟨3, 0, n⟩ w) (fun f => f))
  have HU2 := hid hu2
  clear hu hu2 c0 c1
  go_wp2_with (first | ((with_reducible refine at_loadv 57 (.tmp 2) ?_); refine wpList_load_row rfl 57 (.tmp 2) rfl w.heap.size rfl 57 (mpArr (Sp.apply m ⟨3, 0, n⟩)) (0, 0) _ (blk2 H0.out _ _ _ _) Try.underlying57 rfl size57 ?_) | ((with_reducible refine at_store 57 (.tmp 4) (.tmp 48) ?_); refine wpList_store_row rfl 57 (.tmp 4) (.tmp 48) rfl (w.heap.size + 1 + 1) rfl (mpArr (Sp.apply m ⟨3, 0, n⟩)) rfl 57 zeroArr ((upd2 _ _ _ _ _ _).keep (HU2.out.keep (three_2 m ⟨3, 0, n⟩ w) (fun f => f)) (by omega)) rfl size57 (mp_one _) ?_))
  exact apply_yes_end rfl rfl rfl HU2.out (upd2 _ _ _ _ _ _)

set_option maxRecDepth 10000 in
set_option maxHeartbeats 1000000 in
theorem apply_3_1 (m : Sp.Mp) (n : Int) (w : World) (h1 : Sp.isMap m = true) (h2 : Sp.isInc ⟨3, 1, n⟩ = true) (h3 : m.ep ≠ 60) (he : 0 ≤ m.ep ∧ m.ep ≤ 60) :
    Calls Try.prog 44 #[mpV m, incV ⟨3, 1, n⟩] w (ApplyYes (Sp.apply m ⟨3, 1, n⟩) w) := by
  obtain ⟨he1, he2⟩ := he
  have h3' : (m.ep == 60) = false := by simpa using h3
  have H1 := hid h1; have H2 := hid h2
  clear h1 h2 h3
  go_enter Try.func44, Try.ntmps44
  go_wp2_with fail
  refine (is_any m _).mono ?_
  rintro e w1 ⟨rfl, hu⟩
  rw [H1.out]
  have hu1 : Upd Nix (three m ⟨3, 1, n⟩ w) w1 := hu
  have c0 := cell_blk (hu1.keep (three_0 m ⟨3, 1, n⟩ w) (fun f => f))
  have c1 := cell_blk (hu1.keep (three_1 m ⟨3, 1, n⟩ w) (fun f => f))
  have HU := hid hu1
  clear hu hu1
  go_wp2_with fail
  refine (isInc_any ⟨3, 1, n⟩ _).mono ?_
  rintro e w2 ⟨rfl, hu⟩
  rw [H2.out]
  have hu2 : Upd Nix (three m ⟨3, 1, n⟩ w) w2 := HU.out.trans hu
  have d0 := cell_blk (hu2.keep (three_0 m ⟨3, 1, n⟩ w) (fun f => f))
  have d1 := cell_blk (hu2.keep (three_1 m ⟨3, 1, n⟩ w) (fun f => f))
  have f0 := free_blk (hu2.keep (three_0 m ⟨3, 1, n⟩ w) (fun f => f))
  have H0 := hid (hu2.keep (three_0 m ⟨3, 1, n⟩ w) (fun f => f))
  have HU2 := hid hu2
  clear hu hu2 c0 c1
  go_wp2_with (first | ((with_reducible refine at_loadv 57 (.tmp 2) ?_); refine wpList_load_row rfl 57 (.tmp 2) rfl w.heap.size rfl 57 (mpArr (Sp.apply m ⟨3, 1, n⟩)) (0, 0) _ (blk2 H0.out _ _ _ _) Try.underlying57 rfl size57 ?_) | ((with_reducible refine at_store 57 (.tmp 4) (.tmp 48) ?_); refine wpList_store_row rfl 57 (.tmp 4) (.tmp 48) rfl (w.heap.size + 1 + 1) rfl (mpArr (Sp.apply m ⟨3, 1, n⟩)) rfl 57 zeroArr ((upd2 _ _ _ _ _ _).keep (HU2.out.keep (three_2 m ⟨3, 1, n⟩ w) (fun f => f)) (by omega)) rfl size57 (mp_one _) ?_))
  exact apply_yes_end rfl rfl rfl HU2.out (upd2 _ _ _ _ _ _)

set_option maxRecDepth 10000 in
set_option maxHeartbeats 1000000 in
theorem apply_3_2 (m : Sp.Mp) (n : Int) (w : World) (h1 : Sp.isMap m = true) (h2 : Sp.isInc ⟨3, 2, n⟩ = true) (h3 : m.ep ≠ 60) (he : 0 ≤ m.ep ∧ m.ep ≤ 60) :
    Calls Try.prog 44 #[mpV m, incV ⟨3, 2, n⟩] w (ApplyYes (Sp.apply m ⟨3, 2, n⟩) w) := by
  obtain ⟨he1, he2⟩ := he
  have h3' : (m.ep == 60) = false := by simpa using h3
  have H1 := hid h1; have H2 := hid h2
  clear h1 h2 h3
  go_enter Try.func44, Try.ntmps44
  go_wp2_with fail
  refine (is_any m _).mono ?_
  rintro e w1 ⟨rfl, hu⟩
  rw [H1.out]
  have hu1 : Upd Nix (three m ⟨3, 2, n⟩ w) w1 := hu
  have c0 := cell_blk (hu1.keep (three_0 m ⟨3, 2, n⟩ w) (fun f => f))
  have c1 := cell_blk (hu1.keep (three_1 m ⟨3, 2, n⟩ w) (fun f => f))
  have HU := hid hu1
  clear hu hu1
  go_wp2_with fail
  refine (isInc_any ⟨3, 2, n⟩ _).mono ?_
  rintro e w2 ⟨rfl, hu⟩
  rw [H2.out]
  have hu2 : Upd Nix (three m ⟨3, 2, n⟩ w) w2 := HU.out.trans hu
  have d0 := cell_blk (hu2.keep (three_0 m ⟨3, 2, n⟩ w) (fun f => f))
  have d1 := cell_blk (hu2.keep (three_1 m ⟨3, 2, n⟩ w) (fun f => f))
  have f0 := free_blk (hu2.keep (three_0 m ⟨3, 2, n⟩ w) (fun f => f))
  have H0 := hid (hu2.keep (three_0 m ⟨3, 2, n⟩ w) (fun f => f))
  have HU2 := hid hu2
  clear hu hu2 c0 c1
  go_wp2_with (first | ((with_reducible refine at_loadv 57 (.tmp 2) ?_); refine wpList_load_row rfl 57 (.tmp 2) rfl w.heap.size rfl 57 (mpArr (Sp.apply m ⟨3, 2, n⟩)) (0, 0) _ (blk2 H0.out _ _ _ _) Try.underlying57 rfl size57 ?_) | ((with_reducible refine at_store 57 (.tmp 4) (.tmp 48) ?_); refine wpList_store_row rfl 57 (.tmp 4) (.tmp 48) rfl (w.heap.size + 1 + 1) rfl (mpArr (Sp.apply m ⟨3, 2, n⟩)) rfl 57 zeroArr ((upd2 _ _ _ _ _ _).keep (HU2.out.keep (three_2 m ⟨3, 2, n⟩ w) (fun f => f)) (by omega)) rfl size57 (mp_one _) ?_))
  exact apply_yes_end rfl rfl rfl HU2.out (upd2 _ _ _ _ _ _)

set_option maxRecDepth 10000 in
set_option maxHeartbeats 1000000 in
theorem apply_3_3 (m : Sp.Mp) (n : Int) (w : World) (h1 : Sp.isMap m = true) (h2 : Sp.isInc ⟨3, 3, n⟩ = true) (h3 : m.ep ≠ 60) (he : 0 ≤ m.ep ∧ m.ep ≤ 60) :
    Calls Try.prog 44 #[mpV m, incV ⟨3, 3, n⟩] w (ApplyYes (Sp.apply m ⟨3, 3, n⟩) w) := by
  obtain ⟨he1, he2⟩ := he
  have h3' : (m.ep == 60) = false := by simpa using h3
  have H1 := hid h1; have H2 := hid h2
  clear h1 h2 h3
  go_enter Try.func44, Try.ntmps44
  go_wp2_with fail
  refine (is_any m _).mono ?_
  rintro e w1 ⟨rfl, hu⟩
  rw [H1.out]
  have hu1 : Upd Nix (three m ⟨3, 3, n⟩ w) w1 := hu
  have c0 := cell_blk (hu1.keep (three_0 m ⟨3, 3, n⟩ w) (fun f => f))
  have c1 := cell_blk (hu1.keep (three_1 m ⟨3, 3, n⟩ w) (fun f => f))
  have HU := hid hu1
  clear hu hu1
  go_wp2_with fail
  refine (isInc_any ⟨3, 3, n⟩ _).mono ?_
  rintro e w2 ⟨rfl, hu⟩
  rw [H2.out]
  have hu2 : Upd Nix (three m ⟨3, 3, n⟩ w) w2 := HU.out.trans hu
  have d0 := cell_blk (hu2.keep (three_0 m ⟨3, 3, n⟩ w) (fun f => f))
  have d1 := cell_blk (hu2.keep (three_1 m ⟨3, 3, n⟩ w) (fun f => f))
  have f0 := free_blk (hu2.keep (three_0 m ⟨3, 3, n⟩ w) (fun f => f))
  have H0 := hid (hu2.keep (three_0 m ⟨3, 3, n⟩ w) (fun f => f))
  have HU2 := hid hu2
  clear hu hu2 c0 c1
  go_wp2_with (first | ((with_reducible refine at_loadv 57 (.tmp 2) ?_); refine wpList_load_row rfl 57 (.tmp 2) rfl w.heap.size rfl 57 (mpArr (Sp.apply m ⟨3, 3, n⟩)) (0, 0) _ (blk2 H0.out _ _ _ _) Try.underlying57 rfl size57 ?_) | ((with_reducible refine at_store 57 (.tmp 4) (.tmp 48) ?_); refine wpList_store_row rfl 57 (.tmp 4) (.tmp 48) rfl (w.heap.size + 1 + 1) rfl (mpArr (Sp.apply m ⟨3, 3, n⟩)) rfl 57 zeroArr ((upd2 _ _ _ _ _ _).keep (HU2.out.keep (three_2 m ⟨3, 3, n⟩ w) (fun f => f)) (by omega)) rfl size57 (mp_one _) ?_))
  exact apply_yes_end rfl rfl rfl HU2.out (upd2 _ _ _ _ _ _)

set_option maxRecDepth 10000 in
set_option maxHeartbeats 1000000 in
theorem apply_3_4 (m : Sp.Mp) (n : Int) (w : World) (h1 : Sp.isMap m = true) (h2 : Sp.isInc ⟨3, 4, n⟩ = true) (h3 : m.ep ≠ 60) (he : 0 ≤ m.ep ∧ m.ep ≤ 60) :
    Calls Try.prog 44 #[mpV m, incV ⟨3, 4, n⟩] w (ApplyYes (Sp.apply m ⟨3, 4, n⟩) w) := by
  obtain ⟨he1, he2⟩ := he
  have h3' : (m.ep == 60) = false := by simpa using h3
  have H1 := hid h1; have H2 := hid h2
  clear h1 h2 h3
  go_enter Try.func44, Try.ntmps44
  go_wp2_with fail
  refine (is_any m _).mono ?_
  rintro e w1 ⟨rfl, hu⟩
  rw [H1.out]
  have hu1 : Upd Nix (three m ⟨3, 4, n⟩ w) w1 := hu
  have c0 := cell_blk (hu1.keep (three_0 m ⟨3, 4, n⟩ w) (fun f => f))
  have c1 := cell_blk (hu1.keep (three_1 m ⟨3, 4, n⟩ w) (fun f => f))
  have HU := hid hu1
  clear hu hu1
  go_wp2_with fail
  refine (isInc_any ⟨3, 4, n⟩ _).mono ?_
  rintro e w2 ⟨rfl, hu⟩
  rw [H2.out]
  have hu2 : Upd Nix (three m ⟨3, 4, n⟩ w) w2 := HU.out.trans hu
  have d0 := cell_blk (hu2.keep (three_0 m ⟨3, 4, n⟩ w) (fun f => f))
  have d1 := cell_blk (hu2.keep (three_1 m ⟨3, 4, n⟩ w) (fun f => f))
  have f0 := free_blk (hu2.keep (three_0 m ⟨3, 4, n⟩ w) (fun f => f))
  have H0 := hid (hu2.keep (three_0 m ⟨3, 4, n⟩ w) (fun f => f))
  have HU2 := hid hu2
  clear hu hu2 c0 c1
  go_wp2_with (first | ((with_reducible refine at_loadv 57 (.tmp 2) ?_); refine wpList_load_row rfl 57 (.tmp 2) rfl w.heap.size rfl 57 (mpArr (Sp.apply m ⟨3, 4, n⟩)) (0, 0) _ (blk2 H0.out _ _ _ _) Try.underlying57 rfl size57 ?_) | ((with_reducible refine at_store 57 (.tmp 4) (.tmp 48) ?_); refine wpList_store_row rfl 57 (.tmp 4) (.tmp 48) rfl (w.heap.size + 1 + 1) rfl (mpArr (Sp.apply m ⟨3, 4, n⟩)) rfl 57 zeroArr ((upd2 _ _ _ _ _ _).keep (HU2.out.keep (three_2 m ⟨3, 4, n⟩ w) (fun f => f)) (by omega)) rfl size57 (mp_one _) ?_))
  exact apply_yes_end rfl rfl rfl HU2.out (upd2 _ _ _ _ _ _)

set_option maxRecDepth 10000 in
set_option maxHeartbeats 1000000 in
theorem apply_4_0 (m : Sp.Mp) (n : Int) (w : World) (h1 : Sp.isMap m = true) (h2 : Sp.isInc ⟨4, 0, n⟩ = true) (h3 : m.ep ≠ 60) (he : 0 ≤ m.ep ∧ m.ep ≤ 60) :
    Calls Try.prog 44 #[mpV m, incV ⟨4, 0, n⟩] w (ApplyYes (Sp.apply m ⟨4, 0, n⟩) w) := by
  obtain ⟨he1, he2⟩ := he
  have h3' : (m.ep == 60) = false := by simpa using h3
  have H1 := hid h1; have H2 := hid h2
  clear h1 h2 h3
  go_enter Try.func44, Try.ntmps44
  go_wp2_with fail
  refine (is_any m _).mono ?_
  rintro e w1 ⟨rfl, hu⟩
  rw [H1.out]
  have hu1 : Upd Nix (three m ⟨4, 0, n⟩ w) w1 := hu
  have c0 := cell_blk (hu1.keep (three_0 m ⟨4, 0, n⟩ w) (fun f => f))
  have c1 := cell_blk (hu1.keep (three_1 m ⟨4, 0, n⟩ w) (fun f => f))
  have HU := hid hu1
  clear hu hu1
  go_wp2_with fail
  refine (isInc_any ⟨4, 0, n⟩ _).mono ?_
  rintro e w2 ⟨rfl, hu⟩
  rw [H2.out]
  have hu2 : Upd Nix (three m ⟨4, 0, n⟩ w) w2 := HU.out.trans hu
  have d0 := cell_blk (hu2.keep (three_0 m ⟨4, 0, n⟩ w) (fun f => f))
  have d1 := cell_blk (hu2.keep (three_1 m ⟨4, 0, n⟩ w) (fun f => f))
  have f0 := free_blk (hu2.keep (three_0 m ⟨4, 0, n⟩ w) (fun f => f))
  have H0 := hid (hu2.keep (three_0 m ⟨4, 0, n⟩ w) (fun f => f))
  have HU2 := hid hu2
  clear hu hu2 c0 c1
  go_wp2_with (first | ((with_reducible refine at_loadv 57 (.tmp 2) ?_); refine wpList_load_row rfl 57 (.tmp 2) rfl w.heap.size rfl 57 (mpArr (Sp.apply m ⟨4, 0, n⟩)) (0, 0) _ (blk1 H0.out _ _) Try.underlying57 rfl size57 ?_) | ((with_reducible refine at_store 57 (.tmp 4) (.tmp 48) ?_); refine wpList_store_row rfl 57 (.tmp 4) (.tmp 48) rfl (w.heap.size + 1 + 1) rfl (mpArr (Sp.apply m ⟨4, 0, n⟩)) rfl 57 zeroArr ((upd1 _ _ _ _).keep (HU2.out.keep (three_2 m ⟨4, 0, n⟩ w) (fun f => f)) (by omega)) rfl size57 (mp_one _) ?_))
  exact apply_yes_end rfl rfl rfl HU2.out (upd1 _ _ _ _)
end Go.Proofs.Ytmkpljbkmkbnjaa
