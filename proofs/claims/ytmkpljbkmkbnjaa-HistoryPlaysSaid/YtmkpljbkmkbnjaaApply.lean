/-
  THE WALKS of maps.IsInc, maps.Apply, maps.First.
-/
import Derived.Test.YtmkpljbkmkbnjaaActing
import Derived.Test.YtmkpljbkmkbnjaaStore
namespace Go.Proofs.Ytmkpljbkmkbnjaa
open Go.RowKit
set_option linter.unusedVariables false
set_option linter.unusedSimpArgs false

/-- the numbers of an increment fit their kinds -/
structure IncOk (x : Sp.Inc) : Prop where
  k0 : 0 ≤ x.kind
  k1 : x.kind ≤ 255
  o0 : 0 ≤ x.osd
  o1 : x.osd ≤ 255
def IsIncPost (x : Sp.Inc) (w : World) (e : Ending) (w' : World) : Prop := e = .returned (.bool (Sp.isInc x)) ∧ Upd Nix w w'
set_option maxRecDepth 10000 in
theorem isInc_any (x : Sp.Inc) (w : World) : Calls Try.prog 24 #[incV x] w (IsIncPost x w) := by
  go_enter Try.func24, Try.ntmps24
  go_wp2
  all_goals go_ret
  all_goals refine ⟨ret_bool ?_, (Upd.refl _ _).alloc _⟩
  all_goals unfold Sp.isInc
  all_goals simp only [beq_iff_eq, beq_eq_false_iff_ne, ne_eq] at *
  all_goals (simp [*]; try omega)

def zeroMp : Sp.Mp := ⟨0, ⟨false, 0, 0⟩, ⟨false, 0, 0⟩, ⟨false, 0, 0⟩, ⟨false, 0, 0⟩, ⟨false, 0, 0⟩⟩
abbrev zeroArr : Array Value := #[.int .u32 0, .bool false, .int .i64 0, .int .u8 0, .bool false, .int .i64 0, .int .u8 0, .bool false, .int .i64 0, .int .u8 0, .bool false, .int .i64 0, .int .u8 0, .bool false, .int .i64 0, .int .u8 0]
abbrev zeroV : Value := .agg #[.int .u32 0, .bool false, .int .i64 0, .int .u8 0, .bool false, .int .i64 0, .int .u8 0, .bool false, .int .i64 0, .int .u8 0, .bool false, .int .i64 0, .int .u8 0, .bool false, .int .i64 0, .int .u8 0]
def ApplyNo (w : World) (e : Ending) (w' : World) : Prop := e = .returned (.tuple #[zeroV, .int .i64 40]) ∧ Upd Nix w w'
def ApplyYes (m : Sp.Mp) (w : World) (e : Ending) (w' : World) : Prop := e = .returned (.tuple #[mpV m, .int .i64 0]) ∧ Upd Nix w w'
/-- the three blocks that Apply begins with -/
def three (m : Sp.Mp) (x : Sp.Inc) (w : World) : World := ((w.alloc (.cells (mpArr m) 57)).alloc (.cells #[.int .u8 x.kind, .int .u8 x.osd, .int .i64 x.n] 50)).alloc (.cells zeroArr 57)
theorem three_upd (m : Sp.Mp) (x : Sp.Inc) (w : World) : Upd Nix w (three m x w) := (((Upd.refl _ _).alloc _).alloc _).alloc _
theorem three_0 (m : Sp.Mp) (x : Sp.Inc) (w : World) : (three m x w).heap[w.heap.size]? = some (.cells (mpArr m) 57 (0, 0)) := by
  unfold three; rw [alloc_old _ _ _ (by simp; omega), alloc_old _ _ _ (by simp)]; exact alloc_new w _
theorem three_1 (m : Sp.Mp) (x : Sp.Inc) (w : World) : (three m x w).heap[w.heap.size + 1]? = some (.cells #[.int .u8 x.kind, .int .u8 x.osd, .int .i64 x.n] 50 (0, 0)) := by
  unfold three; rw [alloc_old _ _ _ (by simp)]
  have := alloc_new (w.alloc (.cells (mpArr m) 57)) (.cells #[.int .u8 x.kind, .int .u8 x.osd, .int .i64 x.n] 50)
  simpa using this
theorem three_2 (m : Sp.Mp) (x : Sp.Inc) (w : World) : (three m x w).heap[w.heap.size + 1 + 1]? = some (.cells zeroArr 57 (0, 0)) := by
  unfold three
  have := alloc_new ((w.alloc (.cells (mpArr m) 57)).alloc (.cells #[.int .u8 x.kind, .int .u8 x.osd, .int .i64 x.n] 50)) (.cells zeroArr 57)
  simpa using this
theorem size57 : (Try.prog.info? 57).map (·.size) = some 16 := by kernel_rfl
theorem size50 : (Try.prog.info? 50).map (·.size) = some 3 := by kernel_rfl
theorem results44 : Try.f44.results = #[.cell 4 57, .tmp 5] := by kernel_rfl
theorem zero_one : zeroArr.toList.all (fun v => v.oneCell') = true := rfl
/-- the end of the refusal -/
theorem apply_no_end {w w2 : World} {a : Act} (h4 : a.tmps.getD 4 undef = .pointer (some ⟨w.heap.size + 1 + 1, 0, none⟩)) (h5 : a.tmps.getD 5 undef = .int .i64 40) (hd : a.defers = []) {m : Sp.Mp} {x : Sp.Inc} (hu : Upd Nix (three m x w) w2) :
    bodyPost Try.prog Try.f44 (ApplyNo w) .ret a (w2.setRow (w.heap.size + 1 + 1) zeroArr) := by
  refine fin2 results44 (w.heap.size + 1 + 1) h4 (setRow_new zeroArr (hu.keep (three_2 m x w) (fun f => f))) Try.underlying57 rfl size57 hd ?_
  rw [h5]
  exact ⟨rfl, ((three_upd m x w).trans hu).setRow (.inr (by omega)) _⟩
set_option maxRecDepth 10000 in
set_option maxHeartbeats 1000000 in
theorem apply_no (m : Sp.Mp) (x : Sp.Inc) (w : World) (h : Sp.okApply m x = false) : Calls Try.prog 44 #[mpV m, incV x] w (ApplyNo w) := by
  have Z1 := hid zero_one
  by_cases h1 : Sp.isMap m = true
  · by_cases h2 : Sp.isInc x = true
    · have h3 : (m.ep == 60) = true := by simpa [Sp.okApply, h1, h2] using h
      have H1 := hid h1; have H2 := hid h2
      clear h h1 h2
      go_enter Try.func44, Try.ntmps44
      go_wp2_with fail
      refine (is_any m _).mono ?_
      rintro e w1 ⟨rfl, hu⟩
      rw [H1.out]
      have hu1 : Upd Nix (three m x w) w1 := hu
      have c0 := cell_blk (hu1.keep (three_0 m x w) (fun f => f))
      have c1 := cell_blk (hu1.keep (three_1 m x w) (fun f => f))
      have HU := hid hu1
      clear hu hu1
      go_wp2_with fail
      refine (isInc_any x _).mono ?_
      rintro e w2 ⟨rfl, hu⟩
      rw [H2.out]
      have hu2 : Upd Nix (three m x w) w2 := HU.out.trans hu
      have d0 := cell_blk (hu2.keep (three_0 m x w) (fun f => f))
      have HU2 := hid hu2
      clear hu hu2 c0 c1
      go_wp2_with ((with_reducible refine at_store 57 (.tmp 4) (.tmp 20) ?_); refine wpList_store_row rfl 57 (.tmp 4) (.tmp 20) rfl (w.heap.size + 1 + 1) rfl zeroArr rfl 57 zeroArr (HU2.out.keep (three_2 m x w) (fun f => f)) rfl size57 Z1.out ?_)
      exact apply_no_end rfl rfl rfl HU2.out
    · have h2' : Sp.isInc x = false := by simpa using h2
      have H1 := hid h1; have H2 := hid h2'
      clear h h1 h2 h2'
      go_enter Try.func44, Try.ntmps44
      go_wp2_with fail
      refine (is_any m _).mono ?_
      rintro e w1 ⟨rfl, hu⟩
      rw [H1.out]
      have hu1 : Upd Nix (three m x w) w1 := hu
      have c0 := cell_blk (hu1.keep (three_0 m x w) (fun f => f))
      have c1 := cell_blk (hu1.keep (three_1 m x w) (fun f => f))
      have HU := hid hu1
      clear hu hu1
      go_wp2_with fail
      refine (isInc_any x _).mono ?_
      rintro e w2 ⟨rfl, hu⟩
      rw [H2.out]
      have hu2 : Upd Nix (three m x w) w2 := HU.out.trans hu
      have d0 := cell_blk (hu2.keep (three_0 m x w) (fun f => f))
      have HU2 := hid hu2
      clear hu hu2 c0 c1
      go_wp2_with ((with_reducible refine at_store 57 (.tmp 4) (.tmp 20) ?_); refine wpList_store_row rfl 57 (.tmp 4) (.tmp 20) rfl (w.heap.size + 1 + 1) rfl zeroArr rfl 57 zeroArr (HU2.out.keep (three_2 m x w) (fun f => f)) rfl size57 Z1.out ?_)
      exact apply_no_end rfl rfl rfl HU2.out
  · have h1' : Sp.isMap m = false := by simpa using h1
    have H1 := hid h1'
    clear h h1 h1'
    go_enter Try.func44, Try.ntmps44
    go_wp2_with fail
    refine (is_any m _).mono ?_
    rintro e w2 ⟨rfl, hu⟩
    rw [H1.out]
    have hu2 : Upd Nix (three m x w) w2 := hu
    have d0 := cell_blk (hu2.keep (three_0 m x w) (fun f => f))
    have HU2 := hid hu2
    clear hu hu2
    go_wp2_with ((with_reducible refine at_store 57 (.tmp 4) (.tmp 20) ?_); refine wpList_store_row rfl 57 (.tmp 4) (.tmp 20) rfl (w.heap.size + 1 + 1) rfl zeroArr rfl 57 zeroArr (HU2.out.keep (three_2 m x w) (fun f => f)) rfl size57 Z1.out ?_)
    exact apply_no_end rfl rfl rfl HU2.out
end Go.Proofs.Ytmkpljbkmkbnjaa
