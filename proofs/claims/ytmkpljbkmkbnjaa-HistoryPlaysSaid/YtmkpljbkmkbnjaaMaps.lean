/-
  THE WALKS of maps.Is, maps.IsInc: what they compute is Sp.isMap, Sp.isInc.
-/
import Derived.Test.YtmkpljbkmkbnjaaBest
namespace Go.Proofs.Ytmkpljbkmkbnjaa
open Go.RowKit
set_option linter.unusedVariables false
set_option linter.unusedSimpArgs false

/-- a map's fifteen cells, and all sixteen -/
abbrev osdsV (m : Sp.Mp) : Value := .agg #[.bool m.o0.up, .int .i64 m.o0.wt, .int .u8 m.o0.host, .bool m.o1.up, .int .i64 m.o1.wt, .int .u8 m.o1.host, .bool m.o2.up, .int .i64 m.o2.wt, .int .u8 m.o2.host, .bool m.o3.up, .int .i64 m.o3.wt, .int .u8 m.o3.host, .bool m.o4.up, .int .i64 m.o4.wt, .int .u8 m.o4.host]
abbrev mpV (m : Sp.Mp) : Value := .agg #[.int .u32 m.ep, .bool m.o0.up, .int .i64 m.o0.wt, .int .u8 m.o0.host, .bool m.o1.up, .int .i64 m.o1.wt, .int .u8 m.o1.host, .bool m.o2.up, .int .i64 m.o2.wt, .int .u8 m.o2.host, .bool m.o3.up, .int .i64 m.o3.wt, .int .u8 m.o3.host, .bool m.o4.up, .int .i64 m.o4.wt, .int .u8 m.o4.host]
abbrev osdV (o : Sp.Osd) : Value := .agg #[.bool o.up, .int .i64 o.wt, .int .u8 o.host]
abbrev incV (x : Sp.Inc) : Value := .agg #[.int .u8 x.kind, .int .u8 x.osd, .int .i64 x.n]

theorem idx0 (m : Sp.Mp) (w : World) : (Instr.index 55 (osdsV m) (.int .i64 0)).run Try.prog w = .ok (osdV m.o0) w := by kernel_rfl
theorem idx1 (m : Sp.Mp) (w : World) : (Instr.index 55 (osdsV m) (.int .i64 1)).run Try.prog w = .ok (osdV m.o1) w := by kernel_rfl
theorem idx2 (m : Sp.Mp) (w : World) : (Instr.index 55 (osdsV m) (.int .i64 2)).run Try.prog w = .ok (osdV m.o2) w := by kernel_rfl
theorem idx3 (m : Sp.Mp) (w : World) : (Instr.index 55 (osdsV m) (.int .i64 3)).run Try.prog w = .ok (osdV m.o3) w := by kernel_rfl
theorem idx4 (m : Sp.Mp) (w : World) : (Instr.index 55 (osdsV m) (.int .i64 4)).run Try.prog w = .ok (osdV m.o4) w := by kernel_rfl

theorem okOsd_yes {o : Sp.Osd} (h1 : 0 ≤ o.wt) (h2 : o.wt ≤ 16) (h3 : o.host < 8) : Sp.okOsd o = true := by simp [Sp.okOsd, h1, h2, h3]
theorem isMap_no {m : Sp.Mp} {o : Sp.Osd} (h : o = m.o0 ∨ o = m.o1 ∨ o = m.o2 ∨ o = m.o3 ∨ o = m.o4) (hn : o.wt < 0 ∨ 16 < o.wt ∨ 8 ≤ o.host) : Sp.isMap m = false := by
  have ho : Sp.okOsd o = false := by
    simp only [Sp.okOsd, Bool.and_eq_false_iff, decide_eq_false_iff_not]; omega
  unfold Sp.isMap
  rcases h with rfl | rfl | rfl | rfl | rfl <;> simp [ho]
theorem ret_false {b : Bool} (h : b = false) : Ending.returned (.bool false) = .returned (.bool b) := by rw [h]
theorem ret_bool {a b : Bool} (h : a = b) : Ending.returned (.bool a) = .returned (.bool b) := by rw [h]

def IsPost (m : Sp.Mp) (w : World) (e : Ending) (w' : World) : Prop := e = .returned (.bool (Sp.isMap m)) ∧ Upd Nix w w'
/-- the rest of the osds are fine -/
def okUpto (m : Sp.Mp) (k : Nat) : Prop := ∀ j, j < k → Sp.okOsd (m.osd j) = true
theorem okUpto_succ {m : Sp.Mp} {k : Nat} (h : okUpto m k) (hk : Sp.okOsd (m.osd k) = true) : okUpto m (k + 1) := by
  intro j hj
  by_cases e : j = k
  · subst e; exact hk
  · exact h j (by omega)
theorem isMap_all {m : Sp.Mp} (h : okUpto m 5) : Sp.isMap m = (decide (1 ≤ m.ep) && decide (m.ep ≤ 60)) := by
  have h0 := h 0 (by omega); have h1 := h 1 (by omega); have h2 := h 2 (by omega); have h3 := h 3 (by omega); have h4 := h 4 (by omega)
  simp only [Sp.Mp.osd] at h0 h1 h2 h3 h4
  unfold Sp.isMap
  rw [h0, h1, h2, h3, h4]; simp
set_option maxHeartbeats 1000000 in
theorem is_any (m : Sp.Mp) (w : World) : Calls Try.prog 73 #[mpV m] w (IsPost m w) := by
  have i0 := idx0 m; have i1 := idx1 m; have i2 := idx2 m; have i3 := idx3 m; have i4 := idx4 m
  go_enter Try.func73, Try.ntmps73
  go_wp2
  go_loopw [7] (fun i wr => ∃ k : Nat, k ≤ 5 ∧ i = .int .i64 k ∧ wr.cell? ⟨w.heap.size, 0, none⟩ = some (.int .u32 m.ep) ∧ Hid (Upd Nix w wr ∧ w.heap.size < wr.heap.size ∧ okUpto m k)) (fun i _ => 5 - (intOf i).toNat)
  case atStart => exact ⟨0, by omega, rfl, by go_simp, (Upd.refl _ _).alloc _, by simp, fun j h => by omega⟩
  case round =>
    obtain ⟨k, hk, rfl, hc, H⟩ := hrel
    have hs := H.out.2.1
    rcases (show k = 0 ∨ k = 1 ∨ k = 2 ∨ k = 3 ∨ k = 4 ∨ k = 5 by omega) with rfl | rfl | rfl | rfl | rfl | rfl
    · go_wp2
      all_goals first
        | (go_ret
           exact ⟨ret_false (isMap_no (o := m.o0) (by simp) (by omega)), H.out.1.alloc _⟩)
        | (go_roundw
           case rel => exact ⟨1, by omega, by go_num, by go_simp, H.out.1.alloc _, by simp; omega, okUpto_succ H.out.2.2 (okOsd_yes (o := m.o0) (by omega) (by omega) (by omega))⟩
           case measure => simp [intOf])
    · go_wp2
      all_goals first
        | (go_ret
           exact ⟨ret_false (isMap_no (o := m.o1) (by simp) (by omega)), H.out.1.alloc _⟩)
        | (go_roundw
           case rel => exact ⟨2, by omega, by go_num, by go_simp, H.out.1.alloc _, by simp; omega, okUpto_succ H.out.2.2 (okOsd_yes (o := m.o1) (by omega) (by omega) (by omega))⟩
           case measure => simp [intOf])
    · go_wp2
      all_goals first
        | (go_ret
           exact ⟨ret_false (isMap_no (o := m.o2) (by simp) (by omega)), H.out.1.alloc _⟩)
        | (go_roundw
           case rel => exact ⟨3, by omega, by go_num, by go_simp, H.out.1.alloc _, by simp; omega, okUpto_succ H.out.2.2 (okOsd_yes (o := m.o2) (by omega) (by omega) (by omega))⟩
           case measure => simp [intOf])
    · go_wp2
      all_goals first
        | (go_ret
           exact ⟨ret_false (isMap_no (o := m.o3) (by simp) (by omega)), H.out.1.alloc _⟩)
        | (go_roundw
           case rel => exact ⟨4, by omega, by go_num, by go_simp, H.out.1.alloc _, by simp; omega, okUpto_succ H.out.2.2 (okOsd_yes (o := m.o3) (by omega) (by omega) (by omega))⟩
           case measure => simp [intOf])
    · go_wp2
      all_goals first
        | (go_ret
           exact ⟨ret_false (isMap_no (o := m.o4) (by simp) (by omega)), H.out.1.alloc _⟩)
        | (go_roundw
           case rel => exact ⟨5, by omega, by go_num, by go_simp, H.out.1.alloc _, by simp; omega, okUpto_succ H.out.2.2 (okOsd_yes (o := m.o4) (by omega) (by omega) (by omega))⟩
           case measure => simp [intOf])
    · go_wp2
      · go_ret
        exact ⟨ret_bool (by rw [isMap_all H.out.2.2]; simp; omega), H.out.1⟩
      · go_ret
        exact ⟨ret_false (by rw [isMap_all H.out.2.2]; simp; omega), H.out.1⟩
end Go.Proofs.Ytmkpljbkmkbnjaa
