/-
  THE WALK of place.Acting: the daemons of a group that are up, as Sp.acting.
-/
import Derived.Test.YtmkpljbkmkbnjaaPicks
namespace Go.Proofs.Ytmkpljbkmkbnjaa
open Go.RowKit
set_option linter.unusedVariables false
set_option linter.unusedSimpArgs false

theorem picks_any (m : Sp.Mp) (g : Nat) (hg : g < 256) (w : World) : Calls Try.prog 48 #[mpV m, .int .u8 (g : Int)] w (PicksPost m g w) := by
  by_cases h : Sp.isMap m = true ∧ g < 4
  · exact picks_yes m g w h.1 h.2
  · exact picks_no m g hg w h
theorem enters49 (args : Array Value) (w : World) : (callFunc 49 args).run Try.prog w = .ok (.enter 49 args) w := by kernel_rfl
theorem mp_up (m : Sp.Mp) (o : Nat) (ho : o < 5) : (mpArr m)[1 + o * 3]? = some (.bool (m.osd o).up) := by
  rcases (show o = 0 ∨ o = 1 ∨ o = 2 ∨ o = 3 ∨ o = 4 by omega) with rfl | rfl | rfl | rfl | rfl <;> rfl
theorem act1_any (m : Sp.Mp) (o b : Nat) (ho : o < 5) (w : World) (hb : w.heap[b]? = some (.cells (mpArr m) 57 (0, 0))) :
    Calls Try.prog 49 #[.int .i64 (o : Int), .pointer (some ⟨b, 0, none⟩)] w fun e w' => e = .returned (.bool (!(m.osd o).up)) ∧ Upd Nix w w' := by
  have c1 : w.cell? ⟨b, 1 + o * 3, none⟩ = some (.bool (m.osd o).up) := by rw [cell_blk hb]; exact mp_up m o ho
  have ho5 : (o : Int) < 5 := by omega
  generalize (m.osd o).up = u at *
  clear hb
  go_enter Try.func49, Try.ntmps49
  go_wp2
  go_ret
  exact ⟨rfl, Upd.refl _ _⟩
def ActPost (m : Sp.Mp) (g : Nat) (w : World) (e : Ending) (w' : World) : Prop :=
  ∃ v, e = .returned v ∧ RowN w' w.heap.size v (Sp.acting m g) ∧ Upd Nix w w' ∧ (Sp.acting m g).length ≤ 3 ∧ ∀ o ∈ Sp.acting m g, o < 5
theorem acting_keep (m : Sp.Mp) (g : Nat) : keep (fun o => !(m.osd o).up) (Sp.pick m g) = Sp.acting m g := by
  unfold keep Sp.acting; simp
theorem acting_any (m : Sp.Mp) (g : Nat) (hg : g < 256) (w : World) : Calls Try.prog 22 #[mpV m, .int .u8 (g : Int)] w (ActPost m g w) := by
  have hlen : (Sp.acting m g).length ≤ (Sp.pick m g).length := List.length_filter_le _ _
  have hsub : ∀ o ∈ Sp.acting m g, o ∈ Sp.pick m g := fun o ho => (List.mem_filter.1 ho).1
  have HLN := hid hlen; have HSB := hid hsub
  clear hlen hsub
  go_enter Try.func22, Try.ntmps22
  go_wp2_with fail
  refine (picks_any m g hg _).mono ?_
  rintro e w' ⟨v, rfl, hr, hu, hp3, hp5⟩
  have hb : w'.heap[w.heap.size]? = some (.cells (mpArr m) 57 (0, 0)) := hu.keep (alloc_new w _) (fun f => f)
  have hdel := deleteFunc_any 49 #[] #[.pointer (some ⟨w.heap.size, 0, none⟩)] (fun o => !(m.osd o).up) (Sp.pick m g) v w' w.heap.size (row_mono hr (by simp)) (by omega) enters49 (by
    intro o ho w2 hw2
    refine act1_any m o w.heap.size (hp5 o ho) w2 (hw2.keep hb (fun e => ?_))
    obtain ⟨_, cur, h1⟩ := row_blk hr e
    rw [hb] at h1; simp at h1)
  have HD := hid hdel
  have hU : Upd Nix w w' := ((Upd.refl _ _).alloc _).trans hu
  have HU := hid hU; have HR := hid hr
  have HP := hid (And.intro hp3 hp5)
  clear hu hU hdel hb hr hp3 hp5
  go_wp2_with fail
  refine HD.out.mono ?_
  rintro e w2 ⟨v2, rfl, hr2, hu2⟩
  rw [acting_keep] at hr2
  have hU2 : Upd Nix w w2 := HU.out.trans' hu2 (fun i hi e => by have := (row_blk HR.out e).1; simp at this; omega)
  have H2 := hid (And.intro hr2 hU2)
  clear hr2 hu2 hU2
  go_wp2_with fail
  go_ret
  exact ⟨_, rfl, H2.out.1, H2.out.2, by have := HLN.out; have := HP.out.1; omega, fun o ho => HP.out.2 o (HSB.out o ho)⟩
end Go.Proofs.Ytmkpljbkmkbnjaa
