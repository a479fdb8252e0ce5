/-
  THE WALKS of place: fits, draw.
-/
import Derived.Test.YtmkpljbkmkbnjaaDelete
import Derived.StillTailTactics
namespace Go.Proofs.Ytmkpljbkmkbnjaa
open Go.RowKit
set_option linter.unusedVariables false
set_option linter.unusedSimpArgs false

/-- the cells of a choice -/
def chArr (m : Sp.Mp) (g : Nat) (i p : Value) : Array Value := #[.int .u32 m.ep, .bool m.o0.up, .int .i64 m.o0.wt, .int .u8 m.o0.host, .bool m.o1.up, .int .i64 m.o1.wt, .int .u8 m.o1.host, .bool m.o2.up, .int .i64 m.o2.wt, .int .u8 m.o2.host, .bool m.o3.up, .int .i64 m.o3.wt, .int .u8 m.o3.host, .bool m.o4.up, .int .i64 m.o4.wt, .int .u8 m.o4.host, .int .u8 (g : Int), i, p]
theorem ch_up (m : Sp.Mp) (g : Nat) (i p : Value) (o : Nat) (ho : o < 5) : (chArr m g i p)[1 + o * 3]? = some (.bool (m.osd o).up) := by
  rcases (show o = 0 ∨ o = 1 ∨ o = 2 ∨ o = 3 ∨ o = 4 by omega) with rfl | rfl | rfl | rfl | rfl <;> rfl
theorem ch_wt (m : Sp.Mp) (g : Nat) (i p : Value) (o : Nat) (ho : o < 5) : (chArr m g i p)[1 + o * 3 + 1]? = some (.int .i64 (m.osd o).wt) := by
  rcases (show o = 0 ∨ o = 1 ∨ o = 2 ∨ o = 3 ∨ o = 4 by omega) with rfl | rfl | rfl | rfl | rfl <;> rfl
theorem ch_host (m : Sp.Mp) (g : Nat) (i p : Value) (o : Nat) (ho : o < 5) : (chArr m g i p)[1 + o * 3 + 2]? = some (.int .u8 (m.osd o).host) := by
  rcases (show o = 0 ∨ o = 1 ∨ o = 2 ∨ o = 3 ∨ o = 4 by omega) with rfl | rfl | rfl | rfl | rfl <;> rfl

def ClashPost (m : Sp.Mp) (d o : Nat) (w : World) (e : Ending) (w' : World) : Prop := e = .returned (.bool (Sp.clash m d o)) ∧ Upd Nix w w'
theorem fits1_any (m : Sp.Mp) (g : Nat) (i p : Value) (d o : Nat) (hd : d < 5) (ho : o < 5) (bo bc c : Nat) (w : World)
    (h1 : w.heap[bo]? = some (.cells #[.int .i64 (d : Int)] 3 (0, 0))) (h2 : w.heap[bc]? = some (.cells #[.pointer (some ⟨c, 0, none⟩)] 134 (0, 0))) (h3 : w.heap[c]? = some (.cells (chArr m g i p) 137 (0, 0))) :
    Calls Try.prog 106 #[.int .i64 (o : Int), .pointer (some ⟨bo, 0, none⟩), .pointer (some ⟨bc, 0, none⟩)] w (ClashPost m d o w) := by
  have c1 : w.cell? ⟨bo, 0, none⟩ = some (.int .i64 (d : Int)) := by rw [cell_blk h1]; rfl
  have c2 : w.cell? ⟨bc, 0, none⟩ = some (.pointer (some ⟨c, 0, none⟩)) := by rw [cell_blk h2]; rfl
  have c3 : w.cell? ⟨c, 1 + o * 3 + 2, none⟩ = some (.int .u8 (m.osd o).host) := by rw [cell_blk h3]; exact ch_host m g i p o ho
  have c4 : w.cell? ⟨c, 1 + d * 3 + 2, none⟩ = some (.int .u8 (m.osd d).host) := by rw [cell_blk h3]; exact ch_host m g i p d hd
  clear h1 h2 h3
  by_cases he : o = d
  · have hb : ((o : Int) == (d : Int)) = true := by rw [beq_iff_eq]; omega
    have HE := hid he
    clear he c3 c4
    go_enter Try.func106, Try.ntmps106
    go_wp2
    go_quiet (fail)
    go_wp2
    go_ret
    exact ⟨ret_bool (by simp [Sp.clash, HE.out]), (Upd.refl _ _).drewN _⟩
  · have hb : ((o : Int) == (d : Int)) = false := by rw [beq_eq_false_iff_ne]; omega
    have HE := hid he
    clear he
    go_enter Try.func106, Try.ntmps106
    go_wp2
    go_quiet (fail)
    go_wp2
    go_ret
    exact ⟨ret_bool (by have := HE.out; simp [Sp.clash, this, BEq.beq]), (Upd.refl _ _).drewN _⟩

/-- a choice in memory: its struct at block c, its two lists -/
structure ChoiceAt (B : Nat) (w : World) (c : Nat) (m : Sp.Mp) (g : Nat) (iV pV : Value) (inn picked : List Nat) : Prop where
  blk : w.heap[c]? = some (.cells (chArr m g iV pV) 137 (0, 0))
  inR : RowN w 0 iV inn
  pR : RowN w B pV picked
  inB : ∀ o ∈ inn, o < 5
  pB : ∀ o ∈ picked, o < 5
  inL : inn.length ≤ 5
  pL : picked.length ≤ 3
  sep : ∀ b, pV.ownBlock = some b → iV.ownBlock ≠ some b
  cB : B ≤ c
/-- it stays behind what spares its blocks; a row of numbers is another block than a choice's struct by its type -/
theorem ChoiceAt.keep {B : Nat} {w w' : World} {c : Nat} {m : Sp.Mp} {g : Nat} {iV pV : Value} {inn picked : List Nat} (h : ChoiceAt B w c m g iV pV inn picked) (hu : Upd Nix w w') : ChoiceAt B w' c m g iV pV inn picked :=
  ⟨hu.keep h.blk (fun f => f), row_keep h.inR hu (fun _ _ f => f), row_keep h.pR hu (fun _ _ f => f), h.inB, h.pB, h.inL, h.pL, h.sep, h.cB⟩

def FitsPost (m : Sp.Mp) (picked : List Nat) (d : Nat) (w : World) (e : Ending) (w' : World) : Prop := e = .returned (.bool (Sp.fits m picked d)) ∧ Upd Nix w w'
theorem enters106 (args : Array Value) (w : World) : (callFunc 106 args).run Try.prog w = .ok (.enter 106 args) w := by kernel_rfl
theorem fits_call {B : Nat} (m : Sp.Mp) (g c d : Nat) (iV pV : Value) (inn picked : List Nat) (hd : d < 5) (w : World) (h : ChoiceAt B w c m g iV pV inn picked) :
    Calls Try.prog 84 #[pV, .func (.func 106) #[] #[.pointer (some ⟨w.heap.size + 1, 0, none⟩), .pointer (some ⟨w.heap.size, 0, none⟩)]] ((w.alloc (.cells #[.pointer (some ⟨c, 0, none⟩)] 134)).alloc (.cells #[.int .i64 (d : Int)] 3))
      fun e w' => e = .returned (.bool (picked.any (Sp.clash m d))) ∧ Upd Nix ((w.alloc (.cells #[.pointer (some ⟨c, 0, none⟩)] 134)).alloc (.cells #[.int .i64 (d : Int)] 3)) w' := by
  have hk : Upd Nix w ((w.alloc (.cells #[.pointer (some ⟨c, 0, none⟩)] 134)).alloc (.cells #[.int .i64 (d : Int)] 3)) := ((Upd.refl _ _).alloc _).alloc _
  refine containsFunc_any 106 #[] #[.pointer (some ⟨w.heap.size + 1, 0, none⟩), .pointer (some ⟨w.heap.size, 0, none⟩)] (Sp.clash m d) picked pV _ B (h.keep hk).pR (by have := h.pL; omega) enters106 Nix ?_
  intro o ho w' hu
  have e1 : w'.heap[w.heap.size + 1]? = some (.cells #[.int .i64 (d : Int)] 3 (0, 0)) := hu.keep (by have := alloc_new (w.alloc (.cells #[.pointer (some ⟨c, 0, none⟩)] 134)) (.cells #[.int .i64 (d : Int)] 3); simpa using this) (fun f => f)
  have e2 : w'.heap[w.heap.size]? = some (.cells #[.pointer (some ⟨c, 0, none⟩)] 134 (0, 0)) := hu.keep (by rw [alloc_old _ _ _ (by simp)]; exact alloc_new _ _) (fun f => f)
  exact fits1_any m g iV pV d o hd (h.pB o ho) (w.heap.size + 1) w.heap.size c w' e1 e2 ((h.keep (hk.trans hu)).blk)
theorem fits_any {B : Nat} (m : Sp.Mp) (g c d : Nat) (iV pV : Value) (inn picked : List Nat) (hd : d < 5) (w : World) (h : ChoiceAt B w c m g iV pV inn picked) :
    Calls Try.prog 97 #[.pointer (some ⟨c, 0, none⟩), .int .i64 (d : Int)] w (FitsPost m picked d w) := by
  have c1 : w.cell? ⟨c, 18, none⟩ = some pV := by rw [cell_blk h.blk]; rfl
  have hc : c < w.heap.size := blk_lt h.blk
  have hcall := fits_call m g c d iV pV inn picked hd w h
  have HC := hid hcall
  clear h hcall
  go_enter Try.func97, Try.ntmps97
  go_wp2_with fail
  refine HC.out.mono ?_
  rintro e w' ⟨rfl, hu⟩
  have HU := hid hu
  clear hu
  go_wp2_with fail
  go_ret
  exact ⟨rfl, (((Upd.refl _ _).alloc _).alloc _).trans HU.out⟩
end Go.Proofs.Ytmkpljbkmkbnjaa
