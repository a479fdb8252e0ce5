/-
  THE WALKS of history.New, Last, Map, Inc.
-/
import Derived.Test.YtmkpljbkmkbnjaaLays
import Derived.Test.YtmkpljbkmkbnjaaFirst
import Derived.Test.YtmkpljbkmkbnjaaApply3
namespace Go.Proofs.Ytmkpljbkmkbnjaa
open Go.RowKit
set_option linter.unusedVariables false
set_option linter.unusedSimpArgs false

/-- a history that has the maps ms and the increments is -/
abbrev HistAt (w : World) (h a i : Nat) (v : Nat → Value) (ms : List Sp.Mp) (is : List Sp.Inc) : Prop := HCore w h a i ms.length v ms is (fun g => Sp.ivs ms g)
def NewPost (w : World) (e : Ending) (w' : World) : Prop :=
  ∃ h a i v, e = .returned (.pointer (some ⟨h, 0, none⟩)) ∧ HistAt w' h a i v [Sp.first] [] ∧ Upd Nix w w' ∧ ∀ b, Foot h a i v b → w.heap.size ≤ b
def nilIv : Nat → Value := fun _ => .slice none 0 0
def fresh3 (w : World) : World := ((w.alloc (.map #[] 0)).alloc (.map #[] 0)).alloc (.cells (hArr w.heap.size (w.heap.size + 1) 0 nilIv) 109)
theorem fresh3_core (w : World) : HCore (fresh3 w) (w.heap.size + 1 + 1) w.heap.size (w.heap.size + 1) 0 nilIv [] [] (fun _ => []) := by
  refine ⟨?_, ?_, ?_, by omega, fun g hg => ⟨[], rfl, World.ownsRow_nil _ _ _ _, by simp⟩, fun g k hg hk hgk b hb => by simp [nilIv, Value.ownBlock] at hb⟩
  · have := alloc_new ((w.alloc (.map #[] 0)).alloc (.map #[] 0)) (.cells (hArr w.heap.size (w.heap.size + 1) 0 nilIv) 109)
    simpa [fresh3] using this
  · unfold fresh3; rw [alloc_old _ _ _ (by simp; omega), alloc_old _ _ _ (by simp)]; exact alloc_new w _
  · unfold fresh3; rw [alloc_old _ _ _ (by simp)]
    have := alloc_new (w.alloc (.map #[] 0)) (.map #[] 0)
    exact (by simpa using this : ((w.alloc (.map #[] 0)).alloc (.map #[] 0)).heap[w.heap.size + 1]? = some (.map #[] 0))
theorem fresh3_upd (w : World) : Upd Nix w (fresh3 w) := (((Upd.refl _ _).alloc _).alloc _).alloc _
set_option maxRecDepth 10000 in
theorem new_any (w : World) : Calls Try.prog 16 #[] w (NewPost w) := by
  have hmm := @run_makeMap Try.prog
  go_enter Try.func16, Try.ntmps16
  go_wp2_with fail
  clear hmm
  refine (first_any _).mono ?_
  rintro e w1 ⟨rfl, hu⟩
  have hu1 : Upd Nix (fresh3 w) w1 := hu
  have hcore := (fresh3_core w).keep0 hu1
  have hl := lays_any (w.heap.size + 1 + 1) w.heap.size (w.heap.size + 1) 0 nilIv [] [] Sp.first w1 hcore rfl (by simp)
  have HL := hid hl; have HU := hid hu1
  clear hu hu1 hcore hl
  go_wp2_with fail
  refine HL.out.mono ?_
  rintro e w2 ⟨rfl, v', hc2, hu2, hf2⟩
  have hfoot : ∀ b, Foot (w.heap.size + 1 + 1) w.heap.size (w.heap.size + 1) v' b → w.heap.size ≤ b := by
    rintro b (rfl | rfl | rfl | ⟨g, hg, hb⟩)
    · omega
    · omega
    · omega
    · rcases hf2 g hg b hb with h | h
      · simp [nilIv, Value.ownBlock] at h
      · have := HU.out.size; have := (fresh3_upd w).size; omega
  have hU : Upd Nix w w2 := ((fresh3_upd w).trans HU.out).trans' hu2 (by
    rintro b hb (rfl | rfl | rfl | ⟨g, hg, hb2⟩)
    · omega
    · omega
    · omega
    · simp [nilIv, Value.ownBlock] at hb2)
  have H2 := hid (And.intro hc2 (And.intro hU hfoot))
  clear hc2 hu2 hf2 hU hfoot
  go_wp2_with fail
  go_ret
  exact ⟨_, _, _, v', rfl, H2.out.1, H2.out.2.1, H2.out.2.2⟩

/-- the last epoch -/
theorem last_any (h a i : Nat) (v : Nat → Value) (ms : List Sp.Mp) (is : List Sp.Inc) (w : World) (H : HistAt w h a i v ms is) :
    Calls Try.prog 18 #[.pointer (some ⟨h, 0, none⟩)] w fun e w' => e = .returned (.int .u32 (ms.length : Int)) ∧ w = w' := by
  have c2 : w.cell? ⟨h, 2, none⟩ = some (.int .u32 (ms.length : Int)) := by rw [cell_blk H.blk]; rfl
  clear H
  go_enter Try.func18, Try.ntmps18
  go_wp2
  go_ret
  exact ⟨rfl, rfl⟩

/-- an epoch's map -/
def mapOf (ms : List Sp.Mp) (x : Nat) : Sp.Mp := if 1 ≤ x ∧ x < ms.length + 1 then ms.getD (x - 1) Sp.zeroMp else Sp.zeroMp
def MapPost (ms : List Sp.Mp) (x : Nat) (w : World) (e : Ending) (w' : World) : Prop :=
  e = .returned (.tuple #[mpV (mapOf ms x), .bool (decide (1 ≤ x ∧ x < ms.length + 1))]) ∧ Upd Nix w w'
theorem results20 : Try.f20.results = #[.cell 4 57, .tmp 5] := by kernel_rfl
theorem zero57 (w : World) : (zeroValue 57).run Try.prog w = .ok (mpV Sp.zeroMp) w := by kernel_rfl
set_option maxRecDepth 10000 in
theorem map_any (h a i : Nat) (v : Nat → Value) (ms : List Sp.Mp) (is : List Sp.Inc) (x : Nat) (w : World) (H : HistAt w h a i v ms is) :
    Calls Try.prog 20 #[.pointer (some ⟨h, 0, none⟩), .int .u32 (x : Int)] w (MapPost ms x w) := by
  have hh := blk_lt H.blk
  have c0 : w.cell? ⟨h, 0, none⟩ = some (.map (some a)) := by rw [cell_blk H.blk]; rfl
  have hcore := H.keep0 ((Upd.refl Nix w).alloc (.cells zeroArr 57))
  have hlk := run_lookup_ok (f := fun k => mpV (ms.getD k Sp.zeroMp)) (k0 := 1) Try.underlying105 zero57 hcore.mblk x
  have hv : (if 1 ≤ x ∧ x < ms.length + 1 then mpV (ms.getD (x - 1) Sp.zeroMp) else mpV Sp.zeroMp) = mpV (mapOf ms x) := by unfold mapOf; split <;> rfl
  rw [hv] at hlk
  have hb0 : (w.alloc (.cells zeroArr 57)).heap[w.heap.size]? = some (.cells zeroArr 57 (0, 0)) := alloc_new w _
  have HLK := hid hlk; have HB0 := hid hb0
  clear hcore hlk hv H hb0
  generalize hmp : mapOf ms x = mp at *
  generalize hok : decide (1 ≤ x ∧ x < ms.length + 1) = ok at *
  have HMP := hid hmp; have HOK := hid hok
  clear hmp hok
  go_enter Try.func20, Try.ntmps20
  go_upto_region 1 with (fail)
  have c1 : (w.alloc (.cells zeroArr 57)).cell? ⟨h, 0, none⟩ = some (.map (some a)) := (((Upd.refl Nix w).alloc (.cells zeroArr 57)).cell (a := ⟨h, 0, none⟩) hh (fun f => f)).trans c0
  have hu1 : Upd Nix w (w.alloc (.cells zeroArr 57)) := (Upd.refl Nix w).alloc _
  clear c0
  generalize w.alloc (.cells zeroArr 57) = w1 at *
  have hlk := HLK.out
  have HU := hid hu1
  clear HLK hu1
  go_wp2_with ((with_reducible refine at_store 57 (.tmp 4) (.tmp 17) ?_); refine wpList_store_row rfl 57 (.tmp 4) (.tmp 17) rfl w.heap.size rfl (mpArr mp) rfl 57 zeroArr (((Upd.refl Nix w1).alloc _).keep HB0.out (fun f => f)) rfl size57 (mp_one _) ?_)
  refine fin2 results20 w.heap.size rfl (setRow_new (mpArr mp) (((Upd.refl Nix w1).alloc _).keep HB0.out (fun f => f))) Try.underlying57 rfl size57 rfl ⟨?_, ?_⟩
  · rw [HMP.out, HOK.out]; rfl
  · exact (HU.out.alloc _).setRow (.inr (Nat.le_refl _)) _

abbrev zeroArr3 : Array Value := #[.int .u8 0, .int .u8 0, .int .i64 0]
abbrev incArr (x : Sp.Inc) : Array Value := #[.int .u8 x.kind, .int .u8 x.osd, .int .i64 x.n]
/-- an epoch's increment -/
def incOf (is : List Sp.Inc) (x : Nat) : Sp.Inc := if 2 ≤ x ∧ x < is.length + 2 then is.getD (x - 2) Sp.zeroInc else Sp.zeroInc
def IncPost (is : List Sp.Inc) (x : Nat) (w : World) (e : Ending) (w' : World) : Prop :=
  e = .returned (.tuple #[incV (incOf is x), .bool (decide (2 ≤ x ∧ x < is.length + 2))]) ∧ Upd Nix w w'
theorem results27 : Try.f27.results = #[.cell 4 50, .tmp 5] := by kernel_rfl
theorem zero50 (w : World) : (zeroValue 50).run Try.prog w = .ok (incV Sp.zeroInc) w := by kernel_rfl
set_option maxRecDepth 10000 in
theorem inc_any (h a i : Nat) (v : Nat → Value) (ms : List Sp.Mp) (is : List Sp.Inc) (x : Nat) (w : World) (H : HistAt w h a i v ms is) :
    Calls Try.prog 27 #[.pointer (some ⟨h, 0, none⟩), .int .u32 (x : Int)] w (IncPost is x w) := by
  have hh := blk_lt H.blk
  have c0 : w.cell? ⟨h, 1, none⟩ = some (.map (some i)) := by rw [cell_blk H.blk]; rfl
  have hcore := H.keep0 ((Upd.refl Nix w).alloc (.cells zeroArr3 50))
  have hlk := run_lookup_ok (f := fun k => incV (is.getD k Sp.zeroInc)) (k0 := 2) Try.underlying106 zero50 hcore.iblk x
  have hv : (if 2 ≤ x ∧ x < is.length + 2 then incV (is.getD (x - 2) Sp.zeroInc) else incV Sp.zeroInc) = incV (incOf is x) := by unfold incOf; split <;> rfl
  rw [hv] at hlk
  have hb0 : (w.alloc (.cells zeroArr3 50)).heap[w.heap.size]? = some (.cells zeroArr3 50 (0, 0)) := alloc_new w _
  have HLK := hid hlk; have HB0 := hid hb0
  clear hcore hlk hv H hb0
  generalize hmp : incOf is x = mp at *
  generalize hok : decide (2 ≤ x ∧ x < is.length + 2) = ok at *
  have HMP := hid hmp; have HOK := hid hok
  clear hmp hok
  go_enter Try.func27, Try.ntmps27
  go_upto_region 1 with (fail)
  have c1 : (w.alloc (.cells zeroArr3 50)).cell? ⟨h, 1, none⟩ = some (.map (some i)) := (((Upd.refl Nix w).alloc (.cells zeroArr3 50)).cell (a := ⟨h, 1, none⟩) hh (fun f => f)).trans c0
  have hu1 : Upd Nix w (w.alloc (.cells zeroArr3 50)) := (Upd.refl Nix w).alloc _
  clear c0
  generalize w.alloc (.cells zeroArr3 50) = w1 at *
  have hlk := HLK.out
  have HU := hid hu1
  clear HLK hu1
  go_wp2_with ((with_reducible refine at_store 50 (.tmp 4) (.tmp 17) ?_); refine wpList_store_row rfl 50 (.tmp 4) (.tmp 17) rfl w.heap.size rfl (incArr mp) rfl 50 zeroArr3 (((Upd.refl Nix w1).alloc _).keep HB0.out (fun f => f)) rfl size50 rfl ?_)
  refine fin2 results27 w.heap.size rfl (setRow_new (incArr mp) (((Upd.refl Nix w1).alloc _).keep HB0.out (fun f => f))) Try.underlying50 rfl size50 rfl ⟨?_, ?_⟩
  · rw [HMP.out, HOK.out]; rfl
  · exact (HU.out.alloc _).setRow (.inr (Nat.le_refl _)) _
end Go.Proofs.Ytmkpljbkmkbnjaa
