/-
  THE WALKS of place's pick, Pick, Acting.
-/
import Derived.Test.YtmkpljbkmkbnjaaDrawO
namespace Go.Proofs.Ytmkpljbkmkbnjaa
open Go.RowKit
set_option linter.unusedVariables false
set_option linter.unusedSimpArgs false

theorem getD_mem {l : List Nat} {k : Nat} (h : k < l.length) : l.getD k 0 ∈ l := by
  rw [List.getD_eq_getElem?_getD, List.getElem?_eq_getElem h]; exact List.getElem_mem h
theorem drawIn_mem (m : Sp.Mp) (g t : Nat) (inn : List Nat) (hn : 0 < inn.length) : drawIn m g t inn ∈ inn := by
  unfold drawIn
  have := bestAt_bd (Sp.straws m g t inn) inn.length
  exact getD_mem (by omega)
theorem drawO_eq (m : Sp.Mp) (g t : Nat) : Sp.drawO m g t = drawIn m g t (Sp.inL m) := rfl
theorem pickFrom_len (m : Sp.Mp) (g r : Nat) (picked : List Nat) : ∀ n t, (Sp.pickFrom m g r picked n t).length ≤ picked.length + 1 := by
  intro n
  induction n with
  | zero => intro t; simp [Sp.pickFrom]
  | succ n ih =>
    intro t
    simp only [Sp.pickFrom]
    split
    · simp
    · exact ih (t + 1)

theorem behind_append {w3 w4 : World} {o : Obj} {row : Option Nat} {c : Nat} {cur : Array Value} {t : TypeId} (hb : w3.heap[c]? = some (.cells cur t (0, 0))) (hgr : (w3.alloc o).grownBy w4 row) (hne : row ≠ some c) :
    w4.heap[c]? = some (.cells cur t (0, 0)) := by
  have hc := blk_lt hb
  rw [hgr.block c (by simp; omega) (fun e => hne e.symm), alloc_old _ _ _ hc]
  exact hb
theorem pick_push {B : Nat} {w3 w4 : World} {c : Nat} {m : Sp.Mp} {g : Nat} {iV pV : Value} {inn picked : List Nat} {d g4 cap4 : Nat} {o : Obj} (hL : ChoiceAt B w3 c m g iV pV inn picked) (hd : d < 5) (hp : picked.length ≤ 2)
    (hown : w4.ownsRow B 3 1 (.slice (some ⟨g4, 0, none⟩) (picked.length + 1) cap4) (picked.length + 1) (natsV picked ++ [.int .i64 (d : Int)])) (hgr : (w3.alloc o).grownBy w4 pV.ownBlock) (hat : pV.ownBlock = some g4 ∨ g4 = (w3.alloc o).heap.size)
    (hcne : pV.ownBlock ≠ some c) :
    ChoiceAt B (w4.setCell ⟨c, 18, none⟩ (.slice (some ⟨g4, 0, none⟩) (picked.length + 1) cap4)) c m g iV (.slice (some ⟨g4, 0, none⟩) (picked.length + 1) cap4) inn (picked ++ [d]) ∧
      Upd (fun b => b = c ∨ pV.ownBlock = some b) w3 (w4.setCell ⟨c, 18, none⟩ (.slice (some ⟨g4, 0, none⟩) (picked.length + 1) cap4)) := by
  have hb4 := behind_append hL.blk hgr hcne
  have hu4 : Upd (fun b => b = c ∨ pV.ownBlock = some b) w3 w4 := ((Upd.refl _ w3).alloc o).trans ((Upd.of_grown hgr).mono (fun k _ e => Or.inr e.symm))
  have hcb : c < w3.heap.size := blk_lt hL.blk
  have hset : ∀ F : Nat → Prop, F c → Upd F w4 (w4.setCell ⟨c, 18, none⟩ (.slice (some ⟨g4, 0, none⟩) (picked.length + 1) cap4)) := fun F hF => (Upd.refl F w4).setCell (p := ⟨c, 18, none⟩) (.inl hF) _
  have hu5 := hu4.trans (hset _ (.inl rfl))
  have hg4c : g4 ≠ c := fun e => by
    rcases hat with h | h
    · exact hcne (by rw [h, e])
    · simp at h; omega
  refine ⟨⟨?_, ?_, ?_, hL.inB, ?_, hL.inL, by simp; omega, ?_, hL.cB⟩, hu5⟩
  · have := blk_setCell (i := 18) (v := .slice (some ⟨g4, 0, none⟩) (picked.length + 1) cap4) hb4
    exact this
  · refine row_keep hL.inR hu5 (fun b hb => ?_)
    rintro (e | e)
    · subst e
      obtain ⟨_, cur, h1⟩ := row_blk hL.inR hb
      rw [hL.blk] at h1; simp at h1
    · exact hL.sep b e hb
  · unfold RowN
    rw [natsV_snoc, List.length_append]
    exact row_keep hown (hset (fun b => b = c) rfl) (fun b hb e => by simp [Value.ownBlock] at hb; omega)
  · intro o ho
    rw [List.mem_append] at ho
    rcases ho with ho | ho
    · exact hL.pB o ho
    · simp at ho; omega
  · intro b hb hi
    simp [Value.ownBlock] at hb
    subst hb
    rcases hat with h | h
    · exact hL.sep _ h hi
    · have := (World.ownsRow.lt hL.inR _ hi).2
      simp at h; omega
def PickPost (B : Nat) (m : Sp.Mp) (g r c : Nat) (iV pV : Value) (inn picked : List Nat) (w : World) (e : Ending) (w' : World) : Prop :=
  e = .returned (.tuple #[]) ∧ ∃ pV', ChoiceAt B w' c m g iV pV' inn (Sp.pickFrom m g r picked 20 0) ∧ Upd (fun b => b = c ∨ pV.ownBlock = some b) w w'
theorem enters96 (args : Array Value) (w : World) : (callFunc 96 args).run Try.prog w = .ok (.enter 96 args) w := by kernel_rfl
set_option maxRecDepth 10000 in
set_option maxHeartbeats 1000000 in
theorem pick1_any {B : Nat} (m : Sp.Mp) (g c r : Nat) (iV pV : Value) (picked : List Nat) (hg : g < 256) (hr : r < 3) (hn0 : 0 < (Sp.inL m).length) (hp2 : picked.length ≤ 2) (w : World) (h : ChoiceAt B w c m g iV pV (Sp.inL m) picked) :
    Calls Try.prog 76 #[.pointer (some ⟨c, 0, none⟩), .int .i64 (r : Int)] w (PickPost B m g r c iV pV (Sp.inL m) picked w) := by
  obtain ⟨inn, hinn⟩ : ∃ inn, inn = Sp.inL m := ⟨_, rfl⟩
  obtain ⟨i0, hi, hz0, hz1, hz2⟩ := info_parts info3
  have hc : c < w.heap.size := blk_lt h.blk
  rw [← hinn] at h hn0 ⊢
  have H := hid h; have HI := hid hinn
  clear h hinn
  go_enter Try.func76, Try.ntmps76
  go_wp2_with fail
  go_loopw [7] (fun i wr => ∃ t : Nat, t ≤ 20 ∧ i = .int .i64 t ∧ Hid (Upd Nix w wr ∧ Sp.pickFrom m g r picked (20 - t) t = Sp.pickFrom m g r picked 20 0)) (fun i _ => 20 - (intOf i).toNat)
  case atStart => exact ⟨0, by omega, rfl, Upd.refl _ _, rfl⟩
  case round =>
    obtain ⟨t, ht, rfl, HR⟩ := hrel
    by_cases hlt : t < 20
    · have hL := H.out.keep HR.out.1
      have hcall := draw1_any m g c (r + t * 3) iV pV inn picked hg (by omega) hn0 wr hL
      have hmem := drawIn_mem m g (r + t * 3) inn hn0
      have hd5 := hL.inB _ hmem
      have hstep : Sp.pickFrom m g r picked (20 - t) t = if Sp.fits m picked (drawIn m g (r + t * 3) inn) then picked ++ [drawIn m g (r + t * 3) inn] else Sp.pickFrom m g r picked (20 - (t + 1)) (t + 1) := by
        have e : 20 - t = (20 - (t + 1)) + 1 := by omega
        rw [e]
        simp only [Sp.pickFrom]
        rw [drawO_eq, ← HI.out]
      unfold DrawPost at hcall
      generalize hd : drawIn m g (r + t * 3) inn = d at *
      have HL := hid hL; have HC := hid hcall; have HS := hid hstep
      clear hL hcall hstep hmem hd
      go_wp2_with fail
      refine HC.out.mono ?_
      rintro e w2 ⟨rfl, hu⟩
      have hL2 := HL.out.keep hu
      have hf := fits_any m g c d iV pV inn picked hd5 w2 hL2
      have HF := hid hf; have HU := hid hu; have HL2 := hid hL2
      clear hf hu hL2
      go_wp2_with fail
      refine HF.out.mono ?_
      rintro e w3 ⟨rfl, hu⟩
      have hL3 := HL2.out.keep hu
      have hU : Upd Nix w w3 := (HR.out.1.trans HU.out).trans hu
      have HL3 := hid hL3; have HU3 := hid hU
      clear hu hL3 hU
      cases hfit : Sp.fits m picked d
      · have HFT := hid hfit
        clear hfit
        go_wp2
        go_roundw
        case rel => exact ⟨t + 1, by omega, by go_num, HU3.out, by rw [← HR.out.2, HS.out, HFT.out, if_neg (by simp)]⟩
        case measure => simp [intOf]; omega
      · have HFT := hid hfit
        clear hfit
        have hown : w3.ownsRow B 3 1 pV picked.length (natsV picked) := HL3.out.pR
        have cp : w3.cell? ⟨c, 18, none⟩ = some pV := by rw [cell_blk HL3.out.blk]; rfl
        have hB3 : B ≤ w3.heap.size := by have := blk_lt HL3.out.blk; have := HL3.out.cB; omega
        have hcne : pV.ownBlock ≠ some c := fun e => by
          obtain ⟨_, cur, h1⟩ := row_blk hown e
          rw [HL3.out.blk] at h1; simp at h1
        have hc3 : c < w3.heap.size := blk_lt HL3.out.blk
        go_wp2_with (at_builtin; refine wpList_append_lies _ rfl _ _ 60 rfl B 3 i0 (.int .i64 0) 1 8 Try.underlying60 hi hz0 hz1 hz2 rfl (by decide) pV picked.length (natsV picked) rfl (hown.alloc _) ⟨w3.heap.size, 0, none⟩ 1 1 [.int .i64 (d : Int)] rfl rfl (one_cell_new _ _ _) (one_oneCell _) (by decide) (by unfold maxLen; omega) (by omega) (by simp; omega) _ rfl ?_; intro g4 cap4 w4 hown4 hgr hat hlt4; have hb4 := behind_append HL3.out.blk hgr hcne; have cc : w4.cell? ⟨c, 18, none⟩ = some pV := (cell_blk hb4 18).trans rfl; have ff := free_blk hb4 18; have HB4 := hid hb4; clear hb4)
        go_end0
        have hpush := pick_push HL3.out hd5 hp2 hown4 hgr hat hcne
        refine ⟨rfl, .slice (some ⟨g4, 0, none⟩) (picked.length + 1) cap4, ?_, (HU3.out.nix).trans hpush.2⟩
        have h2 := HR.out.2
        rw [← h2, HS.out, HFT.out, if_pos rfl]
        exact hpush.1
    · have : t = 20 := by omega
      subst this
      go_wp2
      go_end0
      refine ⟨rfl, pV, ?_, HR.out.1.nix⟩
      have h2 := HR.out.2
      rw [← h2]
      exact H.out.keep HR.out.1
end Go.Proofs.Ytmkpljbkmkbnjaa
