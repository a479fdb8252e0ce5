/-
  WHAT ONE ROUND OF lays DOES to a history in memory.
-/
import Derived.Test.YtmkpljbkmkbnjaaEqual
namespace Go.Proofs.Ytmkpljbkmkbnjaa
open Go.RowKit
set_option linter.unusedVariables false
set_option linter.unusedSimpArgs false

theorem HCore.congrL {w : World} {h a i n : Nat} {v : Nat → Value} {ms : List Sp.Mp} {is : List Sp.Inc} {L L' : Nat → List (Int × List Nat)} (H : HCore w h a i n v ms is L) (e : ∀ g, g < 4 → L g = L' g) : HCore w h a i n v ms is L' :=
  ⟨H.blk, H.mblk, H.iblk, H.ai, fun g hg => by rw [← e g hg]; exact H.iv g hg, H.sep⟩
theorem setIv_same (v : Nat → Value) (k : Nat) (x : Value) : setIv v k x k = x := by simp [setIv]
theorem setIv_other (v : Nat → Value) (k g : Nat) (x : Value) (h : g ≠ k) : setIv v k x g = v g := by simp [setIv, h]
theorem IvAt.setCell {w : World} {v : Value} {l : List (Int × List Nat)} (h : IvAt w v l) {b i : Nat} {c : Array Value} {fr : Nat × Nat} (hb : w.heap[b]? = some (.cells c 109 fr)) (x : Value) : IvAt (w.setCell ⟨b, i, none⟩ x) v l := by
  refine h.keep (F := fun k => k = b) (Upd.setCell (F := fun k => k = b) (Upd.refl _ w) (p := ⟨b, i, none⟩) (.inl rfl) x) (fun k hk e => ⟨fun e2 => ?_, fun cur fr e2 => ?_⟩)
  · obtain ⟨cur, hc⟩ := h.blk e2
    subst e
    rw [hb] at hc; simp at hc
  · subst e
    rw [hb] at e2; simp at e2

theorem lay_push {w3 w4 : World} {h a i N k g4 cap4 : Nat} {v : Nat → Value} {ms : List Sp.Mp} {is : List Sp.Inc} {L : Nat → List (Int × List Nat)} (HL : HCore w3 h a i N v ms is L) (hk : k < 4) {tl : List (Int × List Nat × Value)}
    (e1 : tl.map (fun t => (t.1, t.2.1)) = L k) (hacts : ∀ t ∈ tl, RowN w3 0 t.2.2 t.2.1) {ep : Int} {av : Value} {al : List Nat} (hav : RowN w3 0 av al) {o : Obj}
    (hown : w4.ownsRow 0 62 2 (.slice (some ⟨g4, 0, none⟩) (tl.length + 1) cap4) (tl.length + 1) (ivCells tl ++ [.int .u32 ep, av])) (hgr : (w3.alloc o).grownBy w4 (v k).ownBlock) (hat : (v k).ownBlock = some g4 ∨ g4 = (w3.alloc o).heap.size) :
    HCore (w4.setCell ⟨h, 3 + k, none⟩ (.slice (some ⟨g4, 0, none⟩) (tl.length + 1) cap4)) h a i N (setIv v k (.slice (some ⟨g4, 0, none⟩) (tl.length + 1) cap4)) ms is (fun g => if g = k then L k ++ [(ep, al)] else L g) ∧
      Upd (fun b => b = h ∨ (v k).ownBlock = some b) w3 (w4.setCell ⟨h, 3 + k, none⟩ (.slice (some ⟨g4, 0, none⟩) (tl.length + 1) cap4)) := by
  have hu3 : Upd Nix w3 (w3.alloc o) := (Upd.refl _ _).alloc o
  have hu4 : Upd (fun b => (v k).ownBlock = some b) w3 w4 := hu3.nix.trans ((Upd.of_grown hgr).mono (fun _ _ e => e.symm))
  have hvk : ∀ b, (v k).ownBlock = some b → ∃ cur, w3.heap[b]? = some (.cells cur 62 (0, 0)) := fun b hb => (HL.iv k hk).blk hb
  have hne_h : (v k).ownBlock ≠ some h := fun e => by obtain ⟨cur, hc⟩ := hvk _ e; rw [HL.blk] at hc; simp at hc
  have hne_a : (v k).ownBlock ≠ some a := fun e => by obtain ⟨cur, hc⟩ := hvk _ e; rw [HL.mblk] at hc; simp at hc
  have hne_i : (v k).ownBlock ≠ some i := fun e => by obtain ⟨cur, hc⟩ := hvk _ e; rw [HL.iblk] at hc; simp at hc
  have hb4 : w4.heap[h]? = some (.cells (hArr a i N v) 109 (0, 0)) := hu4.keep HL.blk hne_h
  have hset : Upd (fun b => b = h) w4 (w4.setCell ⟨h, 3 + k, none⟩ (.slice (some ⟨g4, 0, none⟩) (tl.length + 1) cap4)) := Upd.setCell (F := fun b => b = h) (Upd.refl _ w4) (p := ⟨h, 3 + k, none⟩) (.inl rfl) _
  have hu5 : Upd (fun b => b = h ∨ (v k).ownBlock = some b) w3 (w4.setCell ⟨h, 3 + k, none⟩ (.slice (some ⟨g4, 0, none⟩) (tl.length + 1) cap4)) :=
    (hu4.mono (fun _ _ e => Or.inr e)).trans (hset.mono (fun _ _ e => Or.inl e))
  have hrow3 : ∀ (av : Value) (l : List Nat), RowN w3 0 av l → RowN (w4.setCell ⟨h, 3 + k, none⟩ (.slice (some ⟨g4, 0, none⟩) (tl.length + 1) cap4)) 0 av l := by
    intro av l hr
    refine row_keep hr hu5 (fun b hb f => ?_)
    obtain ⟨_, cur, hc⟩ := row_blk hr hb
    rcases f with rfl | f
    · rw [HL.blk] at hc; simp at hc
    · obtain ⟨cur', hc'⟩ := hvk _ f
      rw [hc'] at hc; simp at hc
  have hg4h : g4 ≠ h := fun e => by
    obtain ⟨_, cur, hc⟩ := row_blk hown (b := g4) rfl
    rw [e, hb4] at hc; simp at hc
  refine ⟨⟨?_, hu5.keep HL.mblk ?_, hu5.keep HL.iblk ?_, HL.ai, ?_, ?_⟩, hu5⟩
  · rw [← hArr_set a i N v k hk]; exact blk_setCell hb4
  · rintro (e | e)
    · have := HL.mblk; rw [e, HL.blk] at this; simp at this
    · exact hne_a e
  · rintro (e | e)
    · have := HL.iblk; rw [e, HL.blk] at this; simp at this
    · exact hne_i e
  · intro g hg
    by_cases hgk : g = k
    · subst hgk
      rw [setIv_same, if_pos rfl]
      refine ⟨tl ++ [(ep, al, av)], by rw [List.map_append, e1]; rfl, ?_, ?_⟩
      · rw [ivCells_snoc, List.length_append]
        exact row_keep hown hset (fun b hb e => hg4h (by simp [Value.ownBlock] at hb; omega))
      · intro t ht
        rw [List.mem_append] at ht
        rcases ht with ht | ht
        · exact hrow3 _ _ (hacts t ht)
        · simp at ht; subst ht; exact hrow3 _ _ hav
    · rw [setIv_other _ _ _ _ hgk, if_neg hgk]
      refine (HL.iv g hg).keep hu5 (fun b hb f => ⟨fun e => ?_, fun cur fr e => ?_⟩)
      · rcases f with rfl | f
        · obtain ⟨cur, hc⟩ := (HL.iv g hg).blk e
          rw [HL.blk] at hc; simp at hc
        · exact HL.sep k g hk hg (fun e => hgk e.symm) b f e
      · rcases f with rfl | f
        · rw [HL.blk] at e; simp at e
        · obtain ⟨cur', hc'⟩ := hvk _ f
          rw [hc'] at e; simp at e
  · intro g j hg hj hgj b hb hb2
    have hfresh : ∀ g, g < 4 → g ≠ k → (v g).ownBlock = some b → b = g4 → False := by
      intro g hg hgk hv e
      subst e
      rcases hat with hat | hat
      · exact HL.sep k g hk hg (fun e => hgk e.symm) _ hat hv
      · obtain ⟨cur, hc⟩ := (HL.iv g hg).blk hv
        have := blk_lt hc
        simp at hat; omega
    by_cases hgk : g = k
    · subst hgk
      rw [setIv_same] at hb
      rw [setIv_other _ _ _ _ (fun e => hgj e.symm)] at hb2
      simp [Value.ownBlock] at hb
      exact hfresh j hj (fun e => hgj e.symm) hb2 hb.symm
    · rw [setIv_other _ _ _ _ hgk] at hb
      by_cases hjk : j = k
      · subst hjk
        rw [setIv_same] at hb2
        simp [Value.ownBlock] at hb2
        exact hfresh g hg hgk hb hb2.symm
      · rw [setIv_other _ _ _ _ hjk] at hb2
        exact HL.sep g j hg hj hgj b hb hb2

/-- in the midst of lays: the first k groups are done -/
structure LayMid (h a i : Nat) (v v' : Nat → Value) (ms : List Sp.Mp) (is : List Sp.Inc) (m : Sp.Mp) (k : Nat) (w wr : World) : Prop where
  core : HCore wr h a i (ms.length + 1) v' (ms ++ [m]) is (fun g => if g < k then Sp.ivs (ms ++ [m]) g else Sp.ivs ms g)
  mp : wr.heap[w.heap.size]? = some (.cells (mpArr m) 57 (0, 0))
  upd : Upd (Foot h a i v) w wr
  fresh : ∀ g, g < 4 → ∀ b, (v' g).ownBlock = some b → (v g).ownBlock = some b ∨ w.heap.size ≤ b
theorem mid_keep {h a i : Nat} {v v' : Nat → Value} {ms : List Sp.Mp} {is : List Sp.Inc} {m : Sp.Mp} {k : Nat} {w wr w2 : World} (H : LayMid h a i v v' ms is m k w wr) (hu : Upd Nix wr w2) : LayMid h a i v v' ms is m k w w2 :=
  ⟨H.core.keep0 hu, hu.keep H.mp (fun f => f), H.upd.trans hu.nix, H.fresh⟩
theorem mid_same {h a i : Nat} {v v' : Nat → Value} {ms : List Sp.Mp} {is : List Sp.Inc} {m : Sp.Mp} {k : Nat} {w wr : World} (H : LayMid h a i v v' ms is m k w wr) (hs : Sp.ivStep k (Sp.ivs ms k) m = Sp.ivs ms k) : LayMid h a i v v' ms is m (k + 1) w wr :=
  ⟨H.core.congrL (fun g hg => by
    by_cases h1 : g < k
    · rw [if_pos h1, if_pos (by omega)]
    · by_cases h2 : g = k
      · subst h2; rw [if_neg h1, if_pos (by omega), Sp.ivs_snoc, hs]
      · rw [if_neg h1, if_neg (by omega)]), H.mp, H.upd, H.fresh⟩
theorem mid_push {h a i k g4 cap4 : Nat} {v v' : Nat → Value} {ms : List Sp.Mp} {is : List Sp.Inc} {m : Sp.Mp} {w w3 w4 : World} (H : LayMid h a i v v' ms is m k w w3) (hk : k < 4) (hs : Sp.ivStep k (Sp.ivs ms k) m = Sp.ivs ms k ++ [(m.ep, Sp.acting m k)])
    {tl : List (Int × List Nat × Value)} (e1 : tl.map (fun t => (t.1, t.2.1)) = Sp.ivs ms k) (hacts : ∀ t ∈ tl, RowN w3 0 t.2.2 t.2.1) {av : Value} (hav : RowN w3 0 av (Sp.acting m k)) {o : Obj}
    (hown : w4.ownsRow 0 62 2 (.slice (some ⟨g4, 0, none⟩) (tl.length + 1) cap4) (tl.length + 1) (ivCells tl ++ [.int .u32 m.ep, av])) (hgr : (w3.alloc o).grownBy w4 (v' k).ownBlock) (hat : (v' k).ownBlock = some g4 ∨ g4 = (w3.alloc o).heap.size) :
    LayMid h a i v (setIv v' k (.slice (some ⟨g4, 0, none⟩) (tl.length + 1) cap4)) ms is m (k + 1) w (w4.setCell ⟨h, 3 + k, none⟩ (.slice (some ⟨g4, 0, none⟩) (tl.length + 1) cap4)) := by
  have hp := lay_push H.core hk (ep := m.ep) (al := Sp.acting m k) (by rw [e1]; simp) hacts hav hown hgr hat
  have hvk : ∀ b, (v' k).ownBlock = some b → ∃ cur, w3.heap[b]? = some (.cells cur 62 (0, 0)) := fun b hb => (H.core.iv k hk).blk hb
  refine ⟨hp.1.congrL (fun g hg => ?_), hp.2.keep H.mp ?_, H.upd.trans' hp.2 ?_, ?_⟩
  · by_cases h2 : g = k
    · subst h2; simp only [if_true, Nat.lt_irrefl, if_false, Nat.lt_succ_self]; rw [Sp.ivs_snoc, hs]
    · simp only [h2, if_false]
      by_cases h1 : g < k
      · rw [if_pos h1, if_pos (by omega)]
      · rw [if_neg h1, if_neg (by omega)]
  · rintro (e | e)
    · have := H.mp; rw [e, H.core.blk] at this; simp at this
    · obtain ⟨cur, hc⟩ := hvk _ e
      rw [H.mp] at hc; simp at hc
  · rintro b hb (e | e)
    · exact .inl e
    · rcases H.fresh k hk b e with h1 | h1
      · exact .inr (.inr (.inr ⟨k, hk, h1⟩))
      · omega
  · intro g hg b hb
    by_cases h2 : g = k
    · subst h2
      rw [setIv_same] at hb
      simp [Value.ownBlock] at hb
      subst hb
      rcases hat with hat | hat
      · exact H.fresh g hg _ hat
      · right; have := H.upd.size; simp at hat; omega
    · rw [setIv_other _ _ _ _ h2] at hb
      exact H.fresh g hg b hb
end Go.Proofs.Ytmkpljbkmkbnjaa
