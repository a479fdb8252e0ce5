/-
  THE WALK of maps.Fold on increments that a history can hold.
-/
import Derived.Test.YtmkpljbkmkbnjaaNew
import Derived.Test.YtmkpljbkmkbnjaaChain
namespace Go.Proofs.Ytmkpljbkmkbnjaa
open Go.RowKit
set_option linter.unusedVariables false
set_option linter.unusedSimpArgs false

/-- the cells of a row of increments -/
def incCells (l : List Sp.Inc) : List Value := l.flatMap fun x => [.int .u8 x.kind, .int .u8 x.osd, .int .i64 x.n]
theorem incCells_len (l : List Sp.Inc) : (incCells l).length = l.length * 3 := by
  induction l with
  | nil => rfl
  | cons x r ih => simp only [incCells, List.flatMap_cons, List.length_append, List.length_cons] at ih ⊢; simp only [List.length_nil]; omega
theorem incCells_snoc (l : List Sp.Inc) (x : Sp.Inc) : incCells (l ++ [x]) = incCells l ++ [.int .u8 x.kind, .int .u8 x.osd, .int .i64 x.n] := by simp [incCells]
theorem incCells_get (l : List Sp.Inc) (j : Nat) (x : Sp.Inc) (h : l[j]? = some x) : (incCells l)[j * 3]? = some (.int .u8 x.kind) ∧ (incCells l)[j * 3 + 1]? = some (.int .u8 x.osd) ∧ (incCells l)[j * 3 + 2]? = some (.int .i64 x.n) := by
  induction l generalizing j with
  | nil => simp at h
  | cons y r ih =>
    cases j with
    | zero => simp at h; subst h; simp [incCells]
    | succ j =>
      simp only [List.getElem?_cons_succ] at h
      have := ih j h
      simp only [incCells, List.flatMap_cons] at this ⊢
      rw [show (j + 1) * 3 = j * 3 + 3 by omega, show j * 3 + 3 + 1 = (j * 3 + 1) + 3 by omega, show j * 3 + 3 + 2 = (j * 3 + 2) + 3 by omega]
      exact this
def IncRow (w : World) (base : Nat) (v : Value) (l : List Sp.Inc) : Prop := w.ownsRow base 50 3 v l.length (incCells l)
theorem IncRow.cells {w : World} {base c cap : Nat} {l : List Sp.Inc} (h : IncRow w base (.slice (some ⟨c, 0, none⟩) l.length cap) l) {k : Nat} {x : Sp.Inc} (hx : l[k]? = some x) :
    w.cell? ⟨c, k * 3, none⟩ = some (.int .u8 x.kind) ∧ w.cell? ⟨c, k * 3 + 1, none⟩ = some (.int .u8 x.osd) ∧ w.cell? ⟨c, k * 3 + 2, none⟩ = some (.int .i64 x.n) := by
  have hk : k < l.length := by
    rcases Nat.lt_or_ge k l.length with h | h
    · exact h
    · rw [List.getElem?_eq_none h] at hx; simp at hx
  have hg := incCells_get l k x hx
  refine ⟨?_, ?_, ?_⟩
  · rw [World.ownsRow.cellAt h _ (by omega)]; exact hg.1
  · rw [World.ownsRow.cellAt h _ (by omega)]; exact hg.2.1
  · rw [World.ownsRow.cellAt h _ (by omega)]; exact hg.2.2

theorem results26 : Try.f26.results = #[.cell 2 57, .tmp 3] := by kernel_rfl
def FoldPost (l : List Sp.Inc) (w : World) (e : Ending) (w' : World) : Prop := e = .returned (.tuple #[mpV (Sp.lastMap l), .int .i64 0]) ∧ Upd Nix w w'
theorem take_ok {l : List Sp.Inc} (hc : Sp.Chain l) {k : Nat} {x : Sp.Inc} (hx : l[k]? = some x) : Sp.okApply (Sp.lastMap (l.take k)) x = true ∧ Sp.lastMap (l.take (k + 1)) = Sp.apply (Sp.lastMap (l.take k)) x := by
  have hk : k < l.length := by
    rcases Nat.lt_or_ge k l.length with h | h
    · exact h
    · rw [List.getElem?_eq_none h] at hx; simp at hx
  constructor
  · rw [Sp.okApply_last (hc.take k), hc.1 x (List.mem_of_getElem? hx)]
    simp only [Bool.true_and, decide_eq_true_eq, List.length_take]
    have := hc.2; omega
  · rw [List.take_add_one, hx, ← Sp.lastMap_snoc]; rfl
set_option maxRecDepth 10000 in
theorem fold_any (l : List Sp.Inc) (v : Value) (base : Nat) (w : World) (hr : IncRow w base v l) (hc : Sp.Chain l) (hok : ∀ x ∈ l, IncOk x) : Calls Try.prog 26 #[v] w (FoldPost l w) := by
  obtain ⟨va, vc, rfl⟩ := row_nil hr
  have hlen := hc.2
  have hR := row_keep hr ((Upd.refl Nix w).alloc (.cells zeroArr 57)) (fun _ _ f => f)
  have hU := (Upd.refl Nix w).alloc (.cells zeroArr 57)
  have hb2 : (w.alloc (.cells zeroArr 57)).heap[w.heap.size]? = some (.cells zeroArr 57 (0, 0)) := alloc_new w _
  have HC := hid hc; have HOK := hid hok; have HR := hid hR; have HU := hid hU; have HB2 := hid hb2
  clear hr hc hok hR hU hb2
  generalize hn : l.length = n at *
  have HN := hid hn
  clear hn
  go_enter Try.func26, Try.ntmps26
  go_upto_region 1 with (fail)
  change Code.wp _ _ _ _ (w.alloc (.cells zeroArr 57))
  have hsz : w.heap.size < (w.alloc (.cells zeroArr 57)).heap.size := blk_lt HB2.out
  generalize w.alloc (.cells zeroArr 57) = w1 at *
  go_wp2_with fail
  refine (first_any _).mono ?_
  rintro e w2 ⟨rfl, hu2⟩
  have hs2 := hu2.size
  have HU2 := hid hu2
  clear hu2
  go_upto_region 2 with ((with_reducible refine at_store 57 (.tmp 4) (.tmp 9) ?_); refine wpList_store_row rfl 57 (.tmp 4) (.tmp 9) rfl w2.heap.size rfl (mpArr Sp.first) rfl 57 zeroArr (alloc_new w2 _) rfl size57 rfl ?_)
  change Code.wp _ _ _ _ ((w2.alloc (.cells zeroArr 57)).setRow w2.heap.size (mpArr Sp.first))
  have hinv : Hid (((w2.alloc (.cells zeroArr 57)).setRow w2.heap.size (mpArr Sp.first)).heap[w2.heap.size]? = some (.cells (mpArr (Sp.lastMap (l.take 0))) 57 (0, 0)) ∧ Upd Nix w1 ((w2.alloc (.cells zeroArr 57)).setRow w2.heap.size (mpArr Sp.first))) :=
    ⟨setRow_new (mpArr Sp.first) (alloc_new w2 _), (HU2.out.alloc _).setRow (.inr HU2.out.size) _⟩
  generalize (w2.alloc (.cells zeroArr 57)).setRow w2.heap.size (mpArr Sp.first) = w3 at *
  generalize hp4 : w2.heap.size = p4 at *
  clear hp4 HU2
  go_wp2_with fail
  go_loopw [12] (fun j wr => ∃ k : Nat, k ≤ n ∧ j = .int .i64 k ∧ Hid (wr.heap[p4]? = some (.cells (mpArr (Sp.lastMap (l.take k))) 57 (0, 0)) ∧ Upd Nix w1 wr)) (fun j _ => n - (intOf j).toNat)
  case atStart => exact ⟨0, by omega, rfl, hinv.out⟩
  case round =>
    obtain ⟨k, hk, rfl, HI⟩ := hrel
    clear hinv
    by_cases hlt : k < n
    · obtain ⟨x, hx⟩ : ∃ x, l[k]? = some x := ⟨_, List.getElem?_eq_getElem (by have := HN.out; omega)⟩
      obtain ⟨hok, hnx⟩ := take_ok HC.out hx
      have hxo := HOK.out x (List.mem_of_getElem? hx)
      have hrr := row_keep HR.out HI.out.2 (fun _ _ f => f)
      obtain ⟨c, cap, hv⟩ : ∃ c cap, Value.slice va n vc = .slice (some ⟨c, 0, none⟩) n cap := by
        rcases hrr.2 with ⟨_, h0⟩ | ⟨c, cap, cur, hv, _⟩
        · omega
        · exact ⟨c, cap, hv⟩
      simp only [Value.slice.injEq, true_and] at hv
      obtain ⟨rfl, rfl⟩ := hv
      have hcs := IncRow.cells (base := base) (cap := vc) (by unfold IncRow; rw [HN.out]; exact hrr) hx
      obtain ⟨x0, x1, x2⟩ := hcs
      have hki : (k : Int) < (n : Int) := by omega
      have HAP := hid (fun w' => apply_yes _ _ w' hok hxo)
      generalize hm0 : Sp.lastMap (l.take k) = m0 at *
      have HNX := hid hnx
      have hb4 := HI.out.1
      have HB4 := hid (HI.out.1); have HU4 := hid HI.out.2
      have hp4 := blk_lt hb4
      clear hok hx hnx hxo hrr HI hm0 hb4
      go_upto_region 5 with (fail)
      change Code.wp _ _ _ _ (wr.alloc (.cells (incArr x) 50))
      have hb6 : (wr.alloc (.cells (incArr x) 50)).heap[wr.heap.size]? = some (.cells (incArr x) 50 (0, 0)) := alloc_new wr _
      have HB4' := hid (((Upd.refl Nix wr).alloc (.cells (incArr x) 50)).keep HB4.out (fun f => f))
      have HU5 := hid (HU4.out.alloc (.cells (incArr x) 50))
      generalize wr.alloc (.cells (incArr x) 50) = w5 at *
      have y0 : w5.cell? ⟨wr.heap.size, 0, none⟩ = some (.int .u8 x.kind) := by rw [cell_blk hb6]; rfl
      have y1 : w5.cell? ⟨wr.heap.size, 1, none⟩ = some (.int .u8 x.osd) := by rw [cell_blk hb6]; rfl
      have y2 : w5.cell? ⟨wr.heap.size, 2, none⟩ = some (.int .i64 x.n) := by rw [cell_blk hb6]; rfl
      clear hb6 x0 x1 x2 HB4 HU4
      go_wp2_with ((with_reducible refine at_loadv 57 (.tmp 4) ?_); refine wpList_load_row rfl 57 (.tmp 4) rfl p4 rfl 57 (mpArr m0) (0, 0) _ HB4'.out Try.underlying57 rfl size57 ?_)
      refine (HAP.out _).mono ?_
      rintro e w6 ⟨rfl, hu6⟩
      have HB6 := hid (hu6.keep HB4'.out (fun f => f))
      have HU6 := hid (HU5.out.trans hu6)
      have hs6 := (HU5.out.trans hu6).size
      have hp6 := blk_lt HB6.out
      clear hu6 HB4' HU5 y0 y1 y2
      generalize Sp.apply m0 x = m1 at *
      go_upto_region 6 with ((with_reducible refine at_store 57 (.tmp 7) (.tmp 20) ?_); refine wpList_store_row rfl 57 (.tmp 7) (.tmp 20) rfl w6.heap.size rfl (mpArr m1) rfl 57 zeroArr (alloc_new w6 _) rfl size57 rfl ?_)
      change Code.wp _ _ _ _ ((w6.alloc (.cells zeroArr 57)).setRow w6.heap.size (mpArr m1))
      have HB7 := hid (setRow_new (mpArr m1) (alloc_new w6 (.cells zeroArr 57)))
      have hu7 : Upd Nix w6 ((w6.alloc (.cells zeroArr 57)).setRow w6.heap.size (mpArr m1)) := ((Upd.refl _ _).alloc _).setRow (.inr (Nat.le_refl _)) _
      have HB8 := hid (hu7.keep HB6.out (fun f => f))
      have HU7 := hid (HU6.out.trans hu7)
      generalize (w6.alloc (.cells zeroArr 57)).setRow w6.heap.size (mpArr m1) = w7 at *
      clear hu7 HU6 HB6
      go_wp2_with (first
        | ((with_reducible refine at_loadv 57 (.tmp 7) ?_); refine wpList_load_row rfl 57 (.tmp 7) rfl w6.heap.size rfl 57 (mpArr m1) (0, 0) _ HB7.out Try.underlying57 rfl size57 ?_)
        | ((with_reducible refine at_store 57 (.tmp 4) (.tmp 26) ?_); refine wpList_store_row rfl 57 (.tmp 4) (.tmp 26) rfl p4 rfl (mpArr m1) rfl 57 (mpArr m0) HB8.out rfl size57 rfl ?_))
      go_roundw
      case rel => exact ⟨k + 1, by omega, by go_num, by rw [HNX.out]; exact setRow_new (mpArr m1) HB8.out, HU7.out.setRow (.inr hs2) _⟩
      case measure => simp [intOf]; omega
    · have : k = n := by omega
      subst this
      have hl : l.take k = l := by rw [← HN.out, List.take_length]
      rw [hl] at HI
      have HB9 := hid HI.out.1
      have hb2 := HI.out.2.keep HB2.out (fun f => f)
      have HB10 := hid hb2; have HU9 := hid (HU.out.trans HI.out.2)
      clear HI hb2 hl
      generalize hm9 : Sp.lastMap l = m9 at *
      have HM9 := hid hm9
      clear hm9
      go_wp2_with (first
        | ((with_reducible refine at_loadv 57 (.tmp 4) ?_); refine wpList_load_row rfl 57 (.tmp 4) rfl p4 rfl 57 (mpArr m9) (0, 0) _ HB9.out Try.underlying57 rfl size57 ?_)
        | ((with_reducible refine at_store 57 (.tmp 2) (.tmp 28) ?_); refine wpList_store_row rfl 57 (.tmp 2) (.tmp 28) rfl w.heap.size rfl (mpArr m9) rfl 57 zeroArr HB10.out rfl size57 rfl ?_))
      refine fin2 results26 w.heap.size rfl (setRow_new (mpArr m9) HB10.out) Try.underlying57 rfl size57 rfl ⟨by rw [HM9.out]; rfl, HU9.out.setRow (.inr (Nat.le_refl _)) _⟩
end Go.Proofs.Ytmkpljbkmkbnjaa
