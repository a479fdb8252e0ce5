/-
  A HISTORY IN MEMORY: its struct, its two maps, its groups' intervals; what is done to the maps, one operation at a time.
-/
import Derived.Test.YtmkpljbkmkbnjaaApply
import Derived.Test.YtmkpljbkmkbnjaaSpecH
namespace Go.Proofs.Ytmkpljbkmkbnjaa
open Go.RowKit
set_option linter.unusedVariables false
set_option linter.unusedSimpArgs false

/-- the entries of a map keyed by whole numbers from s + k0 on -/
def ents (f : Nat → Value) (k0 s n : Nat) : List MapEntry := (List.range' s n).map fun k => ⟨.int .u32 ((k + k0 : Nat) : Int), f k, k⟩
theorem ents_len (f : Nat → Value) (k0 s n : Nat) : (ents f k0 s n).length = n := by simp [ents]
theorem ents_snoc (f g : Nat → Value) (k0 n : Nat) (h : ∀ k, k < n → f k = g k) : ents f k0 0 n ++ [⟨.int .u32 ((n + k0 : Nat) : Int), g n, n⟩] = ents g k0 0 (n + 1) := by
  unfold ents
  rw [List.range'_concat, List.map_append]
  congr 1
  · apply List.map_congr_left
    intro k hk
    rw [List.mem_range'] at hk
    rw [h k (by omega)]
  · simp
theorem find_ents (f : Nat → Value) (k0 : Nat) (x : Nat) : ∀ (n s i : Nat),
    Instr.findNow (.int .u32) (.int .u32 (x : Int)) (ents f k0 s n) i = some (if s + k0 ≤ x ∧ x < s + n + k0 then some (i + (x - k0 - s), f (x - k0)) else none) := by
  intro n
  induction n with
  | zero => intro s i; rw [if_neg (by omega)]; rfl
  | succ n ih =>
    intro s i
    have e : ents f k0 s (n + 1) = ⟨.int .u32 ((s + k0 : Nat) : Int), f s, s⟩ :: ents f k0 (s + 1) n := by simp [ents, List.range'_succ]
    rw [e]
    by_cases hx : x = s + k0
    · have h1 : Instr.sameNow (.int .u32) (.int .u32 (x : Int)) (.int .u32 ((s + k0 : Nat) : Int)) = some true := by simp [Instr.sameNow, hx]
      simp only [Instr.findNow, h1]
      rw [if_pos (by omega), show x - k0 - s = 0 by omega, show x - k0 = s by omega]
      rfl
    · have h1 : Instr.sameNow (.int .u32) (.int .u32 (x : Int)) (.int .u32 ((s + k0 : Nat) : Int)) = some false := by
        simp only [Instr.sameNow, if_true, Option.some.injEq, beq_eq_false_iff_ne]; omega
      simp only [Instr.findNow, h1]
      rw [ih (s + 1) (i + 1)]
      by_cases hc : s + k0 ≤ x ∧ x < s + (n + 1) + k0
      · rw [if_pos hc, if_pos (by omega), show i + 1 + (x - k0 - (s + 1)) = i + (x - k0 - s) by omega]
      · rw [if_neg hc, if_neg (by omega)]

section
variable {w : World} {r clock n k0 : Nat} {f : Nat → Value} {mty ety : TypeId}
theorem run_lookup_ok {z : Value} (hm : Try.prog.underlying mty = some (.map 28 ety)) (hz : ∀ w, (zeroValue ety).run Try.prog w = .ok z w) (hb : w.heap[r]? = some (.map (ents f k0 0 n).toArray clock)) (x : Nat) :
    (Instr.lookup mty (.map (some r)) (.int .u32 (x : Int)) true).run Try.prog w = .ok (.tuple #[if k0 ≤ x ∧ x < n + k0 then f (x - k0) else z, .bool (decide (k0 ≤ x ∧ x < n + k0))]) w := by
  have hf := find_ents f k0 x n 0 0
  have hc : ∀ e, (Instr.checkKey e 10000 28 (.int .u32 (x : Int))).run Try.prog w = .ok () w := fun e => MapKept.run_checkKey (k := .int .u32 (x : Int)) Try.underlying28 (by simp [MapKept.IsKey]) e 9999
  simp only [Nat.zero_add, Nat.sub_zero] at hf
  by_cases h : k0 ≤ x ∧ x < n + k0
  · rw [if_pos h] at hf
    rw [if_pos h, decide_eq_true h]
    simp [Instr.lookup, run_underlying hm, MapKept.run_getObj_map hb, hc, MapKept.run_findKey Try.underlying28 hf, Result.andThen]
  · rw [if_neg h] at hf
    rw [if_neg h, decide_eq_false h]
    simp [Instr.lookup, run_underlying hm, MapKept.run_getObj_map hb, hc, MapKept.run_findKey Try.underlying28 hf, Result.andThen, hz]
theorem run_lookup_at (hm : Try.prog.underlying mty = some (.map 28 ety)) (hb : w.heap[r]? = some (.map (ents f k0 0 n).toArray clock)) (x : Nat) (h : k0 ≤ x ∧ x < n + k0) :
    (Instr.lookup mty (.map (some r)) (.int .u32 (x : Int)) false).run Try.prog w = .ok (f (x - k0)) w := by
  have hf := find_ents f k0 x n 0 0
  have hc : ∀ e, (Instr.checkKey e 10000 28 (.int .u32 (x : Int))).run Try.prog w = .ok () w := fun e => MapKept.run_checkKey (k := .int .u32 (x : Int)) Try.underlying28 (by simp [MapKept.IsKey]) e 9999
  simp only [Nat.zero_add, Nat.sub_zero] at hf
  rw [if_pos h] at hf
  simp [Instr.lookup, run_underlying hm, MapKept.run_getObj_map hb, hc, MapKept.run_findKey Try.underlying28 hf, Result.andThen]
/-- a new key is added -/
theorem run_update_new (hm : Try.prog.underlying mty = some (.map 28 ety)) (hb : w.heap[r]? = some (.map (ents f k0 0 n).toArray n)) (v : Value) (q : Int) (hq : q = ((n + k0 : Nat) : Int)) :
    (Instr.mapUpdate mty (.map (some r)) (.int .u32 q) v).run Try.prog w = .ok () { w with heap := w.heap.setIfInBounds r (.map (ents f k0 0 n ++ ([⟨.int .u32 q, v, n⟩] : List MapEntry)).toArray (n + 1)) } := by
  have hf := find_ents f k0 (n + k0) n 0 0
  rw [← hq] at hf
  have hc : (Instr.checkKey false 10000 28 (.int .u32 q)).run Try.prog w = .ok () w := MapKept.run_checkKey (k := .int .u32 q) Try.underlying28 (by simp [MapKept.IsKey]) _ 9999
  rw [if_neg (by omega)] at hf
  simp [Instr.mapUpdate, run_underlying hm, MapKept.run_getObj_map hb, hc, MapKept.run_findKey Try.underlying28 hf, MapKept.run_setObj_map _ hb, Result.andThen]
end

/-- a map's block is written anew -/
def putMap (w : World) (r : Nat) (o : Obj) : World := { w with heap := w.heap.setIfInBounds r o }
theorem putMap_new {w : World} {r : Nat} {o : Obj} (h : r < w.heap.size) : (putMap w r o).heap[r]? = some o := by simp [putMap, h]
theorem putMap_old {w : World} {r : Nat} {o : Obj} (k : Nat) (h : k ≠ r) : (putMap w r o).heap[k]? = w.heap[k]? := by
  simp only [putMap]; rw [Array.getElem?_setIfInBounds_ne (by omega)]
theorem Upd.putMap {F : Nat → Prop} {a w : World} (h : Upd F a w) {r : Nat} (hp : F r ∨ a.heap.size ≤ r) (o : Obj) : Upd F a (putMap w r o) :=
  h.trans' (G := fun k => k = r) ⟨rfl, rfl, rfl, by simp [Ytmkpljbkmkbnjaa.putMap], fun k _ hk => putMap_old k hk⟩
    (fun i hi e => by rcases hp with hp | hp; · rw [e]; exact hp
                      · omega)

/-- the cells of a row of intervals: since when, and the slice of the daemons -/
def ivCells (l : List (Int × List Nat × Value)) : List Value := l.flatMap fun t => [.int .u32 t.1, t.2.2]
theorem ivCells_len (l : List (Int × List Nat × Value)) : (ivCells l).length = l.length * 2 := by
  induction l with
  | nil => rfl
  | cons x r ih => simp only [ivCells, List.flatMap_cons, List.length_append, List.length_cons] at ih ⊢; simp only [List.length_nil]; omega
theorem ivCells_snoc (l : List (Int × List Nat × Value)) (t : Int × List Nat × Value) : ivCells (l ++ [t]) = ivCells l ++ [.int .u32 t.1, t.2.2] := by simp [ivCells]
theorem ivCells_get (l : List (Int × List Nat × Value)) (j : Nat) (t : Int × List Nat × Value) (h : l[j]? = some t) : (ivCells l)[j * 2]? = some (.int .u32 t.1) ∧ (ivCells l)[j * 2 + 1]? = some t.2.2 := by
  induction l generalizing j with
  | nil => simp at h
  | cons x r ih =>
    cases j with
    | zero => simp at h; subst h; simp [ivCells]
    | succ j =>
      simp only [List.getElem?_cons_succ] at h
      have := ih j h
      simp only [ivCells, List.flatMap_cons] at this ⊢
      rw [show (j + 1) * 2 = j * 2 + 2 by omega, show j * 2 + 2 + 1 = (j * 2 + 1) + 2 by omega]
      exact this
/-- the value v holds the intervals l -/
def IvAt (w : World) (v : Value) (l : List (Int × List Nat)) : Prop :=
  ∃ tl : List (Int × List Nat × Value), tl.map (fun t => (t.1, t.2.1)) = l ∧ w.ownsRow 0 62 2 v tl.length (ivCells tl) ∧ ∀ t ∈ tl, RowN w 0 t.2.2 t.2.1
theorem IvAt.len {w : World} {v : Value} {l : List (Int × List Nat)} (h : IvAt w v l) : ∃ a cap, v = .slice a l.length cap := by
  obtain ⟨tl, h1, h2, _⟩ := h
  obtain ⟨a, cap, e⟩ := row_nil h2
  exact ⟨a, cap, by rw [e, ← h1, List.length_map]⟩
theorem IvAt.keep {w w' : World} {v : Value} {l : List (Int × List Nat)} {F : Nat → Prop} (h : IvAt w v l) (hu : Upd F w w') (hF : ∀ b, b < w.heap.size → F b → v.ownBlock ≠ some b ∧ ∀ cur fr, w.heap[b]? ≠ some (.cells cur 3 fr)) : IvAt w' v l := by
  obtain ⟨tl, h1, h2, h3⟩ := h
  refine ⟨tl, h1, row_keep h2 hu (fun b hb f => ?_), fun t ht => row_keep (h3 t ht) hu (fun b hb f => ?_)⟩
  · obtain ⟨_, cur, hc⟩ := row_blk h2 hb
    exact (hF b (blk_lt hc) f).1 hb
  · obtain ⟨_, cur, hc⟩ := row_blk (h3 t ht) hb
    exact (hF b (blk_lt hc) f).2 cur (0, 0) hc
theorem IvAt.blk {w : World} {v : Value} {l : List (Int × List Nat)} (h : IvAt w v l) {b : Nat} (hb : v.ownBlock = some b) : ∃ cur, w.heap[b]? = some (.cells cur 62 (0, 0)) := by
  obtain ⟨tl, h1, h2, h3⟩ := h
  obtain ⟨_, cur, hc⟩ := row_blk h2 hb
  exact ⟨cur, hc⟩

def hArr (a i n : Nat) (v : Nat → Value) : Array Value := #[.map (some a), .map (some i), .int .u32 (n : Int), v 0, v 1, v 2, v 3]
theorem hArr_iv (a i n : Nat) (v : Nat → Value) (g : Nat) (hg : g < 4) : (hArr a i n v)[3 + g]? = some (v g) := by
  rcases (show g = 0 ∨ g = 1 ∨ g = 2 ∨ g = 3 by omega) with rfl | rfl | rfl | rfl <;> rfl
/-- one group's intervals anew -/
def setIv (v : Nat → Value) (g : Nat) (x : Value) : Nat → Value := fun k => if k = g then x else v k
theorem hArr_set (a i n : Nat) (v : Nat → Value) (g : Nat) (hg : g < 4) (x : Value) : (hArr a i n v).setIfInBounds (3 + g) x = hArr a i n (setIv v g x) := by
  rcases (show g = 0 ∨ g = 1 ∨ g = 2 ∨ g = 3 by omega) with rfl | rfl | rfl | rfl <;> rfl
theorem hArr_last (a i n n' : Nat) (v : Nat → Value) : (hArr a i n v).setIfInBounds 2 (.int .u32 (n' : Int)) = hArr a i n' v := rfl

def mEnts (ms : List Sp.Mp) : List MapEntry := ents (fun k => mpV (ms.getD k Sp.zeroMp)) 1 0 ms.length
def iEnts (is : List Sp.Inc) : List MapEntry := ents (fun k => incV (is.getD k Sp.zeroInc)) 2 0 is.length
theorem mEnts_snoc (ms : List Sp.Mp) (m : Sp.Mp) : mEnts ms ++ [⟨.int .u32 ((ms.length + 1 : Nat) : Int), mpV m, ms.length⟩] = mEnts (ms ++ [m]) := by
  have h := ents_snoc (fun k => mpV (ms.getD k Sp.zeroMp)) (fun k => mpV ((ms ++ [m]).getD k Sp.zeroMp)) 1 ms.length (fun k hk => by
    simp only [List.getD_eq_getElem?_getD, List.getElem?_append_left hk])
  unfold mEnts
  rw [List.length_append]
  refine Eq.trans ?_ h
  simp
theorem iEnts_snoc (is : List Sp.Inc) (x : Sp.Inc) : iEnts is ++ [⟨.int .u32 ((is.length + 2 : Nat) : Int), incV x, is.length⟩] = iEnts (is ++ [x]) := by
  have h := ents_snoc (fun k => incV (is.getD k Sp.zeroInc)) (fun k => incV ((is ++ [x]).getD k Sp.zeroInc)) 2 is.length (fun k hk => by
    simp only [List.getD_eq_getElem?_getD, List.getElem?_append_left hk])
  unfold iEnts
  rw [List.length_append]
  refine Eq.trans ?_ h
  simp

/-- a history in memory: the struct at block h, the maps at a and i, the intervals' slices v; it tells n as its last epoch, has the maps ms, the increments is, the intervals L -/
structure HCore (w : World) (h a i n : Nat) (v : Nat → Value) (ms : List Sp.Mp) (is : List Sp.Inc) (L : Nat → List (Int × List Nat)) : Prop where
  blk : w.heap[h]? = some (.cells (hArr a i n v) 109 (0, 0))
  mblk : w.heap[a]? = some (.map (mEnts ms).toArray ms.length)
  iblk : w.heap[i]? = some (.map (iEnts is).toArray is.length)
  ai : a ≠ i
  iv : ∀ g, g < 4 → IvAt w (v g) (L g)
  sep : ∀ g k, g < 4 → k < 4 → g ≠ k → ∀ b, (v g).ownBlock = some b → (v k).ownBlock ≠ some b
/-- its own blocks: those that it changes -/
def Foot (h a i : Nat) (v : Nat → Value) (b : Nat) : Prop := b = h ∨ b = a ∨ b = i ∨ ∃ g, g < 4 ∧ (v g).ownBlock = some b
theorem HCore.keep {F : Nat → Prop} {w w' : World} {h a i n : Nat} {v : Nat → Value} {ms : List Sp.Mp} {is : List Sp.Inc} {L : Nat → List (Int × List Nat)} (H : HCore w h a i n v ms is L) (hu : Upd F w w')
    (hF : ∀ b, b < w.heap.size → F b → ¬ Foot h a i v b ∧ ∀ cur fr, w.heap[b]? ≠ some (.cells cur 3 fr)) : HCore w' h a i n v ms is L :=
  ⟨hu.keep H.blk (fun f => (hF _ (blk_lt H.blk) f).1 (.inl rfl)), hu.keep H.mblk (fun f => (hF _ (blk_lt H.mblk) f).1 (.inr (.inl rfl))), hu.keep H.iblk (fun f => (hF _ (blk_lt H.iblk) f).1 (.inr (.inr (.inl rfl)))), H.ai,
    fun g hg => (H.iv g hg).keep hu (fun b hb f => ⟨fun e => (hF b hb f).1 (.inr (.inr (.inr ⟨g, hg, e⟩))), (hF b hb f).2⟩), H.sep⟩
theorem HCore.keep0 {w w' : World} {h a i n : Nat} {v : Nat → Value} {ms : List Sp.Mp} {is : List Sp.Inc} {L : Nat → List (Int × List Nat)} (H : HCore w h a i n v ms is L) (hu : Upd Nix w w') : HCore w' h a i n v ms is L :=
  H.keep hu (fun _ _ f => f.elim)
theorem HCore.foot_lt {w : World} {h a i n : Nat} {v : Nat → Value} {ms : List Sp.Mp} {is : List Sp.Inc} {L : Nat → List (Int × List Nat)} (H : HCore w h a i n v ms is L) {b : Nat} (hb : Foot h a i v b) : b < w.heap.size := by
  rcases hb with rfl | rfl | rfl | ⟨g, hg, hb⟩
  · exact blk_lt H.blk
  · exact blk_lt H.mblk
  · exact blk_lt H.iblk
  · obtain ⟨cur, hc⟩ := (H.iv g hg).blk hb
    exact blk_lt hc
/-- none of its own blocks is a row of daemons -/
theorem HCore.foot_ty {w : World} {h a i n : Nat} {v : Nat → Value} {ms : List Sp.Mp} {is : List Sp.Inc} {L : Nat → List (Int × List Nat)} (H : HCore w h a i n v ms is L) {b : Nat} (hb : Foot h a i v b) : ∀ cur fr, w.heap[b]? ≠ some (.cells cur 3 fr) := by
  intro cur fr e
  rcases hb with rfl | rfl | rfl | ⟨g, hg, hb⟩
  · rw [H.blk] at e; simp at e
  · rw [H.mblk] at e; simp at e
  · rw [H.iblk] at e; simp at e
  · obtain ⟨cur', hc⟩ := (H.iv g hg).blk hb
    rw [hc] at e; simp at e
/-- the last interval of a group -/
theorem IvAt.last {w : World} {v : Value} {l : List (Int × List Nat)} (h : IvAt w v l) {s : Int} {o : List Nat} (hl : l.getLast? = some (s, o)) :
    ∃ b cap av, v = .slice (some ⟨b, 0, none⟩) l.length cap ∧ 0 < l.length ∧ w.cell? ⟨b, (l.length - 1) * 2, none⟩ = some (.int .u32 s) ∧ w.cell? ⟨b, (l.length - 1) * 2 + 1, none⟩ = some av ∧ RowN w 0 av o := by
  obtain ⟨tl, h1, h2, h3⟩ := h
  subst h1
  have hne : tl ≠ [] := by rintro rfl; simp at hl
  have hpos : 0 < tl.length := List.length_pos_iff.2 hne
  obtain ⟨t, ht⟩ : ∃ t, tl[tl.length - 1]? = some t := ⟨_, List.getElem?_eq_getElem (by omega)⟩
  have hlt : (t.1, t.2.1) = (s, o) := by
    rw [List.getLast?_eq_getElem?, List.length_map, List.getElem?_map, ht] at hl
    simpa using hl
  simp only [Prod.mk.injEq] at hlt
  obtain ⟨hs, ho⟩ := hlt
  have hg := ivCells_get tl _ t ht
  rcases h2.2 with ⟨_, h0⟩ | ⟨b, cap, cur, hv, hb, hc, hn, hm, hsz, htk⟩
  · omega
  · have hcell : ∀ k u, (ivCells tl)[k]? = some u → w.cell? ⟨b, k, none⟩ = some u := by
      intro k u hu
      rw [cell_blk hc, ← hu, ← htk, List.getElem?_take]
      have hk : k < (ivCells tl).length := by
        rcases Nat.lt_or_ge k (ivCells tl).length with h | h
        · exact h
        · rw [List.getElem?_eq_none h] at hu; simp at hu
      rw [ivCells_len] at hk
      rw [if_pos hk]; simp
    rw [List.length_map]
    exact ⟨b, cap, t.2.2, hv, hpos, by rw [← hs]; exact hcell _ _ hg.1, hcell _ _ hg.2, by rw [← ho]; exact h3 t (List.mem_of_getElem? ht)⟩
end Go.Proofs.Ytmkpljbkmkbnjaa
