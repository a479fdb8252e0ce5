/-
  THE WALK of slices.DeleteFunc at whole numbers: what is left is the list without those that the predicate holds of.
-/
import Derived.Test.YtmkpljbkmkbnjaaFuncs
import Derived.Lib.SliceRun
namespace Go.Proofs.Ytmkpljbkmkbnjaa
open Go.RowKit
set_option linter.unusedVariables false
set_option linter.unusedSimpArgs false

theorem blk_setCells {g : Nat} {t : TypeId} : ∀ (vs : List Value) (o : Nat) (w : World) (cur : Array Value), w.heap[g]? = some (.cells cur t (0, 0)) →
    ∃ cur', (w.setCells g o vs).heap[g]? = some (.cells cur' t (0, 0)) ∧ cur'.size = cur.size ∧ ∀ j, j < o → cur'[j]? = cur[j]?
  | [], o, w, cur, h => ⟨cur, h, rfl, fun _ _ => rfl⟩
  | v :: r, o, w, cur, h => by
    obtain ⟨cur', h1, h2, h3⟩ := blk_setCells r (o + 1) (w.setCell ⟨g, o, none⟩ v) _ (blk_setCell h)
    refine ⟨cur', h1, by rw [h2]; simp, fun j hj => ?_⟩
    rw [h3 j (by omega), Array.getElem?_setIfInBounds_ne (by omega)]
theorem upd_setCells {F : Nat → Prop} {g : Nat} {a : World} (hg : F g ∨ a.heap.size ≤ g) : ∀ (vs : List Value) (o : Nat) (w : World), Upd F a w → Upd F a (w.setCells g o vs)
  | [], o, w, h => h
  | v :: r, o, w, h => upd_setCells hg r (o + 1) _ (h.setCell (p := ⟨g, o, none⟩) hg v)

def keep (p : Nat → Bool) (l : List Nat) : List Nat := l.filter fun x => !p x
theorem keep_snoc (p : Nat → Bool) (l : List Nat) (k : Nat) (hk : k < l.length) : keep p (l.take (k + 1)) = if p (l.getD k 0) then keep p (l.take k) else keep p (l.take k) ++ [l.getD k 0] := by
  unfold keep
  rw [List.take_succ_eq_append_getElem hk, List.filter_append, List.getD_eq_getElem?_getD, List.getElem?_eq_getElem hk]
  cases h : p l[k] <;> simp [h]
theorem keep_le (p : Nat → Bool) (l : List Nat) (k : Nat) : (keep p (l.take k)).length ≤ k := by
  have h1 := List.length_filter_le (fun x => !p x) (l.take k)
  have h2 : (l.take k).length ≤ k := List.length_take_le _ _
  unfold keep; omega
/-- what the place of the first one says -/
theorem idxOf_split (p : Nat → Bool) : ∀ (l : List Nat) (i : Int), (idxOf p l i = -1 ∧ keep p l = l) ∨
    ∃ k : Nat, k < l.length ∧ idxOf p l i = i + k ∧ p (l.getD k 0) = true ∧ keep p (l.take k) = l.take k := by
  intro l
  induction l with
  | nil => intro i; left; exact ⟨rfl, rfl⟩
  | cons x r ih =>
    intro i
    by_cases hx : p x = true
    · right; refine ⟨0, by simp, by simp [idxOf, hx], by simpa using hx, by simp [keep]⟩
    · have hx' : p x = false := by simpa using hx
      rcases ih (i + 1) with ⟨h1, h2⟩ | ⟨k, h1, h2, h3, h4⟩
      · left
        unfold keep at h2 ⊢
        refine ⟨by simp [idxOf, hx', h1], by simp [List.filter_cons, hx', h2]⟩
      · right
        unfold keep at h4 ⊢
        refine ⟨k + 1, by simpa using h1, by simp [idxOf, hx', h2]; omega, by simpa using h3, by simp [List.filter_cons, hx', h4]⟩

/-- the row in the midst of the loop -/
def DelMid (g cap : Nat) (p : Nat → Bool) (l : List Nat) (k : Nat) (w wr : World) (cur : Array Value) : Prop :=
  wr.heap[g]? = some (.cells cur 3 (0, 0)) ∧ cur.size = cap ∧
    (∀ a, a < (keep p (l.take k)).length → cur[a]? = some (.int .i64 (((keep p (l.take k)).getD a 0 : Nat) : Int))) ∧
    (∀ a, k ≤ a → a < l.length → cur[a]? = some (.int .i64 ((l.getD a 0 : Nat) : Int))) ∧ Upd (fun b => b = g) w wr
def DelPost (p : Nat → Bool) (l : List Nat) (v : Value) (base : Nat) (w : World) (e : Ending) (w' : World) : Prop :=
  ∃ v', e = .returned v' ∧ RowN w' base v' (keep p l) ∧ Upd (fun b => v.ownBlock = some b) w w'
theorem mid_miss {g cap : Nat} {p : Nat → Bool} {l : List Nat} {k : Nat} {w wr w' : World} {cur : Array Value} (h : DelMid g cap p l k w wr cur) (hk : k < l.length) (hp : p (l.getD k 0) = true) (hu : Upd Nix wr w') : DelMid g cap p l (k + 1) w w' cur := by
  obtain ⟨h1, h2, h3, h4, h5⟩ := h
  refine ⟨hu.keep h1 (fun f => f), h2, ?_, fun a ha hb => h4 a (by omega) hb, h5.trans hu.nix⟩
  rw [keep_snoc p l k hk, if_pos hp]
  exact h3
theorem mid_hit {g cap : Nat} {p : Nat → Bool} {l : List Nat} {k x : Nat} {w wr w' : World} {cur : Array Value} (h : DelMid g cap p l k w wr cur) (hk : k < l.length) (hx : l.getD k 0 = x) (hp : p x = false) (hu : Upd Nix wr w')
    (hlen : (keep p (l.take k)).length < k) (hcap : l.length ≤ cap) :
    DelMid g cap p l (k + 1) w (w'.setCell ⟨g, (keep p (l.take k)).length, none⟩ (.int .i64 (x : Int))) (cur.setIfInBounds (keep p (l.take k)).length (.int .i64 (x : Int))) := by
  obtain ⟨h1, h2, h3, h4, h5⟩ := h
  refine ⟨blk_setCell (hu.keep h1 (fun f => f)), by simpa using h2, ?_, fun a ha hb => ?_, (h5.trans hu.nix).setCell (.inl rfl) _⟩
  · rw [keep_snoc p l k hk, hx, hp, if_neg (by simp)]
    intro a ha
    simp only [List.length_append, List.length_cons, List.length_nil] at ha
    by_cases e : a = (keep p (l.take k)).length
    · subst e
      rw [Array.getElem?_setIfInBounds_self_of_lt (by omega)]
      simp
    · rw [Array.getElem?_setIfInBounds_ne (by omega), h3 a (by omega)]
      rw [List.getD_eq_getElem?_getD, List.getD_eq_getElem?_getD, List.getElem?_append_left (by omega)]
  · rw [Array.getElem?_setIfInBounds_ne (by omega)]
    exact h4 a (by omega) hb

/-- the row that the loop leaves, cleared behind its first i -/
theorem row_done {g cap : Nat} {p : Nat → Bool} {l : List Nat} {w' : World} {cur : Array Value} {base : Nat} (hb : base ≤ g) (hcm : cap ≤ maxLen) (hcap : l.length ≤ cap)
    (h1 : w'.heap[g]? = some (.cells cur 3 (0, 0))) (h2 : cur.size = cap)
    (h3 : ∀ a, a < (keep p l).length → cur[a]? = some (.int .i64 (((keep p l).getD a 0 : Nat) : Int))) :
    RowN w' base (.slice (some ⟨g, 0, none⟩) (keep p l).length cap) (keep p l) := by
  have hle : (keep p l).length ≤ l.length := List.length_filter_le _ _
  refine ⟨by simp [natsV_len], .inr ⟨g, cap, cur, rfl, hb, h1, by omega, hcm, by omega, ?_⟩⟩
  apply List.ext_getElem?
  intro a
  rw [List.getElem?_take, Nat.mul_one]
  split
  · rename_i ha
    have := h3 a ha
    rw [List.getD_eq_getElem?_getD, List.getElem?_eq_getElem ha] at this
    rw [natsV, List.getElem?_map, List.getElem?_eq_getElem ha]
    simpa using this
  · rename_i ha
    rw [List.getElem?_eq_none]
    rw [natsV_len]; omega

/-- the row as the loop finds it -/
theorem mid_start {g cap : Nat} {p : Nat → Bool} {l : List Nat} {k : Nat} {w w' : World} {base : Nat} (hr : RowN w base (.slice (some ⟨g, 0, none⟩) l.length cap) l) (hk : k < l.length) (hp : p (l.getD k 0) = true)
    (hkk : keep p (l.take k) = l.take k) (hu : Upd Nix w w') : ∃ cur, DelMid g cap p l (k + 1) w w' cur := by
  have hlen : (l.take k).length = k := by rw [List.length_take]; omega
  obtain ⟨_, hr2⟩ := id hr
  rcases hr2 with ⟨h, _⟩ | ⟨g', cap', cur, h, hb, hg, h1, h2, h3, h4⟩
  · simp at h
  · simp only [Value.slice.injEq, Option.some.injEq, Addr.mk.injEq] at h
    obtain ⟨⟨rfl, _⟩, _, rfl⟩ := h
    have hall : ∀ a, a < l.length → cur[a]? = some (.int .i64 ((l.getD a 0 : Nat) : Int)) := by
      intro a ha
      obtain ⟨g2, cap2, e, _, _, _, _, hc⟩ := nats_row hr (by omega)
      simp only [Value.slice.injEq, Option.some.injEq, Addr.mk.injEq] at e
      obtain ⟨⟨rfl, _⟩, _, rfl⟩ := e
      have := hc a ha
      rwa [cell_blk hg] at this
    refine ⟨cur, hu.keep hg (fun f => f), by omega, ?_, fun a _ ha => hall a ha, hu.nix⟩
    rw [keep_snoc p l k hk, if_pos hp, hkk, hlen]
    intro a ha
    rw [hall a (by omega), List.getD_eq_getElem?_getD, List.getD_eq_getElem?_getD, List.getElem?_take, if_pos ha]
set_option maxRecDepth 10000 in
set_option maxHeartbeats 1000000 in
theorem deleteFunc_any (F : FuncId) (A C : Array Value) (p : Nat → Bool) (l : List Nat) (v : Value) (w : World) (base : Nat) (hr : RowN w base v l) (hl2 : l.length ≤ 1000)
    (hF : ∀ (args : Array Value) (w : World), (callFunc F args).run Try.prog w = .ok (.enter F args) w) (ht : Tells (fun b => v.ownBlock = some b) F A C l p w) :
    Calls Try.prog 47 #[v, .func (.func F) A C] w (DelPost p l v base w) := by
  have hidx := indexFunc_all F A C p l v w base hr hl2 hF _ ht
  rcases idxOf_split p l 0 with ⟨hi, hk⟩ | ⟨k0, hk0, hi, hpk, hkk⟩
  · unfold IdxPost at hidx
    rw [hi] at hidx
    have HI := hid hidx; have HR := hid hr; have HK := hid hk
    clear hidx hr hk ht hi
    go_enter Try.func47, Try.ntmps47
    go_wp2_with fail
    refine HI.out.mono ?_
    rintro e w' ⟨rfl, hu⟩
    have HU := hid hu
    clear hu
    go_wp2_with fail
    go_ret
    exact ⟨v, rfl, by rw [HK.out]; exact row_keep HR.out HU.out (fun _ _ f => f), HU.out.nix⟩
  · obtain ⟨g, cap, rfl, hb, hg, hcap, hcm, _⟩ := nats_row hr (by omega)
    have hi' : idxOf p l 0 = (k0 : Int) := by rw [hi]; omega
    unfold IdxPost at hidx
    rw [hi'] at hidx
    have hst := fun (w' : World) => mid_start (w' := w') hr hk0 hpk hkk
    have hke : (keep p (l.take (k0 + 1))).length = k0 := by
      rw [keep_snoc p l k0 hk0, if_pos hpk, hkk, List.length_take]; omega
    have ht' : Tells (fun b => b = g) F A C l p w := fun o ho w' hw => ht o ho w' (hw.mono (fun k _ e => by simp [Value.ownBlock]; exact e.symm))
    obtain ⟨n, hn⟩ : ∃ n, n = l.length := ⟨_, rfl⟩
    rw [← hn] at hcap hl2 hk0 ⊢
    have HI := hid hidx; have HR := hid hr; have HT := hid ht'; have HST := hid hst; have HKE := hid hke; have HN := hid hn
    clear hidx hr ht ht' hst hi hi' hpk hkk hke hn
    have hk1 : ((k0 : Int) == -1) = false := by rw [beq_eq_false_iff_ne]; omega
    go_enter Try.func47, Try.ntmps47
    go_wp2_with fail
    rw [HN.out]
    refine HI.out.mono ?_
    rintro e w' ⟨rfl, hu⟩
    have HU := hid hu
    clear hu
    rw [← HN.out]
    go_wp2_with fail
    go_loopw [5, 6] (fun i j wr => ∃ k : Nat, ∃ cur : Array Value, k ≤ n ∧ j = .int .i64 k ∧ i = .int .i64 ((keep p (l.take k)).length : Nat) ∧ (keep p (l.take k)).length < k ∧ Hid (DelMid g cap p l k w wr cur)) (fun _ j _ => n - (intOf j).toNat)
    case atStart =>
      obtain ⟨cur, hm⟩ := HST.out _ HU.out
      exact ⟨k0 + 1, cur, by omega, by go_num, by rw [HKE.out], by rw [HKE.out]; omega, hm⟩
    case round =>
      obtain ⟨k, cur, hk, rfl, rfl, hlt0, H⟩ := hrel
      by_cases hlt : k < n
      · have hkl : k < l.length := by have := HN.out; omega
        have hck : wr.cell? ⟨g, k, none⟩ = some (.int .i64 ((l.getD k 0 : Nat) : Int)) := by rw [cell_blk H.out.1]; exact H.out.2.2.2.1 k (by omega) hkl
        have hx : l.getD k 0 ∈ l := by rw [List.getD_eq_getElem?_getD, List.getElem?_eq_getElem hkl]; exact List.getElem_mem hkl
        have hcall := HT.out _ hx wr H.out.2.2.2.2
        have hsn := keep_snoc p l k hkl
        obtain ⟨q, hq⟩ : ∃ q, q = (keep p (l.take k)).length := ⟨_, rfl⟩
        have hmm := fun (w' : World) => mid_miss (w' := w') H.out hkl
        have hmh := fun (w' : World) (x : Nat) (hx : l.getD k 0 = x) => mid_hit (w' := w') H.out hkl hx
        generalize hxx : l.getD k 0 = x at *
        have HX := hid hxx; have HCALL := hid hcall; have HSN := hid hsn; have HMM := hid hmm; have HMH := hid hmh
        rw [← hq] at hlt0
        have HQ := hid hq
        have hcs : cur.size = cap := H.out.2.1
        clear hxx hx hcall hsn hmm hmh hkl
        rw [← HQ.out]
        clear hq
        go_wp2_with fail
        refine HCALL.out.mono ?_
        rintro e w' ⟨rfl, hu⟩
        cases hp : p x
        · have hcq : w'.cell? ⟨g, q, none⟩ = some (cur[q]'(by omega)) := by
            rw [cell_blk (hu.keep H.out.1 (fun f => f))]; exact Array.getElem?_eq_getElem (by omega)
          have hfq := free_blk (hu.keep H.out.1 (fun f => f)) q
          have HU := hid hu; have HP := hid hp
          clear hu hp
          go_wp2
          go_roundw
          case rel =>
            have hm := HMH.out w' x rfl HP.out HU.out (by rw [← HQ.out]; exact hlt0) (by rw [← HN.out]; exact hcap)
            have e : (keep p (l.take (k + 1))).length = q + 1 := by rw [HSN.out, HP.out, if_neg (by simp), List.length_append, ← HQ.out]; rfl
            rw [← HQ.out] at hm
            exact ⟨k + 1, _, by omega, by go_num, by rw [e]; go_num, by rw [e]; omega, hm⟩
          case measure => simp [intOf]; omega
        · have HU := hid hu; have HP := hid hp
          clear hu hp
          go_wp2
          go_roundw
          case rel =>
            have hm := HMM.out w' HP.out HU.out
            have e : (keep p (l.take (k + 1))).length = q := by rw [HSN.out, HP.out, if_pos rfl, ← HQ.out]
            exact ⟨k + 1, _, by omega, by go_num, by rw [e], by rw [e]; omega, hm⟩
          case measure => simp [intOf]; omega
      · have : k = n := by omega
        subst this
        have htk : l.take k = l := by rw [HN.out]; exact List.take_length
        obtain ⟨q, hq⟩ : ∃ q, q = (keep p (l.take k)).length := ⟨_, rfl⟩
        have hcs : cur.size = cap := H.out.2.1
        rw [← hq] at hlt0
        have hcl : ∀ ty, (Builtin.clear_ #[60] ty #[.slice (some ⟨g, q, none⟩) (k - q) (cap - q)]).run Try.prog wr = .ok (.tuple #[]) (wr.setCells g q (List.replicate (k - q) (.int .i64 0))) :=
          fun ty => Lib.run_clear_slice wr 60 3 ty (.int .i64 0) Try.underlying60 (fun _ => by kernel_rfl) rfl rfl g q (k - q) (cap - q) (by omega)
            (fun j hj => by rw [cell_blk H.out.1, Array.getElem?_eq_getElem (by omega)]; rfl) (fun j hj => free_blk H.out.1 _)
        have HQ := hid hq; have HTK := hid htk
        clear htk
        rw [← hq]
        clear hq
        go_wp2
        go_ret
        have hkq := H.out
        unfold DelMid at hkq
        rw [HTK.out] at hkq
        obtain ⟨h1, h2, h3, h4, h5⟩ := hkq
        obtain ⟨cur', c1, c2, c3⟩ := blk_setCells (List.replicate (k - q) (.int .i64 0)) q wr cur h1
        have hq' : q = (keep p l).length := by have := HQ.out; rwa [HTK.out] at this
        have hrow := row_done (p := p) (l := l) hb hcm (by rw [← HN.out]; exact hcap) c1 (by omega) (fun a ha => by rw [c3 a (by omega)]; exact h3 a ha)
        rw [← hq'] at hrow
        exact ⟨_, rfl, hrow, upd_setCells (.inl (by simp [Value.ownBlock])) _ _ _ (h5.mono (fun i _ e => by simp [Value.ownBlock]; exact e.symm))⟩
end Go.Proofs.Ytmkpljbkmkbnjaa
