/-
  THE ROW of paddocklaw5.HistorySame.
-/
import Derived.Test.YtmkpljbkmkbnjaaRows
import Derived.Test.YtmkpljbkmkbnjaaSame
import Derived.ProofKit
import Derived.Deep.Strs
namespace Go.Proofs.Ytmkpljbkmkbnjaa.samep
open Go.ChangeShapes Go.WideShapes Go.ChangeAt Go.RowKit Go.Deep
set_option linter.unusedVariables false
set_option linter.unusedSimpArgs false

theorem own : ownKnob Try.prog.godebug = none := by kernel_rfl
theorem laidOut : laidOutB Try.prog = true := by kernel_rfl
theorem cells5' : Try.prog.cellsOf 5 = 1 := by kernel_rfl
theorem open_bytes {H : Type} {enc : TypeId × Value → H} {W : World} {base : Nat} {held : Bool} {fuel : Nat} {cs : List Value} {x : DataW H × List MemPlace} (h : DataW.trod enc Try.prog W base (fun _ => true) held fuel 36 cs = some x) :
    ∃ oa oc ord, cs = [.slice oa (List.length ord) oc] ∧ OrdRow W oa ord := by
  rcases open_ints Try.underlying36 Try.underlying5 cells5' h with ⟨rfl, _⟩ | ⟨a, len, cap, zs, rfl, _, hl, hm, hz, _, hcell, hwz⟩
  · exact ⟨none, 0, [], rfl, fun k x hx => by simp at hx⟩
  · rw [if_pos rfl] at hz
    have hlen : ((zs.take len).map Int.toNat).length = len := by rw [List.length_map, List.length_take]; omega
    refine ⟨some a, cap, (zs.take len).map Int.toNat, by rw [hlen], fun k x hx => ?_⟩
    have hk : k < len := by
      rcases Nat.lt_or_ge k len with h | h
      · exact h
      · rw [List.getElem?_eq_none (by rw [hlen]; exact h)] at hx; simp at hx
    have hkz : k < zs.length := by omega
    rw [List.getElem?_map, List.getElem?_take, if_pos hk, List.getElem?_eq_getElem hkz] at hx
    simp at hx
    have hw := hwz _ (List.getElem_mem hkz)
    have hr : 0 ≤ zs[k] ∧ zs[k] ≤ 255 := by simpa [Lit.wf, IntKind.min, IntKind.max, IntKind.signed, IntKind.bits] using hw
    refine ⟨by omega, a, rfl, ?_⟩
    rw [hcell k hkz, List.getD_eq_getElem?_getD, List.getElem?_eq_getElem hkz, ← hx, Int.toNat_of_nonneg hr.1]
    rfl

set_option maxRecDepth 100000 in
set_option maxHeartbeats 0 in
theorem lifted (os : Os) (started : os.Started) (H : Type) (enc : TypeId × Value → H) :
    ReturnsInHanded {} Try.checked os 8 .any (Rows.historySameSpec.pre6 enc Try.prog Try.f8 Rows.historySameRow.domain false) (Rows.historySameSpec.post enc Try.prog Try.f8 false true false false) := by
  refine returnsInHanded_of_change (C := Try.checked) own started (by kernel_rfl) Try.func8
    (ChangeSpec.witness6 (enc := enc) (C := Try.checked) false ⟨#[], #[.slice none 0 0, .slice none 0 0], []⟩ 8 (by kernel_rfl) (by kernel_rfl) (by kernel_rfl) (by kernel_rfl)) ?_
  intro W base args ds gs before hval0 hW hcnd _
  have hval : ∀ (j : Nat) t v, Try.f8.params[j]? = some t → args[j]? = some v → Value.okWide Try.prog W .any base t v := hval0
  have hW' := hW
  obtain ⟨p, q, hA0, hV, rfl, hfz, hnd⟩ := hW
  have hA : DataW.TrodAll enc Try.prog W 0 (fun _ => true) true Try.f8.params.toList args.toList ds p := hA0
  rw [Try.params8] at hA hval
  obtain ⟨v0, v1, d0, d1, p0, p1, rfl, rfl, rfl, h0, h1⟩ := trodAll_two hA
  obtain ⟨rfl, rfl⟩ := trodVars_none hV
  have hV' : ∀ (W' : World) (sp : Nat → Bool), DataW.TrodVars enc Try.prog W' sp Rows.historySameSpec.vars [] [] := fun _ _ => rfl
  obtain ⟨sa, len, cap, rfl⟩ := okWide_slice Try.underlying43 (hval 0 43 v0 rfl rfl)
  obtain ⟨oa, olen, ocap, rfl⟩ := okWide_slice Try.underlying36 (hval 1 36 v1 rfl rfl)
  have h0k := h0
  have h1k := h1
  obtain ⟨fuel, hf⟩ := h0
  obtain ⟨fuel1, hf1⟩ := h1
  obtain ⟨v, l, hv, hr, hok⟩ := open_incs hf
  obtain ⟨oa', oc', ord, hv1, hor⟩ := open_bytes hf1
  simp [Value.cells] at hv hv1
  subst hv
  obtain ⟨rfl, rfl, rfl⟩ := hv1
  clear hA0 hval0
  simp only [List.append_nil] at hW'
  have hlt : ∀ x ∈ p0 ++ p1, x.block < W.heap.size := fun x hx => by simpa using hW'.lt x hx
  have hargs0 : ∀ (W' : World), Below W.heap.size W W' → DataW.Trod enc Try.prog W' 0 (fun b => decide (b < W.heap.size)) true 43 (.slice sa len cap) d0 p0 :=
    fun W' hn => Below.trod laidOut (by kernel_rfl) (of_decide_eq_true (by kernel_rfl)) h0k hn (fun x hx => hlt x (List.mem_append_left _ hx))
  have hargs1 : ∀ (W' : World), Below W.heap.size W W' → DataW.Trod enc Try.prog W' 0 (fun b => decide (b < W.heap.size)) true 36 (.slice oa ord.length ocap) d1 p1 :=
    fun W' hn => Below.trod laidOut (by kernel_rfl) (of_decide_eq_true (by kernel_rfl)) h1k hn (fun x hx => hlt x (List.mem_append_right _ hx))
  refine (sameW_any _ l oa ocap ord W hr hok hor).mono fun e W' ⟨he, hu⟩ => ?_
  subst he
  have hb := hu.below
  exact ⟨_, rfl, _, _, _, [], _, [], hW', trodAll_mk1 (shut_bool Try.underlying4 _), trodAll_mk2 (hargs0 _ hb) (hargs1 _ hb), hV' _ _, hb.frame _, fun h => by cases h⟩

theorem holds : Rows.HistorySameSaid :=
  OpenClaim.holds_of_wide 8 Try.f8 rfl rfl rfl rfl rfl rfl rfl ⟨rfl, rfl, rfl, rfl, rfl⟩ rfl rfl rfl rfl rfl (by kernel_rfl) Try.func8 (by kernel_rfl)
    (of_decide_eq_true (by kernel_rfl)) (by unfold Func.isWrapper; first | (rw [if_pos (by decide +kernel)]; kernel_rfl) | (rw [if_neg (by decide +kernel)]; exact ⟨rfl, rfl⟩))
    (fun os started H enc _ => lifted os started H enc)
end Go.Proofs.Ytmkpljbkmkbnjaa.samep
