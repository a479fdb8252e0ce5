/-
  THE ROW of paddocklaw5.HistoryFull.
-/
import Derived.Test.YtmkpljbkmkbnjaaRows
import Derived.Test.YtmkpljbkmkbnjaaFull
import Derived.ProofKit
import Derived.Deep.Strs
namespace Go.Proofs.Ytmkpljbkmkbnjaa.full
open Go.ChangeShapes Go.WideShapes Go.ChangeAt Go.RowKit Go.Deep
set_option linter.unusedVariables false
set_option linter.unusedSimpArgs false

theorem own : ownKnob Try.prog.godebug = none := by kernel_rfl
theorem cells50 : Try.prog.cellsOf 50 = 3 := by kernel_rfl
theorem cells5 : Try.prog.cellsOf 5 = 1 := by kernel_rfl
theorem cells3 : Try.prog.cellsOf 3 = 1 := by kernel_rfl

theorem three_of (cs : Array Value) (h : cs.size = 3) : ∃ a b c, cs = #[a, b, c] := by
  obtain ⟨l⟩ := cs
  match l, h with
  | [a, b, c], _ => exact ⟨a, b, c, rfl⟩
set_option maxRecDepth 100000 in
set_option maxHeartbeats 0 in
theorem lifted (os : Os) (started : os.Started) (H : Type) (enc : TypeId × Value → H) :
    ReturnsInHanded {} Try.checked os 5 .any (Rows.historyFullSpec.pre6 enc Try.prog Try.f5 Rows.historyFullRow.domain false) (Rows.historyFullSpec.post enc Try.prog Try.f5 false true false false) := by
  refine returnsInHanded_of_change (C := Try.checked) own started (by kernel_rfl) Try.func5
    (ChangeSpec.witness6 (enc := enc) (C := Try.checked) false ⟨#[], #[.agg #[.int .u8 0, .int .u8 0, .int .i64 0]], []⟩ 8 (by kernel_rfl) (by kernel_rfl) (by kernel_rfl) (by kernel_rfl)) ?_
  intro W base args ds gs before hval0 hW hcnd _
  have hval : ∀ (j : Nat) t v, Try.f5.params[j]? = some t → args[j]? = some v → Value.okWide Try.prog W .any base t v := hval0
  have hW' := hW
  obtain ⟨p, q, hA0, hV, rfl, hfz, hnd⟩ := hW
  have hA : DataW.TrodAll enc Try.prog W 0 (fun _ => true) true Try.f5.params.toList args.toList ds p := hA0
  rw [Try.params5] at hA hval
  obtain ⟨v0, d0, rfl, rfl, h0⟩ := trodAll_one hA
  obtain ⟨rfl, rfl⟩ := trodVars_none hV
  have hV' : ∀ (W' : World) (sp : Nat → Bool), DataW.TrodVars enc Try.prog W' sp Rows.historyFullSpec.vars [] [] := fun _ _ => rfl
  obtain ⟨cs, rfl, hsz⟩ := okWide_struct Try.underlying50 (hval 0 50 v0 rfl rfl)
  rw [cells50] at hsz
  obtain ⟨c0, c1, c2, rfl⟩ := three_of cs hsz
  clear hsz
  obtain ⟨fuel, hf⟩ := h0
  obtain ⟨y0, y1, y2, m, hx, _, hy0, hy1, hy2⟩ := trod_struct3 Try.underlying50 hf
  obtain ⟨a, e0, rfl, wa⟩ := DataW.trod_int Try.underlying5 hy0
  obtain ⟨b, e1, rfl, wb⟩ := DataW.trod_int Try.underlying5 hy1
  obtain ⟨c, e2, rfl, wc⟩ := DataW.trod_int Try.underlying3 hy2
  simp [Value.cells, cells5, cells3] at e0 e1 e2
  subst e0 e1 e2
  simp only [Prod.mk.injEq] at hx
  obtain ⟨rfl, rfl⟩ := hx
  clear hA0 hval0
  simp only [List.append_nil] at hW'
  have structReads : ∀ (W' : World) (sp : Nat → Bool), DataW.Trod enc Try.prog W' 0 sp true 50 (.agg #[.int .u8 a, .int .u8 b, .int .i64 c]) (.agg [.lit (.int .u8 a), .lit (.int .u8 b), .lit (.int .i64 c)]) [] := fun W' sp => ⟨2, by
    have f0 : DataW.trod enc Try.prog W' 0 sp true 1 5 [.int .u8 a] = some (.lit (.int .u8 a), []) := by simp [DataW.trod, Try.underlying5, wa]
    have f1 : DataW.trod enc Try.prog W' 0 sp true 1 5 [.int .u8 b] = some (.lit (.int .u8 b), []) := by simp [DataW.trod, Try.underlying5, wb]
    have f2 : DataW.trod enc Try.prog W' 0 sp true 1 3 [.int .i64 c] = some (.lit (.int .i64 c), []) := by simp [DataW.trod, Try.underlying3, wc]
    have := trod_struct3_mk (enc := enc) (w := W') (base := 0) (spare := sp) (held := true) (n := 1) (cs := [.int .u8 a, .int .u8 b, .int .i64 c]) Try.underlying50 (by simp [cells50]) (by simpa [cells5] using f0) (by simpa [cells5] using f1) (by simpa [cells3] using f2)
    simpa [Value.cells] using this⟩
  have hxa : 0 ≤ a ∧ a ≤ 255 := by simpa [Lit.wf, IntKind.min, IntKind.max, IntKind.signed, IntKind.bits] using wa
  have hxb : 0 ≤ b ∧ b ≤ 255 := by simpa [Lit.wf, IntKind.min, IntKind.max, IntKind.signed, IntKind.bits] using wb
  refine (full_any ⟨a, b, c⟩ ⟨hxa.1, hxa.2, hxb.1, hxb.2⟩ W).mono fun e W' ⟨he, hu⟩ => ?_
  subst he
  have hb := hu.below
  exact ⟨_, rfl, _, _, [], [], [], [], hW', trodAll_mk1 (shut_bool Try.underlying4 _), trodAll_mk1 (structReads _ _), hV' _ _, hb.frame _, fun h => by cases h⟩

theorem holds : Rows.HistoryFullSaid :=
  OpenClaim.holds_of_wide 5 Try.f5 rfl rfl rfl rfl rfl rfl rfl ⟨rfl, rfl, rfl, rfl, rfl⟩ rfl rfl rfl rfl rfl (by kernel_rfl) Try.func5 (by kernel_rfl)
    (of_decide_eq_true (by kernel_rfl)) (by unfold Func.isWrapper; first | (rw [if_pos (by decide +kernel)]; kernel_rfl) | (rw [if_neg (by decide +kernel)]; exact ⟨rfl, rfl⟩))
    (fun os started H enc _ => lifted os started H enc)
end Go.Proofs.Ytmkpljbkmkbnjaa.full
