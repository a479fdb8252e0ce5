/-
  THE ROW of paddocklaw5.HistoryDown.
-/
import Derived.Test.YtmkpljbkmkbnjaaRows
import Derived.Test.YtmkpljbkmkbnjaaDown
import Derived.ProofKit
namespace Go.Proofs.Ytmkpljbkmkbnjaa.down
open Go.ChangeShapes Go.WideShapes Go.ChangeAt Go.RowKit
set_option linter.unusedVariables false
set_option linter.unusedSimpArgs false

theorem own : ownKnob Try.prog.godebug = none := by kernel_rfl

theorem walk (a b : Int) (wa : (Lit.int .u8 a).wf = true) (wb : (Lit.int .u8 b).wf = true) (w : World) : Calls Try.prog 6 #[.int .u8 a, .int .u8 b] w (KnownPost w) := by
  have hxa : 0 ≤ a ∧ a ≤ 255 := by simpa [Lit.wf, IntKind.min, IntKind.max, IntKind.signed, IntKind.bits] using wa
  have hxb : 0 ≤ b ∧ b ≤ 255 := by simpa [Lit.wf, IntKind.min, IntKind.max, IntKind.signed, IntKind.bits] using wb
  have h := down_any a.toNat b.toNat (by omega) (by omega) w
  rw [Int.toNat_of_nonneg hxa.1, Int.toNat_of_nonneg hxb.1] at h
  exact h

set_option maxRecDepth 100000 in
set_option maxHeartbeats 0 in
theorem lifted (os : Os) (started : os.Started) (H : Type) (enc : TypeId × Value → H) :
    ReturnsInHanded {} Try.checked os 6 .any (Rows.historyDownSpec.pre6 enc Try.prog Try.f6 Rows.historyDownRow.domain false) (Rows.historyDownSpec.post enc Try.prog Try.f6 false true false false) := by
  refine returnsInHanded_of_change (C := Try.checked) own started (by kernel_rfl) Try.func6
    (ChangeSpec.witness6 (enc := enc) (C := Try.checked) false ⟨#[], #[.int .u8 0, .int .u8 0], []⟩ 8 (by kernel_rfl) (by kernel_rfl) (by kernel_rfl) (by kernel_rfl)) ?_
  intro W base args ds gs before hval0 hW hcnd _
  have hval : ∀ (j : Nat) t v, Try.f6.params[j]? = some t → args[j]? = some v → Value.okWide Try.prog W .any base t v := hval0
  have hW' := hW
  obtain ⟨p, q, hA0, hV, rfl, hfz, hnd⟩ := hW
  have hA : DataW.TrodAll enc Try.prog W 0 (fun _ => true) true Try.f6.params.toList args.toList ds p := hA0
  rw [Try.params6] at hA hval
  obtain ⟨v0, v1, d0, d1, p0, p1, rfl, rfl, rfl, h0, h1⟩ := trodAll_two hA
  obtain ⟨rfl, rfl⟩ := trodVars_none hV
  have hV' : ∀ (W' : World) (sp : Nat → Bool), DataW.TrodVars enc Try.prog W' sp Rows.historyDownSpec.vars [] [] := fun _ _ => rfl
  obtain ⟨a, rfl, rfl, rfl, wa⟩ := open_int Try.underlying5 (hval 0 5 v0 rfl rfl) h0
  obtain ⟨b, rfl, rfl, rfl, wb⟩ := open_int Try.underlying5 (hval 1 5 v1 rfl rfl) h1
  clear hA0 hval0
  simp only [List.append_nil] at hW'
  refine (walk a b wa wb W).mono fun e W' ⟨he, hu⟩ => ?_
  subst he
  have hb := hu.below
  exact ⟨_, rfl, _, _, [], [], [], [], hW', trodAll_mk1 (shut_bool Try.underlying4 _), trodAll_mk2 (shut_int Try.underlying5 wa) (shut_int Try.underlying5 wb), hV' _ _, hb.frame _, fun h => by cases h⟩

theorem holds : Rows.HistoryDownSaid :=
  OpenClaim.holds_of_wide 6 Try.f6 rfl rfl rfl rfl rfl rfl rfl ⟨rfl, rfl, rfl, rfl, rfl⟩ rfl rfl rfl rfl rfl (by kernel_rfl) Try.func6 (by kernel_rfl)
    (of_decide_eq_true (by kernel_rfl)) (by unfold Func.isWrapper; first | (rw [if_pos (by decide +kernel)]; kernel_rfl) | (rw [if_neg (by decide +kernel)]; exact ⟨rfl, rfl⟩))
    (fun os started H enc _ => lifted os started H enc)
end Go.Proofs.Ytmkpljbkmkbnjaa.down
