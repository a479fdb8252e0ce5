/-
  THE ROW of paddocklaw5.HistoryPlays.
-/
import Derived.Test.YtmkpljbkmkbnjaaRows
import Derived.Test.YtmkpljbkmkbnjaaPlays
import Derived.ProofKit
import Derived.Deep.Strs
namespace Go.Proofs.Ytmkpljbkmkbnjaa.playsp
open Go.ChangeShapes Go.WideShapes Go.ChangeAt Go.RowKit Go.Deep
set_option linter.unusedVariables false
set_option linter.unusedSimpArgs false

theorem own : ownKnob Try.prog.godebug = none := by kernel_rfl
theorem laidOut : laidOutB Try.prog = true := by kernel_rfl
theorem cells81 : Try.prog.cellsOf 81 = 5 := by kernel_rfl
theorem cells4 : Try.prog.cellsOf 4 = 1 := by kernel_rfl
theorem cells28 : Try.prog.cellsOf 28 = 1 := by kernel_rfl
theorem list_five (l : List Value) (h : l.length = 5) : ∃ a b c d e, l = [a, b, c, d, e] := by
  match l, h with
  | [a, b, c, d, e], _ => exact ⟨a, b, c, d, e, rfl⟩
set_option maxRecDepth 100000 in
theorem open_steps {H : Type} {enc : TypeId × Value → H} {W : World} {base : Nat} {sp : Nat → Bool} {held : Bool} {fuel : Nat} {cs : List Value} {x : DataW H × List MemPlace} (h : DataW.trod enc Try.prog W base sp held fuel 76 cs = some x) :
    ∃ va cap l, cs = [.slice va (List.length l) cap] ∧ StRow W va l := by
  rcases open_slice Try.underlying76 h with ⟨rfl, _⟩ | ⟨a, len, cap, m, n, D, Pl, rfl, hb, hl, hm, hmm, rfl, hx⟩
  · exact ⟨none, 0, [], rfl, fun k s hs => by simp at hs⟩
  have hlm : len ≤ m := by rw [hmm]; split <;> omega
  have each : ∀ i, i < len → ∃ q : St, StAt W a i q ∧ q.ep < 4294967296 ∧ IncOk q.x := by
    intro i hi
    obtain ⟨cs', h1, h2⟩ := hx i (by omega)
    rw [cells81] at h1
    obtain ⟨_, hlen, hcell⟩ := World.cells?_some h1
    obtain ⟨y0, y1, y2, k, hxy, _, g0, g1, g2⟩ := trod_struct3 Try.underlying81 h2
    obtain ⟨v0, v1, v2, v3, v4, rfl⟩ := list_five cs' hlen
    obtain ⟨p, e0, rfl⟩ := DataW.trod_bool Try.underlying4 g0
    obtain ⟨q, e1, rfl, wb⟩ := DataW.trod_int Try.underlying28 g1
    obtain ⟨z0, z1, z2, k2, _, _, t0, t1, t2⟩ := trod_struct3 Try.underlying50 g2
    obtain ⟨r, e2, rfl, wc⟩ := DataW.trod_int Try.underlying5 t0
    obtain ⟨s, e3, rfl, wd⟩ := DataW.trod_int Try.underlying5 t1
    obtain ⟨u, e4, rfl, we⟩ := DataW.trod_int Try.underlying3 t2
    simp [cells4, cells28, cells50, cells5, cells3] at e0 e1 e2 e3 e4
    subst e0 e1 e2 e3 e4
    have hq : 0 ≤ q ∧ q ≤ 4294967295 := by simpa [Lit.wf, IntKind.min, IntKind.max, IntKind.signed, IntKind.bits] using wb
    have hr : 0 ≤ r ∧ r ≤ 255 := by simpa [Lit.wf, IntKind.min, IntKind.max, IntKind.signed, IntKind.bits] using wc
    have hs : 0 ≤ s ∧ s ≤ 255 := by simpa [Lit.wf, IntKind.min, IntKind.max, IntKind.signed, IntKind.bits] using wd
    have e0 := hcell 0 (by omega)
    have e1 := hcell 1 (by omega)
    have e2 := hcell 2 (by omega)
    have e3 := hcell 3 (by omega)
    have e4 := hcell 4 (by omega)
    rw [add_add] at e0 e1 e2 e3 e4
    have b1 : (⟨(a.add (i * 5)).block, (a.add (i * 5)).off + 1, none⟩ : Addr) = a.add (i * 5 + 1) := by rw [← Go.Deep.add_add]; rfl
    have b2 : (⟨(a.add (i * 5)).block, (a.add (i * 5)).off + 2, none⟩ : Addr) = a.add (i * 5 + 2) := by rw [← Go.Deep.add_add]; rfl
    have b3 : (⟨(a.add (i * 5)).block, (a.add (i * 5)).off + 3, none⟩ : Addr) = a.add (i * 5 + 3) := by rw [← Go.Deep.add_add]; rfl
    have b4 : (⟨(a.add (i * 5)).block, (a.add (i * 5)).off + 4, none⟩ : Addr) = a.add (i * 5 + 4) := by rw [← Go.Deep.add_add]; rfl
    refine ⟨⟨p, q.toNat, ⟨r, s, u⟩⟩, ⟨by simpa using e0, ?_, ?_, ?_, ?_⟩, show q.toNat < 4294967296 by omega, ⟨hr.1, hr.2, hs.1, hs.2⟩⟩
    · rw [b1]; dsimp only; rw [Int.toNat_of_nonneg hq.1]; simpa using e1
    · rw [b2]; simpa using e2
    · rw [show (a.add (i * 5)).off + 2 + 1 = (a.add (i * 5)).off + 3 by omega, b3]; simpa using e3
    · rw [show (a.add (i * 5)).off + 2 + 2 = (a.add (i * 5)).off + 4 by omega, b4]; simpa using e4
  haveI : Inhabited St := ⟨⟨false, 0, Sp.zeroInc⟩⟩
  obtain ⟨q, hq⟩ := choose_lt (α := St) each
  refine ⟨some a, cap, (List.range len).map q, by simp, fun k s hs => ?_⟩
  rw [List.getElem?_map] at hs
  have hk2 : k < len := by
    rcases Nat.lt_or_ge k len with h | h
    · exact h
    · rw [List.getElem?_eq_none (by simpa using h)] at hs; simp at hs
  rw [List.getElem?_range hk2] at hs
  simp at hs
  subst hs
  exact ⟨(hq k hk2).2.1, (hq k hk2).2.2, a, rfl, (hq k hk2).1⟩
theorem walk (va : Option Addr) (vc : Nat) (l : List St) (b c : Int) (wb : (Lit.int .u8 b).wf = true) (wc : (Lit.int .u32 c).wf = true) (w : World) (hr : StRow w va l) : Calls Try.prog 10 #[.slice va l.length vc, .int .u8 b, .int .u32 c] w (KnownPost w) := by
  have hxb : 0 ≤ b ∧ b ≤ 255 := by simpa [Lit.wf, IntKind.min, IntKind.max, IntKind.signed, IntKind.bits] using wb
  have hxc : 0 ≤ c ∧ c ≤ 4294967295 := by simpa [Lit.wf, IntKind.min, IntKind.max, IntKind.signed, IntKind.bits] using wc
  have h := playsW_any va vc l b.toNat (by omega) c.toNat (by omega) w hr
  rw [Int.toNat_of_nonneg hxb.1, Int.toNat_of_nonneg hxc.1] at h
  exact h
set_option maxRecDepth 100000 in
set_option maxHeartbeats 0 in
theorem lifted (os : Os) (started : os.Started) (H : Type) (enc : TypeId × Value → H) :
    ReturnsInHanded {} Try.checked os 10 .any (Rows.historyPlaysSpec.pre6 enc Try.prog Try.f10 Rows.historyPlaysRow.domain false) (Rows.historyPlaysSpec.post enc Try.prog Try.f10 false true false false) := by
  refine returnsInHanded_of_change (C := Try.checked) own started (by kernel_rfl) Try.func10
    (ChangeSpec.witness6 (enc := enc) (C := Try.checked) false ⟨#[], #[.slice none 0 0, .int .u8 0, .int .u32 0], []⟩ 8 (by kernel_rfl) (by kernel_rfl) (by kernel_rfl) (by kernel_rfl)) ?_
  intro W base args ds gs before hval0 hW hcnd _
  have hval : ∀ (j : Nat) t v, Try.f10.params[j]? = some t → args[j]? = some v → Value.okWide Try.prog W .any base t v := hval0
  have hW' := hW
  obtain ⟨p, q, hA0, hV, rfl, hfz, hnd⟩ := hW
  have hA : DataW.TrodAll enc Try.prog W 0 (fun _ => true) true Try.f10.params.toList args.toList ds p := hA0
  rw [Try.params10] at hA hval
  obtain ⟨v0, v1, v2, d0, d1, d2, p0, p1, p2, rfl, rfl, rfl, h0, h1, h2⟩ := trodAll_three hA
  obtain ⟨rfl, rfl⟩ := trodVars_none hV
  have hV' : ∀ (W' : World) (sp : Nat → Bool), DataW.TrodVars enc Try.prog W' sp Rows.historyPlaysSpec.vars [] [] := fun _ _ => rfl
  obtain ⟨b, rfl, rfl, rfl, wb⟩ := open_int Try.underlying5 (hval 1 5 v1 rfl rfl) h1
  obtain ⟨c, rfl, rfl, rfl, wc⟩ := open_int Try.underlying28 (hval 2 28 v2 rfl rfl) h2
  obtain ⟨sa, len, cap, rfl⟩ := okWide_slice Try.underlying76 (hval 0 76 v0 rfl rfl)
  have h0k := h0
  obtain ⟨fuel, hf⟩ := h0
  obtain ⟨va, cap', l, hv, hr⟩ := open_steps hf
  simp [Value.cells] at hv
  obtain ⟨rfl, rfl, rfl⟩ := hv
  clear hA0 hval0
  simp only [List.append_nil] at hW'
  have hlt : ∀ x ∈ p0, x.block < W.heap.size := fun x hx => by simpa using hW'.lt x (by simpa using hx)
  have hargs : ∀ (W' : World), Below W.heap.size W W' → DataW.Trod enc Try.prog W' 0 (fun b => decide (b < W.heap.size)) true 76 (.slice sa l.length cap) d0 p0 :=
    fun W' hn => Below.trod laidOut (by kernel_rfl) (of_decide_eq_true (by kernel_rfl)) h0k hn hlt
  refine (walk sa cap l b c wb wc W hr).mono fun e W' ⟨he, hu⟩ => ?_
  subst he
  have hb := hu.below
  exact ⟨_, rfl, _, _, _, [], _, [], hW', trodAll_mk1 (shut_bool Try.underlying4 _), trodAll_mk3 (hargs _ hb) (shut_int Try.underlying5 wb) (shut_int Try.underlying28 wc), hV' _ _, hb.frame _, fun h => by cases h⟩

theorem holds : Rows.HistoryPlaysSaid :=
  OpenClaim.holds_of_wide 10 Try.f10 rfl rfl rfl rfl rfl rfl rfl ⟨rfl, rfl, rfl, rfl, rfl⟩ rfl rfl rfl rfl rfl (by kernel_rfl) Try.func10 (by kernel_rfl)
    (of_decide_eq_true (by kernel_rfl)) (by unfold Func.isWrapper; first | (rw [if_pos (by decide +kernel)]; kernel_rfl) | (rw [if_neg (by decide +kernel)]; exact ⟨rfl, rfl⟩))
    (fun os started H enc _ => lifted os started H enc)
end Go.Proofs.Ytmkpljbkmkbnjaa.playsp
