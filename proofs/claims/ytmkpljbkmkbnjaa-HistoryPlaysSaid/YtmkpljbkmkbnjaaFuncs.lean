/-
  THE WALKS of slices.IndexFunc, slices.ContainsFunc at whole numbers, whatever function value they are handed, as long as it tells a predicate and changes nothing that was there.
-/
import Derived.Test.YtmkpljbkmkbnjaaIn
namespace Go.Proofs.Ytmkpljbkmkbnjaa
open Go.RowKit
set_option linter.unusedVariables false
set_option linter.unusedSimpArgs false

/-- the function value F with captured C tells p of each of l, in every world that comes of w by new blocks and changes of the blocks of S -/
def Tells (S : Nat → Prop) (F : FuncId) (A C : Array Value) (l : List Nat) (p : Nat → Bool) (w : World) : Prop :=
  ∀ o ∈ l, ∀ w', Upd S w w' → Calls Try.prog F (A.push (.int .i64 (o : Int)) ++ C) w' fun e w'' => e = .returned (.bool (p o)) ∧ Upd Nix w' w''

/-- the place of the first of l that p holds of, or -1 -/
def idxOf (p : Nat → Bool) : List Nat → Int → Int
  | [], _ => -1
  | x :: r, i => if p x then i else idxOf p r (i + 1)

def IdxPost (p : Nat → Bool) (l : List Nat) (w : World) (e : Ending) (w' : World) : Prop := e = .returned (.int .i64 (idxOf p l 0)) ∧ Upd Nix w w'
theorem nats_row {w : World} {base : Nat} {v : Value} {l : List Nat} (h : RowN w base v l) (hn : 0 < l.length) :
    ∃ g cap, v = .slice (some ⟨g, 0, none⟩) l.length cap ∧ base ≤ g ∧ g < w.heap.size ∧ l.length ≤ cap ∧ cap ≤ maxLen ∧ ∀ j, j < l.length → w.cell? ⟨g, j, none⟩ = some (.int .i64 ((l.getD j 0 : Nat) : Int)) := by
  have e : natsV l = (l.map fun o : Nat => (o : Int)).map (Value.int .i64) := by simp [natsV]
  unfold RowN at h
  rw [e] at h
  obtain ⟨g, cap, h1, h2, h3, h4, h5, h6, h7⟩ := ints_row h hn
  refine ⟨g, cap, h1, h2, h3, h4, h5, fun j hj => ?_⟩
  rw [h7 j hj]
  simp [List.getD_eq_getElem?_getD, List.getElem?_eq_getElem hj]
theorem idxOf_drop (p : Nat → Bool) (l : List Nat) (k : Nat) (hk : k < l.length) (i : Int) : idxOf p (l.drop k) i = if p (l.getD k 0) then i else idxOf p (l.drop (k + 1)) (i + 1) := by
  rw [List.drop_eq_getElem_cons hk]
  simp only [idxOf]
  rw [List.getD_eq_getElem?_getD, List.getElem?_eq_getElem hk]; rfl

set_option maxRecDepth 10000 in
theorem indexFunc_any (F : FuncId) (A C : Array Value) (p : Nat → Bool) (l : List Nat) (v : Value) (w : World) (base : Nat) (hr : RowN w base v l) (hl : 0 < l.length) (hl2 : l.length ≤ 1000)
    (hF : ∀ (args : Array Value) (w : World), (callFunc F args).run Try.prog w = .ok (.enter F args) w) (S : Nat → Prop) (ht : Tells S F A C l p w) :
    Calls Try.prog 74 #[v, .func (.func F) A C] w (IdxPost p l w) := by
  obtain ⟨g, cap, rfl, _, hg, _, _, hc⟩ := nats_row hr hl
  obtain ⟨n, hn⟩ : ∃ n, n = l.length := ⟨_, rfl⟩
  rw [← hn] at hc hl hl2 ⊢
  have HC := hid hc; have HT := hid ht; have HN := hid hn
  clear hr hc ht hn
  go_enter Try.func74, Try.ntmps74
  go_wp2
  go_loopw [8] (fun i wr => ∃ k : Nat, k ≤ n ∧ i = .int .i64 k ∧ Hid (Upd Nix w wr ∧ idxOf p (l.drop k) k = idxOf p l 0)) (fun i _ => n - (intOf i).toNat)
  case atStart => exact ⟨0, by omega, rfl, Upd.refl _ _, rfl⟩
  case round =>
    obtain ⟨k, hk, rfl, H⟩ := hrel
    by_cases hlt : k < n
    · have hck : wr.cell? ⟨g, k, none⟩ = some (.int .i64 ((l.getD k 0 : Nat) : Int)) := (H.out.1.cell hg (fun f => f)).trans (HC.out k hlt)
      have hx : l.getD k 0 ∈ l := by
        have hk' : k < l.length := by have := HN.out; omega
        rw [List.getD_eq_getElem?_getD, List.getElem?_eq_getElem hk']; exact List.getElem_mem hk'
      have hcall := HT.out _ hx wr H.out.1.nix
      generalize hxx : l.getD k 0 = x at *
      have HX := hid hxx; have HCALL := hid hcall
      clear hxx hx hcall
      go_wp2_with fail
      refine HCALL.out.mono ?_
      rintro e w' ⟨rfl, hu⟩
      have hU : Upd Nix w w' := H.out.1.trans hu
      have hdrop := idxOf_drop p l k (by have := HN.out; omega) (k : Int)
      rw [HX.out] at hdrop
      have HU := hid hU; have HD := hid hdrop
      clear hu hU hdrop
      cases hp : p x
      · have HP := hid hp
        clear hp
        go_wp2
        go_roundw
        case rel => exact ⟨k + 1, by omega, by go_num, HU.out, by have h := HD.out; rw [HP.out] at h; rw [← H.out.2, h]; simp⟩
        case measure => simp [intOf]; omega
      · have HP := hid hp
        clear hp
        go_wp2
        go_ret
        exact ⟨ret_eq (by have h := HD.out; rw [HP.out] at h; rw [← H.out.2, h]; simp), HU.out⟩
    · have : k = n := by omega
      subst this
      go_wp2
      go_ret
      exact ⟨ret_eq (by rw [← H.out.2, HN.out, List.drop_length]; rfl), H.out.1⟩
set_option maxRecDepth 10000 in
theorem indexFunc_nil (f : Value) (p : Nat → Bool) (a : Option Addr) (cap : Nat) (w : World) : Calls Try.prog 74 #[.slice a 0 cap, f] w (IdxPost p [] w) := by
  go_enter Try.func74, Try.ntmps74
  go_wp2
  refine wp_loop_rounds 1 ?_
  rw [rounds_succ]
  go_wp2
  go_ret
  exact ⟨rfl, Upd.refl _ _⟩
theorem idxOf_any (p : Nat → Bool) : ∀ (l : List Nat) (i : Int), 0 ≤ i → (decide (0 ≤ idxOf p l i) = l.any p) := by
  intro l
  induction l with
  | nil => intro i hi; simp [idxOf]
  | cons x r ih =>
    intro i hi
    simp only [idxOf, List.any_cons]
    by_cases h : p x = true
    · simp [h, hi]
    · have h' : p x = false := by simpa using h
      simp only [h', Bool.false_eq_true, if_false, Bool.false_or]; exact ih (i + 1) (by omega)
/-- the row of a list: nil, or not empty -/
theorem row_nil0 {w : World} {base : Nat} {v : Value} {l : List Nat} (h : RowN w base v l) (h0 : ¬ 0 < l.length) : l = [] ∧ ∃ a cap, v = .slice a 0 cap := by
  have hl : l = [] := List.eq_nil_of_length_eq_zero (by omega)
  subst hl
  obtain ⟨a, cap, rfl⟩ := row_nil h
  exact ⟨rfl, a, cap, rfl⟩
theorem indexFunc_all (F : FuncId) (A C : Array Value) (p : Nat → Bool) (l : List Nat) (v : Value) (w : World) (base : Nat) (hr : RowN w base v l) (hl2 : l.length ≤ 1000)
    (hF : ∀ (args : Array Value) (w : World), (callFunc F args).run Try.prog w = .ok (.enter F args) w) (S : Nat → Prop) (ht : Tells S F A C l p w) :
    Calls Try.prog 74 #[v, .func (.func F) A C] w (IdxPost p l w) := by
  by_cases hl : 0 < l.length
  · exact indexFunc_any F A C p l v w base hr hl hl2 hF S ht
  · obtain ⟨rfl, a, cap, rfl⟩ := row_nil0 hr hl
    exact indexFunc_nil _ p a cap w
theorem containsFunc_any (F : FuncId) (A C : Array Value) (p : Nat → Bool) (l : List Nat) (v : Value) (w : World) (base : Nat) (hr : RowN w base v l) (hl2 : l.length ≤ 1000)
    (hF : ∀ (args : Array Value) (w : World), (callFunc F args).run Try.prog w = .ok (.enter F args) w) (S : Nat → Prop) (ht : Tells S F A C l p w) :
    Calls Try.prog 84 #[v, .func (.func F) A C] w fun e w' => e = .returned (.bool (l.any p)) ∧ Upd Nix w w' := by
  have hidx := indexFunc_all F A C p l v w base hr hl2 hF S ht
  have HI := hid hidx
  clear hidx ht hr hF
  have HA := hid (idxOf_any p l 0 (by omega))
  go_enter Try.func84, Try.ntmps84
  go_wp2_with fail
  refine HI.out.mono ?_
  rintro e w' ⟨rfl, hu⟩
  have HU := hid hu
  clear hu
  go_wp2_with fail
  go_ret
  exact ⟨ret_bool HA.out, HU.out⟩
end Go.Proofs.Ytmkpljbkmkbnjaa
