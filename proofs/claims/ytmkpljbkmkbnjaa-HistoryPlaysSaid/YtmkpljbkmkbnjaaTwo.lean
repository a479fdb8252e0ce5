/-
  TWO HISTORIES IN MEMORY, apart from each other.
-/
import Derived.Test.YtmkpljbkmkbnjaaIvC
namespace Go.Proofs.Ytmkpljbkmkbnjaa
open Go.RowKit
set_option linter.unusedVariables false
set_option linter.unusedSimpArgs false

def Two (w0 w : World) (a : Nat) (A : List Sp.Inc) (b : Nat) (B : List Sp.Inc) : Prop :=
  ∃ S T, Hs w a A S ∧ Hs w b B T ∧ (∀ k, S k → ¬ T k) ∧ Upd Nix w0 w ∧ (∀ k, S k → w0.heap.size ≤ k) ∧ ∀ k, T k → w0.heap.size ≤ k
theorem Two.swap {w0 w : World} {a b : Nat} {A B : List Sp.Inc} (H : Two w0 w a A b B) : Two w0 w b B a A := by
  obtain ⟨S, T, h1, h2, h3, h4, h5, h6⟩ := H
  exact ⟨T, S, h2, h1, fun k t s => h3 k s t, h4, h6, h5⟩
theorem Two.fst {w0 w : World} {a b : Nat} {A B : List Sp.Inc} (H : Two w0 w a A b B) : At w0 w a A := by
  obtain ⟨S, T, h1, h2, h3, h4, h5, h6⟩ := H
  exact ⟨S, h1, h4, h5⟩
theorem Two.snd {w0 w : World} {a b : Nat} {A B : List Sp.Inc} (H : Two w0 w a A b B) : At w0 w b B := H.swap.fst
theorem Two.keep0 {w0 w w' : World} {a b : Nat} {A B : List Sp.Inc} (H : Two w0 w a A b B) (hu : Upd Nix w w') : Two w0 w' a A b B := by
  obtain ⟨S, T, h1, h2, h3, h4, h5, h6⟩ := H
  exact ⟨S, T, h1.keep0 hu, h2.keep0 hu, h3, h4.trans hu, h5, h6⟩
theorem Two.upd {w0 w : World} {a b : Nat} {A B : List Sp.Inc} (H : Two w0 w a A b B) : Upd Nix w0 w := H.fst.upd
/-- a second one, of new blocks -/
theorem At.two {w0 w w' : World} {a b : Nat} {A B : List Sp.Inc} {T : Nat → Prop} (H : At w0 w a A) (h : Hs w' b B T) (hu : Upd Nix w w') (hf : ∀ k, T k → w.heap.size ≤ k) : Two w0 w' a A b B := by
  obtain ⟨S, h1, h2, h3⟩ := H
  refine ⟨S, T, h1.keep0 hu, h, fun k s t => ?_, h2.trans hu, h3, fun k t => Nat.le_trans h2.size (hf k t)⟩
  have := h1.lt s
  have := hf k t
  omega
def Rows0 (w w' : World) : Prop := Rows3 w w' ∧ Rows50 w w'
theorem Rows0.nix {w w' : World} (h : Upd Nix w w') : Rows0 w w' := ⟨Rows3.nix h, Rows50.nix h⟩
def Add1 (w0 : World) (a : Nat) (A : List Sp.Inc) (b : Nat) (B : List Sp.Inc) (e : Nat) (x : Sp.Inc) (w : World) (en : Ending) (w' : World) : Prop :=
  en = .returned (.int .i64 (Sp.add A e x).1) ∧ Two w0 w' a (Sp.add A e x).2 b B ∧ Rows50 w w'
theorem Two.add1 {w0 w : World} {a b : Nat} {A B : List Sp.Inc} (H : Two w0 w a A b B) (e : Nat) (x : Sp.Inc) (he : e < 4294967296) (hx : IncOk x) :
    Calls Try.prog 17 #[.pointer (some ⟨a, 0, none⟩), .int .u32 (e : Int), incV x] w (Add1 w0 a A b B e x w) := by
  obtain ⟨S, T, h1, h2, h3, h4, h5, h6⟩ := H
  refine (add_any a A S e x w h1 he hx).mono ?_
  rintro en w' hp
  have hp2 := hp
  obtain ⟨rfl, S', k1, k2, k3⟩ := addS_next hp h4 h5
  obtain ⟨_, S2, hq, hu, hf⟩ := hp2
  refine ⟨rfl, ⟨S2, T, hq, h2.apart h1 (fun k t s => h3 k s t) hu, fun k s t => ?_, k2, fun k s => ?_, h6⟩, fun base v l hr => row_keep hr hu (fun k hk f => ?_)⟩
  · rcases hf k s with h | h
    · exact h3 k h t
    · have := h2.lt t; omega
  · rcases hf k s with h | h
    · exact h5 k h
    · have := h4.size; omega
  · obtain ⟨_, cur, hc⟩ := row_blk hr hk
    rcases h1.ty2 f hc with h | h <;> simp at h
def Add2 (w0 : World) (a : Nat) (A : List Sp.Inc) (b : Nat) (B : List Sp.Inc) (e : Nat) (x : Sp.Inc) (w : World) (en : Ending) (w' : World) : Prop :=
  en = .returned (.int .i64 (Sp.add B e x).1) ∧ Two w0 w' a A b (Sp.add B e x).2 ∧ Rows50 w w'
theorem Two.add2 {w0 w : World} {a b : Nat} {A B : List Sp.Inc} (H : Two w0 w a A b B) (e : Nat) (x : Sp.Inc) (he : e < 4294967296) (hx : IncOk x) :
    Calls Try.prog 17 #[.pointer (some ⟨b, 0, none⟩), .int .u32 (e : Int), incV x] w (Add2 w0 a A b B e x w) := by
  refine (H.swap.add1 e x he hx).mono ?_
  rintro en w' ⟨h1, h2, h3⟩
  exact ⟨h1, h2.swap, h3⟩
/-- increments that came in stay beside whatever a history adds -/
theorem Two.old {w0 w : World} {a b : Nat} {A B : List Sp.Inc} (H : Two w0 w a A b B) : Upd Nix w0 w := H.fst.upd
end Go.Proofs.Ytmkpljbkmkbnjaa
