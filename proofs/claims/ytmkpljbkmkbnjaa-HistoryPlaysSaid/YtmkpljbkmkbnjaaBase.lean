/-
  PLAIN LEMMAS on worlds: what a call may have changed ('Upd F': the blocks of F alone, and new ones), rows of cells.
-/
import Derived.WalkKit
import Derived.WalkSpells
import Derived.Deep.QuietTactic
import Derived.BigQuiet
namespace Go.Proofs.Ytmkpljbkmkbnjaa
open Go.RowKit
set_option linter.unusedVariables false
set_option linter.unusedSimpArgs false

theorem hid {p : Prop} (h : p) : Hid p := h

/-- w' is w but for the blocks of F, and for new blocks. -/
structure Upd (F : Nat → Prop) (w w' : World) : Prop where
  os : w'.os = w.os
  tape : w'.tape = w.tape
  output : w'.output = w.output
  size : w.heap.size ≤ w'.heap.size
  block : ∀ k, k < w.heap.size → ¬ F k → w'.heap[k]? = w.heap[k]?

def Nix : Nat → Prop := fun _ => False

theorem Upd.refl (F : Nat → Prop) (w : World) : Upd F w w := ⟨rfl, rfl, rfl, Nat.le_refl _, fun _ _ _ => rfl⟩
theorem Upd.mono {F G : Nat → Prop} {w w' : World} (h : Upd F w w') (hF : ∀ k, k < w.heap.size → F k → G k) : Upd G w w' :=
  ⟨h.os, h.tape, h.output, h.size, fun k hk hg => h.block k hk (fun hf => hg (hF k hk hf))⟩
theorem Upd.trans {F : Nat → Prop} {a b c : World} (h : Upd F a b) (k : Upd F b c) : Upd F a c :=
  ⟨k.os.trans h.os, k.tape.trans h.tape, k.output.trans h.output, Nat.le_trans h.size k.size, fun i hi hf => (k.block i (Nat.lt_of_lt_of_le hi h.size) hf).trans (h.block i hi hf)⟩
/-- the second may also have changed what the first made -/
theorem Upd.trans' {F G : Nat → Prop} {a b c : World} (h : Upd F a b) (k : Upd G b c) (hG : ∀ i, i < a.heap.size → G i → F i) : Upd F a c :=
  ⟨k.os.trans h.os, k.tape.trans h.tape, k.output.trans h.output, Nat.le_trans h.size k.size, fun i hi hf => (k.block i (Nat.lt_of_lt_of_le hi h.size) (fun g => hf (hG i hi g))).trans (h.block i hi hf)⟩
theorem Upd.nix {F : Nat → Prop} {w w' : World} (h : Upd Nix w w') : Upd F w w' := h.mono fun _ _ f => f.elim
theorem Upd.drew {F : Nat → Prop} {a w : World} (h : Upd F a w) : Upd F a w.drew := ⟨h.os, h.tape, h.output, h.size, h.block⟩
theorem Upd.drewN {F : Nat → Prop} {a w : World} (h : Upd F a w) (n : Nat) : Upd F a (w.drewN n) := ⟨h.os, h.tape, h.output, h.size, h.block⟩
theorem alloc_old (w : World) (o : Obj) (k : Nat) (h : k < w.heap.size) : (w.alloc o).heap[k]? = w.heap[k]? := by
  show (w.heap.push o)[k]? = _
  rw [Array.getElem?_push, if_neg (by omega)]
theorem alloc_new (w : World) (o : Obj) : (w.alloc o).heap[w.heap.size]? = some o := by
  show (w.heap.push o)[w.heap.size]? = _
  simp
theorem Upd.alloc {F : Nat → Prop} {a w : World} (h : Upd F a w) (o : Obj) : Upd F a (w.alloc o) :=
  h.trans' (G := Nix) ⟨rfl, rfl, rfl, by simp, fun k hk _ => alloc_old w o k hk⟩ (fun _ _ f => f.elim)
theorem Upd.setCell {F : Nat → Prop} {a w : World} (h : Upd F a w) {p : Addr} (hp : F p.block ∨ a.heap.size ≤ p.block) (u : Value) : Upd F a (w.setCell p u) :=
  h.trans' (G := fun k => k = p.block) ⟨rfl, rfl, rfl, by simp [World.setCell], fun k _ hk => heap_setCell_other w p k u hk⟩
    (fun i hi e => by rcases hp with hp | hp; · rw [e]; exact hp
                      · omega)
theorem Upd.of_grown {w w' : World} {row : Option Nat} (hg : w.grownBy w' row) : Upd (fun k => some k = row) w w' :=
  ⟨hg.os, hg.tape, hg.output, hg.size, fun k hk hne => hg.block k hk hne⟩
theorem Upd.of_below {w w' : World} (h : Below w.heap.size w w') : Upd Nix w w' := ⟨h.os, h.tape, h.output, h.size, fun k hk _ => h.block k hk⟩
theorem Upd.below {w w' : World} (h : Upd Nix w w') : Below w.heap.size w w' := ⟨h.os, h.tape, h.output, h.size, fun k hk => h.block k hk (fun f => f)⟩
theorem Upd.of_eq {F : Nat → Prop} {w w' : World} (h : w = w') : Upd F w w' := h ▸ Upd.refl F w

/-- a block that was there, and that may not have been changed -/
theorem Upd.keep {F : Nat → Prop} {w w' : World} (h : Upd F w w') {b : Nat} {o : Obj} (hb : w.heap[b]? = some o) (hF : ¬ F b) : w'.heap[b]? = some o :=
  (h.block b (lt_of_block hb) hF).trans hb
theorem Upd.cell {F : Nat → Prop} {w w' : World} (h : Upd F w w') {a : Addr} (hb : a.block < w.heap.size) (hF : ¬ F a.block) : w'.cell? a = w.cell? a :=
  World.cell?_of_block (w := w) (h.block a.block hb hF)

theorem blk_setCell {w : World} {b i : Nat} {c : Array Value} {t : TypeId} {v : Value} (h : w.heap[b]? = some (.cells c t (0, 0))) :
    (w.setCell ⟨b, i, none⟩ v).heap[b]? = some (.cells (c.setIfInBounds i v) t (0, 0)) := heap_setCell_same w b i c t v h
theorem blk_lt {w : World} {b : Nat} {o : Obj} (h : w.heap[b]? = some o) : b < w.heap.size := lt_of_block h
theorem cell_blk {w : World} {b : Nat} {c : Array Value} {t : TypeId} {f : Nat × Nat} (h : w.heap[b]? = some (.cells c t f)) (i : Nat) : w.cell? ⟨b, i, none⟩ = c[i]? := cell_of_row w b i c t f h
theorem free_blk {w : World} {b : Nat} {c : Array Value} {t : TypeId} (h : w.heap[b]? = some (.cells c t (0, 0))) (i : Nat) : w.frozen? ⟨b, i, none⟩ = false := frozen_of_row w b i c t h

/-- an owned row stays behind an update that spares its block -/
theorem row_keep {F : Nat → Prop} {w w' : World} {base : Nat} {e : TypeId} {size : Nat} {v : Value} {n : Nat} {xs : List Value}
    (h : w.ownsRow base e size v n xs) (hu : Upd F w w') (hF : ∀ b, v.ownBlock = some b → ¬ F b) : w'.ownsRow base e size v n xs := by
  refine ⟨h.1, ?_⟩
  rcases h.2 with hn | ⟨g, cap, cur, rfl, hb, hgg, rest⟩
  · exact .inl hn
  · exact .inr ⟨g, cap, cur, rfl, hb, hu.keep hgg (hF g rfl), rest⟩
theorem row_mono {w : World} {base base' : Nat} {e : TypeId} {size : Nat} {v : Value} {n : Nat} {xs : List Value} (h : w.ownsRow base e size v n xs) (hb : base' ≤ base) : w.ownsRow base' e size v n xs := by
  refine ⟨h.1, ?_⟩
  rcases h.2 with hn | ⟨g, cap, cur, rfl, hbg, hgg, rest⟩
  · exact .inl hn
  · exact .inr ⟨g, cap, cur, rfl, Nat.le_trans hb hbg, hgg, rest⟩
theorem row_blk {w : World} {base : Nat} {e : TypeId} {size : Nat} {v : Value} {n : Nat} {xs : List Value} (h : w.ownsRow base e size v n xs) {b : Nat} (hb : v.ownBlock = some b) :
    base ≤ b ∧ ∃ cur, w.heap[b]? = some (.cells cur e (0, 0)) := by
  rcases h.2 with ⟨rfl, _⟩ | ⟨g, cap, cur, rfl, hbg, hgg, rest⟩
  · simp [Value.ownBlock] at hb
  · simp [Value.ownBlock] at hb; subst hb; exact ⟨hbg, cur, hgg⟩
end Go.Proofs.Ytmkpljbkmkbnjaa
