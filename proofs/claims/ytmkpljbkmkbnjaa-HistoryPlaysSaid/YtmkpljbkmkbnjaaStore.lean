/-
  LAWS FOR A WHOLE VARIABLE OF STRUCT TYPE: stored at once, and read at once as a result.
-/
import Derived.Test.YtmkpljbkmkbnjaaBase
import Derived.Laws.ResultCell
namespace Go.Proofs.Ytmkpljbkmkbnjaa
open Go.RowKit
set_option linter.unusedVariables false
set_option linter.unusedSimpArgs false

theorem wpList_store_row {P : Program} {ops : Array Oper} {rest : List Oper} {o : Oper} {a : Act} {w : World} {Q : Exit → Act → World → Prop} (hgd : o.guard = none) (ty : TypeId) (x y : Operand) (ho : o.op = .store ty x y)
    (g : Nat) (hx : a.eval x = .pointer (some ⟨g, 0, none⟩)) (vs : Array Value) (hy : a.eval y = .agg vs) (t : TypeId) (cur : Array Value) (hg : w.heap[g]? = some (.cells cur t (0, 0)))
    (hsz : cur.size = vs.size) (hi : (P.info? ty).map (·.size) = some vs.size) (h1 : vs.toList.all (fun v => v.oneCell') = true)
    (h : wpList P ops Q rest (a.put o.dst undef) (w.setRow g vs)) : wpList P ops Q (o :: rest) a w := by
  refine wpList_plain hgd fun K hK => ?_
  have hst := run_storeCells_at P g 0 t vs.toList 0 cur w hg (by simp [hsz]) (fun v hv => List.all_eq_true.1 h1 v hv)
  have e : (cur.toList.take (0 + 0) ++ vs.toList ++ cur.toList.drop (0 + 0 + vs.toList.length)).toArray = vs := by
    have : cur.toList.drop vs.size = [] := List.drop_eq_nil_of_le (by simp [hsz])
    simp [this]
  rw [e] at hst
  cases hq : P.info? ty with
  | none => simp [hq] at hi
  | some i =>
    have hs : i.size = vs.size := by simpa [hq] using hi
    unfold Oper.wp execOp
    simp only [ho, hx, hy, Instr.storeAt, Instr.sureAddr, Sem.run_bind, Sem.run_pure, Result.andThen_ok]
    simp [storeVar, Value.cells, sizeOf, typeInfo, hq, hs, Sem.run_bind, hst, Result.andThen]
    exact hK _ _ h

/-- a guard for an arm of a walk: the operation that stands next is this store -/
theorem at_store {P : Program} {ops : Array Oper} {rest : List Oper} {a : Act} {w : World} {Q : Exit → Act → World → Prop} (ty : TypeId) (x y : Operand) {t : TypeId} {p : String} {af : Array Edge} {g : Option (Nat × Bool)}
    (h : wpList P ops Q (⟨none, .store ty x y, t, p, af, g⟩ :: rest) a w) : wpList P ops Q (⟨none, .store ty x y, t, p, af, g⟩ :: rest) a w := h
theorem at_loadv {P : Program} {ops : Array Oper} {rest : List Oper} {a : Act} {w : World} {Q : Exit → Act → World → Prop} (ty : TypeId) (x : Operand) {d : Option Tmp} {t : TypeId} {p : String} {af : Array Edge} {g : Option (Nat × Bool)}
    (h : wpList P ops Q (⟨d, .load ty x, t, p, af, g⟩ :: rest) a w) : wpList P ops Q (⟨d, .load ty x, t, p, af, g⟩ :: rest) a w := h
theorem setRow_new {w : World} {g : Nat} {old : Array Value} (cs : Array Value) {t : TypeId} {fr : Nat × Nat} (hg : w.heap[g]? = some (.cells old t fr)) : (w.setRow g cs).heap[g]? = some (.cells cs t fr) := setRow_heap w g old cs t fr hg
theorem setRow_old (w : World) (g : Nat) (cs : Array Value) (k : Nat) (h : k ≠ g) : (w.setRow g cs).heap[k]? = w.heap[k]? := by
  simp only [World.setRow, Array.getElem?_modify]
  rw [if_neg (by omega)]
theorem Upd.setRow {F : Nat → Prop} {a w : World} (h : Upd F a w) {g : Nat} (hp : F g ∨ a.heap.size ≤ g) (cs : Array Value) : Upd F a (w.setRow g cs) :=
  h.trans' (G := fun k => k = g) ⟨rfl, rfl, rfl, by simp, fun k _ hk => setRow_old w g cs k hk⟩
    (fun i hi e => by rcases hp with hp | hp; · rw [e]; exact hp
                      · omega)
/-- two results, the first of struct type -/
theorem fin2 {P : Program} {fn : Func} {R : Ending → World → Prop} {a : Act} {w : World} {p u : Tmp} {ty : TypeId} (h : fn.results = #[.cell p ty, .tmp u]) (g : Nat) (hp : a.tmps.getD p undef = .pointer (some ⟨g, 0, none⟩))
    {t : TypeId} {cs : Array Value} {fr : Nat × Nat} (hg : w.heap[g]? = some (.cells cs t fr)) {d : TypeDesc} (hu : P.underlying ty = some d) (hd : (match d with | .struct _ | .array _ _ => true | _ => false) = true)
    (hi : (P.info? ty).map (·.size) = some cs.size) (hdf : a.defers = []) (hR : R (.returned (.tuple #[.agg cs, a.tmps.getD u undef])) w) : bodyPost P fn R .ret a w := by
  refine bodyPost_ret (v := .tuple #[.agg cs, a.tmps.getD u undef]) ?_ hdf hR
  rw [results_cell_tmp h, hp]
  have e : (asAddr (.pointer (some ⟨g, 0, none⟩))).run P w = .ok ⟨g, 0, none⟩ w := rfl
  rw [e]
  simp only [Result.andThen_ok, run_loadVar_row w g t ty cs fr d hg hu hd hi]
/-- one result, of struct type -/
theorem fin1 {P : Program} {fn : Func} {R : Ending → World → Prop} {a : Act} {w : World} {p : Tmp} {ty : TypeId} (h : fn.results = #[.cell p ty]) (g : Nat) (hp : a.tmps.getD p undef = .pointer (some ⟨g, 0, none⟩))
    {t : TypeId} {cs : Array Value} {fr : Nat × Nat} (hg : w.heap[g]? = some (.cells cs t fr)) {d : TypeDesc} (hu : P.underlying ty = some d) (hd : (match d with | .struct _ | .array _ _ => true | _ => false) = true)
    (hi : (P.info? ty).map (·.size) = some cs.size) (hdf : a.defers = []) (hR : R (.returned (.agg cs)) w) : bodyPost P fn R .ret a w :=
  bodyPost_ret (v := .agg cs) (results_cell_row h a.tmps w g t cs fr d hp hg hu hd hi) hdf hR
end Go.Proofs.Ytmkpljbkmkbnjaa
