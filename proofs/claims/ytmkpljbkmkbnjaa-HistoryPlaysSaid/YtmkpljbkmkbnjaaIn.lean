/-
  THE WALKS of maps.In and what it calls: the daemons that have weight.
-/
import Derived.Test.YtmkpljbkmkbnjaaMaps
namespace Go.Proofs.Ytmkpljbkmkbnjaa
open Go.RowKit
set_option linter.unusedVariables false
set_option linter.unusedSimpArgs false

/-- a list of numbers as Go's -/
def natsV (l : List Nat) : List Value := l.map fun o : Nat => Value.int .i64 (o : Int)
theorem natsV_len (l : List Nat) : (natsV l).length = l.length := by simp [natsV]
theorem natsV_snoc (l : List Nat) (x : Nat) : natsV (l ++ [x]) = natsV l ++ [.int .i64 (x : Int)] := by simp [natsV]
/-- the value v holds the list l in memory of its own, from block base on -/
def RowN (w : World) (base : Nat) (v : Value) (l : List Nat) : Prop := w.ownsRow base 3 1 v l.length (natsV l)
theorem info3 : (Try.prog.info? 3).map (fun i => (i.zero, i.size, i.bytes)) = some (some (.int .i64 0), 1, 8) := by kernel_rfl

theorem in1_any (o : Sp.Osd) (w : World) : Calls Try.prog 95 #[osdV o] w fun e w' => e = .returned (.bool (decide (0 < o.wt))) ∧ Upd Nix w w' := by
  go_enter Try.func95, Try.ntmps95
  go_wp2
  go_ret
  exact ⟨rfl, (Upd.refl _ _).alloc _⟩

def InPost (m : Sp.Mp) (w : World) (e : Ending) (w' : World) : Prop := ∃ v, e = .returned v ∧ RowN w' w.heap.size v (Sp.inL m) ∧ Upd Nix w w'
def osdAt (m : Sp.Mp) (k : Nat) : Prop := ∀ w, (Instr.index 55 (osdsV m) (.int .i64 (k : Int))).run Try.prog w = .ok (osdV (m.osd k)) w
theorem osdAt_any (m : Sp.Mp) (k : Nat) (hk : k < 5) : osdAt m k := by
  intro w
  rcases (show k = 0 ∨ k = 1 ∨ k = 2 ∨ k = 3 ∨ k = 4 by omega) with rfl | rfl | rfl | rfl | rfl
  · exact idx0 m w
  · exact idx1 m w
  · exact idx2 m w
  · exact idx3 m w
  · exact idx4 m w
theorem inUpto_le (m : Sp.Mp) : ∀ k, (Sp.inUpto m k).length ≤ k := by
  intro k
  induction k with
  | zero => simp [Sp.inUpto]
  | succ k ih =>
    simp only [Sp.inUpto]
    split
    · simp only [List.length_append, List.length_cons, List.length_nil]; omega
    · omega
set_option maxHeartbeats 1000000 in
set_option maxRecDepth 10000 in
theorem those_any (m : Sp.Mp) (w : World) : Calls Try.prog 94 #[mpV m, .func (.func 95) #[] #[]] w (InPost m w) := by
  obtain ⟨i0, hi, hz0, hz1, hz2⟩ := info_parts info3
  go_enter Try.func94, Try.ntmps94
  go_wp2_with fail
  go_loopw [5, 10] (fun v i wr => ∃ k : Nat, k ≤ 5 ∧ i = .int .i64 k ∧ Hid (RowN wr w.heap.size v (Sp.inUpto m k) ∧ Upd Nix w wr ∧ w.heap.size ≤ wr.heap.size)) (fun _ i _ => 5 - (intOf i).toNat)
  case atStart => exact ⟨0, by omega, rfl, World.ownsRow_nil _ _ _ _, (Upd.refl _ _).alloc _, by simp⟩
  case round =>
    obtain ⟨k, hk, rfl, H⟩ := hrel
    by_cases hlt : k < 5
    · have ix := osdAt_any m k hlt
      unfold osdAt at ix
      generalize ho : m.osd k = o at *
      have HO := hid ho
      clear ho
      go_wp2_with fail
      refine (in1_any o _).mono ?_
      rintro e w' ⟨rfl, hu⟩
      have hown := row_keep (World.ownsRow.alloc H.out.1 (.cells #[.bool o.up, .int .i64 o.wt, .int .u8 o.host] 54)) hu (fun _ _ f => f)
      have hU : Upd Nix w w' := (H.out.2.1.alloc _).trans hu
      have HU := hid hU
      clear hu hU
      have hle := inUpto_le m k
      by_cases hpos : 0 < o.wt
      · have hd : decide (0 < o.wt) = true := by simpa using hpos
        have HP := hid hpos
        clear hpos
        go_wp2_with (at_builtin; refine wpList_append_own _ rfl _ _ 60 rfl w.heap.size 3 i0 (.int .i64 0) 1 8 Try.underlying60 hi hz0 hz1 hz2 rfl (by decide) _ _ _ rfl (hown.alloc _) ⟨w'.heap.size, 0, none⟩ 1 1 [.int .i64 (k : Int)] rfl rfl ?c1 ?c2 ?c3 ?c4 ?c5 ?_)
        case c1 =>
          intro j u hj
          match j, hj with
          | 0, hj => simp at hj; subst hj; simp [Addr.add]
        case c2 => intro u hu; simp at hu; subst hu; rfl
        case c3 => unfold maxLen; omega
        case c4 => omega
        case c5 => have := HU.out.size; simp; omega
        intro v' w1 hown' hgrow _
        have hsucc : Sp.inUpto m (k + 1) = Sp.inUpto m k ++ [k] := by simp only [Sp.inUpto]; rw [HO.out, if_pos HP.out]
        have R : RowN w1 w.heap.size v' (Sp.inUpto m (k + 1)) := by
          unfold RowN; rw [hsucc, natsV_snoc, List.length_append]; exact hown'
        have U : Upd Nix w w1 := (HU.out.alloc _).trans' (Upd.of_grown hgrow) (fun i hi e => by
          have := (World.ownsRow.lt hown i e.symm).1; omega)
        have H' := hid (And.intro R U)
        clear hown' hgrow hown hsucc R U
        go_wp2
        go_roundw
        case rel => exact ⟨k + 1, by omega, by go_num, H'.out.1, H'.out.2, H'.out.2.size⟩
        case measure => simp [intOf]; omega
      · have hd : decide (0 < o.wt) = false := by simpa using hpos
        have hsucc : Sp.inUpto m (k + 1) = Sp.inUpto m k := by simp only [Sp.inUpto]; rw [HO.out, if_neg hpos]
        have HS := hid hsucc; have HOW := hid hown
        clear hpos hsucc hown
        go_wp2
        go_roundw
        case rel => exact ⟨k + 1, by omega, by go_num, by unfold RowN; rw [HS.out]; exact HOW.out, HU.out, HU.out.size⟩
        case measure => simp [intOf]; omega
    · have : k = 5 := by omega
      subst this
      go_wp2
      go_ret
      exact ⟨_, rfl, H.out.1, H.out.2.1⟩
theorem in_any (m : Sp.Mp) (w : World) : Calls Try.prog 75 #[mpV m] w (InPost m w) := by
  go_enter Try.func75, Try.ntmps75
  go_wp2_with fail
  refine (those_any m _).mono ?_
  rintro e w' ⟨v, rfl, hr, hu⟩
  have HR := hid hr; have HU := hid hu
  clear hr hu
  go_wp2_with fail
  go_ret
  exact ⟨_, rfl, row_mono HR.out (by simp), ((Upd.refl _ _).alloc _).trans HU.out⟩
end Go.Proofs.Ytmkpljbkmkbnjaa
