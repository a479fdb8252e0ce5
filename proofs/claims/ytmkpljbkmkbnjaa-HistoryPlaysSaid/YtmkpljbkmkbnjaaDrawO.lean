/-
  THE WALK of place's draw: the daemon with the longest straw of a try.
-/
import Derived.Test.YtmkpljbkmkbnjaaPlace
import Derived.Deep.AppendLies
import Derived.Deep.RegionLaw
namespace Go.Proofs.Ytmkpljbkmkbnjaa
open Go.RowKit
set_option linter.unusedVariables false
set_option linter.unusedSimpArgs false

theorem info2 : (Try.prog.info? 2).map (fun i => (i.zero, i.size, i.bytes)) = some (some (.int .i64 0), 1, 8) := by kernel_rfl
def drawIn (m : Sp.Mp) (g t : Nat) (inn : List Nat) : Nat := inn.getD (Sp.bestAt (Sp.straws m g t inn) inn.length).toNat 0
def DrawPost (m : Sp.Mp) (g t : Nat) (inn : List Nat) (w : World) (e : Ending) (w' : World) : Prop := e = .returned (.int .i64 ((drawIn m g t inn : Nat) : Int)) ∧ Upd Nix w w'
/-- the straws of the first k -/
def strawsV (m : Sp.Mp) (g t : Nat) (l : List Nat) : List Value := (Sp.straws m g t l).map (Value.int .i64)
theorem strawsV_snoc (m : Sp.Mp) (g t : Nat) (l : List Nat) (k : Nat) (hk : k < l.length) : strawsV m g t (l.take (k + 1)) = strawsV m g t (l.take k) ++ [.int .i64 (Sp.draw g (l.getD k 0) t (m.osd (l.getD k 0)).wt)] := by
  rw [List.take_succ_eq_append_getElem hk, List.getD_eq_getElem?_getD, List.getElem?_eq_getElem hk]
  simp only [strawsV, Sp.straws, List.map_append, List.map_cons, List.map_nil, Option.getD_some]
theorem row_drewN {w : World} {base e size n : Nat} {v : Value} {xs : List Value} (h : w.ownsRow base e size v n xs) (q : Nat) : (w.drewN q).ownsRow base e size v n xs :=
  row_keep h ((Upd.refl Nix w).drewN q) (fun _ _ f => f)
/-- the one cell of a new block, as append asks for it -/
theorem one_cell_new (w : World) (x : Value) (t : TypeId) : ∀ (j : Nat) u, [x][j]? = some u → (w.alloc (.cells #[x] t)).cell? ((⟨w.heap.size, 0, none⟩ : Addr).add j) = some u := by
  intro j u hj
  match j, hj with
  | 0, hj => simp at hj; subst hj; simp [Addr.add]
theorem one_oneCell {k : IntKind} (x : Int) : ∀ u ∈ [Value.int k x], u.oneCell' = true := by intro u hu; simp at hu; subst hu; rfl
set_option maxRecDepth 10000 in
set_option maxHeartbeats 1000000 in
theorem draw1_any {B : Nat} (m : Sp.Mp) (g c t : Nat) (iV pV : Value) (inn picked : List Nat) (hg : g < 256) (ht : t < 1000) (hn0 : 0 < inn.length) (w : World) (h : ChoiceAt B w c m g iV pV inn picked) :
    Calls Try.prog 96 #[.pointer (some ⟨c, 0, none⟩), .int .i64 (t : Int)] w (DrawPost m g t inn w) := by
  obtain ⟨gi, cap, rfl, _, hgi, _, _, hci⟩ := nats_row h.inR hn0
  have hc : c < w.heap.size := blk_lt h.blk
  have c1 : w.cell? ⟨c, 17, none⟩ = some (.slice (some ⟨gi, 0, none⟩) inn.length cap) := by rw [cell_blk h.blk]; rfl
  obtain ⟨n, hn⟩ : ∃ n, n = inn.length := ⟨_, rfl⟩
  have hn5 : n ≤ 5 := by rw [hn]; exact h.inL
  rw [← hn] at c1 hn0
  obtain ⟨i0, hi, hz0, hz1, hz2⟩ := info_parts info2
  have H := hid h; have HCI := hid hci; have HN := hid hn
  clear h hci hn
  go_enter Try.func96, Try.ntmps96
  go_wp2_with fail
  clear c1
  go_loopw [5, 13] (fun v i wr => ∃ k : Nat, k ≤ n ∧ i = .int .i64 k ∧ Hid (wr.ownsRow w.heap.size 2 1 v k (strawsV m g t (inn.take k)) ∧ Upd Nix w wr)) (fun _ i => fun _ => n - (intOf i).toNat)
  case atStart => exact ⟨0, by omega, rfl, World.ownsRow_nil _ _ _ _, Upd.refl _ _⟩
  case round =>
    obtain ⟨k, hk, rfl, HR⟩ := hrel
    have hL := H.out.keep HR.out.2
    by_cases hlt : k < n
    · have hkl : k < inn.length := by have := HN.out; omega
      have hck : wr.cell? ⟨gi, k, none⟩ = some (.int .i64 ((inn.getD k 0 : Nat) : Int)) := (HR.out.2.cell hgi (fun f => f)).trans (HCI.out k hkl)
      have ho5 : inn.getD k 0 < 5 := by
        apply hL.inB; rw [List.getD_eq_getElem?_getD, List.getElem?_eq_getElem hkl]; exact List.getElem_mem hkl
      have c2 : wr.cell? ⟨c, 16, none⟩ = some (.int .u8 (g : Int)) := by rw [cell_blk hL.blk]; rfl
      have c3 : wr.cell? ⟨c, 1 + inn.getD k 0 * 3 + 1, none⟩ = some (.int .i64 (m.osd (inn.getD k 0)).wt) := by rw [cell_blk hL.blk]; exact ch_wt m g _ _ _ ho5
      have hsn := strawsV_snoc m g t inn k hkl
      generalize hx : inn.getD k 0 = x at *
      generalize hwt : (m.osd x).wt = wt at *
      have HX := hid hx; have HWT := hid hwt; have HSN := hid hsn; have HL := hid hL
      clear hx hwt hsn hL hkl
      have hx5 : (x : Int) < 5 := by omega
      go_wp2_with fail
      have hown := HR.out.1
      have hhs : w.heap.size ≤ wr.heap.size := HR.out.2.size
      go_region_law (first
        | (go_simp; go_at_call 104; refine (draw_any g x t hg (by omega) ht wt _).mono ?_; rintro e w2 ⟨rfl, hu⟩; have hown2 := row_keep (World.ownsRow.drew hown) hu (fun _ _ f => f))
        | (refine step_append_lies _ rfl (.tmp 17) (.tmp 33) 157 rfl w.heap.size 2 i0 (.int .i64 0) 1 8 Try.underlying157 hi hz0 hz1 hz2 rfl (by decide) _ _ _ (by simp [Act.eval, Act.put]) (hown2.alloc _) ⟨w2.heap.size, 0, none⟩ 1 1 [.int .i64 (Sp.draw g x t wt)] (by simp [Act.eval, Act.put]) rfl (one_cell_new _ _ _) (one_oneCell _) (by decide) (by unfold maxLen; omega) (by omega) (by have := hu.size; simp at this ⊢; omega) _ rfl ?_; intro g2 cap2 w3 hown3 hgr hg2 hg3))
      all_goals
        have R : w3.ownsRow w.heap.size 2 1 (.slice (some ⟨g2, 0, none⟩) (k + 1) cap2) (k + 1) (strawsV m g t (inn.take (k + 1))) := by
          rw [HSN.out]; exact hown3
        have U : Upd Nix w w3 := ((HR.out.2.drew.trans hu).alloc _).trans' (Upd.of_grown hgr) (fun i hi e => by
          have := (World.ownsRow.lt hown i e.symm).1; omega)
        have H' := hid (And.intro R U)
        clear hown hown2 hown3 hgr hg2 hg3 hu R U
        go_wp2
        go_roundw
        case rel => exact ⟨k + 1, by omega, by go_num, H'.out⟩
        case measure => simp [intOf]; omega
    · have : k = n := by omega
      subst this
      have hL2 := hL
      have htk : inn.take k = inn := by rw [HN.out]; exact List.take_length
      have hr := HR.out.1
      rw [htk] at hr
      have hlen : (Sp.straws m g t inn).length = k := by simp [Sp.straws, HN.out]
      have hbest := fun (w' : World) (hr' : w'.ownsRow w.heap.size 2 1 u5 k (strawsV m g t inn)) => best_any (Sp.straws m g t inn) u5 w' w.heap.size (by rw [hlen]; exact hr') (by omega) (by omega)
      rw [hlen] at hbest
      have hbd := bestAt_bd (Sp.straws m g t inn) k
      obtain ⟨b, hb⟩ : ∃ b : Nat, Sp.bestAt (Sp.straws m g t inn) k = b := ⟨(Sp.bestAt (Sp.straws m g t inn) k).toNat, by omega⟩
      rw [hb] at hbest hbd
      have hbk : b < k := by omega
      have c1 : wr.cell? ⟨c, 17, none⟩ = some (.slice (some ⟨gi, 0, none⟩) k cap) := by rw [cell_blk hL.blk, HN.out]; rfl
      have c2 : wr.cell? ⟨gi, b, none⟩ = some (.int .i64 ((inn.getD b 0 : Nat) : Int)) := (HR.out.2.cell hgi (fun f => f)).trans (HCI.out b (by rw [← HN.out]; exact hbk))
      have hfin : Hid (drawIn m g t inn = inn.getD b 0) := by
        show drawIn m g t inn = inn.getD b 0
        unfold drawIn; rw [← HN.out, hb]; rfl
      generalize hx : inn.getD b 0 = x at *
      have HB := hid hbest; have HRR := hid hr
      clear hbest hr hL hL2 hlen htk hb hbd hx
      have hb1 : (b : Int) < k := by omega
      go_wp2_with fail
      go_quiet ((go_at_call 105; exact Calls.quiet_of_same ((HB.out _ (row_drewN HRR.out _)).mono (fun e w' h => ⟨h.1, h.2.symm⟩))))
      go_wp2
      go_ret
      exact ⟨ret_eq (by rw [hfin.out]), HR.out.2.drewN _⟩
end Go.Proofs.Ytmkpljbkmkbnjaa
