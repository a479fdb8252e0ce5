/-
  THE WALK of paddocklaw5.HistoryDown.
-/
import Derived.Test.YtmkpljbkmkbnjaaInts
namespace Go.Proofs.Ytmkpljbkmkbnjaa
open Go.RowKit
set_option linter.unusedVariables false
set_option linter.unusedSimpArgs false

def alOf (g : Nat) : List Nat := (lastOf [] g).2
def dI1 (o : Nat) : List Sp.Inc := [⟨2, o, 0⟩]
def dI2 (o : Nat) : List Sp.Inc := [⟨2, o, 0⟩, inone]
def dI3 (o : Nat) : List Sp.Inc := [⟨2, o, 0⟩, inone, ⟨1, o, 0⟩]
def chk (g o : Nat) : Bool := decide (o < 5) && decide ((lastOf (dI1 o) g).1 = 2) && decide ((lastOf (dI1 o) g).2.length = 2) && decide ((lastOf (dI2 o) g).1 = 2) && decide ((lastOf (dI3 o) g).2 = alOf g) && decide ((ivsOf (dI3 o) g).length = 3) && decide ((ivsOf (dI3 o) g).getLast? = some (4, alOf g))
def chkAll : Bool := (List.range 4).all fun g => decide ((alOf g).length = 3) && (List.range 3).all fun j => chk g ((alOf g).getD j 0)
theorem chk_all : chkAll = true := by decide +kernel
theorem chk_len (g : Nat) (hg : g < 4) : (alOf g).length = 3 := by
  have h := List.all_eq_true.1 chk_all g (List.mem_range.2 hg)
  simp only [Bool.and_eq_true, decide_eq_true_eq] at h
  exact h.1
theorem chk_at (g j : Nat) (hg : g < 4) (hj : j < 3) : chk g ((alOf g).getD j 0) = true := by
  have h := List.all_eq_true.1 chk_all g (List.mem_range.2 hg)
  simp only [Bool.and_eq_true, decide_eq_true_eq] at h
  exact List.all_eq_true.1 h.2 j (List.mem_range.2 hj)
theorem add_d1 (o : Nat) (h : o < 5) : Sp.add [] 2 ⟨2, o, 0⟩ = (0, dI1 o) := by
  have : (o : Int) < 5 := by omega
  unfold Sp.add dI1; rw [if_neg (by simp), if_neg (by simp), if_pos ⟨by unfold Sp.isInc; simp [this], by simp⟩]; rfl
theorem add_d2 (o : Nat) : Sp.add (dI1 o) 3 inone = (0, dI2 o) := by
  unfold Sp.add dI1 dI2; rw [if_neg (by simp), if_neg (by simp), if_pos ⟨by decide, by simp⟩]; rfl
theorem add_d3 (o : Nat) (h : o < 5) : Sp.add (dI2 o) 4 ⟨1, o, 0⟩ = (0, dI3 o) := by
  have : (o : Int) < 5 := by omega
  unfold Sp.add dI2 dI3; rw [if_neg (by simp), if_neg (by simp), if_pos ⟨by unfold Sp.isInc; simp [this], by simp⟩]; rfl
theorem since_at {w0 w : World} {h : Nat} {is : List Sp.Inc} (H : At w0 w h is) (g : Nat) (hg : g < 256) : Calls Try.prog 23 #[.pointer (some ⟨h, 0, none⟩), .int .u8 (g : Int)] w fun e w' => e = .returned (.int .u32 (lastOf is g).1) ∧ Upd Nix w w' := by
  obtain ⟨S, h1, h2, h3⟩ := H; exact since_s h1 g hg
theorem hacting_at {w0 w : World} {h : Nat} {is : List Sp.Inc} (H : At w0 w h is) (g : Nat) (hg : g < 256) : Calls Try.prog 25 #[.pointer (some ⟨h, 0, none⟩), .int .u8 (g : Int)] w (HActS is g w) := by
  obtain ⟨S, h1, h2, h3⟩ := H; exact hacting_s h1 g hg
theorem intervals_at {w0 w : World} {h : Nat} {is : List Sp.Inc} (H : At w0 w h is) (g : Nat) (hg : g < 256) : Calls Try.prog 19 #[.pointer (some ⟨h, 0, none⟩), .int .u8 (g : Int)] w (IvsS is g w) := by
  obtain ⟨S, h1, h2, h3⟩ := H; exact intervals_s h1 g hg

/-- as add_at; rows of daemons stay -/
def Rows3 (w w' : World) : Prop := ∀ base v l, RowN w base v l → RowN w' base v l
theorem Rows3.nix {w w' : World} (h : Upd Nix w w') : Rows3 w w' := fun base v l hr => row_keep hr h (fun _ _ f => f)
def AddAt3 (w0 : World) (h : Nat) (is : List Sp.Inc) (e : Nat) (x : Sp.Inc) (w : World) (en : Ending) (w' : World) : Prop := en = .returned (.int .i64 (Sp.add is e x).1) ∧ At w0 w' h (Sp.add is e x).2 ∧ Rows3 w w'
theorem add_at3 {w0 w : World} {h : Nat} {is : List Sp.Inc} (H : At w0 w h is) (e : Nat) (x : Sp.Inc) (he : e < 4294967296) (hx : IncOk x) :
    Calls Try.prog 17 #[.pointer (some ⟨h, 0, none⟩), .int .u32 (e : Int), incV x] w (AddAt3 w0 h is e x w) := by
  obtain ⟨S, h1, h2, h3⟩ := H
  refine (add_any h is S e x w h1 he hx).mono ?_
  rintro en w' hp
  have hp2 := hp
  obtain ⟨rfl, S', k1, k2, k3⟩ := addS_next hp h2 h3
  obtain ⟨_, S2, _, hu, _⟩ := hp2
  refine ⟨rfl, ⟨S', k1, k2, k3⟩, fun base v l hr => row_keep hr hu (fun b hb f => ?_)⟩
  obtain ⟨_, cur, hc⟩ := row_blk hr hb
  exact h1.ty f cur (0, 0) hc

set_option maxRecDepth 10000 in
theorem down_any (gr wh : Nat) (hgr : gr < 256) (hwh : wh < 256) (w : World) : Calls Try.prog 6 #[.int .u8 (gr : Int), .int .u8 (wh : Int)] w (KnownPost w) := by
  have r4 : (gr : Int).tmod 4 = ((gr % 4 : Nat) : Int) := by rw [Int.tmod_eq_emod_of_nonneg (by omega)]; omega
  have r3 : (wh : Int).tmod 3 = ((wh % 3 : Nat) : Int) := by rw [Int.tmod_eq_emod_of_nonneg (by omega)]; omega
  have hg : gr % 4 < 4 := by omega
  have hj : wh % 3 < 3 := by omega
  generalize gr % 4 = g at *
  generalize wh % 3 = j at *
  have hlen := chk_len g hg
  have hck := chk_at g j hg hj
  have hro : RowN w 0 (.slice none 0 0) (alOf g) → True := fun _ => trivial
  clear hro
  generalize ho : (alOf g).getD j 0 = o at *
  have HO := hid ho
  simp only [chk, Bool.and_eq_true, decide_eq_true_eq] at hck
  obtain ⟨⟨⟨⟨⟨⟨ho5, c1⟩, c2⟩, c3⟩, c4⟩, c5⟩, c6⟩ := hck
  have HC := hid (And.intro hlen (And.intro c1 (And.intro c2 (And.intro c3 (And.intro c4 (And.intro c5 c6))))))
  clear hlen c1 c2 c3 c4 c5 c6 ho
  go_enter Try.func6, Try.ntmps6
  go_wp2_with fail
  refine (known5_any _).mono ?_
  rintro e w1 ⟨rfl, hu1⟩
  have HN := hid (new_at hu1)
  clear hu1
  go_wp2_with fail
  refine HN.out.mono ?_
  rintro e w2 ⟨h, rfl, hat⟩
  have HAT := hid hat
  have HA := hid (hacting_at hat g (by omega))
  clear hat HN
  go_wp2_with fail
  refine HA.out.mono ?_
  rintro e w3 ⟨va, rfl, hr, hu⟩
  have hr' : RowN w3 w2.heap.size va (alOf g) := hr
  obtain ⟨ba, ca, rfl, _, hba, _, _, hcell⟩ := nats_row hr' (by rw [HC.out.1]; omega)
  have k0 := hcell j (by rw [HC.out.1]; exact hj)
  rw [HO.out] at k0
  have HLEN := hid HC.out.1
  rw [HC.out.1]
  have HAT3 := hid (HAT.out.keep0 hu)
  have HR := hid hr'
  clear hr hr' hu hcell HAT HA
  have HA := hid (add_at3 HAT3.out 2 ⟨2, o, 0⟩ (by omega) ⟨by simp, by simp, by simp, by simp; omega⟩)
  have hji : (j : Int) < 3 := by omega
  have HO5 := hid ho5
  go_wp2_with fail
  refine HA.out.mono ?_
  rintro e w4 ⟨rfl, hat, hrows⟩
  rw [add_d1 o HO5.out] at *
  have HR4 := hid (hrows _ _ _ HR.out)
  have HS := hid (since_at hat g (by omega))
  rw [HC.out.2.1] at HS
  have HAT4 := hid hat
  clear hat hrows HA HR HAT3 k0 HO
  go_wp2_with fail
  refine HS.out.mono ?_
  rintro e w5 ⟨rfl, hu⟩
  have HR5 := hid (row_keep HR4.out hu (fun _ _ f => f))
  have HAT5 := hid (HAT4.out.keep0 hu)
  have HA := hid (hacting_at HAT5.out g (by omega))
  clear HR4 HAT4 HS hu
  go_wp2_with fail
  refine HA.out.mono ?_
  rintro e w6 ⟨va, rfl, hr, hu⟩
  obtain ⟨aa, ac, rfl⟩ := row_nil hr
  rw [HC.out.2.2.1]
  have HR6 := hid (row_keep HR5.out hu (fun _ _ f => f))
  have HAT6 := hid (HAT5.out.keep0 hu)
  have HA := hid (add_at3 HAT6.out 3 inone (by omega) inone_ok)
  clear hr hu HR5 HAT5
  go_wp2_with fail
  refine HA.out.mono ?_
  rintro e w7 ⟨rfl, hat, hrows⟩
  rw [add_d2 o] at *
  have HR7 := hid (hrows _ _ _ HR6.out)
  have HS := hid (since_at hat g (by omega))
  rw [HC.out.2.2.2.1] at HS
  have HAT7 := hid hat
  clear hat hrows HA HR6 HAT6
  go_wp2_with fail
  refine HS.out.mono ?_
  rintro e w8 ⟨rfl, hu⟩
  have HR8 := hid (row_keep HR7.out hu (fun _ _ f => f))
  have HAT8 := hid (HAT7.out.keep0 hu)
  have HA := hid (add_at3 HAT8.out 4 ⟨1, o, 0⟩ (by omega) ⟨by simp, by simp, by simp, by simp; have := HO5.out; omega⟩)
  clear HR7 HAT7 HS hu
  go_wp2_with fail
  refine HA.out.mono ?_
  rintro e w9 ⟨rfl, hat, hrows⟩
  rw [add_d3 o HO5.out] at *
  have HR9 := hid (hrows _ _ _ HR8.out)
  have HI := hid (intervals_at hat g (by omega))
  have HAT9 := hid hat
  clear hat hrows HA HR8 HAT8
  go_wp2_with fail
  refine HI.out.mono ?_
  rintro e w10 ⟨vi, rfl, hiv, hu⟩
  have HR10 := hid (row_keep HR9.out hu (fun _ _ f => f))
  have HAT10 := hid (HAT9.out.keep0 hu)
  obtain ⟨bi, ci, avi, rfl, _, d0, d1, hra⟩ := hiv.last HC.out.2.2.2.2.2.2
  rw [HC.out.2.2.2.2.2.1] at d0 d1 ⊢
  simp only [show (3 - 1) * 2 = 4 from rfl, show (3 - 1) * 2 + 1 = 5 from rfl] at d0 d1
  obtain ⟨ia, ic, rfl⟩ := row_nil hra
  have HE := hid (ints_any (alOf g) (alOf g) _ _ 0 0 w10 hra (row_mono HR10.out (Nat.zero_le _)) (by rw [HLEN.out]; omega) (by rw [HLEN.out]; omega))
  rw [HLEN.out] at d1 HE
  clear hiv hu hra HI HR9 HAT9
  go_wp2_with fail
  refine HE.out.mono ?_
  rintro e w11 ⟨rfl, hu⟩
  have HR11 := hid (row_keep HR10.out hu (fun _ _ f => f))
  have HAT11 := hid (HAT10.out.keep0 hu)
  have HA := hid (hacting_at HAT11.out g (by omega))
  rw [decide_eq_true (rfl : alOf g = alOf g)]
  clear hu HE HR10 HAT10 d0 d1
  go_wp2_with fail
  refine HA.out.mono ?_
  rintro e w12 ⟨va, rfl, hr, hu⟩
  rw [HC.out.2.2.2.2.1] at hr
  obtain ⟨aa2, ac2, rfl⟩ := row_nil hr
  have HR12 := row_keep HR11.out hu (fun _ _ f => f)
  have HAT12 := hid (HAT11.out.keep0 hu)
  have HE := hid (ints_any (alOf g) (alOf g) _ _ 0 0 w12 (row_mono hr (Nat.zero_le _)) (row_mono HR12 (Nat.zero_le _)) (by rw [HLEN.out]; omega) (by rw [HLEN.out]; omega))
  rw [HLEN.out] at HE ⊢
  clear hu HR12 hr HA HR11 HAT11
  go_wp2_with fail
  refine HE.out.mono ?_
  rintro e w13 ⟨rfl, hu⟩
  have HAT13 := hid (HAT12.out.upd.trans hu)
  rw [decide_eq_true (rfl : alOf g = alOf g)]
  clear hu HE HAT12
  go_wp2_with fail
  go_ret
  exact ⟨rfl, HAT13.out⟩
end Go.Proofs.Ytmkpljbkmkbnjaa
