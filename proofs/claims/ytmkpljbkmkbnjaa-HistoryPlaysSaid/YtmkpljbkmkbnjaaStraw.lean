/-
  THE WALKS of the straws: straw.Log, straw.Straw, straw.Draw, straw.Best and paddockref2's Log, Straw, Draw.
-/
import Derived.Test.YtmkpljbkmkbnjaaBits
import Derived.Test.YtmkpljbkmkbnjaaShLen
import Derived.Deep.LoopGhost
namespace Go.Proofs.Ytmkpljbkmkbnjaa
open Go.RowKit
set_option linter.unusedVariables false
set_option linter.unusedSimpArgs false

/-- the square of a mantissa -/
theorem sq_bd (x : Nat) (h : x < 4294967296) : x * x < 18446744073709551616 := by
  have := Nat.mul_le_mul (Nat.le_of_lt_succ (show x < 4294967295 + 1 by omega)) (Nat.le_of_lt_succ (show x < 4294967295 + 1 by omega))
  omega
theorem or64 (k : Nat) (h : k < 1000000) : bits BinOp.or IntKind.i64 ((k : Int) * 2) 1 = ((2 * k + 1 : Nat) : Int) := by
  have e : (BitVec.ofInt 64 ((k : Int) * 2) ||| BitVec.ofInt 64 1).toNat = 2 * k + 1 := by
    rw [BitVec.toNat_or, BitVec.toNat_ofInt, BitVec.toNat_ofInt]
    have h1 : ((k : Int) * 2 % ((2 ^ 64 : Nat) : Int)).toNat = 2 * k := by omega
    have h2 : ((1 : Int) % ((2 ^ 64 : Nat) : Int)).toNat = 1 := by decide
    rw [h1, h2]
    have := Nat.shiftLeft_add_eq_or_of_lt (b := 1) (i := 1) (by decide) k
    rw [Nat.shiftLeft_eq] at this
    rw [show 2 * k = k * 2 ^ 1 by omega]
    exact this.symm
  have e2 : bits BinOp.or IntKind.i64 ((k : Int) * 2) 1 = IntKind.i64.wrap ((BitVec.ofInt 64 ((k : Int) * 2) ||| BitVec.ofInt 64 1).toNat : Int) := rfl
  rw [e2, e]
  exact IntWalk.i64_in _ (by omega)
def StepPost (b x k : Nat) (w w' : World) : Prop :=
  w'.heap[b]? = some (.cells #[.int .u64 (Sp.lstep (x, k)).1, .int .i64 (Sp.lstep (x, k)).2] 187 (0, 0)) ∧ Upd (fun i => i = b) w w'
set_option maxRecDepth 100000 in
theorem step_any (x k : Nat) (b : Nat) (w : World) (hx : x < 4294967296) (hk : k < 1000000)
    (hb : w.heap[b]? = some (.cells #[.int .u64 x, .int .i64 k] 187 (0, 0))) :
    Calls Try.prog 130 #[.pointer (some ⟨b, 0, none⟩)] w fun e w' => e = .returned (.tuple #[]) ∧ StepPost b x k w w' := by
  have hsq := sq_bd x hx
  have h0 : w.cell? ⟨b, 0, none⟩ = some (.int .u64 x) := by rw [cell_blk hb]; rfl
  have h1 : w.cell? ⟨b, 1, none⟩ = some (.int .i64 k) := by rw [cell_blk hb]; rfl
  have f0 := free_blk hb 0
  have f1 := free_blk hb 1
  obtain ⟨q, hq, HQ, hq2⟩ : ∃ q : Nat, ((x : Int) * x = (q : Int)) ∧ Hid (q = x * x) ∧ q ≤ 18446744073709551615 := ⟨x * x, rfl, rfl, by omega⟩
  obtain ⟨y, hy, HY, hy2⟩ : ∃ y : Nat, ((q : Int) / 2147483648 = (y : Int)) ∧ Hid (y = q / 2147483648) ∧ Hid (y ≤ 8589934591) := ⟨q / 2147483648, rfl, rfl, show _ ≤ _ by omega⟩
  have HB := hid hb
  clear hb hsq
  go_enter Try.func130, Try.ntmps130
  go_wp2
  go_region
  clear hq2 hx
  by_cases hc : 4294967296 ≤ y
  · have HC := hid hc
    have hd : decide ((4294967296 : Int) ≤ y) = true := by simp; omega
    clear hc
    go_wp2
    go_end0
    refine ⟨rfl, ?_⟩
    have el : Sp.lstep (x, k) = (y / 2, 2 * k + 1) := by
      have h1 := HC.out; have h2 := HQ.out; have h3 := HY.out
      unfold Sp.lstep; dsimp only; rw [← h2, ← h3, if_pos h1]
    unfold StepPost
    rw [el]
    refine ⟨?_, Upd.drew ?_⟩
    · have := blk_setCell (i := 1) (v := .int .i64 (bits BinOp.or IntKind.i64 ((k : Int) * 2) 1)) (blk_setCell (i := 0) (v := .int .u64 ((y : Int) / 2)) (blk_setCell (i := 1) (v := .int .i64 ((k : Int) * 2)) (blk_setCell (i := 0) (v := .int .u64 (y : Int)) HB.out)))
      refine this.trans ?_
      rw [or64 k hk]; rfl
    · iterate 4 refine Upd.setCell ?_ (by exact .inl rfl) _
      exact Upd.refl _ _
  · have HC := hid hc
    have hd : decide ((4294967296 : Int) ≤ y) = false := by simp; omega
    clear hc
    go_wp2
    go_end0
    refine ⟨rfl, ?_⟩
    have el : Sp.lstep (x, k) = (y, 2 * k) := by
      have h1 := HC.out; have h2 := HQ.out; have h3 := HY.out
      unfold Sp.lstep; dsimp only; rw [← h2, ← h3, if_neg h1]
    unfold StepPost
    rw [el]
    refine ⟨?_, Upd.drew ?_⟩
    · have := blk_setCell (i := 1) (v := .int .i64 ((k : Int) * 2)) (blk_setCell (i := 0) (v := .int .u64 (y : Int)) HB.out)
      refine this.trans ?_
      rw [Int.mul_comm]; rfl
    · iterate 2 refine Upd.setCell ?_ (by exact .inl rfl) _
      exact Upd.refl _ _

/-- the table of math/bits -/
theorem log2_lt (u k : Nat) (hu : 0 < u) (h : u < 2 ^ (k + 1)) : Nat.log2 u ≤ k := by
  have := (Nat.log2_lt (n := u) (k := k + 1) (by omega)).2 h
  omega
theorem literate_lt : ∀ n s, s.1 < 4294967296 → (Sp.literate n s).1 < 4294967296 := by
  intro n s h
  induction n with
  | zero => exact h
  | succ n ih =>
    have hs := sq_bd _ ih
    simp only [Sp.literate, Sp.lstep]
    split <;> dsimp only <;> omega
theorem literate_bits : ∀ n s, s.2 = 0 → (Sp.literate n s).2 < 2 ^ n := by
  intro n s h
  induction n with
  | zero => simp [Sp.literate, h]
  | succ n ih =>
    simp only [Sp.literate, Sp.lstep]
    rw [Nat.pow_succ]
    split <;> dsimp only <;> omega
theorem bitLenAux_log2 : ∀ f u : Nat, 0 < u → u < 2 ^ f → Lib.bitLenAux f u = Nat.log2 u + 1 := by
  intro f
  induction f with
  | zero => intro u h1 h2; simp at h2; omega
  | succ f ih =>
    intro u h1 h2
    simp only [Lib.bitLenAux]
    rw [if_neg (by omega), Nat.log2_def]
    split
    · rw [ih (u / 2) (by omega) (by rw [Nat.pow_succ] at h2; omega)]; omega
    · have : u = 1 := by omega
      subst this
      cases f <;> simp [Lib.bitLenAux]
theorem len32_any (u : Nat) (h : 1 ≤ u) (h2 : u ≤ 65536) (w : World) :
    Calls Try.prog 129 #[.int .u32 u] w fun e w' => e = .returned (.int .i64 ((Nat.log2 u + 1 : Nat) : Int)) ∧ w = w' := by
  refine (Try.bits_Len32 (u : Int) w (by omega) (by omega)).mono ?_
  rintro e w' ⟨rfl, rfl⟩
  refine ⟨?_, rfl⟩
  rw [show ((u : Int).toNat) = u from rfl, Lib.bitLen, bitLenAux_log2 64 u h (by omega)]

def LogPost (u : Nat) (w : World) (e : Ending) (w' : World) : Prop := e = .returned (.int .i64 (Sp.log u)) ∧ Upd Nix w w'
theorem shl_bd (u k : Nat) (hk : k = Nat.log2 u) (h1 : 1 ≤ u) (hk2 : k ≤ 16) : u * 2 ^ (31 - k) < 4294967296 := by
  have h := Nat.lt_log2_self (n := u)
  rw [← hk] at h
  have e : 2 ^ (k + 1) * 2 ^ (31 - k) = 4294967296 := by rw [← Nat.pow_add, show k + 1 + (31 - k) = 32 by omega]
  calc u * 2 ^ (31 - k) < 2 ^ (k + 1) * 2 ^ (31 - k) := Nat.mul_lt_mul_of_pos_right h (Nat.two_pow_pos _)
    _ = 4294967296 := e
set_option maxRecDepth 100000 in
theorem log_any (u : Nat) (h1 : 1 ≤ u) (h2 : u ≤ 65536) (w : World) :
    Calls Try.prog 123 #[.int .u32 u] w (LogPost u w) := by
  obtain ⟨k, hk⟩ : ∃ k, k = Nat.log2 u := ⟨_, rfl⟩
  have hk16 : k ≤ 16 := by rw [hk]; exact log2_lt u 16 h1 (by omega)
  have hs := shl_bd u k hk h1 hk16
  have hlen := len32_any u h1 h2 w
  rw [← hk] at hlen
  have HK := hid hk
  clear hk
  have HL := hid hlen
  have HS := hid hs
  clear hlen hs
  obtain ⟨x0, hx0, HX0⟩ : ∃ x0 : Nat, IntKind.u64.wrap ((u : Int) * 2 ^ (31 - k)) = (x0 : Int) ∧ Hid (x0 = u * 2 ^ (31 - k)) := by
    refine ⟨u * 2 ^ (31 - k), ?_, rfl⟩
    rw [show (u : Int) * 2 ^ (31 - k) = ((u * 2 ^ (31 - k) : Nat) : Int) by simp, wrapU64, Nat.mod_eq_of_lt (by have := HS.out; omega)]
  have m1 : max (u : Int) 1 = u := by omega
  have m2 : min (u : Int) 65536 = u := by omega
  go_enter Try.func123, Try.ntmps123
  go_wp2_with fail
  refine HL.out.mono ?_
  rintro e w' ⟨rfl, rfl⟩
  go_wp2_with fail
  go_loopw [21] (fun i wr => ∃ n : Nat, n ≤ 16 ∧ i = .int .i64 n ∧ Hid (wr.heap[w.heap.size]? = some (.cells #[.int .u64 (Sp.literate n (x0, 0)).1, .int .i64 (Sp.literate n (x0, 0)).2] 187 (0, 0))) ∧ Hid (Upd Nix w wr)) (fun i _ => 16 - (intOf i).toNat)
  case atStart => exact ⟨0, by omega, rfl, alloc_new w _, (Upd.refl _ _).alloc _⟩
  case round =>
    obtain ⟨n, hn, rfl, hb, hu⟩ := hrel
    by_cases hlt : n < 16
    · have hst := step_any (Sp.literate n (x0, 0)).1 (Sp.literate n (x0, 0)).2 w.heap.size wr (literate_lt n _ (by rw [HX0.out]; exact HS.out)) (by have := literate_bits n (x0, 0) rfl; have := Nat.pow_le_pow_right (n := 2) (by decide) (show n ≤ 16 by omega); omega) hb.out
      have HST := hid hst
      clear hst
      go_wp2_with fail
      refine HST.out.mono ?_
      rintro e w' ⟨rfl, hp⟩
      have HP := hid hp
      clear hp
      go_wp2_with fail
      go_roundw
      case rel => exact ⟨n + 1, by omega, by go_num, HP.out.1, hu.out.trans' HP.out.2 (fun i hi e => by omega)⟩
      case measure => simp [intOf]; omega
    · have : n = 16 := by omega
      subst this
      have hc1 : wr.cell? ⟨w.heap.size, 1, none⟩ = some (.int .i64 ((Sp.literate 16 (x0, 0)).2 : Nat)) := by rw [cell_blk hb.out]; rfl
      have hbits : (Sp.literate 16 (x0, 0)).2 < 65536 := literate_bits 16 (x0, 0) rfl
      go_wp2
      go_ret
      have hfin : ((k : Int) * 65536 + ((Sp.literate 16 (x0, 0)).2 : Nat)) = (Sp.log u : Int) := by
        unfold Sp.log; rw [← HK.out, ← HX0.out]; simp
      exact ⟨ret_eq hfin, hu.out⟩

theorem pos_shift (u k j : Nat) (hk : k = Nat.log2 u) (hj : j + 1 ≤ k) (h1 : 1 ≤ u) : 0 < u / 2 ^ (j + 1) := by
  have h := Nat.log2_self_le (n := u) (by omega)
  rw [← hk] at h
  exact Nat.div_pos (Nat.le_trans (Nat.pow_le_pow_right (by decide) hj) h) (Nat.two_pow_pos _)
set_option maxRecDepth 100000 in
set_option maxHeartbeats 1000000 in
theorem rlog_any (u : Nat) (h1 : 1 ≤ u) (h2 : u ≤ 65536) (w : World) :
    Calls Try.prog 125 #[.int .u32 u] w fun e w' => e = .returned (.int .i64 (Sp.log u)) ∧ w = w' := by
  obtain ⟨k, hk⟩ : ∃ k, k = Nat.log2 u := ⟨_, rfl⟩
  have hk16 : k ≤ 16 := by rw [hk]; exact log2_lt u 16 h1 (by omega)
  have hs := shl_bd u k hk h1 hk16
  have HK := hid hk
  clear hk
  have HS := hid hs
  clear hs
  obtain ⟨x0, hx0, HX0⟩ : ∃ x0 : Nat, IntKind.u64.wrap ((u : Int) * 2 ^ (31 - k)) = (x0 : Int) ∧ Hid (x0 = u * 2 ^ (31 - k)) := by
    refine ⟨u * 2 ^ (31 - k), ?_, rfl⟩
    rw [show (u : Int) * 2 ^ (31 - k) = ((u * 2 ^ (31 - k) : Nat) : Int) by simp, wrapU64, Nat.mod_eq_of_lt (by have := HS.out; omega)]
  have m1 : max 1 (u : Int) = u := by omega
  have m2 : min (u : Int) 65536 = u := by omega
  go_enter Try.func125, Try.ntmps125
  go_wp2_with fail
  go_loop [3] (fun i => ∃ j : Nat, j ≤ k ∧ i = .int .i64 j) (fun i => k - (intOf i).toNat)
  case atStart => exact ⟨0, by omega, rfl⟩
  case round =>
    obtain ⟨j, hj, rfl⟩ := hrel
    by_cases hlt : j < k
    · have hd : (0 : Int) < (u : Int) / 2 ^ (j + 1) := by
        have := pos_shift u k j HK.out (by omega) h1
        have e : ((u / 2 ^ (j + 1) : Nat) : Int) = (u : Int) / 2 ^ (j + 1) := by simp
        omega
      go_wp2
      go_round
      case rel => exact ⟨j + 1, by omega, by go_num⟩
      case measure => simp [intOf]; omega
    · have : j = k := by omega
      subst this
      have hd : (u : Int) / 2 ^ (j + 1) = 0 := by
        have h := Nat.lt_log2_self (n := u)
        rw [← HK.out] at h
        have e : ((u / 2 ^ (j + 1) : Nat) : Int) = (u : Int) / 2 ^ (j + 1) := by simp
        have := Nat.div_eq_of_lt h
        omega
      go_wp2_with fail
      clear hd
      go_loop [4, 5, 6] (fun x out i => ∃ n : Nat, n ≤ 16 ∧ i = .int .i64 n ∧ x = .int .u64 ((Sp.literate n (x0, 0)).1 : Nat) ∧ out = .int .i64 ((j * 2 ^ n + (Sp.literate n (x0, 0)).2 : Nat) : Int)) (fun _ _ i => 16 - (intOf i).toNat)
      case atStart => exact ⟨0, by omega, rfl, rfl, by simp [Sp.literate]⟩
      case round =>
        obtain ⟨n, hn, rfl, rfl, rfl⟩ := hrel
        by_cases hlt2 : n < 16
        · have hxl := literate_lt n (x0, 0) (by rw [HX0.out]; exact HS.out)
          have hbl := literate_bits n (x0, 0) rfl
          have hp := Nat.pow_le_pow_right (n := 2) (by decide) (show n ≤ 16 by omega)
          have hsucc : Sp.literate (n + 1) (x0, 0) = Sp.lstep (Sp.literate n (x0, 0)) := rfl
          have hpow : j * 2 ^ (n + 1) = 2 * (j * 2 ^ n) := by rw [Nat.pow_succ]; ac_rfl
          have hjn : j * 2 ^ n ≤ 16 * 65536 := Nat.mul_le_mul (by omega) hp
          generalize hP : j * 2 ^ n = P at *
          generalize hxx : (Sp.literate n (x0, 0)) = xb at *
          obtain ⟨x, b⟩ := xb
          dsimp only at hxl hbl ⊢
          have hsq := sq_bd x hxl
          obtain ⟨q, hq, HQ, hq2⟩ : ∃ q : Nat, IntKind.u64.wrap ((x : Int) * x) = (q : Int) ∧ Hid (q = x * x) ∧ Hid (q ≤ 18446744073709551615) :=
            ⟨x * x, by rw [show (x : Int) * x = ((x * x : Nat) : Int) from rfl, wrapU64, Nat.mod_eq_of_lt hsq], rfl, (show _ ≤ _ by omega)⟩
          obtain ⟨y, hy, HY, hy2⟩ : ∃ y : Nat, ((q : Int) / 2147483648 = (y : Int)) ∧ Hid (y = q / 2147483648) ∧ Hid (y ≤ 8589934591) := ⟨q / 2147483648, rfl, rfl, (by have := hq2.out; show _ ≤ _; omega)⟩
          have hbb : b ≤ 65535 := by omega
          have HSU := hid hsucc; have HPW := hid hpow
          clear hsucc hpow hxl hsq hbl hp hP hxx
          by_cases hc : 4294967296 ≤ y
          · have HC := hid hc
            have hd : decide ((4294967296 : Int) ≤ y) = true := by simp; omega
            clear hc
            go_wp2
            go_round
            case rel =>
              have el : Sp.lstep (x, b) = (y / 2, 2 * b + 1) := by
                have h1 := HC.out; have h2 := HQ.out; have h3 := HY.out
                unfold Sp.lstep; dsimp only; rw [← h2, ← h3, if_pos h1]
              refine ⟨n + 1, by omega, by go_num, ?_, ?_⟩
              · rw [HSU.out, el]; rfl
              · rw [HSU.out, el, HPW.out]; refine congrArg (Value.int IntKind.i64) ?_; dsimp only; omega
            case measure => simp [intOf]; omega
          · have HC := hid hc
            have hd : decide ((4294967296 : Int) ≤ y) = false := by simp; omega
            clear hc
            go_wp2
            go_round
            case rel =>
              have el : Sp.lstep (x, b) = (y, 2 * b) := by
                have h1 := HC.out; have h2 := HQ.out; have h3 := HY.out
                unfold Sp.lstep; dsimp only; rw [← h2, ← h3, if_neg h1]
              refine ⟨n + 1, by omega, by go_num, ?_, ?_⟩
              · rw [HSU.out, el]
              · rw [HSU.out, el, HPW.out]; refine congrArg (Value.int IntKind.i64) ?_; dsimp only; omega
            case measure => simp [intOf]; omega
        · have : n = 16 := by omega
          subst this
          go_wp2
          go_ret
          have hfin : ((j * 2 ^ 16 + (Sp.literate 16 (x0, 0)).2 : Nat) : Int) = (Sp.log u : Int) := by
            unfold Sp.log; rw [← HK.out, ← HX0.out]
          exact ⟨ret_eq hfin, rfl⟩
end Go.Proofs.Ytmkpljbkmkbnjaa
