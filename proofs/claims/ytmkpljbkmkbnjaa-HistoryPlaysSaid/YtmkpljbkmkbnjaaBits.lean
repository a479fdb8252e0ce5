/-
  THE WALKS of the mixing functions: bits.Mix, bits.Hash, paddockref1.Mix, paddockref1.Hash compute Sp.mix, Sp.hash.
-/
import Derived.Test.YtmkpljbkmkbnjaaRows
import Derived.Test.YtmkpljbkmkbnjaaSpec
import Derived.Test.YtmkpljbkmkbnjaaBase
import Derived.WalkKit
import Derived.WalkSpells
import Derived.WalkLawsBesides
namespace Go.Proofs.Ytmkpljbkmkbnjaa
open Go.RowKit
set_option linter.unusedVariables false
set_option linter.unusedSimpArgs false



theorem ret_eq {k : IntKind} {a b : Int} (h : a = b) : Ending.returned (.int k a) = .returned (.int k b) := by rw [h]

theorem wrapU64 (n : Nat) : IntKind.u64.wrap (n : Int) = ((n % 18446744073709551616 : Nat) : Int) := by
  simp [IntKind.wrap, IntKind.bits, IntKind.signed]
theorem wrapU32 (n : Nat) : IntKind.u32.wrap (n : Int) = ((n % 4294967296 : Nat) : Int) := by
  simp [IntKind.wrap, IntKind.bits, IntKind.signed]
theorem xor64 (a b : Nat) (ha : a < 18446744073709551616) (hb : b < 18446744073709551616) :
    bits BinOp.xor IntKind.u64 (a : Int) (b : Int) = ((a ^^^ b : Nat) : Int) := by
  have hx : a ^^^ b < 2 ^ 64 := Nat.xor_lt_two_pow (by omega) (by omega)
  have e : (BitVec.ofInt 64 (a : Int) ^^^ BitVec.ofInt 64 (b : Int)).toNat = a ^^^ b := by
    rw [BitVec.toNat_xor, BitVec.toNat_ofInt, BitVec.toNat_ofInt]
    congr 1 <;> omega
  have e2 : bits BinOp.xor IntKind.u64 (a : Int) (b : Int) = IntKind.u64.wrap ((BitVec.ofInt 64 (a : Int) ^^^ BitVec.ofInt 64 (b : Int)).toNat : Int) := rfl
  rw [e2, e, wrapU64]
  congr 1; exact Nat.mod_eq_of_lt (by simpa using hx)

theorem xs_lt (b : Nat) (hb : b < 18446744073709551616) : b ^^^ (b / 8589934592) < 18446744073709551616 := by
  have h : b ^^^ (b / 8589934592) < 2 ^ 64 := Nat.xor_lt_two_pow (by omega) (by omega)
  omega
theorem mix_lt (x : Nat) : Sp.mix x < 18446744073709551616 := by
  unfold Sp.mix
  exact xs_lt _ (Nat.mod_lt _ (by omega))

theorem xs64 (a : Nat) (h : a < 18446744073709551616) : bits BinOp.xor IntKind.u64 (a : Int) ((a : Int) / 8589934592) = ((a ^^^ (a / 8589934592) : Nat) : Int) :=
  xor64 a (a / 8589934592) h (by omega)
theorem mul64 (a : Nat) (k : Nat) (K : Int) (hk : (k : Int) = K) : IntKind.u64.wrap ((a : Int) * K) = ((a * k % 18446744073709551616 : Nat) : Int) := by
  subst hk; exact wrapU64 (a * k)

/-- what the walk leaves -/
def mixI (x : Int) : Int :=
  bits BinOp.xor IntKind.u64
    (IntKind.u64.wrap (bits BinOp.xor IntKind.u64 (IntKind.u64.wrap (bits BinOp.xor IntKind.u64 x (x / 8589934592) * 18397679294719823053))
      (IntKind.u64.wrap (bits BinOp.xor IntKind.u64 x (x / 8589934592) * 18397679294719823053) / 8589934592) * 14181476777654086739))
    (IntKind.u64.wrap (bits BinOp.xor IntKind.u64 (IntKind.u64.wrap (bits BinOp.xor IntKind.u64 x (x / 8589934592) * 18397679294719823053))
      (IntKind.u64.wrap (bits BinOp.xor IntKind.u64 x (x / 8589934592) * 18397679294719823053) / 8589934592) * 14181476777654086739) / 8589934592)

theorem mixI_eq (x : Nat) (h : x < 18446744073709551616) : mixI x = (Sp.mix x : Int) := by
  unfold mixI Sp.mix
  rw [xs64 x h, mul64 _ 18397679294719823053 _ (by omega)]
  have ha : ((x ^^^ (x / 8589934592)) * 18397679294719823053) % 18446744073709551616 < 18446744073709551616 := Nat.mod_lt _ (by omega)
  rw [xs64 _ ha, mul64 _ 14181476777654086739 _ (by omega)]
  exact xs64 _ (Nat.mod_lt _ (by omega))

theorem mix_any (x : Nat) (h : x < 18446744073709551616) (w : World) :
    Calls Try.prog 124 #[.int .u64 x] w fun e w' => e = .returned (.int .u64 (Sp.mix x)) ∧ w = w' := by
  have H := hid (mixI_eq x h)
  clear h
  go_enter Try.func124, Try.ntmps124
  go_wp2
  go_ret
  exact ⟨ret_eq H.out, rfl⟩

theorem rmix_any (x : Nat) (h : x < 18446744073709551616) (w : World) :
    Calls Try.prog 126 #[.int .u64 x] w fun e w' => e = .returned (.int .u64 (Sp.mix x)) ∧ w = w' := by
  have H := hid (mixI_eq x h)
  clear h
  go_enter Try.func126, Try.ntmps126
  go_wp2
  go_ret
  exact ⟨ret_eq H.out, rfl⟩

theorem hash_any (a b c : Nat) (ha : a < 4294967296) (hb : b < 4294967296) (hc : c < 4294967296) (w : World) :
    Calls Try.prog 115 #[.int .u32 a, .int .u32 b, .int .u32 c] w fun e w' => e = .returned (.int .u32 (Sp.hash a b c)) ∧ w = w' := by
  have h1 := mix_lt a
  have h2 := mix_lt ((Sp.mix a + b) % 18446744073709551616)
  have e1 : IntKind.u64.wrap ((Sp.mix a : Int) + b) = (((Sp.mix a + b) % 18446744073709551616 : Nat) : Int) := wrapU64 _
  have e2 : IntKind.u64.wrap ((Sp.mix ((Sp.mix a + b) % 18446744073709551616) : Int) + c) = (((Sp.mix ((Sp.mix a + b) % 18446744073709551616) + c) % 18446744073709551616 : Nat) : Int) := wrapU64 _
  have e3 : IntKind.u32.wrap (Sp.mix ((Sp.mix ((Sp.mix a + b) % 18446744073709551616) + c) % 18446744073709551616) : Int) = (Sp.hash a b c : Int) := wrapU32 _
  have E1 := hid e1; have E2 := hid e2; have E3 := hid e3
  clear e1 e2 e3
  go_enter Try.func115, Try.ntmps115
  go_wp2_with fail
  refine (mix_any a (by omega) _).mono ?_
  rintro e w' ⟨rfl, rfl⟩
  go_wp2_with fail
  rw [E1.out]
  refine (mix_any _ (by omega) _).mono ?_
  rintro e w' ⟨rfl, rfl⟩
  go_wp2_with fail
  rw [E2.out]
  refine (mix_any _ (by omega) _).mono ?_
  rintro e w' ⟨rfl, rfl⟩
  go_wp2_with fail
  go_ret
  exact ⟨ret_eq E3.out, rfl⟩
theorem rhash_any (a b c : Nat) (ha : a < 4294967296) (hb : b < 4294967296) (hc : c < 4294967296) (w : World) :
    Calls Try.prog 117 #[.int .u32 a, .int .u32 b, .int .u32 c] w fun e w' => e = .returned (.int .u32 (Sp.hash a b c)) ∧ w = w' := by
  have h1 := mix_lt a
  have h2 := mix_lt ((Sp.mix a + b) % 18446744073709551616)
  have e1 : IntKind.u64.wrap ((Sp.mix a : Int) + b) = (((Sp.mix a + b) % 18446744073709551616 : Nat) : Int) := wrapU64 _
  have e2 : IntKind.u64.wrap ((Sp.mix ((Sp.mix a + b) % 18446744073709551616) : Int) + c) = (((Sp.mix ((Sp.mix a + b) % 18446744073709551616) + c) % 18446744073709551616 : Nat) : Int) := wrapU64 _
  have e3 : IntKind.u32.wrap (Sp.mix ((Sp.mix ((Sp.mix a + b) % 18446744073709551616) + c) % 18446744073709551616) : Int) = (Sp.hash a b c : Int) := wrapU32 _
  have E1 := hid e1; have E2 := hid e2; have E3 := hid e3
  clear e1 e2 e3
  go_enter Try.func117, Try.ntmps117
  go_wp2_with fail
  refine (rmix_any a (by omega) _).mono ?_
  rintro e w' ⟨rfl, rfl⟩
  go_wp2_with fail
  rw [E1.out]
  refine (rmix_any _ (by omega) _).mono ?_
  rintro e w' ⟨rfl, rfl⟩
  go_wp2_with fail
  rw [E2.out]
  refine (rmix_any _ (by omega) _).mono ?_
  rintro e w' ⟨rfl, rfl⟩
  go_wp2_with fail
  go_ret
  exact ⟨ret_eq E3.out, rfl⟩
end Go.Proofs.Ytmkpljbkmkbnjaa
