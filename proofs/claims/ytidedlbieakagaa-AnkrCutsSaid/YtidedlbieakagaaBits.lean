/- BITS OF int, where the numbers are not negative. No program in sight. -/
import Derived.WalkKit
import Derived.Below
import Derived.Test.YtidedlbieakagaaSpec
namespace Go.Proofs.Ytidedlbieakagaa
theorem i64_or_nat (a b : Nat) (ha : a < 9223372036854775808) (hb : b < 9223372036854775808) : bits .or .i64 (a : Int) (b : Int) = ((a ||| b : Nat) : Int) := by
  have hx : a ||| b < 2 ^ 63 := Nat.or_lt_two_pow (by omega) (by omega)
  show IntKind.i64.wrap ((BitVec.ofInt 64 (a : Int) ||| BitVec.ofInt 64 (b : Int)).toNat : Int) = _
  rw [BitVec.toNat_or, ofInt_u64 a (by omega), ofInt_u64 b (by omega)]
  exact IntWalk.i64_in _ (by omega)
theorem i64_and_nat (a b : Nat) (ha : a < 9223372036854775808) (hb : b < 9223372036854775808) : bits .and .i64 (a : Int) (b : Int) = ((a &&& b : Nat) : Int) := by
  have hx : a &&& b < 2 ^ 63 := Nat.and_lt_two_pow _ (by omega)
  show IntKind.i64.wrap ((BitVec.ofInt 64 (a : Int) &&& BitVec.ofInt 64 (b : Int)).toNat : Int) = _
  rw [BitVec.toNat_and, ofInt_u64 a (by omega), ofInt_u64 b (by omega)]
  exact IntWalk.i64_in _ (by omega)
/-- High and low part, put together by '|'. -/
theorem i64_join (k : Nat) (x y : Int) (h0 : 0 ≤ x) (h1 : x < 9223372036854775808) (h2 : 0 ≤ y) (h3 : y < 2 ^ k) (h4 : x % 2 ^ k = 0) (hk : k < 63) : bits .or .i64 x y = x + y := by
  obtain ⟨a, rfl⟩ := Int.eq_ofNat_of_zero_le h0
  obtain ⟨b, rfl⟩ := Int.eq_ofNat_of_zero_le h2
  have hp : (2 : Nat) ^ k < 2 ^ 63 := Nat.pow_lt_pow_right (by omega) hk
  have h3' : b < 2 ^ k := by exact_mod_cast h3
  have h4' : a % 2 ^ k = 0 := by exact_mod_cast h4
  rw [i64_or_nat a b (by omega) (by omega), nat_join k a b h4' h3']
  simp
/-- One bit, asked by '&'. -/
theorem i64_bit (k : Nat) (x : Int) (h0 : 0 ≤ x) (h1 : x < 9223372036854775808) (hk : k < 63) : bits .and .i64 x (2 ^ k) = x / 2 ^ k % 2 * 2 ^ k := by
  obtain ⟨a, rfl⟩ := Int.eq_ofNat_of_zero_le h0
  have hp : (2 : Nat) ^ k < 2 ^ 63 := Nat.pow_lt_pow_right (by omega) hk
  have e : ((2 : Int) ^ k) = ((2 ^ k : Nat) : Int) := by simp
  rw [e, i64_and_nat a (2 ^ k) (by omega) (by omega), nat_bit k a]
  simp
/-- The low bits, asked by '&'. -/
theorem i64_low (k : Nat) (x : Int) (h0 : 0 ≤ x) (h1 : x < 9223372036854775808) (hk : k < 63) : bits .and .i64 x (2 ^ k - 1) = x % 2 ^ k := by
  obtain ⟨a, rfl⟩ := Int.eq_ofNat_of_zero_le h0
  have hp : (2 : Nat) ^ k < 2 ^ 63 := Nat.pow_lt_pow_right (by omega) hk
  have h1' : 0 < (2 : Nat) ^ k := Nat.pos_of_ne_zero (by simp)
  have e : ((2 : Int) ^ k - 1) = ((2 ^ k - 1 : Nat) : Int) := by rw [Int.ofNat_sub (by omega)]; simp
  rw [e, i64_and_nat a (2 ^ k - 1) (by omega) (by omega), Nat.and_two_pow_sub_one_eq_mod]
  simp
theorem wrap_i16 (n : Int) : IntKind.i16.wrap n = (n + 32768) % 65536 - 32768 := by
  simp [IntKind.wrap, IntKind.bits, IntKind.signed]
  split <;> omega
theorem wrap_s16 (x : Int) (h0 : 0 ≤ x) (h1 : x < 65536) : Go.RowKit.wrap64 (IntKind.i16.wrap x) = s16 x := by
  rw [wrap_i16]; unfold s16 Go.RowKit.wrap64
  split <;> omega
theorem wrap_s32 (x : Int) (h0 : 0 ≤ x) (h1 : x < 4294967296) : Go.RowKit.wrap64 (IntKind.i32.wrap x) = s32 x := by
  rw [IntKind.wrap_i32]; unfold s32 Go.RowKit.wrap64
  split <;> omega
end Go.Proofs.Ytidedlbieakagaa
