/- Bitwise operations at natural numbers of few bits. -/
import Derived.Laws.Bits64
namespace Go.Mem
open Go

theorem ofInt_nat (a : Nat) (ha : a < 4611686018427387904) : (BitVec.ofInt IntKind.i64.bits (a : Int)).toNat = a := by
  show (BitVec.ofInt 64 (a : Int)).toNat = a
  rw [BitVec.ofInt_natCast, BitVec.toNat_ofNat]
  exact Nat.mod_eq_of_lt (by omega)
theorem wrap_nat (a : Nat) (ha : a < 4611686018427387904) : IntKind.i64.wrap (a : Int) = a := by
  simp only [IntKind.wrap, IntKind.bits, IntKind.signed]
  simp
  omega
theorem bits_xor_i64 (a b : Nat) (ha : a < 4611686018427387904) (hb : b < 4611686018427387904) : bits .xor .i64 (a : Int) (b : Int) = ((a ^^^ b : Nat) : Int) := by
  unfold bits
  simp only [BitVec.toNat_xor, ofInt_nat a ha, ofInt_nat b hb]
  exact wrap_nat _ (Nat.xor_lt_two_pow (n := 62) ha hb)
theorem bits_and_i64 (a b : Nat) (ha : a < 4611686018427387904) (hb : b < 4611686018427387904) : bits .and .i64 (a : Int) (b : Int) = ((a &&& b : Nat) : Int) := by
  unfold bits
  simp only [BitVec.toNat_and, ofInt_nat a ha, ofInt_nat b hb]
  exact wrap_nat _ (Nat.and_lt_two_pow (n := 62) a hb)
theorem bits_and_one (a : Nat) (ha : a < 4611686018427387904) : bits .and .i64 (a : Int) 1 = ((a % 2 : Nat) : Int) := by
  have := bits_and_i64 a 1 ha (by decide)
  rw [Nat.and_one_is_mod] at this
  exact this
theorem test_bit (i s : Nat) (hi : i < 4611686018427387904) : (bits .and .i64 ((i : Int) / 2 ^ s) 1 == 1) = i.testBit s := by
  have e : ((i : Int) / 2 ^ s) = ((i / 2 ^ s : Nat) : Int) := by simp
  rw [e, bits_and_one _ (Nat.lt_of_le_of_lt (Nat.div_le_self _ _) hi), Nat.testBit_eq_decide_div_mod_eq]
  rw [Bool.eq_iff_iff]; simp; omega
end Go.Mem
