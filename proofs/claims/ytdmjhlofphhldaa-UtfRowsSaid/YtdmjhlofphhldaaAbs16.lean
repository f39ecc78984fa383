/-
  Numbers: bit patterns as sums and remainders; what a program's arithmetic leaves alone.
-/
import Derived.Test.YtdmjhlofphhldaaAbs15
import Derived.IntWalk
set_option linter.unusedSimpArgs false
set_option linter.unusedVariables false
namespace Go.Proofs.Ytdmjhlofphhldaa.Abs

theorem fdiv_of (a b : Int) (h : 0 ≤ b) : a.fdiv b = a / b := Int.fdiv_eq_ediv_of_nonneg a h
theorem tdiv_of (a b : Int) (h : 0 ≤ a) : a.tdiv b = a / b := Int.tdiv_eq_ediv_of_nonneg h
theorem toNat_of {n : Int} {k : IntKind} (h : 0 ≤ n ∧ n < 2 ^ k.bits) : (BitVec.ofInt k.bits n).toNat = n.toNat := by
  obtain ⟨m, rfl⟩ := Int.eq_ofNat_of_zero_le h.1
  have h2 : m < 2 ^ k.bits := by
    have := h.2
    exact_mod_cast this
  rw [BitVec.ofInt_natCast, BitVec.toNat_ofNat, Nat.mod_eq_of_lt h2, Int.toNat_natCast]

/-- The low bits. -/
theorem and_low {x : Int} {k : IntKind} (i : Nat) (h : 0 ≤ x ∧ x < 2 ^ k.bits) (hi : i ≤ k.bits) (hw : k.wrap (x % 2 ^ i) = x % 2 ^ i) : bitsI .and k x (2 ^ i - 1) = x % 2 ^ i := by
  obtain ⟨m, rfl⟩ := Int.eq_ofNat_of_zero_le h.1
  have hp : (0 : Int) < 2 ^ i := by exact_mod_cast Nat.two_pow_pos i
  have hq : (2 : Int) ^ i ≤ 2 ^ k.bits := by exact_mod_cast Nat.pow_le_pow_right (by decide) hi
  show k.wrap (BitVec.ofInt k.bits (m : Int) &&& BitVec.ofInt k.bits (2 ^ i - 1)).toNat = _
  have h2 : ((2 : Int) ^ i - 1).toNat = 2 ^ i - 1 := by
    have : (2 : Int) ^ i - 1 = ((2 ^ i - 1 : Nat) : Int) := by rw [Int.ofNat_sub (Nat.two_pow_pos i)]; simp
    rw [this, Int.toNat_natCast]
  rw [BitVec.toNat_and, toNat_of h, toNat_of ⟨by omega, by omega⟩, h2, Int.toNat_natCast, Nat.and_two_pow_sub_one_eq_mod]
  have : ((m % 2 ^ i : Nat) : Int) = (m : Int) % 2 ^ i := by simp
  rw [this, hw]

/-- High bits and low bits. -/
theorem or_low {c y : Int} {k : IntKind} (i a : Nat) (hc : c = 2 ^ i * a) (h : 0 ≤ y ∧ y < 2 ^ i) (hk : c + y < 2 ^ k.bits) (hw : k.wrap (c + y) = c + y) : bitsI .or k c y = c + y := by
  obtain ⟨m, rfl⟩ := Int.eq_ofNat_of_zero_le h.1
  have hm : m < 2 ^ i := by have := h.2; exact_mod_cast this
  have h0 : (0 : Int) ≤ 2 ^ i * a := by exact_mod_cast Nat.zero_le (2 ^ i * a)
  subst hc
  show k.wrap (BitVec.ofInt k.bits (2 ^ i * a : Int) ||| BitVec.ofInt k.bits (m : Int)).toNat = _
  have h2 : ((2 : Int) ^ i * a).toNat = 2 ^ i * a := by
    have : (2 : Int) ^ i * a = ((2 ^ i * a : Nat) : Int) := by simp
    rw [this, Int.toNat_natCast]
  rw [BitVec.toNat_or, toNat_of ⟨h0, by omega⟩, toNat_of ⟨h.1, by omega⟩, h2, Int.toNat_natCast, ← Nat.two_pow_add_eq_or_of_lt hm]
  have : ((2 ^ i * a + m : Nat) : Int) = 2 ^ i * (a : Int) + m := by simp
  rw [this, hw]

open IntWalk
theorem and63_i32 (x : Int) (h : 0 ≤ x ∧ x ≤ 2147483647) : bitsI .and .i32 x 63 = x % 64 :=
  and_low (k := .i32) 6 ⟨h.1, by show x < 4294967296; omega⟩ (by decide) (i32_in _ (by show _ ≤ x % 64 ∧ x % 64 ≤ _; omega))
theorem and127_i32 (x : Int) (h : 0 ≤ x ∧ x ≤ 2147483647) : bitsI .and .i32 x 127 = x % 128 :=
  and_low (k := .i32) 7 ⟨h.1, by show x < 4294967296; omega⟩ (by decide) (i32_in _ (by show _ ≤ x % 128 ∧ x % 128 ≤ _; omega))
theorem and31_i32 (x : Int) (h : 0 ≤ x ∧ x ≤ 2147483647) : bitsI .and .i32 x 31 = x % 32 :=
  and_low (k := .i32) 5 ⟨h.1, by show x < 4294967296; omega⟩ (by decide) (i32_in _ (by show _ ≤ x % 32 ∧ x % 32 ≤ _; omega))
theorem and15_i32 (x : Int) (h : 0 ≤ x ∧ x ≤ 2147483647) : bitsI .and .i32 x 15 = x % 16 :=
  and_low (k := .i32) 4 ⟨h.1, by show x < 4294967296; omega⟩ (by decide) (i32_in _ (by show _ ≤ x % 16 ∧ x % 16 ≤ _; omega))
theorem and7_i32 (x : Int) (h : 0 ≤ x ∧ x ≤ 2147483647) : bitsI .and .i32 x 7 = x % 8 :=
  and_low (k := .i32) 3 ⟨h.1, by show x < 4294967296; omega⟩ (by decide) (i32_in _ (by show _ ≤ x % 8 ∧ x % 8 ≤ _; omega))
theorem or64_i32 (c y : Int) (h : c % 64 = 0 ∧ 0 ≤ c ∧ c ≤ 2147483583 ∧ 0 ≤ y ∧ y < 64) : bitsI .or .i32 c y = c + y := by
  refine or_low (k := .i32) 6 (c / 64).toNat ?_ ⟨h.2.2.2.1, by show y < 64; omega⟩ (by show _ < (4294967296 : Int); omega) (i32_in _ (by omega))
  show c = 64 * ((c / 64).toNat : Int)
  omega
theorem or128_u8 (y : Int) (h : 0 ≤ y ∧ y < 64) : bitsI .or .u8 128 y = 128 + y :=
  or_low (k := .u8) 6 2 rfl ⟨h.1, by show y < 64; omega⟩ (by show _ < (256 : Int); omega) (u8_in _ (by omega))
theorem or192_u8 (y : Int) (h : 0 ≤ y ∧ y < 32) : bitsI .or .u8 192 y = 192 + y :=
  or_low (k := .u8) 5 6 rfl ⟨h.1, by show y < 32; omega⟩ (by show _ < (256 : Int); omega) (u8_in _ (by omega))
theorem or224_u8 (y : Int) (h : 0 ≤ y ∧ y < 16) : bitsI .or .u8 224 y = 224 + y :=
  or_low (k := .u8) 4 14 rfl ⟨h.1, by show y < 16; omega⟩ (by show _ < (256 : Int); omega) (u8_in _ (by omega))
theorem or240_u8 (y : Int) (h : 0 ≤ y ∧ y < 8) : bitsI .or .u8 240 y = 240 + y :=
  or_low (k := .u8) 3 30 rfl ⟨h.1, by show y < 8; omega⟩ (by show _ < (256 : Int); omega) (u8_in _ (by omega))
theorem shl6_i32 (x : Int) (h : 0 ≤ x ∧ x ≤ 33554431) : IntKind.i32.wrap (x * 2 ^ min 6 IntKind.i32.bits) = x * 64 := i32_in (x * 64) (by omega)
theorem shr2_127 : (127 : Int).fdiv (2 ^ min 2 IntKind.i32.bits) = 31 := rfl
theorem shr3_127 : (127 : Int).fdiv (2 ^ min 3 IntKind.i32.bits) = 15 := rfl
theorem shr4_127 : (127 : Int).fdiv (2 ^ min 4 IntKind.i32.bits) = 7 := rfl
theorem sh6_i32 (x : Int) : x.fdiv (2 ^ min 6 IntKind.i32.bits) = x / 64 := fdiv_of x 64 (by decide)
theorem sh12_i32 (x : Int) : x.fdiv (2 ^ min 12 IntKind.i32.bits) = x / 4096 := fdiv_of x 4096 (by decide)
theorem sh18_i32 (x : Int) : x.fdiv (2 ^ min 18 IntKind.i32.bits) = x / 262144 := fdiv_of x 262144 (by decide)
end Go.Proofs.Ytdmjhlofphhldaa.Abs
