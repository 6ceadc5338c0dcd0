/- Numbers: the bits of 32-bit words over the natural numbers. No program in sight. -/
import Derived.Test.YtgjabgneapdbiaaLib
import Derived.Laws.BitsAllLaws
import Derived.Laws.BitsLemmas
namespace Go.Proofs.Ytgjabgneapdbiaa
open Go.RowKit

/-- A length, held. -/
def heldI (n : Int) : Int := min (max n 0) 32
theorem heldI_bd (n : Int) : 0 ≤ heldI n ∧ heldI n ≤ 32 := by unfold heldI; omega

/-- The first bits. -/
def maskN (h : Nat) : Nat := 4294967296 - 2 ^ (32 - h)
def heldN (n : Int) : Nat := (heldI n).toNat
theorem heldN_le (n : Int) : heldN n ≤ 32 := by have := heldI_bd n; unfold heldN; omega
theorem heldN_cast (n : Int) : ((heldN n : Nat) : Int) = heldI n := by have := heldI_bd n; unfold heldN; omega
theorem pow_le32 (h : Nat) : 2 ^ (32 - h) ≤ 4294967296 := by
  have : 2 ^ (32 - h) ≤ 2 ^ 32 := Nat.pow_le_pow_right (by decide) (by omega)
  simpa using this
theorem maskN_lt (h : Nat) : maskN h < 4294967296 := by
  have : 0 < 2 ^ (32 - h) := Nat.two_pow_pos _
  unfold maskN; omega
theorem mask_eq (h : Int) (h0 : 0 ≤ h) (h1 : h ≤ 32) : (4294967295 : Int) * 2 ^ (32 - h).toNat % 4294967296 = ((maskN h.toNat : Nat) : Int) := by
  obtain ⟨m, rfl⟩ := Int.eq_ofNat_of_zero_le h0
  have e : ((32 : Int) - (m : Int)).toNat = 32 - m := by omega
  rw [e, Int.toNat_natCast]
  have hp := pow_le32 m
  have hq : 0 < 2 ^ (32 - m) := Nat.two_pow_pos _
  have e2 : (2 : Int) ^ (32 - m) = ((2 ^ (32 - m) : Nat) : Int) := by simp
  rw [e2]
  unfold maskN
  generalize 2 ^ (32 - m) = x at *
  omega
theorem mask_eq64 (h : Int) (h0 : 0 ≤ h) (h1 : h ≤ 32) : IntKind.u64.wrap ((4294967295 : Int) * 2 ^ (32 - h).toNat) % 4294967296 = ((maskN h.toNat : Nat) : Int) := by
  rw [← mask_eq h h0 h1, IntKind.wrap_u64]
  omega

theorem ofInt_u32 (a : Nat) (ha : a < 4294967296) : (BitVec.ofInt 32 (a : Int)).toNat = a := by
  rw [BitVec.ofInt_natCast, BitVec.toNat_ofNat]; exact Nat.mod_eq_of_lt (by omega)
theorem u32_and_nat (a b : Nat) (ha : a < 4294967296) (hb : b < 4294967296) : bits .and .u32 (a : Int) (b : Int) = ((a &&& b : Nat) : Int) := by
  have hx : a &&& b < 2 ^ 32 := Nat.and_lt_two_pow _ (by omega)
  show IntKind.u32.wrap ((BitVec.ofInt 32 (a : Int) &&& BitVec.ofInt 32 (b : Int)).toNat : Int) = _
  rw [BitVec.toNat_and, ofInt_u32 a ha, ofInt_u32 b hb, IntKind.wrap_u32]
  omega
theorem u32_or_nat (a b : Nat) (ha : a < 4294967296) (hb : b < 4294967296) : bits .or .u32 (a : Int) (b : Int) = ((a ||| b : Nat) : Int) := by
  have hx : a ||| b < 2 ^ 32 := Nat.or_lt_two_pow (by omega) (by omega)
  show IntKind.u32.wrap ((BitVec.ofInt 32 (a : Int) ||| BitVec.ofInt 32 (b : Int)).toNat : Int) = _
  rw [BitVec.toNat_or, ofInt_u32 a ha, ofInt_u32 b hb, IntKind.wrap_u32]
  omega
theorem u32_xor_nat (a b : Nat) (ha : a < 4294967296) (hb : b < 4294967296) : bits .xor .u32 (a : Int) (b : Int) = ((a ^^^ b : Nat) : Int) := by
  have hx : a ^^^ b < 2 ^ 32 := Nat.xor_lt_two_pow (by omega) (by omega)
  show IntKind.u32.wrap ((BitVec.ofInt 32 (a : Int) ^^^ BitVec.ofInt 32 (b : Int)).toNat : Int) = _
  rw [BitVec.toNat_xor, ofInt_u32 a ha, ofInt_u32 b hb, IntKind.wrap_u32]
  omega

theorem maskN_bit (h i : Nat) (hh : h ≤ 32) : (maskN h).testBit i = (decide (i < 32) && decide (32 - h ≤ i)) := by
  have hp := pow_le32 h
  have hq : 0 < 2 ^ (32 - h) := Nat.two_pow_pos _
  have e : maskN h = 2 ^ 32 - ((2 ^ (32 - h) - 1) + 1) := by unfold maskN; omega
  rw [e, Nat.testBit_two_pow_sub_succ (by omega), Nat.testBit_two_pow_sub_one]
  by_cases h1 : i < 32 - h <;> simp [h1] <;> omega

theorem div_eq_iff_bits (a b k : Nat) : a / 2 ^ k = b / 2 ^ k ↔ ∀ i, k ≤ i → a.testBit i = b.testBit i := by
  rw [← Nat.shiftRight_eq_div_pow, ← Nat.shiftRight_eq_div_pow]
  constructor
  · intro h i hi
    have := congrArg (fun x => Nat.testBit x (i - k)) h
    simp only [Nat.testBit_shiftRight] at this
    rwa [show k + (i - k) = i by omega] at this
  · intro h
    apply Nat.eq_of_testBit_eq
    intro i
    simp only [Nat.testBit_shiftRight]
    exact h _ (by omega)

theorem bit_out (a i : Nat) (ha : a < 4294967296) (hi : 32 ≤ i) : a.testBit i = false :=
  Nat.testBit_lt_two_pow (Nat.lt_of_lt_of_le (by simpa using ha) (Nat.pow_le_pow_right (by decide) hi))

theorem xor_and_mask (pa a h : Nat) (hh : h ≤ 32) (hpa : pa < 4294967296) (ha : a < 4294967296) : ((pa ^^^ a) &&& maskN h = 0) ↔ pa / 2 ^ (32 - h) = a / 2 ^ (32 - h) := by
  rw [div_eq_iff_bits]
  constructor
  · intro h0 i hi
    have := congrArg (fun x => Nat.testBit x i) h0
    simp only [Nat.testBit_and, Nat.testBit_xor, Nat.zero_testBit, maskN_bit h i hh] at this
    by_cases hlt : i < 32
    · simp [hlt, hi] at this
      exact this
    · rw [bit_out pa i hpa (by omega), bit_out a i ha (by omega)]
  · intro h0
    apply Nat.eq_of_testBit_eq
    intro i
    simp only [Nat.testBit_and, Nat.testBit_xor, Nat.zero_testBit, maskN_bit h i hh]
    by_cases hi : 32 - h ≤ i
    · rw [h0 i hi]; simp
    · simp [hi]

/-- Has an address a prefix's bits? -/
def hasB (pa : Nat) (pl : Int) (a : Nat) : Bool := decide (pa / 2 ^ (32 - heldN pl) = a / 2 ^ (32 - heldN pl))
theorem hasB_of (pa : Nat) (pl : Int) (a : Nat) (hpa : pa < 4294967296) (ha : a < 4294967296) :
    (bits BinOp.and IntKind.u32 (bits BinOp.xor IntKind.u32 ↑pa ↑a) ↑(maskN (heldN pl)) == 0) = hasB pa pl a := by
  have hx : pa ^^^ a < 2 ^ 32 := Nat.xor_lt_two_pow (by omega) (by omega)
  rw [u32_xor_nat pa a hpa ha, u32_and_nat _ _ (by simpa using hx) (maskN_lt _), hasB, Bool.eq_iff_iff]
  simp only [beq_iff_eq, decide_eq_true_eq]
  rw [← xor_and_mask pa a _ (heldN_le pl) hpa ha]
  omega

/-- A prefix as it may be. -/
def normN (pa : Nat) (pl : Int) : Nat := pa &&& maskN (heldN pl)
theorem normN_lt (pa : Nat) (pl : Int) : normN pa pl < 4294967296 := Nat.lt_of_le_of_lt Nat.and_le_right (maskN_lt _)
theorem normN_bit (pa : Nat) (pl : Int) (i : Nat) (hpa : pa < 4294967296) : (normN pa pl).testBit i = (pa.testBit i && decide (32 - heldN pl ≤ i)) := by
  unfold normN
  rw [Nat.testBit_and, maskN_bit _ _ (heldN_le pl)]
  by_cases h : i < 32
  · simp [h]
  · rw [bit_out pa i hpa (by omega)]; simp
theorem and_maskN (pa h : Nat) (hh : h ≤ 32) (hpa : pa < 4294967296) : pa &&& maskN h = pa / 2 ^ (32 - h) * 2 ^ (32 - h) := by
  apply Nat.eq_of_testBit_eq
  intro i
  rw [Nat.testBit_and, maskN_bit _ _ hh, Nat.testBit_mul_two_pow]
  by_cases h1 : 32 - h ≤ i
  · rw [← Nat.shiftRight_eq_div_pow, Nat.testBit_shiftRight, show 32 - h + (i - (32 - h)) = i by omega]
    by_cases h2 : i < 32
    · simp [h1, h2]
    · rw [bit_out pa i hpa (by omega)]; simp
  · simp [h1]
theorem normN_eq (pa : Nat) (pl : Int) (hpa : pa < 4294967296) : normN pa pl = pa / 2 ^ (32 - heldN pl) * 2 ^ (32 - heldN pl) := and_maskN pa _ (heldN_le pl) hpa

end Go.Proofs.Ytgjabgneapdbiaa
