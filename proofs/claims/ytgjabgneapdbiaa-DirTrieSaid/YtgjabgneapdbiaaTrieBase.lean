/- Go's structs mirrored in Lean, and the theorems that open a value that came in. Written by a program (mirror.py). Numbers: the bits of 32-bit words over the natural numbers. No program in sight. What the functions of package addr, and of the document's answer to chapter 3, do: contracts over numbers. addr.Norm, Is, and the document's Norm, Is, Before. copy over rows of elements of any size, in blocks known whole; append of zero values; clear. -/
import Derived.Test.YtgjabgneapdbiaaBase
import Derived.Laws.BitsAllLaws
import Derived.Laws.BitsLemmas
import Derived.Deep.DeepCutAuto
import Derived.Lib.Overlaps
import Derived.Lib.AppendZerosOnto
namespace Go.Proofs.Ytgjabgneapdbiaa
open Go.ChangeShapes Go.WideShapes Go.Deep Go.RowKit
set_option linter.unusedSimpArgs false
set_option linter.unusedVariables false
set_option maxRecDepth 100000

structure PrefixM where
  addr : Nat
  len : Int
  deriving Inhabited, DecidableEq

def PrefixM.cells (x : PrefixM) : List Value := [.int .u32 (x.addr : Nat), .int .i64 x.len]
def PrefixM.val (x : PrefixM) : Value := .agg #[.int .u32 (x.addr : Nat), .int .i64 x.len]
def PrefixM.wf (x : PrefixM) : Prop := x.addr < 4294967296 ∧ i64b x.len
theorem PrefixM.length (x : PrefixM) : x.cells.length = 2 := rfl
theorem cellsOf_Prefix : Try.prog.cellsOf 28 = 2 := by kernel_rfl

theorem open_Prefix {H : Type} {enc : TypeId × Value → H} {w : World} {base : Nat} {spare : Nat → Bool} {held : Bool} {fuel : Nat} {cs : List Value} {y : DataW H × List MemPlace}
    (h : DataW.trod enc Try.prog w base spare held fuel 28 cs = some y) : ∃ x : PrefixM, cs = x.cells ∧ x.wf := by
  obtain ⟨xs, n, _, _, hlen, hxl, hf⟩ := DataW.trod_struct Try.underlying28 h
  rw [cellsOf_Prefix] at hlen
  clear h
  match cs, hlen with
  | [c0, c1], _ =>
    have g0 : DataW.trod enc Try.prog w base spare held n 22 (List.take (Try.prog.cellsOf 22) (List.drop 0 [c0, c1])) = xs[0]? := hf 0 _ rfl
    have z0 : ∃ y, xs[0]? = some y := ⟨_, List.getElem?_eq_getElem (by rw [hxl]; decide)⟩
    obtain ⟨z0, hz0⟩ := z0
    rw [hz0] at g0; rw [show Try.prog.cellsOf 22 = 1 from by kernel_rfl] at g0; simp only [List.drop_succ_cons, List.drop_zero, List.take_succ_cons, List.take_zero] at g0; clear hz0
    have g1 : DataW.trod enc Try.prog w base spare held n 3 (List.take (Try.prog.cellsOf 3) (List.drop 1 [c0, c1])) = xs[1]? := hf 1 _ rfl
    have z1 : ∃ y, xs[1]? = some y := ⟨_, List.getElem?_eq_getElem (by rw [hxl]; decide)⟩
    obtain ⟨z1, hz1⟩ := z1
    rw [hz1] at g1; rw [show Try.prog.cellsOf 3 = 1 from by kernel_rfl] at g1; simp only [List.drop_succ_cons, List.drop_zero, List.take_succ_cons, List.take_zero] at g1; clear hz1
    obtain ⟨x0, e0, _, w0⟩ := DataW.trod_int Try.underlying22 g0
    obtain rfl := (List.cons.inj e0).1
    obtain ⟨x0, rfl, b0⟩ := u32_of w0
    obtain ⟨x1, e1, _, w1⟩ := DataW.trod_int Try.underlying3 g1
    obtain rfl := (List.cons.inj e1).1
    exact ⟨⟨x0, x1⟩, rfl, ⟨b0, (i64b_of w1)⟩⟩

theorem open_Prefix_val {H : Type} {enc : TypeId × Value → H} {w : World} {base b0 : Nat} {spare : Nat → Bool} {held : Bool} {r : Reach} {v : Value} {d : DataW H} {p : List MemPlace}
    (hv : Value.okWide Try.prog w r b0 28 v) (h : DataW.Trod enc Try.prog w base spare held 28 v d p) : ∃ x : PrefixM, v = x.val ∧ x.wf := by
  obtain ⟨cs, rfl, _⟩ := okWide_struct Try.underlying28 hv
  obtain ⟨fuel, hf⟩ := h
  obtain ⟨x, e, w⟩ := open_Prefix hf
  refine ⟨x, ?_, w⟩
  have e' : cs.toList = x.cells := e
  obtain ⟨l⟩ := cs
  simp only at e'
  subst e'
  rfl

structure TActM where
  del : Bool
  p : PrefixM
  v : Int
  deriving Inhabited, DecidableEq

def TActM.cells (x : TActM) : List Value := [.bool x.del, .int .u32 (x.p.addr : Nat), .int .i64 x.p.len, .int .i64 x.v]
def TActM.val (x : TActM) : Value := .agg #[.bool x.del, .int .u32 (x.p.addr : Nat), .int .i64 x.p.len, .int .i64 x.v]
def TActM.wf (x : TActM) : Prop := x.p.wf ∧ i64b x.v
theorem TActM.length (x : TActM) : x.cells.length = 4 := rfl
theorem cellsOf_TAct : Try.prog.cellsOf 54 = 4 := by kernel_rfl

theorem open_TAct {H : Type} {enc : TypeId × Value → H} {w : World} {base : Nat} {spare : Nat → Bool} {held : Bool} {fuel : Nat} {cs : List Value} {y : DataW H × List MemPlace}
    (h : DataW.trod enc Try.prog w base spare held fuel 54 cs = some y) : ∃ x : TActM, cs = x.cells ∧ x.wf := by
  obtain ⟨xs, n, _, _, hlen, hxl, hf⟩ := DataW.trod_struct Try.underlying54 h
  rw [cellsOf_TAct] at hlen
  clear h
  match cs, hlen with
  | [c0, c1, c2, c3], _ =>
    have g0 : DataW.trod enc Try.prog w base spare held n 4 (List.take (Try.prog.cellsOf 4) (List.drop 0 [c0, c1, c2, c3])) = xs[0]? := hf 0 _ rfl
    have z0 : ∃ y, xs[0]? = some y := ⟨_, List.getElem?_eq_getElem (by rw [hxl]; decide)⟩
    obtain ⟨z0, hz0⟩ := z0
    rw [hz0] at g0; rw [show Try.prog.cellsOf 4 = 1 from by kernel_rfl] at g0; simp only [List.drop_succ_cons, List.drop_zero, List.take_succ_cons, List.take_zero] at g0; clear hz0
    have g1 : DataW.trod enc Try.prog w base spare held n 28 (List.take (Try.prog.cellsOf 28) (List.drop 1 [c0, c1, c2, c3])) = xs[1]? := hf 1 _ rfl
    have z1 : ∃ y, xs[1]? = some y := ⟨_, List.getElem?_eq_getElem (by rw [hxl]; decide)⟩
    obtain ⟨z1, hz1⟩ := z1
    rw [hz1] at g1; rw [show Try.prog.cellsOf 28 = 2 from by kernel_rfl] at g1; simp only [List.drop_succ_cons, List.drop_zero, List.take_succ_cons, List.take_zero] at g1; clear hz1
    have g2 : DataW.trod enc Try.prog w base spare held n 3 (List.take (Try.prog.cellsOf 3) (List.drop 3 [c0, c1, c2, c3])) = xs[2]? := hf 2 _ rfl
    have z2 : ∃ y, xs[2]? = some y := ⟨_, List.getElem?_eq_getElem (by rw [hxl]; decide)⟩
    obtain ⟨z2, hz2⟩ := z2
    rw [hz2] at g2; rw [show Try.prog.cellsOf 3 = 1 from by kernel_rfl] at g2; simp only [List.drop_succ_cons, List.drop_zero, List.take_succ_cons, List.take_zero] at g2; clear hz2
    obtain ⟨x0, e0, _⟩ := DataW.trod_bool Try.underlying4 g0
    obtain rfl := (List.cons.inj e0).1
    obtain ⟨x1, e1, w1⟩ := open_Prefix g1
    simp only [PrefixM.cells, List.cons.injEq, and_true] at e1
    obtain ⟨rfl, rfl⟩ := e1
    obtain ⟨x2, e2, _, w2⟩ := DataW.trod_int Try.underlying3 g2
    obtain rfl := (List.cons.inj e2).1
    exact ⟨⟨x0, x1, x2⟩, rfl, ⟨w1, (i64b_of w2)⟩⟩

theorem open_TAct_val {H : Type} {enc : TypeId × Value → H} {w : World} {base b0 : Nat} {spare : Nat → Bool} {held : Bool} {r : Reach} {v : Value} {d : DataW H} {p : List MemPlace}
    (hv : Value.okWide Try.prog w r b0 54 v) (h : DataW.Trod enc Try.prog w base spare held 54 v d p) : ∃ x : TActM, v = x.val ∧ x.wf := by
  obtain ⟨cs, rfl, _⟩ := okWide_struct Try.underlying54 hv
  obtain ⟨fuel, hf⟩ := h
  obtain ⟨x, e, w⟩ := open_TAct hf
  refine ⟨x, ?_, w⟩
  have e' : cs.toList = x.cells := e
  obtain ⟨l⟩ := cs
  simp only at e'
  subst e'
  rfl

structure DActM where
  del : Bool
  p : PrefixM
  v : Int
  deriving Inhabited, DecidableEq

def DActM.cells (x : DActM) : List Value := [.bool x.del, .int .u32 (x.p.addr : Nat), .int .i64 x.p.len, .int .i64 x.v]
def DActM.val (x : DActM) : Value := .agg #[.bool x.del, .int .u32 (x.p.addr : Nat), .int .i64 x.p.len, .int .i64 x.v]
def DActM.wf (x : DActM) : Prop := x.p.wf ∧ i64b x.v
theorem DActM.length (x : DActM) : x.cells.length = 4 := rfl
theorem cellsOf_DAct : Try.prog.cellsOf 63 = 4 := by kernel_rfl

theorem open_DAct {H : Type} {enc : TypeId × Value → H} {w : World} {base : Nat} {spare : Nat → Bool} {held : Bool} {fuel : Nat} {cs : List Value} {y : DataW H × List MemPlace}
    (h : DataW.trod enc Try.prog w base spare held fuel 63 cs = some y) : ∃ x : DActM, cs = x.cells ∧ x.wf := by
  obtain ⟨xs, n, _, _, hlen, hxl, hf⟩ := DataW.trod_struct Try.underlying63 h
  rw [cellsOf_DAct] at hlen
  clear h
  match cs, hlen with
  | [c0, c1, c2, c3], _ =>
    have g0 : DataW.trod enc Try.prog w base spare held n 4 (List.take (Try.prog.cellsOf 4) (List.drop 0 [c0, c1, c2, c3])) = xs[0]? := hf 0 _ rfl
    have z0 : ∃ y, xs[0]? = some y := ⟨_, List.getElem?_eq_getElem (by rw [hxl]; decide)⟩
    obtain ⟨z0, hz0⟩ := z0
    rw [hz0] at g0; rw [show Try.prog.cellsOf 4 = 1 from by kernel_rfl] at g0; simp only [List.drop_succ_cons, List.drop_zero, List.take_succ_cons, List.take_zero] at g0; clear hz0
    have g1 : DataW.trod enc Try.prog w base spare held n 28 (List.take (Try.prog.cellsOf 28) (List.drop 1 [c0, c1, c2, c3])) = xs[1]? := hf 1 _ rfl
    have z1 : ∃ y, xs[1]? = some y := ⟨_, List.getElem?_eq_getElem (by rw [hxl]; decide)⟩
    obtain ⟨z1, hz1⟩ := z1
    rw [hz1] at g1; rw [show Try.prog.cellsOf 28 = 2 from by kernel_rfl] at g1; simp only [List.drop_succ_cons, List.drop_zero, List.take_succ_cons, List.take_zero] at g1; clear hz1
    have g2 : DataW.trod enc Try.prog w base spare held n 3 (List.take (Try.prog.cellsOf 3) (List.drop 3 [c0, c1, c2, c3])) = xs[2]? := hf 2 _ rfl
    have z2 : ∃ y, xs[2]? = some y := ⟨_, List.getElem?_eq_getElem (by rw [hxl]; decide)⟩
    obtain ⟨z2, hz2⟩ := z2
    rw [hz2] at g2; rw [show Try.prog.cellsOf 3 = 1 from by kernel_rfl] at g2; simp only [List.drop_succ_cons, List.drop_zero, List.take_succ_cons, List.take_zero] at g2; clear hz2
    obtain ⟨x0, e0, _⟩ := DataW.trod_bool Try.underlying4 g0
    obtain rfl := (List.cons.inj e0).1
    obtain ⟨x1, e1, w1⟩ := open_Prefix g1
    simp only [PrefixM.cells, List.cons.injEq, and_true] at e1
    obtain ⟨rfl, rfl⟩ := e1
    obtain ⟨x2, e2, _, w2⟩ := DataW.trod_int Try.underlying3 g2
    obtain rfl := (List.cons.inj e2).1
    exact ⟨⟨x0, x1, x2⟩, rfl, ⟨w1, (i64b_of w2)⟩⟩

theorem open_DAct_val {H : Type} {enc : TypeId × Value → H} {w : World} {base b0 : Nat} {spare : Nat → Bool} {held : Bool} {r : Reach} {v : Value} {d : DataW H} {p : List MemPlace}
    (hv : Value.okWide Try.prog w r b0 63 v) (h : DataW.Trod enc Try.prog w base spare held 63 v d p) : ∃ x : DActM, v = x.val ∧ x.wf := by
  obtain ⟨cs, rfl, _⟩ := okWide_struct Try.underlying63 hv
  obtain ⟨fuel, hf⟩ := h
  obtain ⟨x, e, w⟩ := open_DAct hf
  refine ⟨x, ?_, w⟩
  have e' : cs.toList = x.cells := e
  obtain ⟨l⟩ := cs
  simp only at e'
  subst e'
  rfl

end Go.Proofs.Ytgjabgneapdbiaa

namespace Go.Proofs.Ytgjabgneapdbiaa
open Go.RowKit

/-- A length, held. -/
def heldI (n : Int) : Int := min (max n 0) 32
theorem heldI_bd (n : Int) : 0 ≤ heldI n ∧ heldI n ≤ 32 := by unfold heldI; omega

/-- The first bits. -/
def maskN (h : Nat) : Nat := 4294967296 - 2 ^ (32 - h)
def heldN (n : Int) : Nat := (heldI n).toNat
theorem heldN_le (n : Int) : heldN n ≤ 32 := by have := heldI_bd n; unfold heldN; omega
theorem heldN_cast (n : Int) : ((heldN n : Nat) : Int) = heldI n := by have := heldI_bd n; unfold heldN; omega
theorem pow_le32 (h : Nat) : 2 ^ (32 - h) ≤ 4294967296 := by
  have : 2 ^ (32 - h) ≤ 2 ^ 32 := Nat.pow_le_pow_right (by decide) (by omega)
  simpa using this
theorem maskN_lt (h : Nat) : maskN h < 4294967296 := by
  have : 0 < 2 ^ (32 - h) := Nat.two_pow_pos _
  unfold maskN; omega
theorem mask_eq (h : Int) (h0 : 0 ≤ h) (h1 : h ≤ 32) : (4294967295 : Int) * 2 ^ (32 - h).toNat % 4294967296 = ((maskN h.toNat : Nat) : Int) := by
  obtain ⟨m, rfl⟩ := Int.eq_ofNat_of_zero_le h0
  have e : ((32 : Int) - (m : Int)).toNat = 32 - m := by omega
  rw [e, Int.toNat_natCast]
  have hp := pow_le32 m
  have hq : 0 < 2 ^ (32 - m) := Nat.two_pow_pos _
  have e2 : (2 : Int) ^ (32 - m) = ((2 ^ (32 - m) : Nat) : Int) := by simp
  rw [e2]
  unfold maskN
  generalize 2 ^ (32 - m) = x at *
  omega
theorem mask_eq64 (h : Int) (h0 : 0 ≤ h) (h1 : h ≤ 32) : IntKind.u64.wrap ((4294967295 : Int) * 2 ^ (32 - h).toNat) % 4294967296 = ((maskN h.toNat : Nat) : Int) := by
  rw [← mask_eq h h0 h1, IntKind.wrap_u64]
  omega

theorem ofInt_u32 (a : Nat) (ha : a < 4294967296) : (BitVec.ofInt 32 (a : Int)).toNat = a := by
  rw [BitVec.ofInt_natCast, BitVec.toNat_ofNat]; exact Nat.mod_eq_of_lt (by omega)
theorem u32_and_nat (a b : Nat) (ha : a < 4294967296) (hb : b < 4294967296) : bits .and .u32 (a : Int) (b : Int) = ((a &&& b : Nat) : Int) := by
  have hx : a &&& b < 2 ^ 32 := Nat.and_lt_two_pow _ (by omega)
  show IntKind.u32.wrap ((BitVec.ofInt 32 (a : Int) &&& BitVec.ofInt 32 (b : Int)).toNat : Int) = _
  rw [BitVec.toNat_and, ofInt_u32 a ha, ofInt_u32 b hb, IntKind.wrap_u32]
  omega
theorem u32_or_nat (a b : Nat) (ha : a < 4294967296) (hb : b < 4294967296) : bits .or .u32 (a : Int) (b : Int) = ((a ||| b : Nat) : Int) := by
  have hx : a ||| b < 2 ^ 32 := Nat.or_lt_two_pow (by omega) (by omega)
  show IntKind.u32.wrap ((BitVec.ofInt 32 (a : Int) ||| BitVec.ofInt 32 (b : Int)).toNat : Int) = _
  rw [BitVec.toNat_or, ofInt_u32 a ha, ofInt_u32 b hb, IntKind.wrap_u32]
  omega
theorem u32_xor_nat (a b : Nat) (ha : a < 4294967296) (hb : b < 4294967296) : bits .xor .u32 (a : Int) (b : Int) = ((a ^^^ b : Nat) : Int) := by
  have hx : a ^^^ b < 2 ^ 32 := Nat.xor_lt_two_pow (by omega) (by omega)
  show IntKind.u32.wrap ((BitVec.ofInt 32 (a : Int) ^^^ BitVec.ofInt 32 (b : Int)).toNat : Int) = _
  rw [BitVec.toNat_xor, ofInt_u32 a ha, ofInt_u32 b hb, IntKind.wrap_u32]
  omega

theorem maskN_bit (h i : Nat) (hh : h ≤ 32) : (maskN h).testBit i = (decide (i < 32) && decide (32 - h ≤ i)) := by
  have hp := pow_le32 h
  have hq : 0 < 2 ^ (32 - h) := Nat.two_pow_pos _
  have e : maskN h = 2 ^ 32 - ((2 ^ (32 - h) - 1) + 1) := by unfold maskN; omega
  rw [e, Nat.testBit_two_pow_sub_succ (by omega), Nat.testBit_two_pow_sub_one]
  by_cases h1 : i < 32 - h <;> simp [h1] <;> omega

theorem div_eq_iff_bits (a b k : Nat) : a / 2 ^ k = b / 2 ^ k ↔ ∀ i, k ≤ i → a.testBit i = b.testBit i := by
  rw [← Nat.shiftRight_eq_div_pow, ← Nat.shiftRight_eq_div_pow]
  constructor
  · intro h i hi
    have := congrArg (fun x => Nat.testBit x (i - k)) h
    simp only [Nat.testBit_shiftRight] at this
    rwa [show k + (i - k) = i by omega] at this
  · intro h
    apply Nat.eq_of_testBit_eq
    intro i
    simp only [Nat.testBit_shiftRight]
    exact h _ (by omega)

theorem bit_out (a i : Nat) (ha : a < 4294967296) (hi : 32 ≤ i) : a.testBit i = false :=
  Nat.testBit_lt_two_pow (Nat.lt_of_lt_of_le (by simpa using ha) (Nat.pow_le_pow_right (by decide) hi))

theorem xor_and_mask (pa a h : Nat) (hh : h ≤ 32) (hpa : pa < 4294967296) (ha : a < 4294967296) : ((pa ^^^ a) &&& maskN h = 0) ↔ pa / 2 ^ (32 - h) = a / 2 ^ (32 - h) := by
  rw [div_eq_iff_bits]
  constructor
  · intro h0 i hi
    have := congrArg (fun x => Nat.testBit x i) h0
    simp only [Nat.testBit_and, Nat.testBit_xor, Nat.zero_testBit, maskN_bit h i hh] at this
    by_cases hlt : i < 32
    · simp [hlt, hi] at this
      exact this
    · rw [bit_out pa i hpa (by omega), bit_out a i ha (by omega)]
  · intro h0
    apply Nat.eq_of_testBit_eq
    intro i
    simp only [Nat.testBit_and, Nat.testBit_xor, Nat.zero_testBit, maskN_bit h i hh]
    by_cases hi : 32 - h ≤ i
    · rw [h0 i hi]; simp
    · simp [hi]

/-- Has an address a prefix's bits? -/
def hasB (pa : Nat) (pl : Int) (a : Nat) : Bool := decide (pa / 2 ^ (32 - heldN pl) = a / 2 ^ (32 - heldN pl))
theorem hasB_of (pa : Nat) (pl : Int) (a : Nat) (hpa : pa < 4294967296) (ha : a < 4294967296) :
    (bits BinOp.and IntKind.u32 (bits BinOp.xor IntKind.u32 ↑pa ↑a) ↑(maskN (heldN pl)) == 0) = hasB pa pl a := by
  have hx : pa ^^^ a < 2 ^ 32 := Nat.xor_lt_two_pow (by omega) (by omega)
  rw [u32_xor_nat pa a hpa ha, u32_and_nat _ _ (by simpa using hx) (maskN_lt _), hasB, Bool.eq_iff_iff]
  simp only [beq_iff_eq, decide_eq_true_eq]
  rw [← xor_and_mask pa a _ (heldN_le pl) hpa ha]
  omega

/-- A prefix as it may be. -/
def normN (pa : Nat) (pl : Int) : Nat := pa &&& maskN (heldN pl)
theorem normN_lt (pa : Nat) (pl : Int) : normN pa pl < 4294967296 := Nat.lt_of_le_of_lt Nat.and_le_right (maskN_lt _)
theorem normN_bit (pa : Nat) (pl : Int) (i : Nat) (hpa : pa < 4294967296) : (normN pa pl).testBit i = (pa.testBit i && decide (32 - heldN pl ≤ i)) := by
  unfold normN
  rw [Nat.testBit_and, maskN_bit _ _ (heldN_le pl)]
  by_cases h : i < 32
  · simp [h]
  · rw [bit_out pa i hpa (by omega)]; simp
theorem and_maskN (pa h : Nat) (hh : h ≤ 32) (hpa : pa < 4294967296) : pa &&& maskN h = pa / 2 ^ (32 - h) * 2 ^ (32 - h) := by
  apply Nat.eq_of_testBit_eq
  intro i
  rw [Nat.testBit_and, maskN_bit _ _ hh, Nat.testBit_mul_two_pow]
  by_cases h1 : 32 - h ≤ i
  · rw [← Nat.shiftRight_eq_div_pow, Nat.testBit_shiftRight, show 32 - h + (i - (32 - h)) = i by omega]
    by_cases h2 : i < 32
    · simp [h1, h2]
    · rw [bit_out pa i hpa (by omega)]; simp
  · simp [h1]
theorem normN_eq (pa : Nat) (pl : Int) (hpa : pa < 4294967296) : normN pa pl = pa / 2 ^ (32 - heldN pl) * 2 ^ (32 - heldN pl) := and_maskN pa _ (heldN_le pl) hpa

end Go.Proofs.Ytgjabgneapdbiaa

namespace Go.Proofs.Ytgjabgneapdbiaa
open Go.RowKit

set_option maxHeartbeats 400000 in
theorem addr_held (n : Int) (w : World) :
    Calls Try.prog 86 #[.int .i64 n] w fun e w' => e = .returned (.int .i64 (heldI n)) ∧ w = w' := by
  have hmx := run_max_int Try.prog
  have hmn := run_min_int Try.prog
  go_enter Try.func86, Try.ntmps86
  go_wp2
  go_ret
  exact ⟨rfl, rfl⟩

set_option maxHeartbeats 400000 in
theorem ref3_hold (n : Int) (w : World) :
    Calls Try.prog 55 #[.int .i64 n] w fun e w' => e = .returned (.int .i64 (heldI n)) ∧ w = w' := by
  have hmx := run_max_int Try.prog
  have hmn := run_min_int Try.prog
  go_enter Try.func55, Try.ntmps55
  go_wp2
  go_ret
  exact ⟨rfl, rfl⟩

set_option maxHeartbeats 400000 in
theorem addr_Mask (n : Int) (w : World) :
    Calls Try.prog 85 #[.int .i64 n] w fun e w' => e = .returned (.int .u32 (maskN (heldN n) : Nat)) ∧ w = w' := by
  obtain ⟨h0, h1⟩ := heldI_bd n
  have Hm := hide (mask_eq _ h0 h1)
  go_enter Try.func85, Try.ntmps85
  go_wp2_with fail
  refine (addr_held _ _).mono ?_
  rintro e w1 ⟨rfl, rfl⟩
  go_wp2_with fail
  go_ret
  exact ⟨ret_int Hm.out, rfl⟩

set_option maxHeartbeats 400000 in
theorem ref3_Mask (n : Int) (w : World) :
    Calls Try.prog 54 #[.int .i64 n] w fun e w' => e = .returned (.int .u32 (maskN (heldN n) : Nat)) ∧ w = w' := by
  obtain ⟨h0, h1⟩ := heldI_bd n
  have Hm := hide (mask_eq64 _ h0 h1)
  go_enter Try.func54, Try.ntmps54
  go_wp2_with fail
  refine (ref3_hold _ _).mono ?_
  rintro e w1 ⟨rfl, rfl⟩
  go_wp2_with fail
  go_ret
  exact ⟨ret_int Hm.out, rfl⟩

set_option maxHeartbeats 400000 in
theorem addr_Has (pa a : Nat) (pl : Int) (hpa : pa < 4294967296) (ha : a < 4294967296) (w : World) :
    Calls Try.prog 88 #[.agg #[.int .u32 pa, .int .i64 pl], .int .u32 a] w fun e w' => e = .returned (.bool (hasB pa pl a)) ∧ Fr noB w w' := by
  have Hh := hide (hasB_of pa pl a hpa ha)
  go_enter Try.func88, Try.ntmps88
  go_wp2_with fail
  go_quiet ((go_at_call 85; exact Calls.quiet_of_same ((addr_Mask _ _).mono fun _ _ ⟨h1, h2⟩ => ⟨h1, h2.symm⟩)))
  go_wp2
  go_ret
  exact ⟨ret_bool Hh.out, ((Fr.refl _ _).alloc _).drewN _⟩

set_option maxHeartbeats 400000 in
theorem ref3_Has (pa a : Nat) (pl : Int) (hpa : pa < 4294967296) (ha : a < 4294967296) (w : World) :
    Calls Try.prog 39 #[.agg #[.int .u32 pa, .int .i64 pl], .int .u32 a] w fun e w' => e = .returned (.bool (hasB pa pl a)) ∧ Fr noB w w' := by
  have Hh := hide (hasB_of pa pl a hpa ha)
  go_enter Try.func39, Try.ntmps39
  go_wp2_with fail
  go_quiet ((go_at_call 54; exact Calls.quiet_of_same ((ref3_Mask _ _).mono fun _ _ ⟨h1, h2⟩ => ⟨h1, h2.symm⟩)))
  go_wp2
  go_ret
  exact ⟨ret_bool Hh.out, ((Fr.refl _ _).alloc _).drewN _⟩
end Go.Proofs.Ytgjabgneapdbiaa

namespace Go.Proofs.Ytgjabgneapdbiaa
open Go.RowKit Go.BigFrame
set_option linter.unusedSimpArgs false
set_option linter.unusedVariables false
attribute [local irreducible] wpMix wpAnyG

abbrev InGrow (w : World) (w' : World) : Prop := ∃ z : Grow w, w' = z.v
theorem inGrow {w w' : World} (h : Fr noB w w') : InGrow w w' := ⟨⟨w', h⟩, rfl⟩
theorem grow_fr {w w' : World} (h : InGrow w w') : Fr noB w w' := by obtain ⟨z, rfl⟩ := h; exact z.fr

def normP (p : PrefixM) : PrefixM := ⟨normN p.addr p.len, heldI p.len⟩
theorem normP_wf (p : PrefixM) : (normP p).wf := ⟨normN_lt _ _, by have := heldI_bd p.len; unfold i64b; simp only [normP]; omega⟩
theorem prefix_equal (a b : PrefixM) (w : World) : (Op.equal 28 (.agg a.cells.toArray) (.agg b.cells.toArray)).run Try.prog w = .ok (decide (a = b)) w := by
  obtain ⟨a1, a2⟩ := a
  obtain ⟨b1, b2⟩ := b
  simp only [PrefixM.cells, Op.equal, Op.maxDepth]
  go_simp
  by_cases h1 : a1 = b1
  · by_cases h2 : a2 = b2
    · simp [h1, h2]
    · simp [h1, h2]
  · have : ¬ (a1 : Int) = (b1 : Int) := by omega
    simp [h1, this]
theorem results_s {P : Program} {fn : Func} {p : Tmp} {ty : TypeId} (h : fn.results = #[.cell p ty]) (tmps : Array Value) (w : World) (b o : Nat) (cs : List Value) (d : TypeDesc)
    (hp : tmps.getD p undef = .pointer (some ⟨b, o, none⟩)) (hc : CellsAt w b o cs) (hu : P.underlying ty = some d) (hd : (match d with | .struct _ | .array _ _ => true | _ => false) = true) (hi : (P.info? ty).map (·.size) = some cs.length) :
    (results fn tmps).run P w = .ok (.agg cs.toArray) w := by
  have hp' : tmps[p]?.getD undef = .pointer (some ⟨b, o, none⟩) := by simpa using hp
  have hl := run_loadVar_at (P := P) w ty b o cs hc d hu hd hi
  simp [results, h, hp', asAddr, Sem.run_bind, hl]

set_option maxHeartbeats 400000 in
theorem addr_Norm (p : PrefixM) (hp : p.wf) (w : World) :
    Calls Try.prog 73 #[.agg p.cells.toArray] w fun e w' => e = .returned (.agg (normP p).cells.toArray) ∧ Fr noB w w' := by
  have hnorm : bits .and .u32 (p.addr : Int) ((maskN (heldN p.len) : Nat) : Int) = ((normN p.addr p.len : Nat) : Int) := by rw [u32_and_nat _ _ hp.1 (maskN_lt _)]; rfl
  have Hn := hide hnorm
  clear hnorm
  show Calls Try.prog 73 #[.agg #[.int .u32 (p.addr : Nat), .int .i64 p.len]] w _
  go_enter Try.func73, Try.ntmps73
  go_upto_region 1 with (fail)
  refine wp_gen (fun W => CellsAt W w.heap.size 0 p.cells ∧ Blk W (w.heap.size + 1) (PrefixM.mk 0 0).cells.toArray 28 ∧ Fr noB w W) ⟨cells_new _ _ _ rfl |>.alloc _, ?_, ((Fr.refl _ _).alloc _).alloc _⟩ ?_
  · have h := Blk.alloc_new (w.alloc (.cells p.cells.toArray 28)) (PrefixM.mk 0 0).cells.toArray 28
    rw [World.size_alloc] at h
    exact h
  rintro w1 ⟨hc, hb, hf⟩
  have c0 : ∀ z : Grow w1, z.v.cell? ⟨w.heap.size, 0, none⟩ = some (.int .u32 (p.addr : Nat)) := fun z => (hc.fr z.fr (fun h => h)) 0 _ rfl
  have c1 : ∀ z : Grow w1, z.v.cell? ⟨w.heap.size, 1, none⟩ = some (.int .i64 p.len) := fun z => by have := (hc.fr z.fr (fun h => h)) 1 _ rfl; rwa [Nat.zero_add] at this
  have HB := hide hb; have Hf := hide hf
  clear hc hb hf
  refine wp_region_mixT 10 (fun W => ∃ z : Grow w1, W = z.v) (by kernel_rfl) (by kernel_rfl) (inGrow (Fr.refl _ _).drew) ?_
  simp only [List.take_succ_cons, List.take_zero, List.drop_succ_cons, List.drop_zero]
  iterate 4 (first | (refine wpMix_skip rfl ?_; simp only [Act.put, List.setIfInBounds_toArray, List.set_cons_succ, List.set_cons_zero]) | (refine wpMix_calm rfl rfl (fun K hK => ?_); go_big_quiet_op; refine hK _ ?_; clear hK K))
  refine wpMix_spine rfl rfl (fun K hK => ?_); go_wp2_with fail
  refine (addr_Mask p.len _).mono ?_
  rintro e w' ⟨rfl, rfl⟩
  refine hK _ _ rfl (inGrow (Fr.refl _ _).drew) ?_
  clear hK K
  iterate 3 (first | (refine wpMix_skip rfl ?_; simp only [Act.put, List.setIfInBounds_toArray, List.set_cons_succ, List.set_cons_zero]) | (refine wpMix_calm rfl rfl (fun K hK => ?_); go_big_quiet_op; refine hK _ ?_; clear hK K))
  refine wpMix_spine rfl rfl (fun K hK => ?_); go_wp2_with fail
  refine (addr_held p.len _).mono ?_
  rintro e w' ⟨rfl, rfl⟩
  refine hK _ _ rfl (inGrow (Fr.refl _ _).drew) ?_
  clear hK K
  rw [Hn.out]
  repeat (first | (refine wpMix_skip rfl ?_; simp only [Act.put, List.setIfInBounds_toArray, List.set_cons_succ, List.set_cons_zero]) | (refine wpMix_calm rfl rfl (fun K hK => ?_); go_big_quiet_op; refine hK _ ?_; clear hK K))
  refine wpMix_nil ?_
  clear c0 c1
  have HBd : Hid (Blk w1.drew (w.heap.size + 1) (PrefixM.mk 0 0).cells.toArray 28) := HB
  refine wpList_store_row rfl 28 (.tmp 2) (.tmp 12) rfl _ (normP p).cells.toArray rfl rfl _ _ HBd.out (by kernel_rfl) rfl (by kernel_rfl) ?_
  simp only [Act.put, List.setIfInBounds_toArray, List.set_cons_succ, List.set_cons_zero]
  go_wp2_with fail
  exact bodyPost_ret (results_s Try.results73 _ _ _ 0 (normP p).cells _ rfl (Blk.cells (HBd.out.setRow)) Try.underlying28 rfl (by kernel_rfl)) rfl ⟨rfl, Hf.out.drew.setRow (.inl (by omega)) _⟩
set_option maxHeartbeats 400000 in
theorem ref3_Norm (p : PrefixM) (hp : p.wf) (w : World) :
    Calls Try.prog 24 #[.agg p.cells.toArray] w fun e w' => e = .returned (.agg (normP p).cells.toArray) ∧ Fr noB w w' := by
  have hnorm : bits .and .u32 (p.addr : Int) ((maskN (heldN p.len) : Nat) : Int) = ((normN p.addr p.len : Nat) : Int) := by rw [u32_and_nat _ _ hp.1 (maskN_lt _)]; rfl
  have Hn := hide hnorm
  clear hnorm
  show Calls Try.prog 24 #[.agg #[.int .u32 (p.addr : Nat), .int .i64 p.len]] w _
  go_enter Try.func24, Try.ntmps24
  go_upto_region 1 with (fail)
  refine wp_gen (fun W => CellsAt W w.heap.size 0 p.cells ∧ Blk W (w.heap.size + 1) (PrefixM.mk 0 0).cells.toArray 28 ∧ Fr noB w W) ⟨cells_new _ _ _ rfl |>.alloc _, ?_, ((Fr.refl _ _).alloc _).alloc _⟩ ?_
  · have h := Blk.alloc_new (w.alloc (.cells p.cells.toArray 28)) (PrefixM.mk 0 0).cells.toArray 28
    rw [World.size_alloc] at h
    exact h
  rintro w1 ⟨hc, hb, hf⟩
  have c0 : ∀ z : Grow w1, z.v.cell? ⟨w.heap.size, 0, none⟩ = some (.int .u32 (p.addr : Nat)) := fun z => (hc.fr z.fr (fun h => h)) 0 _ rfl
  have c1 : ∀ z : Grow w1, z.v.cell? ⟨w.heap.size, 1, none⟩ = some (.int .i64 p.len) := fun z => by have := (hc.fr z.fr (fun h => h)) 1 _ rfl; rwa [Nat.zero_add] at this
  have HB := hide hb; have Hf := hide hf
  clear hc hb hf
  refine wp_region_mixT 10 (fun W => ∃ z : Grow w1, W = z.v) (by kernel_rfl) (by kernel_rfl) (inGrow (Fr.refl _ _).drew) ?_
  simp only [List.take_succ_cons, List.take_zero, List.drop_succ_cons, List.drop_zero]
  iterate 4 (first | (refine wpMix_skip rfl ?_; simp only [Act.put, List.setIfInBounds_toArray, List.set_cons_succ, List.set_cons_zero]) | (refine wpMix_calm rfl rfl (fun K hK => ?_); go_big_quiet_op; refine hK _ ?_; clear hK K))
  refine wpMix_spine rfl rfl (fun K hK => ?_); go_wp2_with fail
  refine (ref3_Mask p.len _).mono ?_
  rintro e w' ⟨rfl, rfl⟩
  refine hK _ _ rfl (inGrow (Fr.refl _ _).drew) ?_
  clear hK K
  iterate 3 (first | (refine wpMix_skip rfl ?_; simp only [Act.put, List.setIfInBounds_toArray, List.set_cons_succ, List.set_cons_zero]) | (refine wpMix_calm rfl rfl (fun K hK => ?_); go_big_quiet_op; refine hK _ ?_; clear hK K))
  refine wpMix_spine rfl rfl (fun K hK => ?_); go_wp2_with fail
  refine (ref3_hold p.len _).mono ?_
  rintro e w' ⟨rfl, rfl⟩
  refine hK _ _ rfl (inGrow (Fr.refl _ _).drew) ?_
  clear hK K
  rw [Hn.out]
  repeat (first | (refine wpMix_skip rfl ?_; simp only [Act.put, List.setIfInBounds_toArray, List.set_cons_succ, List.set_cons_zero]) | (refine wpMix_calm rfl rfl (fun K hK => ?_); go_big_quiet_op; refine hK _ ?_; clear hK K))
  refine wpMix_nil ?_
  clear c0 c1
  have HBd : Hid (Blk w1.drew (w.heap.size + 1) (PrefixM.mk 0 0).cells.toArray 28) := HB
  refine wpList_store_row rfl 28 (.tmp 2) (.tmp 12) rfl _ (normP p).cells.toArray rfl rfl _ _ HBd.out (by kernel_rfl) rfl (by kernel_rfl) ?_
  simp only [Act.put, List.setIfInBounds_toArray, List.set_cons_succ, List.set_cons_zero]
  go_wp2_with fail
  exact bodyPost_ret (results_s Try.results24 _ _ _ 0 (normP p).cells _ rfl (Blk.cells (HBd.out.setRow)) Try.underlying28 rfl (by kernel_rfl)) rfl ⟨rfl, Hf.out.drew.setRow (.inl (by omega)) _⟩

set_option maxHeartbeats 400000 in
theorem addr_Is (p : PrefixM) (hp : p.wf) (w : World) :
    Calls Try.prog 52 #[.agg p.cells.toArray] w fun e w' => e = .returned (.bool (decide (p = normP p))) ∧ Fr noB w w' := by
  go_enter Try.func52, Try.ntmps52
  go_upto_region 1 with (fail)
  refine wp_gen (fun W => CellsAt W w.heap.size 0 p.cells ∧ Fr noB w W) ⟨by (repeat (first | assumption | exact cells_new _ _ _ (by simp) | refine CellsAt.alloc ?_ _ | refine CellsAt.drew ?_ | refine CellsAt.drewN ?_ _)), (Fr.refl _ _).alloc _⟩ ?_
  rintro w1 ⟨hc, hf⟩
  have Hf := hide hf
  clear hf
  refine wp_region_mix (fun W => ∃ z : Grow w1, W = z.v) (by kernel_rfl) (by kernel_rfl) (inGrow (Fr.refl _ _).drew) ?_
  (refine wpMix_load_atw rfl 28 (.tmp 1) rfl _ _ rfl (PrefixM.cells _) (fun W hW => by obtain ⟨z, rfl⟩ := hW; exact CellsAt.fr (by (repeat (first | assumption | exact cells_new _ _ _ (by simp) | refine CellsAt.alloc ?_ _ | refine CellsAt.drew ?_ | refine CellsAt.drewN ?_ _))) z.fr (fun h => h)) _ Try.underlying28 rfl (by kernel_rfl) ?_; simp only [Act.put, List.setIfInBounds_toArray, List.set_cons_succ, List.set_cons_zero])
  (refine wpMix_load_atw rfl 28 (.tmp 1) rfl _ _ rfl (PrefixM.cells _) (fun W hW => by obtain ⟨z, rfl⟩ := hW; exact CellsAt.fr (by (repeat (first | assumption | exact cells_new _ _ _ (by simp) | refine CellsAt.alloc ?_ _ | refine CellsAt.drew ?_ | refine CellsAt.drewN ?_ _))) z.fr (fun h => h)) _ Try.underlying28 rfl (by kernel_rfl) ?_; simp only [Act.put, List.setIfInBounds_toArray, List.set_cons_succ, List.set_cons_zero])
  refine wpMix_spine rfl rfl (fun K hK => ?_); go_wp2_with fail
  refine (addr_Norm p hp _).mono ?_
  rintro e w2 ⟨rfl, f2⟩
  have f2 : Fr noB w1 w2 := (Fr.refl _ _).drew.tr f2
  have Hf2 := hide (Hf.out.tr f2)
  refine hK _ _ rfl (inGrow f2) ?_
  clear hK K f2
  refine wpMix_eqs rfl false 28 (.tmp 3) (.tmp 5) rfl p.cells.toArray (normP p).cells.toArray rfl rfl _ (by kernel_rfl) (fun w => prefix_equal _ _ w) ?_
  simp only [Act.put, List.setIfInBounds_toArray, List.set_cons_succ, List.set_cons_zero]
  simp only [Bool.false_bne]
  repeat (first | (refine wpMix_skip rfl ?_; simp only [Act.put, List.setIfInBounds_toArray, List.set_cons_succ, List.set_cons_zero]) | (refine wpMix_calm rfl rfl (fun K hK => ?_); go_big_quiet_op; refine hK _ ?_; clear hK K))
  refine wpMix_nil ?_
  clear hc
  go_wp2_with fail
  go_ret
  exact ⟨ret_bool (by simp), Hf2.out⟩
set_option maxHeartbeats 400000 in
theorem ref3_Is (p : PrefixM) (hp : p.wf) (w : World) :
    Calls Try.prog 57 #[.agg p.cells.toArray] w fun e w' => e = .returned (.bool (decide (p = normP p))) ∧ Fr noB w w' := by
  go_enter Try.func57, Try.ntmps57
  go_upto_region 1 with (fail)
  refine wp_gen (fun W => CellsAt W w.heap.size 0 p.cells ∧ Fr noB w W) ⟨by (repeat (first | assumption | exact cells_new _ _ _ (by simp) | refine CellsAt.alloc ?_ _ | refine CellsAt.drew ?_ | refine CellsAt.drewN ?_ _)), (Fr.refl _ _).alloc _⟩ ?_
  rintro w1 ⟨hc, hf⟩
  have Hf := hide hf
  clear hf
  refine wp_region_mix (fun W => ∃ z : Grow w1, W = z.v) (by kernel_rfl) (by kernel_rfl) (inGrow (Fr.refl _ _).drew) ?_
  (refine wpMix_load_atw rfl 28 (.tmp 1) rfl _ _ rfl (PrefixM.cells _) (fun W hW => by obtain ⟨z, rfl⟩ := hW; exact CellsAt.fr (by (repeat (first | assumption | exact cells_new _ _ _ (by simp) | refine CellsAt.alloc ?_ _ | refine CellsAt.drew ?_ | refine CellsAt.drewN ?_ _))) z.fr (fun h => h)) _ Try.underlying28 rfl (by kernel_rfl) ?_; simp only [Act.put, List.setIfInBounds_toArray, List.set_cons_succ, List.set_cons_zero])
  refine wpMix_spine rfl rfl (fun K hK => ?_); go_wp2_with fail
  refine (ref3_Norm p hp _).mono ?_
  rintro e w2 ⟨rfl, f2⟩
  have f2 : Fr noB w1 w2 := (Fr.refl _ _).drew.tr f2
  have Hf2 := hide (Hf.out.tr f2)
  refine hK _ _ rfl (inGrow f2) ?_
  clear hK K f2
  (refine wpMix_load_atw rfl 28 (.tmp 1) rfl _ _ rfl (PrefixM.cells _) (fun W hW => by obtain ⟨z, rfl⟩ := hW; exact CellsAt.fr (by (repeat (first | assumption | exact cells_new _ _ _ (by simp) | refine CellsAt.alloc ?_ _ | refine CellsAt.drew ?_ | refine CellsAt.drewN ?_ _))) z.fr (fun h => h)) _ Try.underlying28 rfl (by kernel_rfl) ?_; simp only [Act.put, List.setIfInBounds_toArray, List.set_cons_succ, List.set_cons_zero])
  refine wpMix_eqs rfl false 28 (.tmp 4) (.tmp 5) rfl (normP p).cells.toArray p.cells.toArray rfl rfl (decide (p = normP p)) (by kernel_rfl) (fun w => by rw [prefix_equal]; congr 1; exact decide_eq_decide.2 eq_comm) ?_
  simp only [Act.put, List.setIfInBounds_toArray, List.set_cons_succ, List.set_cons_zero]
  repeat (first | (refine wpMix_skip rfl ?_; simp only [Act.put, List.setIfInBounds_toArray, List.set_cons_succ, List.set_cons_zero]) | (refine wpMix_calm rfl rfl (fun K hK => ?_); go_big_quiet_op; refine hK _ ?_; clear hK K))
  refine wpMix_nil ?_
  clear hc
  go_wp2_with fail
  go_ret
  exact ⟨ret_bool (by simp), Hf2.out⟩

def beforeB (p q : PrefixM) : Bool := if p.addr = q.addr then decide (p.len < q.len) else decide (p.addr < q.addr)
set_option maxHeartbeats 400000 in
theorem ref3_Before (p q : PrefixM) (w : World) :
    Calls Try.prog 79 #[.agg p.cells.toArray, .agg q.cells.toArray] w fun e w' => e = .returned (.bool (beforeB p q)) ∧ Fr noB w w' := by
  obtain ⟨p1, p2⟩ := p
  obtain ⟨q1, q2⟩ := q
  show Calls Try.prog 79 #[.agg #[.int .u32 (p1 : Nat), .int .i64 p2], .agg #[.int .u32 (q1 : Nat), .int .i64 q2]] w _
  by_cases h : p1 = q1
  · subst h
    have H := hide (show beforeB ⟨p1, p2⟩ ⟨p1, q2⟩ = decide (p2 < q2) from by unfold beforeB; simp)
    go_enter Try.func79, Try.ntmps79
    go_wp2_with fail
    go_ret
    exact ⟨ret_bool H.out.symm, ((Fr.refl _ _).alloc _).alloc _⟩
  · have H := hide (show beforeB ⟨p1, p2⟩ ⟨q1, q2⟩ = decide (p1 < q1) from by unfold beforeB; simp [h])
    have h' : ¬ (p1 : Int) = (q1 : Int) := by omega
    clear h
    go_enter Try.func79, Try.ntmps79
    go_wp2_with fail
    go_ret
    exact ⟨ret_bool (by rw [H.out]; try simp), ((Fr.refl _ _).alloc _).alloc _⟩
end Go.Proofs.Ytgjabgneapdbiaa

namespace Go.Proofs.Ytgjabgneapdbiaa
open Go.RowKit
set_option linter.unusedSimpArgs false
set_option linter.unusedVariables false
section
variable {P : Program}
theorem run_copyN (w : World) (dT sT ty elem : TypeId) (g o dLen dCap : Nat) (b so sLen sCap : Nat) (cur : List Value) (t : TypeId) (cs : List Value) (N : Nat)
    (hu : P.underlying dT = some (.slice elem)) (hs : (P.info? elem).map (·.size) = some N) (hg : Blk w g cur.toArray t) (hn : cs.length = Nat.min sLen dLen * N) (hsrc : CellsAt w b so cs)
    (hfit : o + cs.length ≤ cur.length) (h1 : ∀ v ∈ cs, v.oneCell' = true) :
    (Builtin.copy_ #[dT, sT] ty #[.slice (some ⟨g, o, none⟩) dLen dCap, .slice (some ⟨b, so, none⟩) sLen sCap]).run P w = .ok (goInt (Nat.min sLen dLen)) (w.setRow g (cur.take o ++ cs ++ cur.drop (o + cs.length)).toArray) := by
  have hl := run_loadCells_list (P := P) w ⟨b, so, none⟩ cs (fun j v hv => by rw [Addr.add_lit]; exact hsrc j v hv)
  have hst := run_storeCells_at P g o t cs 0 cur.toArray w hg (by simpa using hfit) h1
  cases hq : P.info? elem with
  | none => simp [hq] at hs
  | some i =>
    have hi : i.size = N := by simpa [hq] using hs
    simp only [Nat.add_zero] at hst
    simp [Builtin.copy_, run_underlying hu, Builtin.lenOf, Builtin.firstCells, sizeOf, typeInfo, hq, hi, ← hn, hl, hst]
theorem wpList_copyN {ops : Array Oper} {rest : List Oper} {o : Oper} {a : Act} {w : World} {Q : Exit → Act → World → Prop} (hgd : o.guard = none) (d s : Operand) (dT sT elem : TypeId) (ho : o.op = .call { callee := .builtin .copy, args := #[d, s], argTypes := #[dT, sT] })
    (g of dLen dCap : Nat) (b so sLen sCap : Nat) (hd : a.eval d = .slice (some ⟨g, of, none⟩) dLen dCap) (hx : a.eval s = .slice (some ⟨b, so, none⟩) sLen sCap) (cur : List Value) (t : TypeId) (cs : List Value) (N : Nat)
    (hu : P.underlying dT = some (.slice elem)) (hs : (P.info? elem).map (·.size) = some N) (hg : Blk w g cur.toArray t) (hn : cs.length = Nat.min sLen dLen * N) (hsrc : CellsAt w b so cs)
    (hfit : of + cs.length ≤ cur.length) (h1 : ∀ v ∈ cs, v.oneCell' = true)
    (h : wpList P ops Q rest (a.put o.dst (goInt (Nat.min sLen dLen))) (w.setRow g (cur.take of ++ cs ++ cur.drop (of + cs.length)).toArray)) : wpList P ops Q (o :: rest) a w :=
  wpList_plain hgd fun _ hK => by
    unfold Oper.wp execOp
    simp only [ho, resolve, invoke, builtin, Sem.run_bind, Sem.run_pure, Result.andThen_ok, List.map_toArray, List.map_cons, List.map_nil, hd, hx, run_copyN w dT sT o.type elem g of dLen dCap b so sLen sCap cur t cs N hu hs hg hn hsrc hfit h1]
    exact hK _ _ h
theorem run_clearN (w : World) (t e ty : TypeId) (z : Value) (N : Nat) (ht : P.underlying t = some (.slice e)) (hinfo : (P.info? e).map (fun i => (i.zero, i.size)) = some (some z, N)) (g o n c : Nat) (hn : 0 < n) (cur : List Value) (et : TypeId) (hg : Blk w g cur.toArray et)
    (cs : List Value) (hcs : (Builtin.zeroCells z.cells n).toList = cs) (hfit : o + cs.length ≤ cur.length) (h1 : ∀ v ∈ cs, v.oneCell' = true) :
    (Builtin.clear_ #[t] ty #[.slice (some ⟨g, o, none⟩) n c]).run P w = .ok (.tuple #[]) (w.setRow g (cur.take o ++ cs ++ cur.drop (o + cs.length)).toArray) := by
  have hst := run_storeCells_at P g o et cs 0 cur.toArray w hg (by simpa using hfit) h1
  obtain ⟨i, hi, hi2⟩ := Option.map_eq_some_iff.1 hinfo
  simp only [Prod.mk.injEq] at hi2
  obtain ⟨hz, rfl⟩ := hi2
  simp only [Nat.add_zero] at hst
  cases n with
  | zero => omega
  | succ n => simp [Builtin.clear_, run_underlying ht, zeroValue, typeInfo, hi, hz, hcs, hst]
theorem wpList_clearN {ops : Array Oper} {rest : List Oper} {o : Oper} {a : Act} {w : World} {Q : Exit → Act → World → Prop} (hgd : o.guard = none) (d : Operand) (t e : TypeId) (ho : o.op = .call { callee := .builtin .clear, args := #[d], argTypes := #[t] })
    (g of n c : Nat) (hd : a.eval d = .slice (some ⟨g, of, none⟩) n c) (z : Value) (N : Nat) (ht : P.underlying t = some (.slice e)) (hinfo : (P.info? e).map (fun i => (i.zero, i.size)) = some (some z, N)) (hn : 0 < n) (cur : List Value) (et : TypeId) (hg : Blk w g cur.toArray et)
    (cs : List Value) (hcs : (Builtin.zeroCells z.cells n).toList = cs) (hfit : of + cs.length ≤ cur.length) (h1 : ∀ v ∈ cs, v.oneCell' = true)
    (h : wpList P ops Q rest (a.put o.dst (.tuple #[])) (w.setRow g (cur.take of ++ cs ++ cur.drop (of + cs.length)).toArray)) : wpList P ops Q (o :: rest) a w :=
  wpList_plain hgd fun _ hK => by
    unfold Oper.wp execOp
    simp only [ho, resolve, invoke, builtin, Sem.run_bind, Sem.run_pure, Result.andThen_ok, List.map_toArray, List.map_cons, List.map_nil, hd, run_clearN w t e o.type z N ht hinfo g of n c hn cur et hg cs hcs hfit h1]
    exact hK _ _ h
/-- append where there is room. -/
theorem wpList_append_roomN {ops : Array Oper} {rest : List Oper} {o : Oper} {a : Act} {w : World} {Q : Exit → Act → World → Prop} (hgd : o.guard = none) (x y : Operand) (t e : TypeId) (ho : o.op = .call { callee := .builtin .append, args := #[x, y], argTypes := #[t, t] })
    (ht : P.underlying t = some (.slice e)) (N : Nat) (hs : (P.info? e).map (·.size) = some N) (g m c : Nat) (hx : a.eval x = .slice (some ⟨g, 0, none⟩) m c) (b so k kc : Nat) (hy : a.eval y = .slice (some ⟨b, so, none⟩) k kc)
    (cur : List Value) (hg : Blk w g cur.toArray e) (news : List Value) (hl : news.length = k * N) (hsrc : CellsAt w b so news) (h1 : ∀ u ∈ news, u.oneCell' = true) (hroom : m + k ≤ c) (hfit : m * N + news.length ≤ cur.length)
    (h : wpList P ops Q rest (a.put o.dst (.slice (some ⟨g, 0, none⟩) (m + k) c)) (w.setRow g (cur.take (m * N) ++ news ++ cur.drop (m * N + news.length)).toArray)) : wpList P ops Q (o :: rest) a w :=
  wpList_plain hgd fun _ hK => by
    obtain ⟨i0, hi0, rfl⟩ := Option.map_eq_some_iff.1 hs
    have hr := run_append_room (P := P) w t o.type e i0 ht hi0 g m c cur.toArray hg ⟨b, so, none⟩ k kc news hl (fun j u hj => by rw [Addr.add_lit]; exact hsrc j u hj) h1 hroom (by simpa using hfit)
    unfold Oper.wp execOp
    simp only [ho, resolve, invoke, builtin, Sem.run_bind, Sem.run_pure, Result.andThen_ok, List.map_toArray, List.map_cons, List.map_nil, hx, hy, hr]
    exact hK _ _ h
/-- append(s[:i], make([]T, k)...) without room. -/
theorem wpList_append_zeros {ops : Array Oper} {rest : List Oper} {o : Oper} {a : Act} {w : World} {Q : Exit → Act → World → Prop} (hgd : o.guard = none) (x y : Operand) (t tn e : TypeId) (ho : o.op = .call { callee := .builtin .append, args := #[x, y], argTypes := #[t, tn] })
    (ht : P.underlying t = some (.slice e)) (kn : IntKind) (htn : P.underlying tn = some (.int kn)) (z : Value) (N bytes : Nat) (hinfo : (P.info? e).map (fun i => (i.zero, i.size, i.bytes)) = some (some z, N, bytes)) (hzs : z.cells.size = N) (hN : 0 < N)
    (b i c : Nat) (hx : a.eval x = .slice (some ⟨b, 0, none⟩) i c) (k : Nat) (hy : a.eval y = .int .i64 k) (olds : List Value) (hol : olds.length = i * N) (hold : CellsAt w b 0 olds) (h0 : 0 < k) (hg : c < i + k) (h63 : i + k ≤ maxLen) (hby : (i + k) * bytes ≤ 140737488355328)
    (h : ∀ (G : Nat) (Z : List Value), i + k ≤ G → G ≤ maxLen → Z.length = (G - i) * N → wpList P ops Q rest (a.put o.dst (.slice (some ⟨w.heap.size, 0, none⟩) (i + k) G)) (w.drew.alloc (.cells (olds ++ Z).toArray e))) : wpList P ops Q (o :: rest) a w :=
  wpList_plain hgd fun _ hK => by
    obtain ⟨i0, hi0, hi2⟩ := Option.map_eq_some_iff.1 hinfo
    simp only [Prod.mk.injEq] at hi2
    obtain ⟨hz, rfl, rfl⟩ := hi2
    have hf := run_firstCells_some (P := P) w.drew i0.size i ⟨b, 0, none⟩ i c olds hol (fun j v hv => by rw [Addr.add_lit]; exact hold j v hv)
    have h48 : k * i0.bytes ≤ 281474976710656 := by
      have : k * i0.bytes ≤ (i + k) * i0.bytes := Nat.mul_le_mul_right _ (by omega)
      omega
    have hr := Lib.run_append_grow_zeros w t tn o.type e i0 z .i64 kn ht htn hi0 hz (some ⟨b, 0, none⟩) i c olds hf k h0 hN hg (by simp only [maxLen] at h63; omega) h48 (growslice_fits hg hby)
    unfold Oper.wp execOp
    simp only [ho, resolve, invoke, builtin, Sem.run_bind, Sem.run_pure, Result.andThen_ok, List.map_toArray, List.map_cons, List.map_nil, hx, hy, hr]
    have hge := grownCap_ge w (i + k) c e
    have hle := grownCap_le_maxLen w (i + k) c e h63
    have hh := h (grownCap w (i + k) c e) ((Builtin.zeroCells z.cells k).toList ++ (Builtin.zeroCells z.cells (grownCap w (i + k) c e - (i + k))).toList) hge hle (by
      rw [List.length_append, Array.length_toList, Array.length_toList, size_zeroCells, size_zeroCells, hzs, ← Nat.add_mul]
      congr 1
      omega)
    have ea : (olds ++ ((Builtin.zeroCells z.cells k).toList ++ (Builtin.zeroCells z.cells (grownCap w (i + k) c e - (i + k))).toList)).toArray = olds.toArray ++ Builtin.zeroCells z.cells k ++ Builtin.zeroCells z.cells (grownCap w (i + k) c e - (i + k)) := by simp
    rw [ea] at hh
    exact hK _ _ hh
end
section
variable {α : Type} {N : Nat} {cells : α → List Value}
theorem flat_take (hN : ∀ x, (cells x).length = N) (l : List α) (junk : List Value) (k : Nat) (hk : k ≤ l.length) : (l.flatMap cells ++ junk).take (k * N) = (l.take k).flatMap cells := by
  have h : l.flatMap cells = (l.take k).flatMap cells ++ (l.drop k).flatMap cells := by rw [← List.flatMap_append, List.take_append_drop]
  have hl : ((l.take k).flatMap cells).length = k * N := by rw [flat_length hN, List.length_take, Nat.min_eq_left hk]
  rw [h, List.append_assoc, ← hl, List.take_left]
theorem flat_drop (hN : ∀ x, (cells x).length = N) (l : List α) (junk : List Value) (k : Nat) (hk : k ≤ l.length) : (l.flatMap cells ++ junk).drop (k * N) = (l.drop k).flatMap cells ++ junk := by
  have h : l.flatMap cells = (l.take k).flatMap cells ++ (l.drop k).flatMap cells := by rw [← List.flatMap_append, List.take_append_drop]
  have hl : ((l.take k).flatMap cells).length = k * N := by rw [flat_length hN, List.length_take, Nat.min_eq_left hk]
  rw [h, List.append_assoc, ← hl, List.drop_left]
theorem flat_drop2 (hN : ∀ x, (cells x).length = N) (l : List α) (junk : List Value) (k : Nat) : (l.flatMap cells ++ junk).drop ((l.length + k) * N) = junk.drop (k * N) := by
  have hl := flat_length hN l
  rw [Nat.add_mul, ← hl, ← List.drop_drop, List.drop_left]
theorem flat_mem (h1 : ∀ x, ∀ u ∈ cells x, u.oneCell' = true) (l : List α) : ∀ u ∈ l.flatMap cells, u.oneCell' = true := fun u hu => by
  obtain ⟨x, _, hx⟩ := List.mem_flatMap.1 hu
  exact h1 x u hx
theorem cells_part {w : World} {g o : Nat} {cs : List Value} (h : CellsAt w g o cs) (k : Nat) : CellsAt w g (o + k) (cs.drop k) := fun j v hj => by
  rw [Nat.add_assoc]
  exact h (k + j) v (by rwa [List.getElem?_drop] at hj)
theorem cells_pre {w : World} {g o : Nat} {cs ds : List Value} (h : CellsAt w g o (cs ++ ds)) : CellsAt w g o cs := fun j v hj => h j v (by rw [List.getElem?_append_left (List.getElem?_eq_some_iff.1 hj).1]; exact hj)
/-- The rows from k on. -/
theorem blk_from (hN : ∀ x, (cells x).length = N) {w : World} {g : Nat} {l : List α} {junk : List Value} {t : TypeId} (h : Blk w g (l.flatMap cells ++ junk).toArray t) (k : Nat) (hk : k ≤ l.length) : CellsAt w g (k * N) ((l.drop k).flatMap cells) := by
  have h1 := cells_part (Blk.cells h) (k * N)
  rw [flat_drop hN l junk k hk, Nat.zero_add] at h1
  exact cells_pre h1
/-- The rows ahead of k. -/
theorem blk_to (hN : ∀ x, (cells x).length = N) {w : World} {g : Nat} {l : List α} {junk : List Value} {t : TypeId} (h : Blk w g (l.flatMap cells ++ junk).toArray t) (k : Nat) (hk : k ≤ l.length) : CellsAt w g 0 ((l.take k).flatMap cells) := by
  have h1 := Blk.cells h
  rw [← List.take_append_drop (k * N) (l.flatMap cells ++ junk), flat_take hN l junk k hk] at h1
  exact cells_pre h1
end
end Go.Proofs.Ytgjabgneapdbiaa
