/- Words of 32 bits: the model's integers and the bits they are. No program here. -/
import Derived.Laws.Bits64
import Derived.Laws.BitsLemmas
namespace Go.Proofs.Ytnggdkpaofbaaaa

abbrev W := BitVec 32
/-- A word as the model's value. -/
abbrev wv (x : W) : Value := .int .u32 (x.toNat : Int)

theorem u32_add (x y : W) : IntKind.u32.wrap ((x.toNat : Int) + (y.toNat : Int)) = ((x + y).toNat : Int) := by
  rw [IntKind.wrap_u32, BitVec.toNat_add]; omega
theorem u32_ofInt (x : W) : BitVec.ofInt 32 (x.toNat : Int) = x := by
  rw [BitVec.ofInt_natCast]; apply BitVec.eq_of_toNat_eq; rw [BitVec.toNat_ofNat]; exact Nat.mod_eq_of_lt x.isLt
theorem u32_wrap (x : W) : IntKind.u32.wrap (x.toNat : Int) = (x.toNat : Int) := by
  have := x.isLt
  rw [IntKind.wrap_u32]; omega
theorem u32_xor (x y : W) : Go.bits .xor .u32 (x.toNat : Int) (y.toNat : Int) = ((x ^^^ y).toNat : Int) := by
  show IntKind.u32.wrap ((BitVec.ofInt 32 (x.toNat : Int) ^^^ BitVec.ofInt 32 (y.toNat : Int)).toNat : Int) = _
  rw [u32_ofInt, u32_ofInt, u32_wrap]
theorem u32_and (x y : W) : Go.bits .and .u32 (x.toNat : Int) (y.toNat : Int) = ((x &&& y).toNat : Int) := by
  show IntKind.u32.wrap ((BitVec.ofInt 32 (x.toNat : Int) &&& BitVec.ofInt 32 (y.toNat : Int)).toNat : Int) = _
  rw [u32_ofInt, u32_ofInt, u32_wrap]
theorem u32_or (x y : W) : Go.bits .or .u32 (x.toNat : Int) (y.toNat : Int) = ((x ||| y).toNat : Int) := by
  show IntKind.u32.wrap ((BitVec.ofInt 32 (x.toNat : Int) ||| BitVec.ofInt 32 (y.toNat : Int)).toNat : Int) = _
  rw [u32_ofInt, u32_ofInt, u32_wrap]
theorem u32_not (y : W) : Go.bits .xor .u32 (4294967295 : Int) (y.toNat : Int) = ((~~~y).toNat : Int) := by
  rw [show (4294967295 : Int) = (((4294967295#32).toNat : Nat) : Int) by decide, u32_xor]
  rw [show (4294967295#32 ^^^ y) = ~~~y by rw [show 4294967295#32 = BitVec.allOnes 32 by decide]; exact BitVec.allOnes_xor]
theorem u32_shl (x : W) (k : Nat) : IntKind.u32.wrap ((x.toNat : Int) * 2 ^ k) = ((x <<< k).toNat : Int) := by
  rw [IntKind.wrap_u32, BitVec.toNat_shiftLeft, Nat.shiftLeft_eq]
  rw [Int.natCast_emod, Int.natCast_mul, Int.natCast_pow]
  rfl
theorem u32_shr (x : W) (k : Nat) : (x.toNat : Int) / 2 ^ k = ((x >>> k).toNat : Int) := by
  rw [BitVec.toNat_ushiftRight, Nat.shiftRight_eq_div_pow]
  rw [Int.natCast_ediv, Int.natCast_pow]
  rfl
theorem u32_fdiv (x : W) (k : Nat) : Int.fdiv (x.toNat : Int) (2 ^ k) = ((x >>> k).toNat : Int) := by
  rw [Int.fdiv_eq_ediv_of_nonneg _ (Int.le_of_lt (Int.pow_pos (by decide))), u32_shr]
theorem u32_lt (x : W) : x.toNat < 4294967296 := x.isLt
/-- A byte as a word. -/
def wb (c : UInt8) : W := BitVec.ofNat 32 c.toNat
theorem wb_nat (c : UInt8) : (wb c).toNat = c.toNat := by
  unfold wb; rw [BitVec.toNat_ofNat]; have := c.toNat_lt; omega
/-- Four bytes as a word, the highest first. -/
def w4 (a b c d : UInt8) : W := wb a <<< 24 ||| wb b <<< 16 ||| wb c <<< 8 ||| wb d
/-- Turned to the right. -/
def tr (x : W) (k : Nat) : W := x >>> k ||| x <<< (32 - k)
theorem u32_shl' (x : W) (k : Nat) : (x.toNat : Int) * 2 ^ k % 4294967296 = ((x <<< k).toNat : Int) := by rw [← u32_shl, IntKind.wrap_u32]
theorem tr_int (x : W) (k : Nat) : Go.bits .or .u32 ((x.toNat : Int) / 2 ^ k) ((x.toNat : Int) * 2 ^ (32 - k) % 4294967296) = ((tr x k).toNat : Int) := by
  rw [u32_shr, u32_shl', u32_or]; rfl
theorem tr_int' (x : W) (j : Nat) (hj : j ≤ 32) : Go.bits .or .u32 ((x.toNat : Int) * 2 ^ j % 4294967296) ((x.toNat : Int) / 2 ^ (32 - j)) = ((tr x (32 - j)).toNat : Int) := by
  rw [u32_shr, u32_shl', u32_or, tr, BitVec.or_comm, show 32 - (32 - j) = j by omega]
theorem wb_int (c : UInt8) : (c.toNat : Int) % 4294967296 = ((wb c).toNat : Int) := by
  rw [wb_nat]; have := c.toNat_lt; omega
theorem u32_shl24 (x : W) : (x.toNat : Int) * (16777216 : Int) % (4294967296 : Int) = ((x <<< 24).toNat : Int) := by
  have := u32_shl' x 24
  rw [show ((2 : Int) ^ 24) = 16777216 by decide] at this
  exact this
theorem u32_shl16 (x : W) : (x.toNat : Int) * (65536 : Int) % (4294967296 : Int) = ((x <<< 16).toNat : Int) := by
  have := u32_shl' x 16
  rw [show ((2 : Int) ^ 16) = 65536 by decide] at this
  exact this
theorem u32_shl8 (x : W) : (x.toNat : Int) * (256 : Int) % (4294967296 : Int) = ((x <<< 8).toNat : Int) := by
  have := u32_shl' x 8
  rw [show ((2 : Int) ^ 8) = 256 by decide] at this
  exact this
theorem or_add (i a b : Nat) (hb : b < 2 ^ i) : 2 ^ i * a ||| b = 2 ^ i * a + b := (Nat.two_pow_add_eq_or_of_lt hb a).symm
theorem w4_nat (a b c d : UInt8) : (w4 a b c d).toNat = a.toNat * 16777216 + b.toNat * 65536 + c.toNat * 256 + d.toNat := by
  have ha := a.toNat_lt
  have hb := b.toNat_lt
  have hc := c.toNat_lt
  have hd := d.toNat_lt
  unfold w4
  rw [BitVec.toNat_or, BitVec.toNat_or, BitVec.toNat_or, BitVec.toNat_shiftLeft, BitVec.toNat_shiftLeft, BitVec.toNat_shiftLeft, wb_nat, wb_nat, wb_nat, wb_nat, Nat.shiftLeft_eq, Nat.shiftLeft_eq, Nat.shiftLeft_eq]
  rw [Nat.mod_eq_of_lt (show a.toNat * 2 ^ 24 < 2 ^ 32 by omega), Nat.mod_eq_of_lt (show b.toNat * 2 ^ 16 < 2 ^ 32 by omega), Nat.mod_eq_of_lt (show c.toNat * 2 ^ 8 < 2 ^ 32 by omega)]
  rw [Nat.mul_comm a.toNat, or_add 24 a.toNat _ (by omega)]
  rw [show 2 ^ 24 * a.toNat + b.toNat * 2 ^ 16 = 2 ^ 16 * (2 ^ 8 * a.toNat + b.toNat) by omega, or_add 16 _ _ (by omega)]
  rw [show 2 ^ 16 * (2 ^ 8 * a.toNat + b.toNat) + c.toNat * 2 ^ 8 = 2 ^ 8 * (2 ^ 16 * a.toNat + 2 ^ 8 * b.toNat + c.toNat) by omega, or_add 8 _ _ (by omega)]
theorem w4_add (a b c d : UInt8) : wb a <<< 24 + wb b <<< 16 + wb c <<< 8 + wb d = w4 a b c d := by
  apply BitVec.eq_of_toNat_eq
  have ha := a.toNat_lt
  have hb := b.toNat_lt
  have hc := c.toNat_lt
  have hd := d.toNat_lt
  rw [w4_nat, BitVec.toNat_add, BitVec.toNat_add, BitVec.toNat_add, BitVec.toNat_shiftLeft, BitVec.toNat_shiftLeft, BitVec.toNat_shiftLeft, wb_nat, wb_nat, wb_nat, wb_nat, Nat.shiftLeft_eq, Nat.shiftLeft_eq, Nat.shiftLeft_eq]
  omega
theorem w4_int (b0 b1 b2 b3 : UInt8) : Go.bits .or .u32 (Go.bits .or .u32 (Go.bits .or .u32 ((b0.toNat : Int) % 4294967296 * 16777216 % 4294967296) ((b1.toNat : Int) % 4294967296 * 65536 % 4294967296)) ((b2.toNat : Int) % 4294967296 * 256 % 4294967296)) ((b3.toNat : Int) % 4294967296) = ((w4 b0 b1 b2 b3).toNat : Int) := by
  rw [wb_int, wb_int, wb_int, wb_int, u32_shl24, u32_shl16, u32_shl8, u32_or, u32_or, u32_or]; rfl
end Go.Proofs.Ytnggdkpaofbaaaa
