/-
  Words of 64 bits and bytes as Lean's own UInt64 and UInt8: the model's operations on them, an equation each.
-/
import Derived.WalkKit
import Derived.WalkSpells
import Derived.WalkLawsBesides
set_option linter.unusedVariables false
set_option linter.unusedSimpArgs false
namespace Go.Ub
/-- A word's number; a byte's. (Names, so that simp leaves them alone.) -/
def wi (x : UInt64) : Int := (x.toNat : Int)
def bi (x : UInt8) : Int := (x.toNat : Int)
theorem wi_lo (x : UInt64) : 0 ≤ wi x := by unfold wi; omega
theorem wi_hi (x : UInt64) : wi x < 18446744073709551616 := by unfold wi; have := x.toNat_lt; omega
theorem bi_lo (x : UInt8) : 0 ≤ bi x := by unfold bi; omega
theorem bi_hi (x : UInt8) : bi x < 256 := by unfold bi; have := x.toNat_lt; omega
theorem w64 (n : Int) : IntKind.u64.wrap n = n % 18446744073709551616 := by simp [IntKind.wrap, IntKind.bits, IntKind.signed]
theorem w8 (n : Int) : IntKind.u8.wrap n = n % 256 := by simp [IntKind.wrap, IntKind.bits, IntKind.signed]
theorem bv64 (x : UInt64) : BitVec.ofInt 64 (x.toNat : Int) = x.toBitVec := by
  rw [BitVec.ofInt_natCast]; simp
theorem bv8 (x : UInt8) : BitVec.ofInt 8 (x.toNat : Int) = x.toBitVec := by
  rw [BitVec.ofInt_natCast]; simp
theorem back64 (b : BitVec 64) : IntKind.u64.wrap (b.toNat : Int) = ((UInt64.ofBitVec b).toNat : Int) := by
  rw [w64]; have := b.isLt; simp; omega
theorem back8 (b : BitVec 8) : IntKind.u8.wrap (b.toNat : Int) = ((UInt8.ofBitVec b).toNat : Int) := by
  rw [w8]; have := b.isLt; simp; omega
theorem wrap64_nat (n : Nat) : IntKind.u64.wrap (n : Int) = ((UInt64.ofNat n).toNat : Int) := by rw [w64]; simp
theorem wrap8_nat (n : Nat) : IntKind.u8.wrap (n : Int) = ((UInt8.ofNat n).toNat : Int) := by rw [w8]; simp
variable {P : Program}
theorem xor64N (t : TypeId) (x y : UInt64) : binOp .xor t (.int .u64 (x.toNat : Int)) (.int .u64 (y.toNat : Int)) = pure (.int .u64 ((x ^^^ y).toNat : Int)) := by
  show Op.intBits .xor .u64 _ _ = _
  unfold Op.intBits
  simp only [IntKind.bits, bv64, back64]; rfl
theorem and64N (t : TypeId) (x y : UInt64) : binOp .and t (.int .u64 (x.toNat : Int)) (.int .u64 (y.toNat : Int)) = pure (.int .u64 ((x &&& y).toNat : Int)) := by
  show Op.intBits .and .u64 _ _ = _
  unfold Op.intBits
  simp only [IntKind.bits, bv64, back64]; rfl
theorem or64N (t : TypeId) (x y : UInt64) : binOp .or t (.int .u64 (x.toNat : Int)) (.int .u64 (y.toNat : Int)) = pure (.int .u64 ((x ||| y).toNat : Int)) := by
  show Op.intBits .or .u64 _ _ = _
  unfold Op.intBits
  simp only [IntKind.bits, bv64, back64]; rfl
theorem add64N (t : TypeId) (x y : UInt64) : binOp .add t (.int .u64 (x.toNat : Int)) (.int .u64 (y.toNat : Int)) = pure (.int .u64 ((x + y).toNat : Int)) := by
  show Op.intArith .add .u64 _ _ = _
  unfold Op.intArith
  simp only [w64, UInt64.toNat_add]
  congr 2
theorem not64N (x : UInt64) : Op.unary .xor (.int .u64 (x.toNat : Int)) = pure (.int .u64 ((~~~x).toNat : Int)) := by
  show Op.intBits .xor .u64 _ _ = _
  unfold Op.intBits
  have e : BitVec.ofInt 64 (if IntKind.u64.signed = true then (-1 : Int) else IntKind.u64.max) = BitVec.allOnes 64 := by decide
  simp only [IntKind.bits, bv64, e]
  rw [back64]
  have : BitVec.allOnes 64 ^^^ x.toBitVec = ~~~ x.toBitVec := by rw [BitVec.xor_comm]; exact BitVec.xor_allOnes
  exact congrArg (fun b : BitVec 64 => (pure (Value.int .u64 ((UInt64.ofBitVec b).toNat : Int)) : Sem Value)) this
theorem shl64N (x : UInt64) (q : IntKind) (k : Nat) (hk : k < 64) : Op.shift .shl .u64 (x.toNat : Int) q (k : Int) = pure (.int .u64 ((x <<< k.toUInt64).toNat : Int)) := by
  unfold Op.shift
  rw [if_neg (by omega)]
  simp only [IntKind.bits, Int.toNat_natCast, w64]
  rw [Nat.min_eq_left (by omega)]
  have e : (x <<< k.toUInt64).toNat = x.toNat * 2 ^ k % 18446744073709551616 := by
    rw [UInt64.toNat_shiftLeft, Nat.shiftLeft_eq]
    have h : k.toUInt64.toNat % 64 = k := by simp; omega
    rw [h]
  rw [e]
  simp
theorem shr64N (x : UInt64) (q : IntKind) (k : Nat) (hk : k < 64) : Op.shift .shr .u64 (x.toNat : Int) q (k : Int) = pure (.int .u64 ((x >>> k.toUInt64).toNat : Int)) := by
  unfold Op.shift
  rw [if_neg (by omega)]
  simp only [IntKind.bits, Int.toNat_natCast]
  rw [Nat.min_eq_left (by omega)]
  have e : (x >>> k.toUInt64).toNat = x.toNat / 2 ^ k := by
    rw [UInt64.toNat_shiftRight, Nat.shiftRight_eq_div_pow]
    have h : k.toUInt64.toNat % 64 = k := by simp; omega
    rw [h]
  rw [e]
  have : Int.fdiv (x.toNat : Int) (2 ^ k) = ((x.toNat / 2 ^ k : Nat) : Int) := by
    rw [Int.fdiv_eq_ediv_of_nonneg _ (by exact Int.le_of_lt (Int.pow_pos (by decide)))]
    simp
  rw [this]
theorem shl64vN (t : TypeId) (x : UInt64) (q : IntKind) (k : Nat) (hk : k < 64) : binOp .shl t (.int .u64 (x.toNat : Int)) (.int q (k : Int)) = pure (.int .u64 ((x <<< k.toUInt64).toNat : Int)) := shl64N x q k hk
theorem shr64vN (t : TypeId) (x : UInt64) (q : IntKind) (k : Nat) (hk : k < 64) : binOp .shr t (.int .u64 (x.toNat : Int)) (.int q (k : Int)) = pure (.int .u64 ((x >>> k.toUInt64).toNat : Int)) := shr64N x q k hk
theorem xor8N (t : TypeId) (x y : UInt8) : binOp .xor t (.int .u8 (x.toNat : Int)) (.int .u8 (y.toNat : Int)) = pure (.int .u8 ((x ^^^ y).toNat : Int)) := by
  show Op.intBits .xor .u8 _ _ = _
  unfold Op.intBits
  simp only [IntKind.bits, bv8, back8]; rfl
theorem and8N (t : TypeId) (x y : UInt8) : binOp .and t (.int .u8 (x.toNat : Int)) (.int .u8 (y.toNat : Int)) = pure (.int .u8 ((x &&& y).toNat : Int)) := by
  show Op.intBits .and .u8 _ _ = _
  unfold Op.intBits
  simp only [IntKind.bits, bv8, back8]; rfl
theorem add8N (t : TypeId) (x y : UInt8) : binOp .add t (.int .u8 (x.toNat : Int)) (.int .u8 (y.toNat : Int)) = pure (.int .u8 ((x + y).toNat : Int)) := by
  show Op.intArith .add .u8 _ _ = _
  unfold Op.intArith
  simp only [w8, UInt8.toNat_add]
  congr 2
theorem conv8to64N (x : UInt8) : Conv.intToInt .u64 (x.toNat : Int) = pure (.int .u64 (x.toUInt64.toNat : Int)) := by
  unfold Conv.intToInt
  rw [w64, UInt8.toNat_toUInt64]; have := x.toNat_lt; congr 2; omega
theorem conv64to8N (x : UInt64) : Conv.intToInt .u8 (x.toNat : Int) = pure (.int .u8 (x.toUInt8.toNat : Int)) := by
  unfold Conv.intToInt
  rw [w8]; simp
theorem xor64 (t : TypeId) (x y : UInt64) : binOp .xor t (.int .u64 (wi x)) (.int .u64 (wi y)) = pure (.int .u64 (wi (x ^^^ y))) := xor64N t x y
theorem and64 (t : TypeId) (x y : UInt64) : binOp .and t (.int .u64 (wi x)) (.int .u64 (wi y)) = pure (.int .u64 (wi (x &&& y))) := and64N t x y
theorem or64 (t : TypeId) (x y : UInt64) : binOp .or t (.int .u64 (wi x)) (.int .u64 (wi y)) = pure (.int .u64 (wi (x ||| y))) := or64N t x y
theorem add64 (t : TypeId) (x y : UInt64) : binOp .add t (.int .u64 (wi x)) (.int .u64 (wi y)) = pure (.int .u64 (wi (x + y))) := add64N t x y
theorem not64 (x : UInt64) : Op.unary .xor (.int .u64 (wi x)) = pure (.int .u64 (wi (~~~x))) := not64N x
theorem shl64v (t : TypeId) (x : UInt64) (q : IntKind) (k : Nat) (hk : k < 64) : binOp .shl t (.int .u64 (wi x)) (.int q (k : Int)) = pure (.int .u64 (wi (x <<< UInt64.ofNat k))) := shl64N x q k hk
theorem shr64v (t : TypeId) (x : UInt64) (q : IntKind) (k : Nat) (hk : k < 64) : binOp .shr t (.int .u64 (wi x)) (.int q (k : Int)) = pure (.int .u64 (wi (x >>> UInt64.ofNat k))) := shr64N x q k hk
theorem shl64_8 (t : TypeId) (x : UInt64) (q : IntKind) : binOp .shl t (.int .u64 (wi x)) (.int q 8) = pure (.int .u64 (wi (x <<< 8))) := shl64N x q 8 (by decide)
theorem shl64_3 (t : TypeId) (x : UInt64) (q : IntKind) : binOp .shl t (.int .u64 (wi x)) (.int q 3) = pure (.int .u64 (wi (x <<< 3))) := shl64N x q 3 (by decide)
theorem shr64_7 (t : TypeId) (x : UInt64) (q : IntKind) : binOp .shr t (.int .u64 (wi x)) (.int q 7) = pure (.int .u64 (wi (x >>> 7))) := shr64N x q 7 (by decide)
theorem shr64_6 (t : TypeId) (x : UInt64) (q : IntKind) : binOp .shr t (.int .u64 (wi x)) (.int q 6) = pure (.int .u64 (wi (x >>> 6))) := shr64N x q 6 (by decide)
theorem shr64_61 (t : TypeId) (x : UInt64) (q : IntKind) : binOp .shr t (.int .u64 (wi x)) (.int q 61) = pure (.int .u64 (wi (x >>> 61))) := shr64N x q 61 (by decide)
theorem xor8 (t : TypeId) (x y : UInt8) : binOp .xor t (.int .u8 (bi x)) (.int .u8 (bi y)) = pure (.int .u8 (bi (x ^^^ y))) := xor8N t x y
theorem and8 (t : TypeId) (x y : UInt8) : binOp .and t (.int .u8 (bi x)) (.int .u8 (bi y)) = pure (.int .u8 (bi (x &&& y))) := and8N t x y
theorem add8 (t : TypeId) (x y : UInt8) : binOp .add t (.int .u8 (bi x)) (.int .u8 (bi y)) = pure (.int .u8 (bi (x + y))) := add8N t x y
theorem conv8to64 (x : UInt8) : Conv.intToInt .u64 (bi x) = pure (.int .u64 (wi x.toUInt64)) := conv8to64N x
theorem conv64to8 (x : UInt64) : Conv.intToInt .u8 (wi x) = pure (.int .u8 (bi x.toUInt8)) := conv64to8N x
theorem rem256 (t : TypeId) (x : UInt64) : binOp .rem t (.int .u64 (wi x)) (.int .u64 256) = pure (.int .u64 (wi (x % 256))) := by
  have h : (wi x).tmod 256 = wi (x % 256) := by
    unfold wi
    rw [Int.tmod_eq_emod_of_nonneg (by omega), UInt64.toNat_mod]
    rfl
  simp [binOp, Op.intDiv, h]
theorem wrap8to64 (x : UInt8) : IntKind.u64.wrap (bi x) = wi x.toUInt64 := by
  unfold bi wi
  rw [w64, UInt8.toNat_toUInt64]; have := x.toNat_lt; omega
theorem wrap64to8 (x : UInt64) : IntKind.u8.wrap (wi x) = bi x.toUInt8 := by
  unfold bi wi
  rw [w8]; simp
end Go.Ub
