/-
  The plain side: what the reference's small functions compute, in words and bytes.
-/
import Derived.Test.YtnaiifidcpdamaaDoorKh
set_option linter.unusedVariables false
set_option linter.unusedSimpArgs false
namespace Go.Proofs.YtnaiifidcpdamaaDoor
open Go.RowKit Go.Og Go.Ub Go.Proofs.YtnaiifidcpdamaaDoorW.PrintWords Go.Proofs.YtnaiifidcpdamaaDoorW.PrintMore Go.Proofs.YtnaiifidcpdamaaDoor.PShaLongs
theorem wi_eq (x : UInt64) : wi x = (x.toNat : Int) := rfl
theorem bi_eq (x : UInt8) : bi x = (x.toNat : Int) := rfl
theorem wrap64_id (x : Int) (h0 : 0 ≤ x) (h1 : x < 9223372036854775808) : wrap64 x = x := by unfold wrap64; omega
theorem wrapu_id (x : Int) (h0 : 0 ≤ x) (h1 : x < 18446744073709551616) : IntKind.u64.wrap x = x := by rw [Ub.w64]; omega
theorem bits_or_wi (a b : UInt64) : Go.bits .or .u64 (wi a) (wi b) = wi (a ||| b) := by
  rw [wi_eq, wi_eq, u64_or_nat _ _ a.toNat_lt b.toNat_lt, wi_eq, UInt64.toNat_or]
theorem bits_and_wi (a b : UInt64) : Go.bits .and .u64 (wi a) (wi b) = wi (a &&& b) := by
  rw [wi_eq, wi_eq, u64_and_nat _ _ a.toNat_lt b.toNat_lt, wi_eq, UInt64.toNat_and]
theorem not_wi (e : UInt64) : IntKind.u64.wrap (18446744073709551615 - wi e) = wi (~~~e) := by
  have h := e.toNat_lt
  rw [Ub.w64, wi_eq, wi_eq, UInt64.toNat_not]
  simp only [UInt64.size]
  omega
theorem choose_eq (e f g : UInt64) : (e &&& f) ||| (g &&& ~~~e) = (e &&& f) ^^^ (~~~e &&& g) := by
  apply UInt64.eq_of_toBitVec_eq
  ext i hi
  simp
  cases e.toBitVec[i] <;> cases f.toBitVec[i] <;> cases g.toBitVec[i] <;> rfl
theorem major_eq (a b c : UInt64) : ((a &&& b) ||| (a &&& c)) ||| (b &&& c) = (a &&& b) ^^^ (a &&& c) ^^^ (b &&& c) := by
  apply UInt64.eq_of_toBitVec_eq
  ext i hi
  simp
  cases a.toBitVec[i] <;> cases b.toBitVec[i] <;> cases c.toBitVec[i] <;> rfl
theorem choose_p (e f g : UInt64) : escutcheonref02_choose.f (wi e) (wi f) (wi g) = some (wi (e &&& f ^^^ ~~~e &&& g)) := by
  unfold escutcheonref02_choose.f
  rw [not_wi, bits_and_wi, bits_and_wi, bits_or_wi, choose_eq]
theorem major_p (a b c : UInt64) : escutcheonref02_major.f (wi a) (wi b) (wi c) = some (wi (a &&& b ^^^ a &&& c ^^^ b &&& c)) := by
  unfold escutcheonref02_major.f
  rw [bits_and_wi, bits_and_wi, bits_and_wi, bits_or_wi, bits_or_wi, major_eq]
/-- A word turned right, as a number. -/
def rn (x n : Nat) : Nat := x / 2 ^ n + x % 2 ^ n * 2 ^ (64 - n)
theorem rotr_nat (x : UInt64) (n : Nat) (h : n < 64) : (rotr x n).toNat = rn x.toNat n := by
  unfold rotr rn
  rw [UInt64.toNat_or, UInt64.toNat_shiftLeft, UInt64.toNat_shiftRight, Nat.shiftLeft_eq, Nat.shiftRight_eq_div_pow]
  have hx := x.toNat_lt
  have h1 : n.toUInt64.toNat % 64 = n := by simp; omega
  rw [h1]
  rcases Nat.eq_zero_or_pos n with rfl | hn
  · simp [Nat.mod_one]
  · have h2 : (64 - n).toUInt64.toNat % 64 = 64 - n := by simp; omega
    rw [h2]
    have e : x.toNat * 2 ^ (64 - n) % 2 ^ 64 = x.toNat % 2 ^ n * 2 ^ (64 - n) := by
      have : (2 : Nat) ^ 64 = 2 ^ n * 2 ^ (64 - n) := by rw [← Nat.pow_add]; congr 1; omega
      rw [this, Nat.mul_mod_mul_right]
    rw [e, nat_join (64 - n)]
    · omega
    · exact Nat.mul_mod_left _ _
    · rw [Nat.div_lt_iff_lt_mul (Nat.two_pow_pos _), ← Nat.pow_add, show 64 - n + n = 64 by omega]
      exact hx
theorem rn_zero (x : Nat) : rn x 0 = x := by simp [rn, Nat.mod_one]
theorem rn_succ (x n : Nat) (h : n < 63) : rn x (n + 1) = rn x n / 2 + rn x n % 2 * 9223372036854775808 := by
  unfold rn
  have e1 : (2 : Nat) ^ (64 - n) = 2 * 2 ^ (63 - n) := by rw [show 64 - n = (63 - n) + 1 by omega, Nat.pow_succ, Nat.mul_comm]
  have e2 : x / 2 ^ (n + 1) = x / 2 ^ n / 2 := by rw [Nat.pow_succ, Nat.div_div_eq_div_mul]
  have e3 : x % 2 ^ (n + 1) = x % 2 ^ n + 2 ^ n * (x / 2 ^ n % 2) := by rw [Nat.pow_succ, Nat.mod_mul]
  have e4 : (2 : Nat) ^ n * 2 ^ (63 - n) = 9223372036854775808 := by rw [← Nat.pow_add, show n + (63 - n) = 63 by omega]
  have e5 : 64 - (n + 1) = 63 - n := by omega
  rw [e1, e2, e3, e5, Nat.add_mul, Nat.mul_right_comm, e4]
  generalize x / 2 ^ n = a
  generalize x % 2 ^ n = b
  generalize 2 ^ (63 - n) = c
  have e6 : b * (2 * c) = 2 * (b * c) := by rw [Nat.mul_left_comm]
  rw [e6]
  generalize b * c = d
  omega
theorem turn_p (x : UInt64) (n : Nat) (hn : n < 64) : ∀ k, n < k → escutcheonref02_Turn.f k (wi x) n = some (wi (rotr x n)) := by
  intro k hk
  unfold escutcheonref02_Turn.f
  rw [wi_eq (rotr x n), rotr_nat x n hn]
  have key : ∀ d i k, i + d = n → d < k → escutcheonref02_Turn.l0 k ((rn x.toNat i : Nat) : Int) n i = some ((rn x.toNat n : Nat) : Int) := by
    intro d
    induction d with
    | zero =>
      intro i k hi hk
      obtain ⟨k, rfl⟩ : ∃ m, k = m + 1 := ⟨k - 1, by omega⟩
      simp only [escutcheonref02_Turn.l0]
      rw [if_neg (by omega), show i = n by omega]
    | succ d ih =>
      intro i k hi hk
      obtain ⟨k, rfl⟩ : ∃ m, k = m + 1 := ⟨k - 1, by omega⟩
      simp only [escutcheonref02_Turn.l0]
      rw [if_pos (by omega)]
      have hs := rn_succ x.toNat i (by omega)
      have hlt : rn x.toNat i < 18446744073709551616 := by rw [← rotr_nat x i (by omega)]; exact (rotr x i).toNat_lt
      have hw : wrap64 ((i : Int) + 1) = ((i + 1 : Nat) : Int) := by rw [wrap64_id _ (by omega) (by omega)]; simp
      rw [hw]
      have hih := ih (i + 1) k (by omega) (by omega)
      rw [hs] at hih
      generalize rn x.toNat i = y at *
      have t1 : Int.tmod (y : Int) 2 = ((y % 2 : Nat) : Int) := by rw [Int.tmod_eq_emod_of_nonneg (by omega)]; simp
      have t2 : Int.tdiv (y : Int) 2 = ((y / 2 : Nat) : Int) := by rw [Int.tdiv_eq_ediv_of_nonneg (by omega)]; simp
      rw [t1, t2]
      split
      · rename_i h1
        have h2 : y % 2 = 1 := by omega
        rw [wrapu_id ((y / 2 : Nat) : Int) (by omega) (by omega), wrapu_id _ (by omega) (by omega)]
        rw [h2] at hih
        rw [← hih]
        congr 1
      · rename_i h1
        have h2 : y % 2 = 0 := by omega
        rw [wrapu_id _ (by omega) (by omega)]
        rw [h2] at hih
        rw [← hih]
        congr 1
  have := key n 0 k (by omega) (by omega)
  rw [rn_zero] at this
  exact this
theorem down_p (x : UInt64) (n : Nat) (hn : n < 64) : ∀ k, n < k → escutcheonref02_down.f k (wi x) n = some (wi (x >>> UInt64.ofNat n)) := by
  intro k hk
  unfold escutcheonref02_down.f
  have e : wi (x >>> UInt64.ofNat n) = ((x.toNat / 2 ^ n : Nat) : Int) := by
    rw [wi_eq, UInt64.toNat_shiftRight, Nat.shiftRight_eq_div_pow]
    have h1 : (UInt64.ofNat n).toNat % 64 = n := by simp; omega
    rw [h1]
  rw [e]
  have hx := x.toNat_lt
  have key : ∀ d i k, i + d = n → d < k → escutcheonref02_down.l0 k ((x.toNat / 2 ^ i : Nat) : Int) n i = some ((x.toNat / 2 ^ n : Nat) : Int) := by
    intro d
    induction d with
    | zero =>
      intro i k hi hk
      obtain ⟨k, rfl⟩ : ∃ m, k = m + 1 := ⟨k - 1, by omega⟩
      simp only [escutcheonref02_down.l0]
      rw [if_neg (by omega), show i = n by omega]
    | succ d ih =>
      intro i k hi hk
      obtain ⟨k, rfl⟩ : ∃ m, k = m + 1 := ⟨k - 1, by omega⟩
      simp only [escutcheonref02_down.l0]
      rw [if_pos (by omega)]
      have hw : wrap64 ((i : Int) + 1) = ((i + 1 : Nat) : Int) := by rw [wrap64_id _ (by omega) (by omega)]; simp
      rw [hw]
      have hih := ih (i + 1) k (by omega) (by omega)
      rw [Nat.pow_succ, ← Nat.div_div_eq_div_mul] at hih
      have hle : x.toNat / 2 ^ i ≤ x.toNat := Nat.div_le_self _ _
      generalize x.toNat / 2 ^ i = y at *
      have t2 : Int.tdiv (y : Int) 2 = ((y / 2 : Nat) : Int) := by rw [Int.tdiv_eq_ediv_of_nonneg (by omega)]; simp
      rw [t2, wrapu_id _ (by omega) (by omega)]
      exact hih
  have := key n 0 k (by omega) (by omega)
  rw [Nat.pow_zero, Nat.div_one] at this
  exact this
/-- A word and a byte behind it. -/
theorem shl_or (a : UInt64) (c : UInt8) : wi (a <<< 8 ||| c.toUInt64) = (wi a * 256 + bi c) % 18446744073709551616 := by
  rw [wi_eq, wi_eq, bi_eq, UInt64.toNat_or, UInt64.toNat_shiftLeft, Nat.shiftLeft_eq, UInt8.toNat_toUInt64]
  have h8 : (8 : UInt64).toNat % 64 = 8 := by decide
  have hc := c.toNat_lt
  rw [h8, nat_join 8]
  · omega
  · omega
  · exact hc
theorem word_p (l : List UInt8) (hl : l.length = 8) : ∀ k, 8 < k → escutcheonref02_word.f k (l.map bi) = some (wi (be l)) := by
  intro k hk
  unfold escutcheonref02_word.f
  have key : ∀ d i k, i + d = 8 → d < k → escutcheonref02_word.l0 k (l.map bi) (wi (be (l.take i))) i = some (wi (be l)) := by
    intro d
    induction d with
    | zero =>
      intro i k hi hk
      obtain ⟨k, rfl⟩ : ∃ m, k = m + 1 := ⟨k - 1, by omega⟩
      simp only [escutcheonref02_word.l0]
      rw [if_neg (by omega), List.take_of_length_le (by omega)]
    | succ d ih =>
      intro i k hi hk
      obtain ⟨k, rfl⟩ : ∃ m, k = m + 1 := ⟨k - 1, by omega⟩
      simp only [escutcheonref02_word.l0]
      rw [if_pos (by omega), if_pos (by omega), if_pos (by rw [List.length_map]; omega)]
      have hw : wrap64 ((i : Int) + 1) = ((i + 1 : Nat) : Int) := by rw [wrap64_id _ (by omega) (by omega)]; simp
      rw [hw, rd_bytes]
      have hih := ih (i + 1) k (by omega) (by omega)
      have ht : l.take (i + 1) = l.take i ++ [l.getD i 0] := by
        rw [List.take_succ_eq_append_getElem (by omega), List.getD_eq_getElem?_getD, List.getElem?_eq_getElem (by omega), Option.getD_some]
      rw [ht, be_snoc, shl_or] at hih
      rw [← hih]
      congr 1
      have := bi_lo (l.getD i 0)
      have := bi_hi (l.getD i 0)
      have := wi_lo (be (l.take i))
      rw [Ub.w64, Ub.w64, Ub.w64]
      omega
  have := key 8 0 k (by omega) (by omega)
  rw [List.take_zero] at this
  exact this
end Go.Proofs.YtnaiifidcpdamaaDoor
