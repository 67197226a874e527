/-
  Numbers of four words of 64 bits: the words of a natural number, carries and borrows.
-/
import GoSem.Core.Value
set_option linter.unusedVariables false
set_option linter.unusedSimpArgs false
namespace Go.Nm
/-- 2^64. -/
def W : Nat := 18446744073709551616
/-- Word number i of n. -/
def wd (n i : Nat) : Nat := n / W ^ i % W
/-- What goes over into word number k. -/
def cy (a b k : Nat) : Nat := (a % W ^ k + b % W ^ k) / W ^ k
/-- What is lacking at word number k. -/
def bw (a b k : Nat) : Nat := if a % W ^ k < b % W ^ k then 1 else 0
theorem W_pos : 0 < W := by decide
theorem Wk_pos (k : Nat) : 0 < W ^ k := Nat.pow_pos W_pos
theorem wd_lt (n i : Nat) : wd n i < W := Nat.mod_lt _ W_pos
theorem cy_le (a b k : Nat) : cy a b k ≤ 1 := by
  unfold cy
  have h1 := Nat.mod_lt a (Wk_pos k)
  have h2 := Nat.mod_lt b (Wk_pos k)
  exact Nat.le_of_lt_succ (Nat.div_lt_of_lt_mul (by omega))
theorem bw_le (a b k : Nat) : bw a b k ≤ 1 := by unfold bw; split <;> omega
theorem cy_zero (a b : Nat) : cy a b 0 = 0 := by simp [cy, Nat.mod_one]
theorem bw_zero (a b : Nat) : bw a b 0 = 0 := by simp [bw, Nat.mod_one]
theorem mod_succ (a k : Nat) : a % W ^ (k + 1) = W ^ k * wd a k + a % W ^ k := by
  rw [Nat.pow_succ, Nat.mod_mul, Nat.add_comm]
  rfl
theorem sum_word (a b k : Nat) : (wd a k + wd b k + cy a b k) % W = wd (a + b) k := by
  unfold wd cy
  have e : (a + b) / W ^ k = a / W ^ k + b / W ^ k + (a % W ^ k + b % W ^ k) / W ^ k := by
    rw [Nat.add_div (Wk_pos k)]
    congr 1
    have h1 := Nat.mod_lt a (Wk_pos k)
    have h2 := Nat.mod_lt b (Wk_pos k)
    split
    · rename_i h
      rw [Nat.div_eq_of_lt_le (k := 1)] <;> omega
    · rename_i h
      rw [Nat.div_eq_of_lt (by omega)]
  rw [e]
  simp only [Nat.add_mod, Nat.mod_mod]
theorem sum_carry (a b k : Nat) : (wd a k + wd b k + cy a b k) / W = cy a b (k + 1) := by
  unfold cy
  rw [mod_succ a, mod_succ b, Nat.pow_succ, ← Nat.div_div_eq_div_mul]
  congr 1
  rw [show W ^ k * wd a k + a % W ^ k + (W ^ k * wd b k + b % W ^ k) = (a % W ^ k + b % W ^ k) + W ^ k * (wd a k + wd b k) by rw [Nat.mul_add]; omega]
  rw [Nat.add_mul_div_left _ _ (Wk_pos k)]
  omega
theorem wd_add_mul (a c k n : Nat) (h : k < n) : wd (a + W ^ n * c) k = wd a k := by
  unfold wd
  obtain ⟨m, rfl⟩ : ∃ m, n = k + 1 + m := ⟨n - (k + 1), by omega⟩
  rw [show W ^ (k + 1 + m) * c = W ^ k * (W * (W ^ m * c)) by rw [Nat.pow_add, Nat.pow_succ]; simp only [Nat.mul_assoc]]
  rw [Nat.add_mul_div_left _ _ (Wk_pos k), Nat.add_mul_mod_self_left]
theorem mod_add_mul (a c k n : Nat) (h : k ≤ n) : (a + W ^ n * c) % W ^ k = a % W ^ k := by
  obtain ⟨m, rfl⟩ : ∃ m, n = k + m := ⟨n - k, by omega⟩
  rw [Nat.pow_add, Nat.mul_assoc, Nat.add_mul_mod_self_left]
theorem cy_diff (a b n k : Nat) (h : k ≤ n) (hb : b ≤ a + W ^ n) : cy (a + W ^ n - b) b k = bw a b k := by
  have e : (a + W ^ n - b) + b = a + W ^ n * 1 := by omega
  have h0 : ((a + W ^ n - b) % W ^ k + b % W ^ k) % W ^ k = a % W ^ k := by
    rw [← Nat.add_mod, e, mod_add_mul _ _ _ _ h]
  unfold cy bw
  have hM := Wk_pos k
  have h1 := Nat.mod_lt (a + W ^ n - b) hM
  have h2 := Nat.mod_lt b hM
  generalize (a + W ^ n - b) % W ^ k = r at *
  generalize b % W ^ k = r' at *
  generalize a % W ^ k = s at *
  generalize W ^ k = M at *
  by_cases hc : r + r' < M
  · rw [Nat.mod_eq_of_lt hc] at h0
    rw [Nat.div_eq_of_lt hc, if_neg (by omega)]
  · have e2 : (r + r') % M = r + r' - M := by
      rw [Nat.mod_eq_sub_mod (by omega), Nat.mod_eq_of_lt (by omega)]
    rw [e2] at h0
    rw [if_pos (by omega), Nat.div_eq_of_lt_le (k := 1)] <;> omega
theorem diff_word (a b n k : Nat) (h : k < n) (hb : b ≤ a + W ^ n) : (wd a k + W - wd b k - bw a b k) % W = wd (a + W ^ n - b) k := by
  have h1 := sum_word (a + W ^ n - b) b k
  rw [show (a + W ^ n - b) + b = a + W ^ n * 1 by omega, wd_add_mul _ _ _ _ h, cy_diff a b n k (by omega) hb] at h1
  have l1 := wd_lt a k
  have l2 := wd_lt b k
  have l3 := wd_lt (a + W ^ n - b) k
  have l4 := bw_le a b k
  unfold W at *
  omega
theorem diff_borrow (a b k : Nat) : (if wd a k < wd b k + bw a b k then 1 else 0) = bw a b (k + 1) := by
  unfold bw
  rw [mod_succ a, mod_succ b]
  have h1 := Nat.mod_lt a (Wk_pos k)
  have h2 := Nat.mod_lt b (Wk_pos k)
  generalize a % W ^ k = r at *
  generalize b % W ^ k = r' at *
  generalize wd a k = x at *
  generalize wd b k = y at *
  generalize W ^ k = M at *
  rcases Nat.lt_trichotomy x y with h | h | h
  · have : M * (x + 1) ≤ M * y := Nat.mul_le_mul_left _ h
    rw [Nat.mul_add] at this
    rw [if_pos (show x < y + _ by omega), if_pos (by omega)]
  · subst h
    by_cases hr : r < r'
    · rw [if_pos hr, if_pos (by omega), if_pos (by omega)]
    · rw [if_neg hr, if_neg (by omega), if_neg (by omega)]
  · have : M * (y + 1) ≤ M * x := Nat.mul_le_mul_left _ h
    rw [Nat.mul_add] at this
    rw [if_neg (show ¬ x < y + _ by split <;> omega), if_neg (by omega)]

/-- A number of four words as a value. -/
def num (n : Nat) : Value := .agg #[.int .u64 (wd n 0 : Nat), .int .u64 (wd n 1 : Nat), .int .u64 (wd n 2 : Nat), .int .u64 (wd n 3 : Nat)]
theorem wd_mod4 (n k : Nat) (h : k < 4) : wd (n % W ^ 4) k = wd n k := by
  have e := wd_add_mul (n % W ^ 4) (n / W ^ 4) k 4 h
  rw [Nat.mod_add_div] at e
  exact e.symm
theorem num_mod (n : Nat) : num (n % W ^ 4) = num n := by simp only [num, wd_mod4 n _ (show 0 < 4 by decide), wd_mod4 n _ (show 1 < 4 by decide), wd_mod4 n _ (show 2 < 4 by decide), wd_mod4 n _ (show 3 < 4 by decide)]
/-- The number of four words. -/
theorem of_words (n : Nat) : n % W ^ 4 = wd n 0 + W * wd n 1 + W ^ 2 * wd n 2 + W ^ 3 * wd n 3 := by
  rw [mod_succ n 3, mod_succ n 2, mod_succ n 1, mod_succ n 0]
  simp only [Nat.pow_zero, Nat.mod_one, Nat.one_mul, Nat.pow_one, Nat.reduceAdd]
  omega
theorem num_inj {a b : Nat} (ha : a < W ^ 4) (hb : b < W ^ 4) (h : num a = num b) : a = b := by
  simp only [num] at h
  have h := congrArg (fun v : Value => match v with | .agg c => c.toList | _ => []) h
  simp only [List.cons.injEq, Value.int.injEq, true_and, and_true] at h
  obtain ⟨h0, h1, h2, h3⟩ := h
  rw [← Nat.mod_eq_of_lt ha, ← Nat.mod_eq_of_lt hb, of_words, of_words, Int.ofNat.inj h0, Int.ofNat.inj h1, Int.ofNat.inj h2, Int.ofNat.inj h3]
end Go.Nm
