/-
  Prime numbers, plainly: Fermat's little theorem, and Pocklington's test, by which a great number is shown prime.
-/
import Derived.KernelRfl
set_option linter.unusedVariables false
set_option linter.unusedSimpArgs false
namespace Go.Pr

def Prim (p : Nat) : Prop := 2 ≤ p ∧ ∀ d, d ∣ p → d = 1 ∨ d = p
theorem Prim.pos {p : Nat} (h : Prim p) : 0 < p := by have := h.1; omega
theorem Prim.coprime {p a : Nat} (h : Prim p) (ha : ¬ p ∣ a) : Nat.Coprime p a := by
  rcases h.2 _ (Nat.gcd_dvd_left p a) with h1 | h1
  · exact h1
  · exact (ha (h1 ▸ Nat.gcd_dvd_right p a)).elim
theorem Prim.mul {p a b : Nat} (h : Prim p) (hd : p ∣ a * b) : p ∣ a ∨ p ∣ b := by
  by_cases ha : p ∣ a
  · exact .inl ha
  · exact .inr ((h.coprime ha).dvd_of_dvd_mul_left hd)

/-! ### Binomials -/
def choose : Nat → Nat → Nat
  | _, 0 => 1
  | 0, _ + 1 => 0
  | n + 1, k + 1 => choose n k + choose n (k + 1)
theorem choose_zero (n : Nat) : choose n 0 = 1 := by cases n <;> rfl
theorem choose_succ (n k : Nat) : choose (n + 1) (k + 1) = choose n k + choose n (k + 1) := rfl
theorem choose_gt : ∀ (n k : Nat), n < k → choose n k = 0
  | 0, k + 1, _ => rfl
  | n + 1, k + 1, h => by rw [choose_succ, choose_gt n k (by omega), choose_gt n (k + 1) (by omega)]
theorem choose_self : ∀ n : Nat, choose n n = 1
  | 0 => rfl
  | n + 1 => by rw [choose_succ, choose_self n, choose_gt n (n + 1) (by omega)]
theorem choose_mul : ∀ (n k : Nat), (n + 1) * choose n k = (k + 1) * choose (n + 1) (k + 1)
  | 0, 0 => rfl
  | 0, k + 1 => by rw [choose_succ, choose_gt 0 (k + 1) (by omega), choose_gt 0 (k + 1 + 1) (by omega)]; rfl
  | n + 1, 0 => by
    have h := choose_mul n 0
    rw [choose_zero] at h
    rw [choose_succ, choose_zero]
    omega
  | n + 1, k + 1 => by
    have h1 := choose_mul n k
    have h2 := choose_mul n (k + 1)
    have h3 : choose (n + 1) (k + 1) = choose n k + choose n (k + 1) := rfl
    have h4 : choose (n + 1 + 1) (k + 1 + 1) = choose (n + 1) (k + 1) + choose (n + 1) (k + 1 + 1) := rfl
    generalize choose (n + 1) (k + 1 + 1) = z at *
    generalize choose (n + 1) (k + 1) = y at *
    generalize choose (n + 1 + 1) (k + 1 + 1) = x at *
    generalize choose n k = u at *
    generalize choose n (k + 1) = v at *
    subst h4
    have e1 : (n + 1) * y = (k + 1) * y + (k + 1 + 1) * z := by rw [← h1, ← h2, ← Nat.mul_add, h3]
    rw [Nat.mul_add, Nat.add_mul (n + 1) 1 y, Nat.add_mul (k + 1) 1 y, e1]
    omega
/-- The first m terms of a binomial power. -/
def bs (a n : Nat) : Nat → Nat
  | 0 => 0
  | m + 1 => bs a n m + choose n m * a ^ m
theorem bs_succ (a n m : Nat) : bs a (n + 1) (m + 1) = bs a n (m + 1) + a * bs a n m := by
  induction m with
  | zero => simp [bs, choose_zero]
  | succ m ih =>
    have e1 : bs a (n + 1) (m + 1 + 1) = bs a (n + 1) (m + 1) + choose (n + 1) (m + 1) * a ^ (m + 1) := rfl
    have e2 : bs a n (m + 1 + 1) = bs a n (m + 1) + choose n (m + 1) * a ^ (m + 1) := rfl
    have e3 : a * bs a n (m + 1) = a * bs a n m + choose n m * a ^ (m + 1) := by
      show a * (bs a n m + choose n m * a ^ m) = _
      rw [Nat.mul_add, Nat.pow_succ]
      congr 1
      rw [Nat.mul_left_comm, Nat.mul_comm a]
    rw [e1, e2, e3, ih, choose_succ, Nat.add_mul]
    omega
theorem bs_pow (a n : Nat) : (a + 1) ^ n = bs a n (n + 1) := by
  induction n with
  | zero => simp [bs, choose_zero]
  | succ n ih =>
    rw [bs_succ, ← ih]
    have e : bs a n (n + 1 + 1) = bs a n (n + 1) := by
      show bs a n (n + 1) + choose n (n + 1) * a ^ (n + 1) = _
      rw [choose_gt n (n + 1) (by omega), Nat.zero_mul, Nat.add_zero]
    rw [e, ← ih, Nat.pow_succ, Nat.mul_add, Nat.mul_comm a]
    omega
theorem choose_dvd {s k : Nat} (hs : Prim s) (h0 : 0 < k) (h1 : k < s) : s ∣ choose s k := by
  obtain ⟨n, rfl⟩ : ∃ n, s = n + 1 := ⟨s - 1, by omega⟩
  obtain ⟨j, rfl⟩ : ∃ j, k = j + 1 := ⟨k - 1, by omega⟩
  have h := choose_mul n j
  rcases hs.mul (a := j + 1) (b := choose (n + 1) (j + 1)) ⟨choose n j, h.symm⟩ with hd | hd
  · exact absurd (Nat.le_of_dvd (by omega) hd) (by omega)
  · exact hd
theorem bs_mod (a s m : Nat) (hs : Prim s) (h0 : 0 < m) (h1 : m ≤ s) : bs a s m % s = 1 % s := by
  induction m with
  | zero => omega
  | succ m ih =>
    rcases Nat.eq_zero_or_pos m with rfl | hm
    · simp [bs, choose_zero]
    · show (bs a s m + choose s m * a ^ m) % s = _
      obtain ⟨c, hc⟩ := choose_dvd hs hm (by omega)
      rw [hc, Nat.mul_assoc, Nat.add_mul_mod_self_left]
      exact ih hm (by omega)
theorem fermat_all (s : Nat) (hs : Prim s) (a : Nat) : a ^ s % s = a % s := by
  induction a with
  | zero => rw [Nat.zero_pow hs.pos]
  | succ a ih =>
    rw [bs_pow]
    show (bs a s s + choose s s * a ^ s) % s = _
    rw [choose_self, Nat.one_mul, Nat.add_mod, bs_mod a s s hs hs.pos (Nat.le_refl _), ih, ← Nat.add_mod, Nat.add_comm]
theorem fermat {s : Nat} (hs : Prim s) {a : Nat} (ha : ¬ s ∣ a) : a ^ (s - 1) % s = 1 % s := by
  have h := fermat_all s hs a
  have h2 : s ∣ a * a ^ (s - 1) - a * 1 := by
    have e : a * a ^ (s - 1) = a ^ s := by rw [Nat.mul_comm, ← Nat.pow_succ]; congr 1; have := hs.pos; omega
    rw [e, Nat.mul_one]
    exact Nat.dvd_of_mod_eq_zero (Nat.sub_mod_eq_zero_of_mod_eq h)
  rw [← Nat.mul_sub] at h2
  have h3 : s ∣ a ^ (s - 1) - 1 := (hs.coprime ha).dvd_of_dvd_mul_left h2
  have h4 : 1 ≤ a ^ (s - 1) := Nat.pow_pos (by rcases Nat.eq_zero_or_pos a with rfl | h; exact (ha (Nat.dvd_zero s)).elim; exact h)
  obtain ⟨c, hc⟩ := h3
  rw [show a ^ (s - 1) = 1 + s * c by omega, Nat.add_mul_mod_self_left]

theorem pow_one_mul {b s m k : Nat} (h : b ^ m % s = 1 % s) : b ^ (m * k) % s = 1 % s := by
  rw [Nat.pow_mul, Nat.pow_mod, h, ← Nat.pow_mod, Nat.one_pow]
theorem pow_gcd {b s : Nat} (m n : Nat) : b ^ m % s = 1 % s → b ^ n % s = 1 % s → b ^ (Nat.gcd m n) % s = 1 % s := by
  induction m, n using Nat.gcd.induction with
  | H0 n => intro _ h; rw [Nat.gcd_zero_left]; exact h
  | H1 m n hm ih =>
    intro h1 h2
    rw [Nat.gcd_rec]
    refine ih ?_ h1
    have e : b ^ n % s = b ^ (n % m) % s := by
      conv => lhs; rw [← Nat.mod_add_div n m, Nat.pow_add, Nat.mul_mod, pow_one_mul h1, ← Nat.mul_mod, Nat.mul_one]
    rw [← e]; exact h2

/-! ### Powers, reckoned -/
def pm (m : Nat) : Nat → Nat → Nat → Nat
  | 0, _, _ => 1 % m
  | f + 1, b, e => if e = 0 then 1 % m else if e % 2 = 1 then b * pm m f (b * b % m) (e / 2) % m else pm m f (b * b % m) (e / 2)
theorem pm_eq (m : Nat) : ∀ (f b e : Nat), e < 2 ^ f → pm m f b e = b ^ e % m
  | 0, b, e, h => by
    have : e = 0 := by simpa using h
    subst this; rfl
  | f + 1, b, e, h => by
    have ih := pm_eq m f (b * b % m) (e / 2) (by rw [Nat.pow_succ] at h; omega)
    have e2 : (b * b % m) ^ (e / 2) % m = b ^ (2 * (e / 2)) % m := by rw [← Nat.pow_mod, ← Nat.pow_two, ← Nat.pow_mul]
    unfold pm
    by_cases h0 : e = 0
    · rw [if_pos h0, h0]; rfl
    · rw [if_neg h0, ih, e2]
      by_cases h1 : e % 2 = 1
      · rw [if_pos h1]
        conv => rhs; rw [show e = 2 * (e / 2) + 1 by omega, Nat.pow_succ, Nat.mul_comm]
        rw [Nat.mul_mod_mod]
      · rw [if_neg h1]
        conv => rhs; rw [show e = 2 * (e / 2) by omega]

/-! ### Pocklington -/
theorem least (N : Nat) (hN : 2 ≤ N) (h : ¬ Prim N) : ∃ s, Prim s ∧ s ∣ N ∧ s * s ≤ N := by
  induction N using Nat.strongRecOn with
  | _ N ih =>
    have : ∃ d, d ∣ N ∧ d ≠ 1 ∧ d ≠ N := by
      apply Classical.byContradiction
      intro hne
      exact h ⟨hN, fun d hd => by
        by_cases h1 : d = 1
        · exact .inl h1
        · by_cases h2 : d = N
          · exact .inr h2
          · exact (hne ⟨d, hd, h1, h2⟩).elim⟩
    obtain ⟨d, hd, h1, h2⟩ := this
    obtain ⟨e, he⟩ := hd
    have hd0 : d ≠ 0 := by rintro rfl; omega
    have he0 : e ≠ 0 := by rintro rfl; omega
    have he1 : e ≠ 1 := by rintro rfl; omega
    -- the lesser of d and e
    have key : ∀ x y : Nat, N = x * y → 2 ≤ x → x ≤ y → ∃ s, Prim s ∧ s ∣ N ∧ s * s ≤ N := by
      intro x y hxy hx hle
      have hxN : x < N := by
        have : x * 2 ≤ x * y := Nat.mul_le_mul_left _ (by omega)
        omega
      by_cases hp : Prim x
      · exact ⟨x, hp, ⟨y, hxy⟩, by rw [hxy]; exact Nat.mul_le_mul_left _ hle⟩
      · obtain ⟨s, hs, hsx, hss⟩ := ih x hxN hx hp
        exact ⟨s, hs, Nat.dvd_trans hsx ⟨y, hxy⟩, by omega⟩
    rcases Nat.le_total d e with hle | hle
    · exact key d e he (by omega) hle
    · exact key e d (by rw [he, Nat.mul_comm]) (by omega) hle
theorem pock (N F : Nat) (hN : 2 ≤ N) (hF : N < (F + 1) * (F + 1)) (h : ∀ s, Prim s → s ∣ N → F ∣ s - 1) : Prim N := by
  apply Classical.byContradiction
  intro hn
  obtain ⟨s, hs, hd, hss⟩ := least N hN hn
  have h1 := Nat.le_of_dvd (by have := hs.1; omega) (h s hs hd)
  have : (F + 1) * (F + 1) ≤ s * s := Nat.mul_le_mul (by have := hs.1; omega) (by have := hs.1; omega)
  omega
theorem step (N a q f : Nat) (hq : Prim q) (m : Nat) (hm : N - 1 = m * q) (hN : 2 ≤ N) (hf : N - 1 < 2 ^ f) (h1 : pm N f a (N - 1) = 1) (h2 : Nat.gcd (pm N f a m + (N - 1)) N = 1) :
    ∀ s, Prim s → s ∣ N → q ∣ s - 1 := by
  intro s hs hsN
  apply Classical.byContradiction
  intro hq1
  have hmle : m < 2 ^ f := by
    have : m * 1 ≤ m * q := Nat.mul_le_mul_left _ hq.pos
    omega
  rw [pm_eq N f a _ hf] at h1
  rw [pm_eq N f a _ hmle] at h2
  obtain ⟨c, rfl⟩ := hsN
  have hb : (a ^ m) ^ q % s = 1 % s := by
    rw [← Nat.pow_mul, ← hm]
    have := congrArg (· % s) h1
    simp only [Nat.mod_mul_right_mod] at this
    exact this
  have hna : ¬ s ∣ a ^ m := by
    rintro ⟨t, ht⟩
    rw [ht, Nat.mul_pow, Nat.mod_eq_zero_of_dvd (Nat.dvd_trans (Nat.dvd_mul_right s (s ^ (q - 1))) (by rw [← Nat.pow_succ', show (q - 1).succ = q by have := hq.pos; omega]; exact Nat.dvd_mul_right _ _)), Nat.mod_eq_of_lt (by have := hs.1; omega)] at hb
    omega
  have hg := pow_gcd q (s - 1) hb (fermat hs hna)
  rw [show Nat.gcd q (s - 1) = 1 from hq.coprime hq1, Nat.pow_one] at hg
  have hd : s ∣ Nat.gcd (a ^ m % (s * c) + (s * c - 1)) (s * c) := by
    refine Nat.dvd_gcd ?_ (Nat.dvd_mul_right s c)
    have e1 : a ^ m % (s * c) % s = 1 := by rw [Nat.mod_mul_right_mod, hg, Nat.mod_eq_of_lt hs.1]
    have e2 := Nat.mod_add_div (a ^ m % (s * c)) s
    rw [e1] at e2
    rw [show a ^ m % (s * c) + (s * c - 1) = s * (a ^ m % (s * c) / s) + s * c by omega, ← Nat.mul_add]
    exact Nat.dvd_mul_right _ _
  rw [h2] at hd
  have := Nat.le_of_dvd (by omega) hd
  have := hs.1
  omega

/-! ### Small primes, by trial -/
def noDiv (n : Nat) : Nat → Nat → Bool
  | 0, _ => true
  | f + 1, d => n % d != 0 && noDiv n f (d + 1)
theorem noDiv_ne (n : Nat) : ∀ (f d : Nat), noDiv n f d = true → ∀ e, d ≤ e → e < d + f → n % e ≠ 0
  | 0, d, _, e, h1, h2 => by omega
  | f + 1, d, h, e, h1, h2 => by
    simp only [noDiv, Bool.and_eq_true, bne_iff_ne] at h
    by_cases he : e = d
    · rw [he]; exact h.1
    · exact noDiv_ne n f (d + 1) h.2 e (by omega) (by omega)
theorem small (n f : Nat) (hn : 2 ≤ n) (hf : n < (f + 2) * (f + 2)) (h : noDiv n f 2 = true) : Prim n := by
  apply Classical.byContradiction
  intro hp
  obtain ⟨s, hs, hd, hss⟩ := least n hn hp
  refine noDiv_ne n f 2 h s hs.1 ?_ (Nat.mod_eq_zero_of_dvd hd)
  apply Classical.byContradiction
  intro hge
  have : (f + 2) * (f + 2) ≤ s * s := Nat.mul_le_mul (by omega) (by omega)
  omega
end Go.Pr
