/-
  Numbers as digits from 0 to 65,535, the lowest first.
-/
import Derived.WalkKit
set_option linter.unusedVariables false
set_option linter.unusedSimpArgs false
namespace Go.Dg
/-- The base. -/
def D : Nat := 65536
def val : List Int → Nat
  | [] => 0
  | d :: l => d.toNat + D * val l
/-- Each is a digit. -/
def Ok (l : List Int) : Prop := ∀ d ∈ l, 0 ≤ d ∧ d < 65536
/-- A number's digits, without noughts at the end. -/
def dig (n : Nat) : List Int := if h : n = 0 then [] else ((n % 65536 : Nat) : Int) :: dig (n / 65536)
termination_by n
decreasing_by omega

theorem D_pos : 0 < D := by decide
theorem Dk_pos (k : Nat) : 0 < D ^ k := Nat.pow_pos D_pos
theorem dig_zero : dig 0 = [] := by rw [dig]; simp
theorem dig_pos (n : Nat) (h : n ≠ 0) : dig n = ((n % 65536 : Nat) : Int) :: dig (n / 65536) := by rw [dig]; simp [h]
theorem Ok.nil : Ok [] := fun d h => by cases h
theorem Ok.cons {d : Int} {l : List Int} (h0 : 0 ≤ d) (h1 : d < 65536) (h : Ok l) : Ok (d :: l) := by
  intro e he
  rcases List.mem_cons.1 he with rfl | he
  · exact ⟨h0, h1⟩
  · exact h e he
theorem Ok.tail {d : Int} {l : List Int} (h : Ok (d :: l)) : Ok l := fun e he => h e (List.mem_cons_of_mem _ he)
theorem Ok.append {l m : List Int} (h : Ok l) (k : Ok m) : Ok (l ++ m) := by
  intro d hd
  rcases List.mem_append.1 hd with hd | hd
  · exact h d hd
  · exact k d hd
theorem Ok.take {l : List Int} (h : Ok l) (n : Nat) : Ok (l.take n) := fun d hd => h d (List.mem_of_mem_take hd)
theorem Ok.drop {l : List Int} (h : Ok l) (n : Nat) : Ok (l.drop n) := fun d hd => h d (List.mem_of_mem_drop hd)
theorem Ok.one {d : Int} (h0 : 0 ≤ d) (h1 : d < 65536) : Ok [d] := Ok.nil.cons h0 h1
theorem Ok.set {l : List Int} (h : Ok l) (n : Nat) {d : Int} (h0 : 0 ≤ d) (h1 : d < 65536) : Ok (l.set n d) := by
  intro e he
  rcases List.mem_or_eq_of_mem_set he with he | rfl
  · exact h e he
  · exact ⟨h0, h1⟩
theorem Ok.rd {l : List Int} (h : Ok l) (i : Nat) : 0 ≤ l.getD i 0 ∧ l.getD i 0 < 65536 := by
  rcases Nat.lt_or_ge i l.length with hi | hi
  · rw [List.getD_eq_getElem?_getD, List.getElem?_eq_getElem hi]; exact h _ (List.getElem_mem hi)
  · rw [List.getD_eq_getElem?_getD, List.getElem?_eq_none hi]; exact ⟨Int.le_refl 0, by decide⟩
theorem Ok.dig (n : Nat) : Ok (dig n) := by
  induction n using Nat.strongRecOn with
  | _ n ih =>
    by_cases h : n = 0
    · subst h; rw [dig_zero]; exact Ok.nil
    · rw [dig_pos n h]; exact (ih _ (by omega)).cons (by omega) (by omega)
theorem val_nil : val [] = 0 := rfl
theorem val_cons (d : Int) (l : List Int) : val (d :: l) = d.toNat + D * val l := rfl
theorem val_append (l m : List Int) : val (l ++ m) = val l + D ^ l.length * val m := by
  induction l with
  | nil => simp [val]
  | cons d l ih => rw [List.cons_append, val_cons, val_cons, ih, List.length_cons, Nat.pow_succ, Nat.mul_add, Nat.add_assoc, ← Nat.mul_assoc, Nat.mul_comm D (D ^ l.length)]
theorem val_one (d : Int) : val [d] = d.toNat := by simp [val]
theorem val_dig (n : Nat) : val (dig n) = n := by
  induction n using Nat.strongRecOn with
  | _ n ih =>
    by_cases h : n = 0
    · subst h; rw [dig_zero]; rfl
    · rw [dig_pos n h, val_cons, ih _ (by omega)]
      unfold D
      omega
theorem val_lt {l : List Int} (h : Ok l) : val l < D ^ l.length := by
  induction l with
  | nil => simp [val]
  | cons d l ih =>
    have h1 := ih h.tail
    have h2 := h d (List.mem_cons_self ..)
    rw [val_cons, List.length_cons, Nat.pow_succ]
    have h3 : D * (val l + 1) ≤ D * D ^ l.length := Nat.mul_le_mul_left D h1
    rw [Nat.mul_add] at h3
    rw [Nat.mul_comm (D ^ l.length)]
    unfold D at *
    omega
/-- A list without noughts at the end is its number's digits. -/
theorem dig_val {l : List Int} (h : Ok l) (hl : ∀ d, l.getLast? = some d → d ≠ 0) : dig (val l) = l := by
  induction l with
  | nil => exact dig_zero
  | cons d l ih =>
    have h2 := h d (List.mem_cons_self ..)
    have hv : val (d :: l) ≠ 0 := by
      intro h0
      cases l with
      | nil =>
        have := hl d (by simp)
        rw [val_one] at h0
        omega
      | cons e l =>
        have hl' : ∀ x, (e :: l).getLast? = some x → x ≠ 0 := fun x hx => hl x (by rw [List.getLast?_cons_cons]; exact hx)
        have := ih h.tail hl'
        rw [val_cons] at h0
        have h3 : val (e :: l) = 0 := by unfold D at h0; omega
        rw [h3, dig_zero] at this
        cases this
    have hl' : ∀ x, l.getLast? = some x → x ≠ 0 := fun x hx => hl x (by
      cases l with
      | nil => cases hx
      | cons e l => rw [List.getLast?_cons_cons]; exact hx)
    rw [dig_pos _ hv, val_cons]
    have e1 : (d.toNat + D * val l) % 65536 = d.toNat := by unfold D; omega
    have e2 : (d.toNat + D * val l) / 65536 = val l := by unfold D; omega
    rw [e1, e2, ih h.tail hl', Int.toNat_of_nonneg h2.1]
theorem val_snoc_zero (l : List Int) : val (l ++ [0]) = val l := by
  rw [val_append]; simp [val]
theorem dig_length_le (n k : Nat) (h : n < D ^ k) : (dig n).length ≤ k := by
  induction k generalizing n with
  | zero => rw [Nat.pow_zero] at h; have : n = 0 := by omega
            subst this; rw [dig_zero]; simp
  | succ k ih =>
    by_cases h0 : n = 0
    · subst h0; rw [dig_zero]; simp
    · rw [dig_pos n h0, List.length_cons]
      have := ih (n / 65536) (by rw [Nat.pow_succ] at h; exact Nat.div_lt_of_lt_mul (by rw [Nat.mul_comm]; exact h))
      omega
theorem dig_length_gt (n k : Nat) (h : D ^ k ≤ n) : k < (dig n).length := by
  have h1 := val_lt (Ok.dig n)
  rw [val_dig] at h1
  exact (Nat.pow_lt_pow_iff_right (by decide : 1 < D)).1 (Nat.lt_of_le_of_lt h h1)
/-- A digit of a number. -/
theorem rd_dig (n i : Nat) : (dig n).getD i 0 = ((n / D ^ i % D : Nat) : Int) := by
  induction i generalizing n with
  | zero =>
    by_cases h0 : n = 0
    · subst h0; rw [dig_zero]; rfl
    · rw [dig_pos n h0]; simp [D]
  | succ i ih =>
    by_cases h0 : n = 0
    · subst h0; rw [dig_zero]; simp
    · rw [dig_pos n h0, List.getD_cons_succ, ih, Nat.pow_succ, Nat.mul_comm (D ^ i), ← Nat.div_div_eq_div_mul]
      rfl
theorem val_take_drop (l : List Int) (i : Nat) (h : i ≤ l.length) : val l = val (l.take i) + D ^ i * val (l.drop i) := by
  have := val_append (l.take i) (l.drop i)
  rw [List.take_append_drop, List.length_take, Nat.min_eq_left h] at this
  exact this
theorem val_drop_succ (l : List Int) (i : Nat) (h : i < l.length) : val (l.drop i) = (l.getD i 0).toNat + D * val (l.drop (i + 1)) := by
  rw [List.drop_eq_getElem_cons h, val_cons, List.getD_eq_getElem?_getD, List.getElem?_eq_getElem h]
  rfl
theorem val_take_succ (l : List Int) (i : Nat) (h : i < l.length) : val (l.take (i + 1)) = val (l.take i) + D ^ i * (l.getD i 0).toNat := by
  rw [List.take_succ_eq_append_getElem h, val_append, val_one, List.length_take, Nat.min_eq_left (by omega), List.getD_eq_getElem?_getD, List.getElem?_eq_getElem h]
  rfl
theorem val_take_dig (n i : Nat) : val ((dig n).take i) = n % D ^ i := by
  rcases Nat.lt_or_ge (dig n).length i with hi | hi
  · rw [List.take_of_length_le (by omega), val_dig, Nat.mod_eq_of_lt]
    have h1 := val_lt (Ok.dig n)
    rw [val_dig] at h1
    exact Nat.lt_of_lt_of_le h1 (Nat.pow_le_pow_right D_pos (by omega))
  · have h := val_take_drop (dig n) i hi
    rw [val_dig] at h
    have h2 := val_lt ((Ok.dig n).take i)
    rw [List.length_take, Nat.min_eq_left hi] at h2
    conv => rhs; rw [h, Nat.add_mul_mod_self_left, Nat.mod_eq_of_lt h2]
theorem val_drop_dig (n i : Nat) : val ((dig n).drop i) = n / D ^ i := by
  rcases Nat.lt_or_ge (dig n).length i with hi | hi
  · rw [List.drop_eq_nil_of_le (by omega), val_nil, Nat.div_eq_of_lt]
    have h1 := val_lt (Ok.dig n)
    rw [val_dig] at h1
    exact Nat.lt_of_lt_of_le h1 (Nat.pow_le_pow_right D_pos (by omega))
  · have h := val_take_drop (dig n) i hi
    rw [val_dig] at h
    have h2 := val_lt ((Ok.dig n).take i)
    rw [List.length_take, Nat.min_eq_left hi] at h2
    conv => rhs; rw [h, Nat.add_mul_div_left _ _ (Dk_pos i), Nat.div_eq_of_lt h2, Nat.zero_add]
theorem val_set (l : List Int) (i : Nat) (d : Int) (h : i < l.length) : val (l.set i d) + D ^ i * (l.getD i 0).toNat = val l + D ^ i * d.toNat := by
  induction l generalizing i with
  | nil => simp at h
  | cons e l ih =>
    cases i with
    | zero => simp [val]; omega
    | succ i =>
      have := ih i (by simpa using h)
      rw [List.set_cons_succ, val_cons, val_cons, List.getD_cons_succ, Nat.pow_succ, Nat.mul_comm (D ^ i) D, Nat.mul_assoc, Nat.mul_assoc, Nat.add_assoc, Nat.add_assoc, ← Nat.mul_add, ← Nat.mul_add, this]
theorem val_replicate (n : Nat) : val (List.replicate n 0) = 0 := by
  induction n with
  | zero => rfl
  | succ n ih => rw [List.replicate_succ, val_cons, ih]; rfl
theorem Ok.replicate (n : Nat) : Ok (List.replicate n 0) := fun d hd => by
  rw [List.eq_of_mem_replicate hd]; exact ⟨Int.le_refl 0, by decide⟩
end Go.Dg
