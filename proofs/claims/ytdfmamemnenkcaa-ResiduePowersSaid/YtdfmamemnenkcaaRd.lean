import Derived.Test.YtdfmamemnenkcaaRc
import Derived.Test.YtdfmamemnenkcaaSh
set_option linter.unusedVariables false
set_option linter.unusedSimpArgs false
namespace Go.Proofs.Ytdfmamemnenkcaa
open Go.RowKit Go.Og Go.Nm
theorem Blk.far {w : World} {g : Nat} {t : TypeId} {cs : Array Value} (h : Blk w g t cs) {p : Addr} (hp : g ≠ p.block) (u : Value) : Blk (w.setCell p u) g t cs := (Below.heap_setCell w p u g hp).trans h
/-- What goes over into word k of a product with a word. -/
def mc (n v k : Nat) : Nat := n % W ^ k * v / W ^ k
theorem mc_zero (n v : Nat) : mc n v 0 = 0 := by simp [mc, Nat.mod_one]
theorem mc_lt (n v k : Nat) (hv : v < W) : mc n v k < W := by
  unfold mc
  have h1 := Nat.mod_lt n (Wk_pos k)
  refine Nat.div_lt_of_lt_mul ?_
  exact Nat.lt_of_le_of_lt (Nat.mul_le_mul_right v (Nat.le_of_lt h1)) (Nat.mul_lt_mul_of_pos_left hv (Wk_pos k))
theorem mul_word (n v k : Nat) : (wd n k * v + mc n v k) % W = wd (n * v) k := by
  unfold wd mc
  have e : n * v / W ^ k = n / W ^ k * v + n % W ^ k * v / W ^ k := by
    conv => lhs; rw [← Nat.div_add_mod n (W ^ k), Nat.add_mul, Nat.mul_assoc, Nat.mul_add_div (Wk_pos k)]
  rw [e, Nat.add_mod, Nat.mul_mod, Nat.mod_mod, ← Nat.mul_mod, ← Nat.add_mod]
theorem mul_carry (n v k : Nat) : (wd n k * v + mc n v k) / W = mc n v (k + 1) := by
  unfold mc
  rw [mod_succ, Nat.pow_succ, ← Nat.div_div_eq_div_mul, Nat.add_mul, Nat.mul_assoc, Nat.mul_add_div (Wk_pos k)]
/-- Mul64, then Add64 of the low word and the carry. -/
theorem mul_low (x v c : Nat) : (x * v % W + c) % W = (x * v + c) % W := by rw [Nat.mod_add_mod]
theorem mul_high (x v c : Nat) : x * v / W + (x * v % W + c) / W = (x * v + c) / W := by
  conv => rhs; rw [← Nat.div_add_mod (x * v) W, Nat.add_assoc, Nat.mul_add_div W_pos]
theorem call_add64_0 (x y : Nat) (w : World) : (callFunc 59 #[.int .u64 x, .int .u64 y, .int .u64 0]).run Try.prog w =
    .ok (.value (.tuple #[.int .u64 (((x + y) % W : Nat) : Int), .int .u64 (((x + y) / W : Nat) : Int)])) w := call_add64 x y 0 (by omega) w
/-- The high word of a product, and the low one (names, so that the walk's simp leaves them alone). -/
def hiw (x y : Nat) : Nat := x * y / W
def low (x y : Nat) : Nat := x * y % W
def ovr (x y : Nat) : Nat := (x + y) / W
theorem mul64_any (x y : Nat) (hx : x < W) (hy : y < W) (w : World) :
    Calls Try.prog 61 #[.int .u64 x, .int .u64 y] w fun e w' => e = .returned (.tuple #[.int .u64 (hiw x y : Nat), .int .u64 (low x y : Nat)]) ∧ w = w' :=
  (Try.bits_Mul64 x y hx hy w).mono fun e w' ⟨h, h2⟩ => ⟨h, h2.symm⟩
set_option maxRecDepth 100000 in
set_option maxHeartbeats 1000000 in
theorem times_any (n v : Nat) (hv : v < W) (w : World) : Calls Try.prog 60 #[num n, .int .u64 v] w fun e w' => e = .returned (.tuple #[num (n * v), .int .u64 (mc n v 4 : Nat)]) ∧ Below w.heap.size w w' := by
  unfold num
  go_enter Try.func60, Try.ntmps60
  go_wp2
  go_loopw [6, 12] (fun c i wr => ∃ k : Nat, k ≤ 4 ∧ i = .int .i64 k ∧ c = .int .u64 (mc n v k : Nat) ∧ Below w.heap.size w wr ∧ Blk wr w.heap.size 24 (half n (n * v) k) ∧
      Blk wr (w.heap.size + 1) 24 (words 0)) (fun _ i _ => 4 - (intOf i).toNat)
  case atStart =>
    refine ⟨0, by omega, rfl, by rw [mc_zero]; rfl, ?_, ?_, ?_⟩
    · exact ((Below.refl _ _).alloc (Nat.le_refl _) _).alloc (by simp) _
    · exact (Blk.new _ _ _ rfl).alloc _
    · rw [words_zero]; exact Blk.new _ _ _ (by simp)
  case round =>
    obtain ⟨k, hk, rfl, rfl, hb, h0, h1⟩ := hrel
    by_cases hlt : k < 4
    · have c0 : wr.cell? ⟨w.heap.size, k, none⟩ = some (.int .u64 (wd n k : Nat)) := (h0.cell k).trans (half_get n (n * v) k k hlt (Nat.le_refl _))
      have f0 := h0.frozen k
      have hm := Lib.hid (mul64_any (wd n k) v (wd_lt n k) hv)
      have ha : ∀ w, (callFunc 59 #[.int .u64 (low (wd n k) v : Nat), .int .u64 (mc n v k : Nat), .int .u64 0]).run Try.prog w =
          .ok (.value (.tuple #[.int .u64 (wd (n * v) k : Nat), .int .u64 (ovr (low (wd n k) v) (mc n v k) : Nat)])) w := fun w => by
        rw [call_add64_0, ← mul_word, ← mul_low]; rfl
      have hs : hiw (wd n k) v + ovr (low (wd n k) v) (mc n v k) = mc n v (k + 1) := by
        unfold hiw ovr low
        rw [mul_high, mul_carry]
      have hle : hiw (wd n k) v + ovr (low (wd n k) v) (mc n v k) ≤ 18446744073709551615 := by
        rw [hs]; exact Nat.le_of_lt_succ (mc_lt n v (k + 1) hv)
      have hs' := Lib.hid hs
      clear hs
      have hz := h1.lt
      have hb' := Lib.hid hb
      have h0' := Lib.hid h0
      have h1' := Lib.hid h1
      clear hb h0 h1
      go_wp2_with (go_at_call 61; refine (hm.out _).mono ?_; rintro e w' ⟨rfl, rfl⟩)
      refine ⟨⟨k + 1, by omega, by go_num, ?_, hb'.out.setCell (Nat.le_refl _) _, ?_, h1'.out.far (by simp) _⟩, by simp [intOf]; omega⟩
      · rw [← Int.natCast_add, hs'.out]
      · rw [← half_set n (n * v) k hlt]; exact h0'.out.set k _
    · have : k = 4 := by omega
      subst this
      have hz := h1.lt
      rw [half_four] at h0
      obtain ⟨p0, p1, p2, p3⟩ := h0.words4
      obtain ⟨q0, q1, q2, q3⟩ := h1.words4
      have f1 := h1.frozen
      have hb' := Lib.hid hb
      clear hb h0 h1
      go_wp2
      refine bodyPost_ret (v := .tuple #[num (n * v), .int .u64 (mc n v 4 : Nat)]) (by simp [results, Try.results60, go_sem, q0, q1, q2, q3, num]) rfl ⟨rfl, ?_⟩
      exact Below.set4 hb'.out (by omega) _ _ _ _
end Go.Proofs.Ytdfmamemnenkcaa
