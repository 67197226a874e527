import Derived.Test.YtdfmamemnenkcaaRa
import Derived.Deep.QuietTactic
import Derived.BigQuiet
set_option linter.unusedVariables false
set_option linter.unusedSimpArgs false
namespace Go.Proofs.Ytdfmamemnenkcaa
open Go.RowKit Go.Og Go.Nm
theorem eqArr_loop (P : Program) (d : Nat) (e : TypeId) (k : IntKind) (he : P.underlying e = some (.int k)) (i0 : TypeInfo) (hi : P.info? e = some i0) (hag : ∀ w, (isAgg e).run P w = .ok false w) (xs ys : List Int) (hxy : xs.length = ys.length) (w : World) :
   ∀ m i, i + m = xs.length → Sem.run P
          (forIn (List.range' i m) ((none, ()) : Option Bool × Unit) fun i __s => do
            let __do_lift ← part e (List.map (Value.int k) xs).toArray i
            let __do_lift_1 ← part e (List.map (Value.int k) ys).toArray i
            let __do_lift ← Op.equalIn (d + 1) e __do_lift __do_lift_1
            if __do_lift = false then pure (ForInStep.done (some false, ())) else pure (ForInStep.yield (none, ())))
          w = .ok (if xs.drop i = ys.drop i then (none, ()) else (some false, ())) w
  | 0, i, h => by
    rw [List.drop_eq_nil_of_le (by omega), List.drop_eq_nil_of_le (by omega)]
    simp
  | m + 1, i, h => by
    have hx : i < xs.length := by omega
    have hy : i < ys.length := by omega
    rw [List.range'_succ, List.forIn_cons]
    have e1 : ∀ zs : List Int, ∀ hz : i < zs.length, (part e (List.map (Value.int k) zs).toArray i).run P w = .ok (.int k zs[i]) w := fun zs hz => by
      simp [part, hag, hz]
    have e2 : (Op.equalIn (d + 1) e (.int k xs[i]) (.int k ys[i])).run P w = .ok (xs[i] == ys[i]) w := by
      rw [Op.equalIn]
      simp [run_underlying he]
    simp only [Sem.run_bind, e1 xs hx, e1 ys hy, e2, Result.andThen_ok]
    have ih := eqArr_loop P d e k he i0 hi hag xs ys hxy w m (i + 1) (by omega)
    rw [List.drop_eq_getElem_cons hx, List.drop_eq_getElem_cons hy]
    by_cases h1 : xs[i] = ys[i]
    · simp only [h1, beq_self_eq_true, Bool.true_eq_false, if_false, Sem.run_pure, Result.andThen_ok, List.cons.injEq, true_and]
      exact ih
    · have h2 : (xs[i] == ys[i]) = false := by simpa using h1
      simp only [h2, if_true, Sem.run_pure, Result.andThen_ok, List.cons.injEq, h1, false_and, if_false]
theorem eqArr (P : Program) (d : Nat) (t e : TypeId) (n : Nat) (k : IntKind) (ht : P.underlying t = some (.array n e)) (he : P.underlying e = some (.int k)) (i0 : TypeInfo) (hi : P.info? e = some i0) (hsz : i0.size = 1) (hag : ∀ w, (isAgg e).run P w = .ok false w) (xs ys : List Int) (hx : xs.length = n) (hy : ys.length = n) (w : World) :
   (Op.equalIn (d + 2) t (.agg (xs.map (Value.int k)).toArray) (.agg (ys.map (Value.int k)).toArray)).run P w = .ok (decide (xs = ys)) w := by
  rw [Op.equalIn]
  simp only [run_underlying ht, Sem.run_bind, Result.andThen_ok]
  simp [sizeOf, typeInfo, hi, hsz]
  have := eqArr_loop P d e k he i0 hi hag xs ys (by omega) w n 0 (by omega)
  rw [this]
  by_cases h : xs = ys <;> simp [h]
theorem info22 : (Try.prog.info? 22).map (fun i => (i.zero, i.size, i.bytes)) = some (some (.int .u64 0), 1, 8) := by kernel_rfl
theorem eq24 (x0 x1 x2 x3 y0 y1 y2 y3 : Int) (w : World) : (Op.equalIn 10000 24 (.agg #[.int .u64 x0, .int .u64 x1, .int .u64 x2, .int .u64 x3]) (.agg #[.int .u64 y0, .int .u64 y1, .int .u64 y2, .int .u64 y3])).run Try.prog w = .ok (decide ([x0, x1, x2, x3] = [y0, y1, y2, y3])) w := by
  obtain ⟨i0, hi, hz0, hz1, hz2⟩ := info_parts info22
  exact eqArr Try.prog 9998 24 22 4 .u64 Try.underlying24 Try.underlying22 i0 hi hz1 (fun w => by kernel_rfl) [x0, x1, x2, x3] [y0, y1, y2, y3] rfl rfl w

theorem bcell {W w1 : World} (hb : Below W.heap.size W w1) : (∀ b o, b < W.heap.size → w1.cell? ⟨b, o, none⟩ = W.cell? ⟨b, o, none⟩) ∧ (∀ b o, b < W.heap.size → w1.frozen? ⟨b, o, none⟩ = W.frozen? ⟨b, o, none⟩) :=
  ⟨fun b o h => hb.cell (p := ⟨b, o, none⟩) h, fun b o h => hb.frozen (p := ⟨b, o, none⟩) h⟩
def P25519 : Nat := 57896044618658097711785492504343953926634992332820282019728792003956564819949
theorem num_P : num P25519 = .agg #[.int .u64 18446744073709551597, .int .u64 18446744073709551615, .int .u64 18446744073709551615, .int .u64 9223372036854775807] := by kernel_rfl
theorem prime_any (w : World) : Calls Try.prog 21 #[] w fun e w' => e = .returned (num P25519) ∧ Below w.heap.size w w' := by
  rw [num_P]
  go_enter Try.func21, Try.ntmps21
  go_wp2
  exact bodyPost_ret (v := .agg #[.int .u64 18446744073709551597, .int .u64 18446744073709551615, .int .u64 18446744073709551615, .int .u64 9223372036854775807]) (by simp [results, Try.results21, go_sem]) rfl ⟨rfl, (Below.refl _ _).alloc (Nat.le_refl _) _⟩
def L25519 : Nat := 7237005577332262213973186563042994240857116359379907606001950938285454250989
theorem num_L : num L25519 = .agg #[.int .u64 6346243789798364141, .int .u64 1503914060200516822, .int .u64 0, .int .u64 1152921504606846976] := by kernel_rfl
theorem order_any (w : World) : Calls Try.prog 23 #[] w fun e w' => e = .returned (num L25519) ∧ Below w.heap.size w w' := by
  rw [num_L]
  go_enter Try.func23, Try.ntmps23
  go_wp2
  exact bodyPost_ret (v := .agg #[.int .u64 6346243789798364141, .int .u64 1503914060200516822, .int .u64 0, .int .u64 1152921504606846976]) (by simp [results, Try.results23, go_sem]) rfl ⟨rfl, (Below.refl _ _).alloc (Nat.le_refl _) _⟩
theorem words_zero_iff (n : Nat) (hn : n < W ^ 4) : ([(wd n 0 : Int), wd n 1, wd n 2, wd n 3] = [0, 0, 0, 0]) ↔ n = 0 := by
  constructor
  · intro h
    simp only [List.cons.injEq, and_true] at h
    have := of_words n
    rw [Nat.mod_eq_of_lt hn] at this
    rw [this, show wd n 0 = 0 by omega, show wd n 1 = 0 by omega, show wd n 2 = 0 by omega, show wd n 3 = 0 by omega]
    simp
  · rintro rfl; rfl
theorem zero_any (n : Nat) (hn : n < W ^ 4) (w : World) : Calls Try.prog 20 #[num n] w fun e w' => e = .returned (.bool (decide (n = 0))) ∧ Below w.heap.size w w' := by
  unfold num
  have he := eq24 (wd n 0) (wd n 1) (wd n 2) (wd n 3) 0 0 0 0
  have hd : decide ([(wd n 0 : Int), wd n 1, wd n 2, wd n 3] = [0, 0, 0, 0]) = decide (n = 0) := decide_eq_decide.2 (words_zero_iff n hn)
  rw [hd] at he
  have hd' := Lib.hid hd
  clear hd hd'
  go_enter Try.func20, Try.ntmps20
  go_wp2
  go_ret
  exact ⟨rfl, (Below.refl _ _).alloc (Nat.le_refl _) _⟩
theorem bit_val (n i : Nat) (hi : i < 256) : wd n (i / 64) / 2 ^ (i % 64) % 2 = n / 2 ^ i % 2 := by
  unfold wd
  have e : W = 2 ^ 64 := rfl
  rw [e, ← Nat.pow_mul]
  have hm : i % 64 < 64 := Nat.mod_lt _ (by decide)
  conv => rhs; rw [← Nat.div_add_mod i 64, Nat.pow_add, ← Nat.div_div_eq_div_mul]
  generalize n / 2 ^ (64 * (i / 64)) = q
  have e2 : (2 : Nat) ^ 64 = 2 ^ (i % 64) * 2 ^ (64 - i % 64) := by rw [← Nat.pow_add]; congr 1; omega
  rw [e2, Nat.mod_mul_right_div_self, Nat.mod_mod_of_dvd]
  exact Nat.dvd_of_pow_dvd (k := 1) (by omega) (Nat.pow_dvd_pow 2 (show 1 ≤ 64 - i % 64 by omega))
theorem bit_any (n : Nat) (i : Nat) (hi : i < 256) (w : World) : Calls Try.prog 43 #[num n, .int .i64 i] w fun e w' => e = .returned (.int .u64 (n / 2 ^ i % 2 : Nat)) ∧ Below w.heap.size w w' := by
  unfold num
  have hc := ((Blk.new (w := w) w.heap.size 24 (words n) rfl).cell (i / 64)).trans (words_get n (i / 64) (by omega))
  unfold words at hc
  go_enter Try.func43, Try.ntmps43
  go_wp2
  rw [show (((wd n (i / 64) : Nat) : Int) / 2 ^ (i % 64)) = ((wd n (i / 64) / 2 ^ (i % 64) : Nat) : Int) by norm_cast, and_one_u64 _ (Int.natCast_nonneg _) (Int.ofNat_le.2 (Nat.le_trans (Nat.div_le_self (wd n (i / 64)) (2 ^ (i % 64))) (Nat.le_of_lt_succ (wd_lt n (i / 64)))))]
  go_ret
  exact ⟨by rw [← bit_val n i hi]; rfl, (Below.refl _ _).alloc (Nat.le_refl _) _⟩
theorem bw_four (a b : Nat) (ha : a < W ^ 4) (hb : b < W ^ 4) : bw a b 4 = if a < b then 1 else 0 := by
  unfold bw; rw [Nat.mod_eq_of_lt ha, Nat.mod_eq_of_lt hb]
theorem less_any (a b : Nat) (ha : a < W ^ 4) (hb : b < W ^ 4) (w : World) : Calls Try.prog 27 #[num a, num b] w fun e w' => e = .returned (.bool (decide (a < b))) ∧ Below w.heap.size w w' := by
  have hm := fun wx => minus_any a b (by omega) wx
  have hd : (((bw a b 4 : Nat) : Int) == 1) = decide (a < b) := by
    rw [bw_four a b ha hb]
    by_cases h : a < b <;> simp [h]
  have hd' := Lib.hid hd
  clear hd
  unfold num at hm ⊢
  have hm' := Lib.hid hm
  clear hm
  go_enter Try.func27, Try.ntmps27
  go_wp2_with (go_at_call 42; refine (hm'.out _).mono ?_; rintro e w1 ⟨rfl, hb1⟩; obtain ⟨hc, hf⟩ := bcell hb1; have hz := hb1.size)
  go_ret
  rw [hd'.out]
  refine ⟨rfl, ?_⟩
  simp at hz
  repeat (first | exact Below.refl _ _ | (refine Below.setCell ?_ (by first | omega | (simp; done) | (simp; omega)) _) | (refine Below.alloc ?_ (by first | omega | (simp; done) | (simp; omega)) _) | (refine Below.trans ?_ (hb1.mono (by first | omega | (simp; done) | (simp; omega)))))
end Go.Proofs.Ytdfmamemnenkcaa
