import Derived.Test.YtdfmamemnenkcaaRf
set_option linter.unusedVariables false
set_option linter.unusedSimpArgs false
namespace Go.Proofs.Ytdfmamemnenkcaa
open Go.RowKit Go.Og Go.Nm
theorem W4_pos : 0 < W ^ 4 := Wk_pos 4
theorem P_lt : P25519 < W ^ 4 := by decide
theorem P_pos : 0 < P25519 := by decide
theorem lt_of_mod (n : Nat) : n % P25519 < W ^ 4 := Nat.lt_trans (Nat.mod_lt _ P_pos) P_lt
theorem mul_lt8 {a b : Nat} (ha : a < W ^ 4) (hb : b < W ^ 4) : a * b < W ^ 8 := by
  rw [show (8 : Nat) = 4 + 4 from rfl, Nat.pow_add]
  exact Nat.mul_lt_mul_of_lt_of_lt ha hb
set_option maxRecDepth 100000 in
set_option maxHeartbeats 1000000 in
theorem mul_any (a b : Nat) (ha : a < W ^ 4) (hb : b < W ^ 4) (w : World) : Calls Try.prog 41 #[num a, num b] w fun e w' => e = .returned (num (a * b % P25519)) ∧ Below w.heap.size w w' := by
  have hp := product_any a b ha
  rw [Nat.mod_eq_of_lt hb] at hp
  have hf := folded_any (a * b) (mul_lt8 ha hb)
  unfold num num8 words8 at hp
  unfold num8 words8 num at hf
  unfold num
  have hp' := Lib.hid hp
  have hf' := Lib.hid hf
  clear hp hf
  go_enter Try.func41, Try.ntmps41
  go_wp2_with (first | (go_at_call 53; refine (hp'.out _).mono ?_; rintro e w1 ⟨rfl, hb1⟩; obtain ⟨hc1, hf1⟩ := bcell hb1; have hs1 := hb1.size; simp at hs1; have hl1 : w.heap.size + 1 + 1 < w1.heap.size := (by omega); have hB1 : Below w.heap.size w w1 := ((((Below.refl _ _).alloc (Nat.le_refl _) _).alloc (by simp) _).alloc (by first | omega | (simp; done) | (simp; omega)) _).trans (hb1.mono (by first | omega | (simp; done) | (simp; omega)))) | (go_at_call 54; refine (hf'.out _).mono ?_; rintro e w2 ⟨rfl, hb2⟩; obtain ⟨hc2, hf2⟩ := bcell hb2; have hs2 := hb2.size; have hl2 : w.heap.size + 1 + 1 < w2.heap.size := (by omega)))
  refine bodyPost_ret (v := num (a * b % P25519)) (by simp [results, Try.results41, go_sem, hc1, hc2, hl1, hl2, num]) rfl ⟨rfl, ?_⟩
  exact Below.set4 (hB1.trans (hb2.mono (by first | omega | (simp; done) | (simp; omega)))) (by omega) _ _ _ _
set_option maxRecDepth 100000 in
set_option maxHeartbeats 1000000 in
theorem add_any (a b : Nat) (hab : a + b < W ^ 4) (w : World) : Calls Try.prog 39 #[num a, num b] w fun e w' => e = .returned (num ((a + b) % P25519)) ∧ Below w.heap.size w w' := by
  have hp := plus_any a b
  have hf := small_any (a + b) hab
  unfold num at *
  have hp' := Lib.hid hp
  have hf' := Lib.hid hf
  clear hp hf
  go_enter Try.func39, Try.ntmps39
  go_wp2_with (first | (go_at_call 52; refine (hp'.out _).mono ?_; rintro e w1 ⟨rfl, hb1⟩; obtain ⟨hc1, hf1⟩ := bcell hb1; have hs1 := hb1.size; simp at hs1; have hl1 : w.heap.size + 1 + 1 < w1.heap.size := (by omega); have hB1 : Below w.heap.size w w1 := ((((Below.refl _ _).alloc (Nat.le_refl _) _).alloc (by simp) _).alloc (by first | omega | (simp; done) | (simp; omega)) _).trans (hb1.mono (by first | omega | (simp; done) | (simp; omega)))) | (go_at_call 40; refine (hf'.out _).mono ?_; rintro e w2 ⟨rfl, hb2⟩; obtain ⟨hc2, hf2⟩ := bcell hb2; have hs2 := hb2.size; simp at hs2; have hl3 : w.heap.size + 1 + 1 < w1.heap.size + 1 := (by omega); have hl2 : w.heap.size + 1 + 1 < w2.heap.size := (by omega)))
  refine bodyPost_ret (v := num ((a + b) % P25519)) (by simp [results, Try.results39, go_sem, hc1, hc2, hl1, hl2, hl3, num]) rfl ⟨rfl, ?_⟩
  exact Below.set4 ((hB1.alloc (by omega) _).trans (hb2.mono (by first | omega | (simp; done) | (simp; omega)))) (by omega) _ _ _ _
theorem words_one : words 1 = #[.int .u64 1, .int .u64 0, .int .u64 0, .int .u64 0] := by rfl
theorem pow_round (a n k : Nat) : (a ^ (n / 2 ^ (k + 1)) % P25519) * (a ^ (n / 2 ^ (k + 1)) % P25519) % P25519 = a ^ (2 * (n / 2 ^ (k + 1))) % P25519 := by
  rw [← Nat.mul_mod, ← Nat.pow_add, Nat.two_mul]
theorem pow_bit (n k : Nat) : 2 * (n / 2 ^ (k + 1)) + n / 2 ^ k % 2 = n / 2 ^ k := by
  rw [Nat.pow_succ, ← Nat.div_div_eq_div_mul]
  omega
set_option maxRecDepth 100000 in
set_option maxHeartbeats 1000000 in
theorem power_any (a n : Nat) (ha : a < W ^ 4) (hn : n < W ^ 4) (w : World) : Calls Try.prog 26 #[num a, num n] w fun e w' => e = .returned (num (a ^ n % P25519)) ∧ Below w.heap.size w w' := by
  have hm := fun (x y : Nat) (hx : x < W ^ 4) (hy : y < W ^ 4) => mul_any x y hx hy
  have hbit := fun (i : Nat) (hi : i < 256) => bit_any n i hi
  unfold num at *
  have hm' := Lib.hid hm
  have hbit' := Lib.hid hbit
  clear hm hbit
  go_enter Try.func26, Try.ntmps26
  go_wp2
  go_loopg [6] 256 (fun g i wr => ∃ k : Nat, k = g ∧ k ≤ 256 ∧ i = .int .i64 ((k : Int) - 1) ∧ Below w.heap.size w wr ∧ Blk wr w.heap.size 24 (words a) ∧ Blk wr (w.heap.size + 1) 24 (words n) ∧ Blk wr (w.heap.size + 2) 24 (words 0) ∧ Blk wr (w.heap.size + 3) 24 (words (a ^ (n / 2 ^ k) % P25519)))
  case atStart =>
    refine ⟨256, rfl, Nat.le_refl _, rfl, ?_, ?_, ?_, ?_, ?_⟩
    · exact ((((Below.refl _ _).alloc (Nat.le_refl _) _).alloc (by simp) _).alloc (by first | omega | (simp; done) | (simp; omega)) _).alloc (by first | omega | (simp; done) | (simp; omega)) _
    · exact (((Blk.new _ _ _ rfl).alloc _).alloc _).alloc _
    · exact ((Blk.new _ _ _ (by simp)).alloc _).alloc _
    · rw [words_zero]; exact (Blk.new _ _ _ (by simp)).alloc _
    · rw [show n / 2 ^ 256 = 0 from Nat.div_eq_of_lt hn, Nat.pow_zero, show 1 % P25519 = 1 from rfl, words_one]; exact Blk.new _ _ _ (by simp)
  case round =>
    obtain ⟨k, rfl, hk, rfl, hb, h0, h1, h2, h3⟩ := hrel
    rcases Nat.eq_zero_or_pos k with rfl | hpos
    · have hi : ((0 : Nat) : Int) - 1 = -1 := rfl
      rw [hi]
      obtain ⟨p0, p1, p2, p3⟩ := h3.words4
      obtain ⟨q0, q1, q2, q3⟩ := h2.words4
      have f2 := h2.frozen
      have hz := h3.lt
      have hb' := Lib.hid hb
      clear hb h0 h1 h2 h3 hi
      go_wp2
      rw [Nat.pow_zero, Nat.div_one] at *
      refine bodyPost_ret (v := num (a ^ n % P25519)) (by simp [results, Try.results26, go_sem, q0, q1, q2, q3, num]) rfl (And.intro rfl ?_)
      exact Below.set4 hb'.out (by omega) _ _ _ _
    · obtain ⟨j, rfl⟩ : ∃ j, k = j + 1 := ⟨k - 1, by omega⟩
      have hi : ((j + 1 : Nat) : Int) - 1 = (j : Int) := by omega
      rw [hi]
      obtain ⟨R, hR⟩ : ∃ R : Nat, R = a ^ (n / 2 ^ (j + 1)) % P25519 := ⟨_, rfl⟩
      rw [← hR] at h3
      have hRlt : R < W ^ 4 := by rw [hR]; exact lt_of_mod _
      have hRR : R * R % P25519 = a ^ (2 * (n / 2 ^ (j + 1))) % P25519 := by rw [hR, pow_round]
      have hnext : a ^ (n / 2 ^ j) % P25519 = (if n / 2 ^ j % 2 = 1 then R * R % P25519 * a % P25519 else R * R % P25519) := by
        conv => lhs; rw [← pow_bit n j]
        split
        · rename_i h; rw [h, Nat.pow_succ, Nat.mul_mod, ← hRR, Nat.mul_mod_mod]
        · rename_i h; rw [show n / 2 ^ j % 2 = 0 by omega, Nat.add_zero, hRR]
      have hR' := Lib.hid hR
      have hRR' := Lib.hid hRR
      have hnext' := Lib.hid hnext
      obtain ⟨p0, p1, p2, p3⟩ := h3.words4
      have h0' := Lib.hid h0
      have h1' := Lib.hid h1
      have h2' := Lib.hid h2
      have h3' := Lib.hid h3
      have hb' := Lib.hid hb
      clear hi hR hRR hnext h0 h1 h2 h3 hb
      obtain ⟨Q, hQ⟩ : ∃ Q : Nat, Q = R * R % P25519 := ⟨_, rfl⟩
      obtain ⟨bt, hbt⟩ : ∃ bt : Nat, bt = n / 2 ^ j % 2 := ⟨_, rfl⟩
      have hRl : Q < W ^ 4 := by rw [hQ]; exact lt_of_mod _
      have hmR := hm'.out R R hRlt hRlt
      rw [← hQ] at hmR
      have hbj := hbit'.out j (by omega)
      rw [← hbt] at hbj
      have hnext := hnext'.out
      rw [← hQ, ← hbt] at hnext
      have hnext2 := Lib.hid hnext
      have hmR' := Lib.hid hmR
      have hbj' := Lib.hid hbj
      have hbtl : bt < 2 := by rw [hbt]; exact Nat.mod_lt _ (by decide)
      have hQ' := Lib.hid hQ
      have hbt' := Lib.hid hbt
      clear hnext' hnext hmR hbj hQ hbt
      by_cases hd : bt = 1
      · have hd2 : ((bt : Int) == 1) = true := by rw [hd]; rfl
        have hnext' := hnext2.out
        rw [if_pos hd] at hnext'
        have hn3 := Lib.hid hnext'
        clear hnext' hnext2
        have hd' := Lib.hid hd
        clear hd
        go_wp2_with fail
        refine (hmR'.out _).mono ?_
        rintro e w1 ⟨rfl, hb1⟩
        have h0a := h0'.out.below hb1 h0'.out.lt
        have h1a := h1'.out.below hb1 h1'.out.lt
        have h2a := h2'.out.below hb1 h2'.out.lt
        have h3a := h3'.out.below hb1 h3'.out.lt
        obtain ⟨pa0, pa1, pa2, pa3⟩ := h3a.words4
        obtain ⟨qa0, qa1, qa2, qa3⟩ := h1a.words4
        have fa := h3a.frozen
        have hBa := hb'.out.trans (hb1.mono hb'.out.size)
        go_wp2_with fail
        refine (hbj'.out _).mono ?_
        rintro e w2 ⟨rfl, hb2⟩
        have h3s := (Blk.set4 (n := Q) h3a).below hb2 (Blk.set4 h3a).lt
        have h0s := (h0a.far4 (g' := w.heap.size + 3) (by omega) _ _ _ _).below hb2 (h0a.far4 (g' := w.heap.size + 3) (by omega) _ _ _ _).lt
        have h1s := (h1a.far4 (g' := w.heap.size + 3) (by omega) _ _ _ _).below hb2 (h1a.far4 (g' := w.heap.size + 3) (by omega) _ _ _ _).lt
        have h2s := (h2a.far4 (g' := w.heap.size + 3) (by omega) _ _ _ _).below hb2 (h2a.far4 (g' := w.heap.size + 3) (by omega) _ _ _ _).lt
        have hBs := (Below.set4 (g := w.heap.size + 3) hBa (by omega) _ _ _ _).trans (hb2.mono (Below.set4 (g := w.heap.size + 3) hBa (by omega) _ _ _ _).size)
        obtain ⟨pb0, pb1, pb2, pb3⟩ := h3s.words4
        obtain ⟨qb0, qb1, qb2, qb3⟩ := h0s.words4
        have fb := h3s.frozen
        have hBs' := Lib.hid hBs
        have h0s' := Lib.hid h0s
        have h1s' := Lib.hid h1s
        have h2s' := Lib.hid h2s
        have h3s' := Lib.hid h3s
        clear hBs h0s h1s h2s h3s h0a h1a h2a h3a hBa
        go_wp2_with fail
        refine (hm'.out Q a hRl ha _).mono ?_
        rintro e w3 ⟨rfl, hb3⟩
        have h3t := h3s'.out.below hb3 h3s'.out.lt
        obtain ⟨pc0, pc1, pc2, pc3⟩ := h3t.words4
        have fc := h3t.frozen
        have h3t' := Lib.hid h3t
        clear h3t
        go_wp2
        go_roundg j
        case measure => omega
        case rel =>
          refine ⟨j, rfl, by omega, by simp, Below.set4 (g := w.heap.size + 3) (hBs'.out.trans (hb3.mono hBs'.out.size)) (by omega) _ _ _ _, ?_, ?_, ?_, ?_⟩
          · exact (h0s'.out.below hb3 h0s'.out.lt).far4 (by omega) _ _ _ _
          · exact (h1s'.out.below hb3 h1s'.out.lt).far4 (by omega) _ _ _ _
          · exact (h2s'.out.below hb3 h2s'.out.lt).far4 (by omega) _ _ _ _
          · rw [hn3.out]; exact Blk.set4 h3t'.out
      · have hd2 : ((bt : Int) == 1) = false := by rw [show bt = 0 by omega]; rfl
        have hnext' := hnext2.out
        rw [if_neg hd] at hnext'
        have hn3 := Lib.hid hnext'
        clear hnext' hnext2
        have hd' := Lib.hid hd
        clear hd
        go_wp2_with fail
        refine (hmR'.out _).mono ?_
        rintro e w1 ⟨rfl, hb1⟩
        have h0a := h0'.out.below hb1 h0'.out.lt
        have h1a := h1'.out.below hb1 h1'.out.lt
        have h2a := h2'.out.below hb1 h2'.out.lt
        have h3a := h3'.out.below hb1 h3'.out.lt
        obtain ⟨pa0, pa1, pa2, pa3⟩ := h3a.words4
        obtain ⟨qa0, qa1, qa2, qa3⟩ := h1a.words4
        have fa := h3a.frozen
        have hBa := hb'.out.trans (hb1.mono hb'.out.size)
        go_wp2_with fail
        refine (hbj'.out _).mono ?_
        rintro e w2 ⟨rfl, hb2⟩
        have h3s := (Blk.set4 (n := Q) h3a).below hb2 (Blk.set4 h3a).lt
        have h0s := (h0a.far4 (g' := w.heap.size + 3) (by omega) _ _ _ _).below hb2 (h0a.far4 (g' := w.heap.size + 3) (by omega) _ _ _ _).lt
        have h1s := (h1a.far4 (g' := w.heap.size + 3) (by omega) _ _ _ _).below hb2 (h1a.far4 (g' := w.heap.size + 3) (by omega) _ _ _ _).lt
        have h2s := (h2a.far4 (g' := w.heap.size + 3) (by omega) _ _ _ _).below hb2 (h2a.far4 (g' := w.heap.size + 3) (by omega) _ _ _ _).lt
        have hBs := (Below.set4 (g := w.heap.size + 3) hBa (by omega) _ _ _ _).trans (hb2.mono (Below.set4 (g := w.heap.size + 3) hBa (by omega) _ _ _ _).size)
        obtain ⟨pb0, pb1, pb2, pb3⟩ := h3s.words4
        obtain ⟨qb0, qb1, qb2, qb3⟩ := h0s.words4
        have fb := h3s.frozen
        have hBs' := Lib.hid hBs
        have h0s' := Lib.hid h0s
        have h1s' := Lib.hid h1s
        have h2s' := Lib.hid h2s
        have h3s' := Lib.hid h3s
        clear hBs h0s h1s h2s h3s h0a h1a h2a h3a hBa
        go_wp2
        go_roundg j
        case measure => omega
        case rel =>
          refine ⟨j, rfl, by omega, by simp, hBs'.out, h0s'.out, h1s'.out, h2s'.out, ?_⟩
          rw [hn3.out]; exact h3s'.out
end Go.Proofs.Ytdfmamemnenkcaa
