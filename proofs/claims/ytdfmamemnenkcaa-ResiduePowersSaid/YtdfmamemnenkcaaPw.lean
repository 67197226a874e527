import Derived.Test.YtdfmamemnenkcaaLd
import Derived.Test.YtdfmamemnenkcaaPc
set_option linter.unusedVariables false
set_option linter.unusedSimpArgs false
namespace Go.Proofs.Ytdfmamemnenkcaa.PResidueAdds
open Go.Dg Go.RowKit Go.Og Go.Nm Go.Proofs.Ytdfmamemnenkcaa Go.Proofs.YtdfmamemnenkcaaW.PrintWords Go.Proofs.YtdfmamemnenkcaaW.PrintLast Go.Proofs.YtdfmamemnenkcaaW.PrintMore
theorem prime_P : Go.Pr.Prim P25519 := Go.Pr.prime_p
/-- The inverse is one: Fermat. -/
theorem inverse_mul (a : Nat) (h : a % P25519 ≠ 0) : a * (a ^ (P25519 - 2) % P25519) % P25519 = 1 := by
  have hd : ¬ P25519 ∣ a := fun hd => h (Nat.mod_eq_zero_of_dvd hd)
  have := Go.Pr.fermat prime_P hd
  rw [Nat.mul_mod_mod, Nat.mul_comm, ← Nat.pow_succ]
  have e : P25519 - 2 + 1 = P25519 - 1 := by decide
  rw [Nat.succ_eq_add_one, e, this]
  decide
theorem inverse_zero (a : Nat) (h : a % P25519 = 0) : a ^ (P25519 - 2) % P25519 = 0 := by
  rw [Nat.pow_mod, h, Nat.zero_pow (by decide)]
  rfl
theorem inverse_lt (a : Nat) : a ^ (P25519 - 2) % P25519 < P25519 := Nat.mod_lt _ P_pos
theorem nums2 (a b g : Nat) (w : World) (h : Blk w g 24 #[.int .u64 (wd a 0 : Nat), .int .u64 (wd a 1 : Nat), .int .u64 (wd a 2 : Nat), .int .u64 (wd a 3 : Nat), .int .u64 (wd b 0 : Nat), .int .u64 (wd b 1 : Nat), .int .u64 (wd b 2 : Nat), .int .u64 (wd b 3 : Nat)]) : NumsAt w g [a, b] := by
  refine numsAt_words _ h ?_
  intro j x hj i hi
  have hi4 : i = 0 ∨ i = 1 ∨ i = 2 ∨ i = 3 := by omega
  rcases j with _ | _ | j
  · obtain rfl : a = x := by simpa using hj
    rcases hi4 with rfl | rfl | rfl | rfl <;> rfl
  · obtain rfl : b = x := by simpa using hj
    rcases hi4 with rfl | rfl | rfl | rfl <;> rfl
  · simp at hj
theorem dig_one : dig 1 = [1] := by rw [dig_pos 1 (by decide), dig_zero]; rfl
set_option maxRecDepth 100000 in
set_option maxHeartbeats 4000000 in
theorem residuePowers_any (a n : Nat) (ha : a < W ^ 4) (hn : n < 256) (w : World) : Calls Try.prog 4 #[num a, .int .u8 n] w fun e w' => e = .returned (.bool true) ∧ Below w.heap.size w w' := by
  have haw := awake08
  have hr := ref_d a ha
  have hf := fold_d a (by have := len4 a ha; omega)
  have hmul := mul_d
  have la : ∀ n : Nat, (dig (n % pp)).length ≤ 20000 := fun n => by have := small_len _ (Nat.mod_lt n pp_pos); omega
  have hinv := inverse_any a ha
  obtain ⟨i, hi⟩ : ∃ i : Nat, i = a ^ (P25519 - 2) % P25519 := ⟨_, rfl⟩
  rw [← hi] at hinv
  obtain ⟨m, hm⟩ : ∃ m : Nat, m = n % 40 := ⟨_, rfl⟩
  have hml : m < 40 := by rw [hm]; exact Nat.mod_lt _ (by decide)
  have hpow := power_any a m ha (by unfold W; omega)
  obtain ⟨q, hq⟩ : ∃ q : Nat, q = a ^ m % P25519 := ⟨_, rfl⟩
  rw [← hq, show num m = .agg #[.int .u64 (m : Nat), .int .u64 0, .int .u64 0, .int .u64 0] from congrArg Value.agg (words_of_small m (by unfold W; omega))] at hpow
  have hql : q < W ^ 4 := by rw [hq]; exact Nat.lt_trans (Nat.mod_lt _ P_pos) prime_lt
  have his := is_same q hql
  have hmm : (n : Int) % 40 = (m : Int) := by rw [hm]; rfl
  have hzz := zero_any i (by rw [hi]; exact Nat.lt_trans (inverse_lt a) prime_lt)
  have hpr := prime_any
  have hless := less_any i P25519 (by rw [hi]; exact Nat.lt_trans (inverse_lt a) prime_lt) prime_lt
  rw [decide_eq_true (show i < P25519 by rw [hi]; exact inverse_lt a)] at hless
  have h17 := fun (hz : a % P25519 ≠ 0) (g k : Nat) => muls_any [a, i] g k (by intro x hx; simp at hx; rcases hx with rfl | rfl; exact ha; rw [hi]; exact Nat.lt_trans (inverse_lt a) prime_lt) (by simp)
  have hfold : a % P25519 ≠ 0 → [a, i].foldl (fun s x => s * x % P25519) 1 = 1 := by
    intro hz
    show 1 * a % P25519 * i % P25519 = 1
    rw [Nat.one_mul, Nat.mod_mul_mod, hi]
    exact inverse_mul a hz
  have h17b : a % P25519 ≠ 0 → ∀ (g k : Nat) (w : World), NumsAt w g [a, i] → Calls Try.prog 17 #[.slice (some ⟨g, 0, none⟩) 2 k] w fun e w' => e = .returned (num 1) ∧ Below w.heap.size w w' := by
    intro hz g k wx hA
    have := h17 hz g k wx hA
    rw [hfold hz] at this
    exact this
  clear h17 hfold
  rw [show num 1 = .agg #[.int .u64 1, .int .u64 0, .int .u64 0, .int .u64 0] from rfl] at h17b
  have he : ∀ w, (Op.equalIn 10000 24 (.agg #[.int .u64 1, .int .u64 0, .int .u64 0, .int .u64 0]) (.agg #[.int .u64 1, .int .u64 0, .int .u64 0, .int .u64 0])).run Try.prog w = .ok true w := fun w => eq24 1 0 0 0 1 0 0 0 w
  unfold num at *
  have hpr' := Lib.hid hpr
  have hless' := Lib.hid hless
  have h17' := Lib.hid h17b
  have he' := Lib.hid he
  clear hpr hless h17b he
  have haw' := Lib.hid haw
  have hr' := Lib.hid hr
  have hf' := Lib.hid hf
  have hmul' := Lib.hid hmul
  have hinv' := Lib.hid hinv
  have hi' := Lib.hid hi
  have hm' := Lib.hid hm
  have hpow' := Lib.hid hpow
  have hq' := Lib.hid hq
  have his' := Lib.hid his
  have hzz' := Lib.hid hzz
  clear haw hr hf hmul hinv hi hm hpow hq his hzz
  go_enter Try.func4, Try.ntmps4
  go_wp2_with fail
  have hBa : Blk (w.alloc (.cells (words a) 24)) w.heap.size 24 (words a) := Blk.new _ _ _ rfl
  have hB0 : Below w.heap.size w (w.alloc (.cells (words a) 24)) := (Below.refl _ _).alloc (Nat.le_refl _) _
  unfold words at hBa hB0
  refine (haw'.out _).mono ?_
  rintro e w1 ⟨rfl, hb1⟩
  have hA1 := hBa.below hb1 hBa.lt
  obtain ⟨p0, p1, p2, p3⟩ := Blk.words4 (n := a) hA1
  have hl := hA1.lt
  have hA1' := Lib.hid hA1
  have hB1' := Lib.hid (hB0.trans (hb1.mono hB0.size))
  clear hBa hB0 hb1 hA1
  go_wp2_with fail
  refine (hr'.out _).mono ?_
  rintro e w2 ⟨v2, rfl, hv2, hb2⟩
  have hA2' := Lib.hid (hA1'.out.below hb2 hA1'.out.lt)
  have hB2' := Lib.hid (hB1'.out.trans (hb2.mono hB1'.out.size))
  clear hb2 p0 p1 p2 p3 hl
  go_wp2_with fail
  refine (hf'.out v2 _ hv2).mono ?_
  rintro e w3 ⟨v3, rfl, hv3, hb3⟩
  obtain ⟨A3, c3, rfl, hq1, hq2⟩ := hv3
  obtain ⟨L, hL⟩ : ∃ L, L = (dig (a % pp)).length := ⟨_, rfl⟩
  have hv3 : DAt w3 (.slice A3 L c3) (a % pp) := ⟨A3, c3, by rw [hL], hq1, hq2⟩
  rw [← hL]
  have hL' := Lib.hid hL
  clear hq1 hq2 hL
  have hA3' := Lib.hid (hA2'.out.below hb3 hA2'.out.lt)
  have hB3' := Lib.hid (hB2'.out.trans (hb3.mono hB2'.out.size))
  have hv3' := Lib.hid hv3
  clear hb3 hv2 hv3
  go_wp2_with (first | ((with_reducible refine gate_dst (N := 13) rfl ?_); refine Kd.R_lit (Kd.int .i64) _ 3 ?hg (N := 13) ?hd (xs := ([1] : List Int)) (inner := [.int .i64 1]) (ok := fun _ => True) (okp := fun _ => True) ?hr ?hp (fun _ hk => hk) trivial (Below.refl _ _) (Nat.le_refl _) (by simp) ?_; (case hd => rfl); (case hg => rfl); (case hr => first | (go_simp; done) | (go_simp; rfl)); (case hp => exact (Reps.one (show Kd.M (Kd.int .i64) _ _ _ 1 [.int .i64 1] from rfl) (Reps.none _ _))); intro v4 w4 ho4 hb4 hg_ hnew_; clear hg_ hnew_; replace ho4 := Lib.hid ho4; replace hb4 := Lib.hid hb4))
  have hs3 := hB3'.out.size
  have hA4' := Lib.hid (hA3'.out.below hb4.out hA3'.out.lt)
  have hB4' := Lib.hid (hB3'.out.trans (hb4.out.mono hs3))
  have hv3a := Lib.hid (hv3'.out.below hb4.out)
  have hone : DAt w4 v4 (a ^ 0 % pp) := by
    rw [Nat.pow_zero, Nat.mod_eq_of_lt (by have := pp_big; omega)]
    unfold DAt
    rw [dig_one]
    exact LAt.of_V (base := 0) (Kd.R_V ho4.out)
  have hone' := Lib.hid hone
  clear hA1' hB1' hA2' hB2' hA3' hB3' hv3' hone ho4 hs3
  rw [hmm]
  go_loopw [6, 17] (fun v6 i wr => ∃ k : Nat, k ≤ m ∧ i = .int .i64 k ∧ Below w.heap.size w wr ∧ Blk wr w.heap.size 24 (words a) ∧ DAt wr (.slice A3 L c3) (a % pp) ∧ DAt wr v6 (a ^ k % pp)) (fun _ i _ => m - (intOf i).toNat)
  case atStart => exact ⟨0, Nat.zero_le _, rfl, hB4'.out, hA4'.out, hv3a.out, hone'.out⟩
  case round =>
    obtain ⟨k, hk, rfl, hB, hA, hx, hd⟩ := hrel
    clear hA4' hB4' hv3a hone' hb4
    by_cases hlt : k < m
    · have hB' := Lib.hid hB
      have hA' := Lib.hid hA
      have hx' := Lib.hid hx
      have hd' := Lib.hid hd
      have hlt2 : decide ((k : Int) < (m : Int)) = true := decide_eq_true (by omega)
      clear hB hA hx hd
      go_wp2_with fail
      refine (hmul'.out _ _ (la _) (la a) u6 (.slice A3 L c3) _ hd'.out hx'.out).mono ?_
      rintro e wN ⟨vN, rfl, hvN, hbN⟩
      have hvN' := Lib.hid hvN
      have hbN' := Lib.hid hbN
      clear hvN hbN
      go_wp2
      go_roundw
      case rel =>
        refine ⟨k + 1, by omega, by go_num, hB'.out.trans (hbN'.out.mono hB'.out.size), hA'.out.below hbN'.out hA'.out.lt, hx'.out.below hbN'.out, ?_⟩
        have := hvN'.out
        rw [Nat.mul_mod_mod, Nat.mod_mul_mod, ← Nat.pow_succ] at this
        exact this
      case measure => simp [intOf]; omega
    · obtain rfl : k = m := by omega
      have hB' := Lib.hid hB
      have hA' := Lib.hid hA
      have hx' := Lib.hid hx
      have hd' := Lib.hid hd
      obtain ⟨p0, p1, p2, p3⟩ := hA.words4
      have hl := hA.lt
      have hlt2 : decide ((k : Int) < (k : Int)) = false := decide_eq_false (by omega)
      clear hB hA hx hd hlt
      go_wp2_with fail
      refine (hinv'.out _).mono ?_
      rintro e w5 ⟨rfl, hb5⟩
      have hA5 := Lib.hid (hA'.out.below hb5 hA'.out.lt)
      have hB5 := Lib.hid (hB'.out.trans (hb5.mono hB'.out.size))
      have hx5 := Lib.hid (hx'.out.below hb5)
      have hd5 := Lib.hid (hd'.out.below hb5)
      clear hb5 hA' hB' hx' hd' p0 p1 p2 p3 hl
      obtain ⟨p0, p1, p2, p3⟩ := hA5.out.words4
      have hl := hA5.out.lt
      have hnew : w5.heap.size < (w5.alloc (.cells (words 0) 24)).heap.size := by simp
      go_wp2_with fail
      refine (hpow'.out _).mono ?_
      rintro e w6 ⟨rfl, hb6⟩
      have hi6 : Blk w6 w5.heap.size 24 (words i) := (Blk.new (w := w5) w5.heap.size 24 (words i) rfl).below hb6 (by simp)
      have hi6' := Lib.hid hi6
      have hA6 := Lib.hid ((hA5.out.alloc (.cells (words i) 24)).below hb6 (by have := hA5.out.lt; simp; omega))
      have hB6 := Lib.hid ((hB5.out.alloc hB5.out.size (.cells (words i) 24)).trans (hb6.mono (by have := hB5.out.size; simp; omega)))
      have hx6 := Lib.hid ((hx5.out.alloc (.cells (words i) 24)).below hb6)
      have hd6 := Lib.hid ((hd5.out.alloc (.cells (words i) 24)).below hb6)
      clear hb6 hi6 hA5 hB5 hx5 hd5 p0 p1 p2 p3 hl hnew
      go_wp2_with fail
      refine (his'.out u6 _ (by rw [hq'.out, pp_P]; exact hd6.out)).mono ?_
      rintro e w7 ⟨rfl, hb7⟩
      have hi7 := Lib.hid (hi6'.out.below hb7 hi6'.out.lt)
      have hA7 := Lib.hid (hA6.out.below hb7 hA6.out.lt)
      have hB7 := Lib.hid (hB6.out.trans (hb7.mono hB6.out.size))
      clear hb7 hi6' hA6 hB6 hx6 hd6
      obtain ⟨p0, p1, p2, p3⟩ := hi7.out.words4
      have hl := hi7.out.lt
      by_cases hz : a % P25519 = 0
      · have hL0 : L = 0 := by rw [hL'.out, ← pp_P, hz, dig_zero]; rfl
        subst hL0
        have hzz1 := hzz'.out
        rw [decide_eq_true (show i = 0 by rw [hi'.out]; exact inverse_zero a hz)] at hzz1
        have hzz2 := Lib.hid hzz1
        clear hzz1
        go_wp2_with fail
        refine (hzz2.out _).mono ?_
        rintro e w8 ⟨rfl, hb8⟩
        have hB8 := Lib.hid (hB7.out.trans (hb8.mono hB7.out.size))
        clear hb8
        go_wp2
        go_ret
        exact ⟨rfl, hB8.out⟩
      · have hL0 : L ≠ 0 := by
          rw [hL'.out, ← pp_P]
          intro h
          have := dig_length_gt (a % P25519) 0 (by rw [Nat.pow_zero]; omega)
          omega
        have hL1 : decide ((L : Int) = 0) = false := decide_eq_false (by omega)
        have hL2 : ((L : Int) == 0) = false := beq_eq_false_iff_ne.2 (by omega)
        clear p0 p1 p2 p3 hl
        go_wp2_with fail
        refine' Oh.wp_region_oh_lit 12 [] [.is, .is, .is, .is, .is, .is, .fresh, .is, .is, .is, .is, .is] [.is _, .is _, .is _, .is _, .is _, .is _, .fresh (fun g => .slice (some ⟨g, 0, none⟩) 2 2) 24 #[.int .u64 (wd a 0 : Nat), .int .u64 (wd a 1 : Nat), .int .u64 (wd a 2 : Nat), .int .u64 (wd a 3 : Nat), .int .u64 (wd i 0 : Nat), .int .u64 (wd i 1 : Nat), .int .u64 (wd i 2 : Nat), .int .u64 (wd i 3 : Nat)] #[.int .u64 (wd a 0 : Nat), .int .u64 (wd a 1 : Nat), .int .u64 (wd a 2 : Nat), .int .u64 (wd a 3 : Nat), .int .u64 (wd i 0 : Nat), .int .u64 (wd i 1 : Nat), .int .u64 (wd i 2 : Nat), .int .u64 (wd i 3 : Nat)], .is _, .is _, .is _, .is _, .is _] (w7.heap.size)
          (fun c w' => Below w.heap.size w w' ∧ Blk w' w.heap.size 24 (words a) ∧ Blk w' w5.heap.size 24 (words i)) (fun _ => False) (by kernel_rfl) (by kernel_rfl) (by kernel_rfl) (by rfl) (fun _ h => h.elim) ?hfa (Nat.le_refl _) ?h0a ?hwa
        case hfa => exact fun b w1 w2 h1 h2 => ⟨h1.1.trans (h2.below h1.1.size (by intro k hk; have := hB7.out.size; omega)), Blk.ext h1.2.1 h2 (by have := hA7.out.lt; omega), Blk.ext h1.2.2 h2 (by have := hi7.out.lt; omega)⟩
        case h0a => exact ⟨below_drew1 hB7.out, hA7.out, hi7.out⟩
        case hwa =>
          iterate 6 (
            apply Oh.walk_is
            · rfl
            · rfl
            · intro c hc wx hS hE K hK
              have hS2 := Lib.hid hS
              obtain ⟨hX, hA, hI⟩ := hS
              obtain ⟨p0, p1, p2, p3⟩ := hA.words4
              obtain ⟨q0, q1, q2, q3⟩ := hI.words4
              have hl1 := hA.lt
              have hl2 := hI.lt
              have he := he'.out
              have hX2 := Lib.hid hX
              have hA2 := Lib.hid hA
              have hI2 := Lib.hid hI
              clear hX hA hI
              clear hE hc
              all_goals (
                go_wp2_with (first | (go_at_call 21; refine (hpr'.out _).mono ?_; rintro e w9 ⟨rfl, hb3⟩) | (go_at_call 27; refine (hless'.out _).mono ?_; rintro e w9 ⟨rfl, hb3⟩) | (go_at_call 17; refine (h17'.out hz ga6 2 _ (nums2 a i ga6 wx hcg'.out)).mono ?_; rintro e w9 ⟨rfl, hb3⟩))
                apply Oh.Told.mk
                · first | (simp only [Act.put, List.setIfInBounds_toArray, List.set_cons_succ, List.set_cons_zero]; done) | (simp only [Act.put, List.setIfInBounds_toArray, List.set_cons_succ, List.set_cons_zero]; rfl)
                · first
                  | exact hS2.out
                  | exact ⟨hX2.out.trans (hb3.mono hX2.out.size), hA2.out.below hb3 hA2.out.lt, hI2.out.below hb3 hI2.out.lt⟩
                  | exact ⟨hX2.out.alloc hX2.out.size _, hA2.out.alloc _, hI2.out.alloc _⟩
                · first
                  | exact Ext.refl _ _
                  | exact Ext.of_below hb3)
            simp only [Act.put, List.setIfInBounds_toArray, List.set_cons_succ, List.set_cons_zero])
          (
            apply Oh.walk_fresh
            · rfl
            · rfl
            · intro c hc wx hS hE K hK
              have hS2 := Lib.hid hS
              obtain ⟨hX, hA, hI⟩ := hS
              obtain ⟨p0, p1, p2, p3⟩ := hA.words4
              obtain ⟨q0, q1, q2, q3⟩ := hI.words4
              have hl1 := hA.lt
              have hl2 := hI.lt
              have he := he'.out
              have hX2 := Lib.hid hX
              have hA2 := Lib.hid hA
              have hI2 := Lib.hid hI
              clear hX hA hI
              clear hE hc
              all_goals (
                go_wp2_with (first | (go_at_call 21; refine (hpr'.out _).mono ?_; rintro e w9 ⟨rfl, hb3⟩) | (go_at_call 27; refine (hless'.out _).mono ?_; rintro e w9 ⟨rfl, hb3⟩) | (go_at_call 17; refine (h17'.out hz ga6 2 _ (nums2 a i ga6 wx hcg'.out)).mono ?_; rintro e w9 ⟨rfl, hb3⟩))
                apply Oh.Laid.mk
                · exact ⟨_, by first | (simp only [Act.put, List.setIfInBounds_toArray, List.set_cons_succ, List.set_cons_zero]; done) | (simp only [Act.put, List.setIfInBounds_toArray, List.set_cons_succ, List.set_cons_zero]; rfl), Nat.le_refl _, MapKept.heap_alloc _ _ |>.1⟩
                · first
                  | exact hS2.out
                  | exact ⟨hX2.out.trans (hb3.mono hX2.out.size), hA2.out.below hb3 hA2.out.lt, hI2.out.below hb3 hI2.out.lt⟩
                  | exact ⟨hX2.out.alloc hX2.out.size _, hA2.out.alloc _, hI2.out.alloc _⟩
                · exact (Ext.refl _ _).alloc _)
            intro ga6
            simp only [Act.put, List.setIfInBounds_toArray, List.set_cons_succ, List.set_cons_zero])
          (
            apply Oh.walk_is
            · rfl
            · rfl
            · intro c hc wx hS hE K hK
              have hS2 := Lib.hid hS
              obtain ⟨hX, hA, hI⟩ := hS
              obtain ⟨p0, p1, p2, p3⟩ := hA.words4
              obtain ⟨q0, q1, q2, q3⟩ := hI.words4
              have hl1 := hA.lt
              have hl2 := hI.lt
              have he := he'.out
              have hX2 := Lib.hid hX
              have hA2 := Lib.hid hA
              have hI2 := Lib.hid hI
              clear hX hA hI
              have hcg : Blk wx ga6 24 #[.int .u64 (wd a 0 : Nat), .int .u64 (wd a 1 : Nat), .int .u64 (wd a 2 : Nat), .int .u64 (wd a 3 : Nat), .int .u64 (wd i 0 : Nat), .int .u64 (wd i 1 : Nat), .int .u64 (wd i 2 : Nat), .int .u64 (wd i 3 : Nat)] := (hE (6, ga6) (by simp) (by dsimp only; decide) (by rfl)).2
              have hcg' := Lib.hid hcg
              clear hcg
              clear hE hc
              all_goals (
                go_wp2_with (first | (go_at_call 21; refine (hpr'.out _).mono ?_; rintro e w9 ⟨rfl, hb3⟩) | (go_at_call 27; refine (hless'.out _).mono ?_; rintro e w9 ⟨rfl, hb3⟩) | (go_at_call 17; refine (h17'.out hz ga6 2 _ (nums2 a i ga6 wx hcg'.out)).mono ?_; rintro e w9 ⟨rfl, hb3⟩))
                apply Oh.Told.mk
                · first | (simp only [Act.put, List.setIfInBounds_toArray, List.set_cons_succ, List.set_cons_zero]; done) | (simp only [Act.put, List.setIfInBounds_toArray, List.set_cons_succ, List.set_cons_zero]; rfl)
                · first
                  | exact hS2.out
                  | exact ⟨hX2.out.trans (hb3.mono hX2.out.size), hA2.out.below hb3 hA2.out.lt, hI2.out.below hb3 hI2.out.lt⟩
                  | exact ⟨hX2.out.alloc hX2.out.size _, hA2.out.alloc _, hI2.out.alloc _⟩
                · first
                  | exact Ext.refl _ _
                  | exact Ext.of_below hb3)
            simp only [Act.put, List.setIfInBounds_toArray, List.set_cons_succ, List.set_cons_zero])
          iterate 4 (
            apply Oh.walk_is
            · rfl
            · rfl
            · intro c hc wx hS hE K hK
              have hS2 := Lib.hid hS
              obtain ⟨hX, hA, hI⟩ := hS
              obtain ⟨p0, p1, p2, p3⟩ := hA.words4
              obtain ⟨q0, q1, q2, q3⟩ := hI.words4
              have hl1 := hA.lt
              have hl2 := hI.lt
              have he := he'.out
              have hX2 := Lib.hid hX
              have hA2 := Lib.hid hA
              have hI2 := Lib.hid hI
              clear hX hA hI
              clear hE hc
              all_goals (
                go_wp2_with (first | (go_at_call 21; refine (hpr'.out _).mono ?_; rintro e w9 ⟨rfl, hb3⟩) | (go_at_call 27; refine (hless'.out _).mono ?_; rintro e w9 ⟨rfl, hb3⟩) | (go_at_call 17; refine (h17'.out hz ga6 2 _ (nums2 a i ga6 wx hcg'.out)).mono ?_; rintro e w9 ⟨rfl, hb3⟩))
                apply Oh.Told.mk
                · first | (simp only [Act.put, List.setIfInBounds_toArray, List.set_cons_succ, List.set_cons_zero]; done) | (simp only [Act.put, List.setIfInBounds_toArray, List.set_cons_succ, List.set_cons_zero]; rfl)
                · first
                  | exact hS2.out
                  | exact ⟨hX2.out.trans (hb3.mono hX2.out.size), hA2.out.below hb3 hA2.out.lt, hI2.out.below hb3 hI2.out.lt⟩
                  | exact ⟨hX2.out.alloc hX2.out.size _, hA2.out.alloc _, hI2.out.alloc _⟩
                · first
                  | exact Ext.refl _ _
                  | exact Ext.of_below hb3)
            simp only [Act.put, List.setIfInBounds_toArray, List.set_cons_succ, List.set_cons_zero])
          refine Oh.walk_end ?_
          intro w2a hS hroom hfull hdist
          go_wp2
          go_ret
          exact ⟨rfl, hS.1⟩
end Go.Proofs.Ytdfmamemnenkcaa.PResidueAdds
