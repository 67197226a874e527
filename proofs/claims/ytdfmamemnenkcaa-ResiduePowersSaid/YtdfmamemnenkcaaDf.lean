/-
  The reference's numbers modulo the prime, the second part: differences, the order of two numbers, the fold.
-/
import Derived.Test.YtdfmamemnenkcaaDp
set_option linter.unusedVariables false
set_option linter.unusedSimpArgs false
namespace Go.Proofs.Ytdfmamemnenkcaa.PResidueAdds
open Go.Dg Go.RowKit Go.Proofs.YtdfmamemnenkcaaW.PrintWords Go.Proofs.YtdfmamemnenkcaaW.PrintLast Go.Proofs.YtdfmamemnenkcaaW.PrintMore

@[irreducible] def pp : Nat := 57896044618658097711785492504343953926634992332820282019728792003956564819949
@[irreducible] def D15 : Nat := 1766847064778384329583297500742918515827483896875618958121606201292619776
theorem D15_eq : D ^ 15 = D15 := by unfold D15; decide
theorem D15_pos : 0 < D15 := by unfold D15; decide
theorem pp_eq : pp + 19 = D15 * 32768 := by unfold D15 pp; decide
theorem D15_le : D15 ≤ pp := by unfold D15 pp; decide
theorem pp_big : 19 < pp := by unfold pp; decide
theorem D16_eq : D ^ 16 = D15 * 65536 := by unfold D15; decide
theorem pp_lt16 : pp + pp < D ^ 16 := by unfold pp; decide
theorem pp_val (n : Nat) (h : n = 57896044618658097711785492504343953926634992332820282019728792003956564819949) : n = pp := by unfold pp; exact h

theorem minus_j (k : Nat) (a b out : List Int) (c x y i : Nat) (hla : a.length ≤ 100000) (hlo : out.length ≤ 100000) (hc : c ≤ 1) (hi : i < a.length)
    (hx : rd a i = x) (hy : rd b i = y) (hxl : x < 65536) (hyl : y < 65536) (hy0 : i < b.length ∨ y = 0) (n : Int) (hn : n = a.length) :
    escutcheonref08_Minus.l0 (k + 1) a b out (c : Int) n (i : Int) =
      escutcheonref08_Minus.l0 k a b (out ++ [((if x < c + y then x + 65536 - (c + y) else x - (c + y) : Nat) : Int)]) ((if x < c + y then 1 else 0 : Nat) : Int) n ((i + 1 : Nat) : Int) := by
  have g0 : (0 : Int) ≤ i := by omega
  have gn : (i : Int) < n := by omega
  have g1 : (i : Int) < (a.length : Int) := by omega
  have go : out.length < 17592186044416 := by omega
  have g2 : i < b.length ∨ ¬ i < b.length := by omega
  have g3 : x < c + y ∨ ¬ x < c + y := by omega
  have l1 : ¬ i < b.length → y = 0 := by omega
  have a1 : x < c + y → (x : Int) - c - y < 0 := by omega
  have a2 : ¬ x < c + y → ¬ (x : Int) - c - y < 0 := by omega
  have a3 : x < c + y → (x : Int) - c - y + 65536 = ((x + 65536 - (c + y) : Nat) : Int) := by omega
  have a4 : ¬ x < c + y → (x : Int) - c - y = ((x - (c + y) : Nat) : Int) := by omega
  have n1 : ∀ {u v : Nat}, u < v → (u : Int) < (v : Int) := by omega
  have n2 : ∀ {u v : Nat}, ¬ u < v → ¬ (u : Int) < (v : Int) := by omega
  have ew : wrap64 ((i : Int) + 1) = ((i + 1 : Nat) : Int) := by rw [w64 (by omega) (by omega)]; rfl
  have w1 : wrap64 ((x : Int) - c) = (x : Int) - c := by clear ew; rw [w64 (by omega) (by omega)]
  have w2 : wrap64 ((x : Int) - c - y) = (x : Int) - c - y := by clear ew w1; rw [w64 (by omega) (by omega)]
  have w3 : x < c + y → wrap64 ((x : Int) - c - y + 65536) = (x : Int) - c - y + 65536 := by clear ew w1 w2; intro h; rw [w64 (by omega) (by omega)]
  rw [escutcheonref08_Minus.l0, if_pos gn, if_pos g0, if_pos g1, hx, hy, w1]
  rcases g2 with g2 | g2
  · rw [if_pos (n1 g2), w2]
    rcases g3 with g3 | g3
    · rw [if_pos (a1 g3), if_pos go, w3 g3, a3 g3, if_pos g3, if_pos g3, ew]; rfl
    · rw [if_neg (a2 g3), if_pos go, a4 g3, if_neg g3, if_neg g3, ew]; rfl
  · have := l1 g2
    subst this
    rw [if_neg (n2 g2)]
    have z : (x : Int) - c = (x : Int) - c - ((0 : Nat) : Int) := by simp
    rw [z]
    rcases g3 with g3 | g3
    · rw [if_pos (a1 g3), if_pos go, w3 g3, a3 g3, if_pos g3, if_pos g3, ew]; rfl
    · rw [if_neg (a2 g3), if_pos go, a4 g3, if_neg g3, if_neg g3, ew]; rfl

theorem minus_loop (a b : List Int) (ha : Ok a) (hb : Ok b) (hla : a.length ≤ 100000) (hba : b.length ≤ a.length) (hle : val b ≤ val a) : ∀ (d i : Nat) (out : List Int) (c : Nat), Ok out → out.length = i → c ≤ 1 → a.length - i = d → i ≤ a.length →
    val (a.take i) + D ^ i * c = val out + val (b.take i) →
    Ev (fun k => escutcheonref08_Minus.l0 k a b out (c : Int) (a.length : Int) (i : Int)) (dig (val a - val b)) := by
  intro d
  induction d with
  | zero =>
    intro i out c ho hlo hc hd hi hv
    have : i = a.length := by omega
    subst this
    rw [List.take_length, List.take_of_length_le hba] at hv
    have hval : val out = val a - val b := by
      have h1 := val_lt ho
      rw [hlo] at h1
      have hcc : c = 0 ∨ c = 1 := by omega
      rcases hcc with rfl | rfl
      · omega
      · omega
    refine Ev.step (f := fun k => (escutcheonref08_Trim.f k out).bind fun t => some t) (fun k => ?_) ?_
    · rw [escutcheonref08_Minus.l0, if_neg (by omega)]
    · rw [← hval]
      exact Ev.bind (trim_ev out ho (by omega)) (Ev.now _)
  | succ d ih =>
    intro i out c ho hlo hc hd hi hv
    have hil : i < a.length := by omega
    obtain ⟨x, hx⟩ : ∃ x : Nat, (x : Int) = a.getD i 0 := ⟨(a.getD i 0).toNat, Int.toNat_of_nonneg (ha.rd i).1⟩
    obtain ⟨y, hy⟩ : ∃ y : Nat, (y : Int) = b.getD i 0 := ⟨(b.getD i 0).toNat, Int.toNat_of_nonneg (hb.rd i).1⟩
    have hxl := (ha.rd i).2
    have hyl := (hb.rd i).2
    have hy0 : i < b.length ∨ y = 0 := by
      rcases Nat.lt_or_ge i b.length with h | h
      · exact .inl h
      · have : b.getD i 0 = 0 := by rw [List.getD_eq_getElem?_getD, List.getElem?_eq_none h]; rfl
        exact .inr (by omega)
    have hvb : val (b.take (i + 1)) = val (b.take i) + D ^ i * y := by
      rcases Nat.lt_or_ge i b.length with h | h
      · rw [val_take_succ b i h, ← hy]; rfl
      · have : y = 0 := by omega
        rw [this, List.take_of_length_le h, List.take_of_length_le (by omega)]; rfl
    refine Ev.step (fun k => minus_j k a b out c x y i hla (by omega) hc hil (by rw [rd_nat, hx]) (by rw [rd_nat, hy]) (by omega) (by omega) hy0 _ rfl) ?_
    refine ih (i + 1) _ _ (ho.append (Ok.one (by omega) (by split <;> omega))) (by rw [List.length_append, hlo]; rfl) (by split <;> omega) (by omega) (by omega) ?_
    rw [val_take_succ a i hil, ← hx, val_append, hlo, val_one, hvb, Nat.pow_succ, Int.toNat_natCast, Int.toNat_natCast]
    by_cases h : x < c + y
    · rw [if_pos h, if_pos h]
      have e : D ^ i * (x + 65536 - (c + y)) + D ^ i * c + D ^ i * y = D ^ i * x + D ^ i * D * 1 := by
        rw [Nat.mul_one, ← Nat.mul_add, ← Nat.mul_add, ← Nat.mul_add]; congr 1; unfold D; omega
      omega
    · rw [if_neg h, if_neg h]
      have e : D ^ i * (x - (c + y)) + D ^ i * c + D ^ i * y = D ^ i * x := by
        rw [← Nat.mul_add, ← Nat.mul_add]; congr 1; omega
      omega

theorem minus_ev (a b : List Int) (ha : Ok a) (hb : Ok b) (hla : a.length ≤ 100000) (hba : b.length ≤ a.length) (hle : val b ≤ val a) : Ev (fun k => escutcheonref08_Minus.f k a b) (dig (val a - val b)) := by
  have := minus_loop a b ha hb hla hba hle _ 0 [] 0 Ok.nil rfl (by omega) rfl (by omega) (by simp [val])
  exact this

theorem less_loop (a b : List Int) (ha : Ok a) (hb : Ok b) (hla : a.length ≤ 100000) (hab : a.length = b.length) : ∀ (i : Nat), i ≤ a.length →
    Ev (fun k => escutcheonref08_Less.l0 k a b ((i : Int) - 1)) (decide (val (a.take i) < val (b.take i))) := by
  intro i
  induction i with
  | zero =>
    intro _
    refine Ev.step (f := fun k => some false) (fun k => ?_) ?_
    · rw [escutcheonref08_Less.l0, if_neg (by omega)]
    · exact Ev.now _
  | succ i ih =>
    intro hi
    obtain ⟨x, hx⟩ : ∃ x : Nat, (x : Int) = a.getD i 0 := ⟨(a.getD i 0).toNat, Int.toNat_of_nonneg (ha.rd i).1⟩
    obtain ⟨y, hy⟩ : ∃ y : Nat, (y : Int) = b.getD i 0 := ⟨(b.getD i 0).toNat, Int.toNat_of_nonneg (hb.rd i).1⟩
    have e1 : ((i + 1 : Nat) : Int) - 1 = (i : Int) := by omega
    rw [e1, val_take_succ a i (by omega), val_take_succ b i (by omega), ← hx, ← hy, Int.toNat_natCast, Int.toNat_natCast]
    have h1 := val_lt (ha.take i)
    have h2 := val_lt (hb.take i)
    rw [List.length_take, Nat.min_eq_left (by omega)] at h1 h2
    by_cases h : x = y
    · subst h
      refine Ev.step (f := fun k => escutcheonref08_Less.l0 k a b ((i : Int) - 1)) (fun k => ?_) ?_
      · have ew : (-9223372036854775808 : Int) ≤ (i : Int) - 1 ∧ (i : Int) - 1 ≤ 9223372036854775807 := by omega
        rw [escutcheonref08_Less.l0, if_pos (by omega), if_pos (by omega), if_pos (by omega), if_pos (by omega), rd_nat, rd_nat, ← hx, ← hy, if_pos rfl, w64 ew.1 ew.2]
      · have := ih (by omega)
        rw [show decide (val (a.take i) + D ^ i * x < val (b.take i) + D ^ i * x) = decide (val (a.take i) < val (b.take i)) from by
          rw [decide_eq_decide]; omega]
        exact this
    · refine Ev.step (f := fun k => some (decide ((x : Int) < (y : Int)))) (fun k => ?_) ?_
      · rw [escutcheonref08_Less.l0, if_pos (by omega), if_pos (by omega), if_pos (by omega), if_pos (by omega), rd_nat, rd_nat, ← hx, ← hy, if_neg (by omega)]
      · have : decide (val (a.take i) + D ^ i * x < val (b.take i) + D ^ i * y) = decide ((x : Int) < (y : Int)) := by
          rw [decide_eq_decide]
          constructor
          · intro hlt
            rcases Nat.lt_or_ge x y with h' | h'
            · omega
            · exfalso
              have : D ^ i * (y + 1) ≤ D ^ i * x := Nat.mul_le_mul_left _ (by omega)
              rw [Nat.mul_add] at this
              omega
          · intro hlt
            have : D ^ i * (x + 1) ≤ D ^ i * y := Nat.mul_le_mul_left _ (by omega)
            rw [Nat.mul_add] at this
            omega
        rw [this]
        exact Ev.now _

theorem less_ev (a b : List Int) (ha : Ok a) (hb : Ok b) (hla : a.length ≤ 100000) (hlb : b.length ≤ 100000) : Ev (fun k => escutcheonref08_Less.f k a b) (decide (val a < val b)) := by
  unfold escutcheonref08_Less.f
  refine Ev.bind (trim_ev a ha (by omega)) (Ev.bind (trim_ev b hb (by omega)) ?_)
  have l1 : (dig (val a)).length ≤ a.length := dig_length_le _ _ (val_lt ha)
  have l2 : (dig (val b)).length ≤ b.length := dig_length_le _ _ (val_lt hb)
  by_cases h : (dig (val a)).length = (dig (val b)).length
  · have := less_loop (dig (val a)) (dig (val b)) (Ok.dig _) (Ok.dig _) (by omega) h _ (Nat.le_refl _)
    rw [List.take_length, h, List.take_length, val_dig, val_dig] at this
    refine Ev.congr (fun k => ?_) this
    have ew : (-9223372036854775808 : Int) ≤ ((dig (val b)).length : Int) - 1 ∧ ((dig (val b)).length : Int) - 1 ≤ 9223372036854775807 := by omega
    rw [if_pos (by omega), h, w64 ew.1 ew.2]
  · refine Ev.congr (f := fun _ => some (decide (val a < val b))) (fun k => ?_) (Ev.now _)
    rw [if_neg (by omega)]
    congr 1
    rw [decide_eq_decide]
    constructor
    · intro hlt
      rcases Nat.lt_or_ge (val a) (val b) with h' | h'
      · exact h'
      · exfalso
        have h3 := val_lt (Ok.dig (val a))
        rw [val_dig] at h3
        have := dig_length_le (val b) _ (Nat.lt_of_le_of_lt h' h3)
        omega
    · intro hlt
      have h3 := val_lt (Ok.dig (val b))
      rw [val_dig] at h3
      have := dig_length_le (val a) _ (Nat.lt_trans hlt h3)
      omega

def ppd : List Int := [65517, 65535, 65535, 65535, 65535, 65535, 65535, 65535, 65535, 65535, 65535, 65535, 65535, 65535, 65535, 32767]
theorem ppd_eq : dig pp = ppd := by
  have h : val ppd = pp := pp_val _ (by decide)
  rw [← h]
  exact dig_val (by intro d hd; simp [ppd] at hd; omega) (by intro d hd; simp [ppd] at hd; omega)
theorem prime_ev : Ev (fun k => escutcheonref08_Prime.f k) (dig pp) := by
  rw [ppd_eq]
  refine Ev.of escutcheonref08_Prime.mono (k := 16) ?_
  decide +kernel

/-! ### The fold -/

theorem fold_digit (x y : Nat) (hx : x < 65536) : wrap64 (wrap64 (Int.tdiv (x : Int) 32768) + wrap64 (Int.tmod (y : Int) 32768 * 2)) = ((x / 32768 + y % 32768 * 2 : Nat) : Int) := by
  have e1 : Int.tdiv (x : Int) 32768 = ((x / 32768 : Nat) : Int) := by rw [Int.tdiv_eq_ediv_of_nonneg (by omega)]; rfl
  have e2 : Int.tmod (y : Int) 32768 = ((y % 32768 : Nat) : Int) := by rw [Int.tmod_eq_emod_of_nonneg (by omega)]; rfl
  have w1 : wrap64 ((x / 32768 : Nat) : Int) = ((x / 32768 : Nat) : Int) := w64 (by omega) (by omega)
  have w2 : wrap64 (((y % 32768 : Nat) : Int) * 2) = ((y % 32768 * 2 : Nat) : Int) := by clear w1; rw [w64 (by omega) (by omega)]; rfl
  have w3 : wrap64 (((x / 32768 : Nat) : Int) + ((y % 32768 * 2 : Nat) : Int)) = ((x / 32768 + y % 32768 * 2 : Nat) : Int) := by clear w1 w2; rw [← Int.natCast_add, w64 (by omega) (by omega)]
  rw [e1, e2, w1, w2, w3]

theorem fold_digit1 (x : Nat) (hx : x < 65536) : wrap64 (Int.tdiv (x : Int) 32768) = ((x / 32768 : Nat) : Int) := by
  have e1 : Int.tdiv (x : Int) 32768 = ((x / 32768 : Nat) : Int) := by rw [Int.tdiv_eq_ediv_of_nonneg (by omega)]; rfl
  rw [e1, w64 (by omega) (by omega)]

theorem rd_dig' (n i : Nat) : rd (dig n) (i : Int) = ((n / D ^ i % 65536 : Nat) : Int) := by rw [rd_nat, rd_dig]; rfl

theorem fold_high (E : Nat) (hE15 : D ^ 15 = E) (hEpos : 0 < E) (hEpp : pp + 19 = E * 32768) (hEle : E ≤ pp) (hE16 : D ^ 16 = E * 65536) (n : Nat) (lo : List Int) (r : List Int) (hn : (dig n).length ≤ 100000) (hn15 : 15 ≤ (dig n).length)
    (hr : ∀ out, Ok out → val out = n / (E * 32768) → out.length ≤ 100000 → Ev (fun k => escutcheonref08_Fold.j3 k lo out) r) :
    ∀ (d j : Nat) (out : List Int), Ok out → out.length = j → (dig n).length - (15 + j) = d → 15 + j ≤ (dig n).length → val out = n / (E * 32768) % D ^ j →
      Ev (fun k => escutcheonref08_Fold.l1 k (dig n) lo out ((15 + j : Nat) : Int)) r := by
  intro d
  have hlt := val_lt (Ok.dig n)
  rw [val_dig] at hlt
  induction d with
  | zero =>
    intro j out ho hlo hd hj hv
    refine Ev.step (f := fun k => escutcheonref08_Fold.j3 k lo out) (fun k => ?_) (hr out ho ?_ (by omega))
    · rw [escutcheonref08_Fold.l1, if_neg (by omega)]
    · rw [hv, Nat.mod_eq_of_lt]
      have : (dig n).length = 15 + j := by omega
      rw [this, Nat.pow_add, hE15] at hlt
      rw [Nat.div_lt_iff_lt_mul (Nat.mul_pos (hEpos) (by decide)), ← Nat.mul_assoc, Nat.mul_comm (D ^ j)]
      exact Nat.lt_of_lt_of_le hlt (Nat.le_mul_of_pos_right _ (by decide))
  | succ d ih =>
    intro j out ho hlo hd hj hv
    obtain ⟨t, ht⟩ : ∃ t, t = n / D ^ (15 + j) := ⟨_, rfl⟩
    have ht1 : n / D ^ (15 + j + 1) = t / 65536 := by rw [Nat.pow_succ, ← Nat.div_div_eq_div_mul, ← ht]; rfl
    have hdj : n / (E * 32768) / D ^ j = t / 32768 := by
      rw [Nat.div_div_eq_div_mul, Nat.mul_assoc, Nat.mul_comm 32768, ← Nat.mul_assoc, ← hE15, ← Nat.pow_add, ← Nat.div_div_eq_div_mul, ← ht]
    have hnext : val (out ++ [((t / 32768 % 65536 : Nat) : Int)]) = n / (E * 32768) % D ^ (j + 1) := by
      rw [val_append, val_one, hlo, hv, Int.toNat_natCast, Nat.pow_succ, Nat.mod_mul, hdj]; rfl
    have key := ih (j + 1) (out ++ [((t / 32768 % 65536 : Nat) : Int)]) (ho.append (Ok.one (by omega) (by omega))) (by rw [List.length_append, hlo]; rfl) (by omega) (by omega) hnext
    refine Ev.step (fun k => ?_) key
    have g0 : (0 : Int) ≤ ((15 + j : Nat) : Int) := by omega
    have g0' : (0 : Int) ≤ ((15 + j + 1 : Nat) : Int) := by omega
    have g1 : ((15 + j : Nat) : Int) < ((dig n).length : Int) := by omega
    have go : out.length < 17592186044416 := by omega
    have g2 : 15 + j + 1 < (dig n).length ∨ ¬ 15 + j + 1 < (dig n).length := by omega
    have n1 : ∀ {u v : Nat}, u < v → (u : Int) < (v : Int) := by omega
    have n2 : ∀ {u v : Nat}, ¬ u < v → ¬ (u : Int) < (v : Int) := by omega
    rw [escutcheonref08_Fold.l1, if_pos g1, if_pos g0, wsucc (15 + j) (by omega)]
    rcases g2 with g2 | g2
    · rw [if_pos (n1 g2), if_pos g0', if_pos go, rd_dig', rd_dig', ht1, ← ht, fold_digit _ _ (by omega)]
      rw [show t % 65536 / 32768 + t / 65536 % 65536 % 32768 * 2 = t / 32768 % 65536 by omega]
      rfl
    · rw [if_neg (n2 g2), if_pos go, rd_dig', ← ht, fold_digit1 _ (by omega)]
      have hz : t / 65536 = 0 := by
        rw [← ht1, Nat.div_eq_of_lt]
        exact Nat.lt_of_lt_of_le hlt (Nat.pow_le_pow_right D_pos (by omega))
      rw [show t % 65536 / 32768 = t / 32768 % 65536 by omega]
      rfl

theorem dig_len_iff (n k : Nat) : k < (dig n).length ↔ D ^ k ≤ n := by
  constructor
  · intro h
    rcases Nat.lt_or_ge n (D ^ k) with h' | h'
    · have := dig_length_le n k h'; omega
    · exact h'
  · exact dig_length_gt n k

theorem fold_ev' (E : Nat) (hE15 : D ^ 15 = E) (hEpos : 0 < E) (hEpp : pp + 19 = E * 32768) (hEle : E ≤ pp) (hE16 : D ^ 16 = E * 65536) : ∀ n : Nat, (dig n).length ≤ 40000 → Ev (fun k => escutcheonref08_Fold.f k (dig n)) (dig (n % pp)) := by
  intro n
  induction n using Nat.strongRecOn with
  | _ n ih =>
    intro hl
    unfold escutcheonref08_Fold.f
    by_cases hbig : E * 32768 ≤ n
    · -- a fold
      have hlen : 15 < (dig n).length := (dig_len_iff n 15).2 (by rw [hE15]; omega)
      have hj1 : Ev (fun k => escutcheonref08_Fold.j1 k (dig n) true) (dig (n % pp)) := by
        have hlast := fold_high E hE15 hEpos hEpp hEle hE16 n ((dig n).take 15 ++ [Int.tmod (rd (dig n) 15) 32768]) (dig (n % pp)) (by omega) (by omega) (by
          intro out ho hv hlo
          have e15 : Int.tmod (rd (dig n) 15) 32768 = ((n / E % 32768 : Nat) : Int) := by
            have := rd_dig' n 15
            rw [show ((15 : Nat) : Int) = 15 from rfl, hE15] at this
            rw [this, Int.tmod_eq_emod_of_nonneg (by omega)]
            rw [show (32768 : Int) = ((32768 : Nat) : Int) from rfl, ← Int.natCast_emod]
            congr 1
            omega
          have okl : Ok ((dig n).take 15 ++ [Int.tmod (rd (dig n) 15) 32768]) := by
            rw [e15]; exact ((Ok.dig n).take 15).append (Ok.one (by omega) (by omega))
          have vl : val ((dig n).take 15 ++ [Int.tmod (rd (dig n) 15) 32768]) = n % (E * 32768) := by
            rw [val_append, val_one, val_take_dig, e15, Int.toNat_natCast, List.length_take, Nat.min_eq_left (by omega), hE15, Nat.mod_mul]
          have ll : ((dig n).take 15 ++ [Int.tmod (rd (dig n) 15) 32768]).length ≤ 100 := by
            rw [List.length_append, List.length_take, Nat.min_eq_left (by omega)]; simp
          refine Ev.step (fun k => by rw [escutcheonref08_Fold.j3]) ?_
          refine Ev.bind (trim_ev _ okl (by omega)) (Ev.bind (trim_ev out ho (by omega)) ?_)
          rw [vl, hv]
          have hm : n % (E * 32768) + n / (E * 32768) * 19 < n := by
            have := Nat.mod_add_div n (E * 32768)
            have hq : 1 ≤ n / (E * 32768) := (Nat.one_le_div_iff (Nat.mul_pos (hEpos) (by decide))).2 hbig
            generalize n / (E * 32768) = q at *
            have h5 : 20 * q ≤ E * 32768 * q := Nat.mul_le_mul_right _ (by omega)
            omega
          have hq : n / (E * 32768) ≤ n := Nat.div_le_self _ _
          have l1 : (dig (n / (E * 32768))).length ≤ 40000 := Nat.le_trans (dig_length_le _ _ (Nat.lt_of_le_of_lt hq (by have := val_lt (Ok.dig n); rw [val_dig] at this; exact this))) hl
          have l2 : (dig (n % (E * 32768))).length ≤ 40000 := Nat.le_trans (dig_length_le _ _ (Nat.lt_of_le_of_lt (Nat.mod_le _ _) (by have := val_lt (Ok.dig n); rw [val_dig] at this; exact this))) hl
          have l3 : (dig (n / (E * 32768) * 19)).length ≤ 40000 := Nat.le_trans (dig_length_le _ _ (Nat.lt_of_le_of_lt (Nat.le_trans (Nat.le_add_left _ _) (Nat.le_of_lt hm)) (by have := val_lt (Ok.dig n); rw [val_dig] at this; exact this))) hl
          have l4 : (dig (n % (E * 32768) + n / (E * 32768) * 19)).length ≤ 40000 := Nat.le_trans (dig_length_le _ _ (Nat.lt_trans hm (by have := val_lt (Ok.dig n); rw [val_dig] at this; exact this))) hl
          have t1 := times_ev (dig (n / (E * 32768))) [19] (Ok.dig _) (Ok.one (by omega) (by omega)) (by omega) (by simp)
          rw [val_dig, val_one] at t1
          refine Ev.bind t1 ?_
          have t2 := plus_ev (dig (n % (E * 32768))) (dig (n / (E * 32768) * 19)) (Ok.dig _) (Ok.dig _) (by omega) (by omega)
          rw [val_dig, val_dig] at t2
          refine Ev.bind t2 ?_
          have t3 := ih _ hm l4
          have : (n % (E * 32768) + n / (E * 32768) * 19) % pp = n % pp := by
            have e := Nat.mod_add_div n (E * 32768)
            generalize n / (E * 32768) = q at *
            generalize n % (E * 32768) = m at *
            rw [← e, ← hEpp, Nat.add_mul, ← Nat.add_assoc, Nat.add_right_comm, Nat.add_mul_mod_self_left, Nat.mul_comm 19]
          rw [this] at t3
          exact t3) _ 0 [] Ok.nil rfl rfl (by omega) (by rw [Nat.pow_zero, Nat.mod_one]; rfl)
        refine Ev.step (fun k => ?_) hlast
        have a1 : ((dig n).length : Int) > 15 := by omega
        have a2 : (15 : Int) ≤ ((dig n).length : Int) := by omega
        have a3 : (15 : Int) < ((dig n).length : Int) := by omega
        have a4 : ([] : List Int).length + (dig n).length < 17592186044416 := by simp; omega
        have a5 : ([] : List Int).length + ((dig n).take 15).length < 17592186044416 := by simp; omega
        have a6 : (([] : List Int) ++ (dig n).take 15).length < 17592186044416 := by simp; omega
        rw [escutcheonref08_Fold.j1, if_pos rfl]
        simp only [Option.bind_some]
        rw [if_pos a4, if_pos a1, if_pos a2, if_pos a5, if_pos a3, if_pos a6]
        rfl
      by_cases h16 : 16 < (dig n).length
      · refine Ev.step (fun k => ?_) hj1
        rw [escutcheonref08_Fold.l0, if_pos (by omega)]
      · have e16 : (dig n).length = 16 := by omega
        refine Ev.step (fun k => ?_) hj1
        have hd : rd (dig n) 15 > 32767 := by
          have := rd_dig' n 15
          rw [show ((15 : Nat) : Int) = 15 from rfl, hE15] at this
          rw [this]
          have h1 : 32768 ≤ n / E := by rw [Nat.le_div_iff_mul_le (hEpos), Nat.mul_comm]; exact hbig
          have h2 : n / E < 65536 := by
            have h3 := val_lt (Ok.dig n)
            rw [val_dig, e16, hE16, Nat.mul_comm] at h3
            exact (Nat.div_lt_iff_lt_mul (hEpos)).2 h3
          omega
        rw [escutcheonref08_Fold.l0, if_neg (by omega), if_pos (by omega), if_pos (by omega), decide_eq_true hd]
    · -- no fold
      have hsm : n < pp + 19 := by rw [hEpp]; omega
      have l16 : (dig n).length ≤ 16 := by
        refine dig_length_le n 16 (Nat.lt_of_lt_of_le (by rw [hEpp] at hsm; exact hsm) ?_)
        rw [hE16]; omega
      have hj1 : Ev (fun k => escutcheonref08_Fold.j1 k (dig n) false) (dig (n % pp)) := by
        refine Ev.step (f := fun k => ((escutcheonref08_Prime.f k).bind fun t217 => ((escutcheonref08_Less.f k (dig n) t217).bind fun t220 => (if t220 = true then (some (dig n)) else ((escutcheonref08_Prime.f k).bind fun t221 => ((escutcheonref08_Minus.f k (dig n) t221).bind fun t224 => (some t224))))))) (fun k => ?_) ?_
        · rw [escutcheonref08_Fold.j1, if_neg (by simp)]
        · refine Ev.bind prime_ev ?_
          have lp : (dig pp).length = 16 := by rw [ppd_eq]; rfl
          have t1 := less_ev (dig n) (dig pp) (Ok.dig _) (Ok.dig _) (by omega) (by omega)
          rw [val_dig, val_dig] at t1
          refine Ev.bind t1 ?_
          by_cases h : n < pp
          · rw [decide_eq_true h, Nat.mod_eq_of_lt h]
            exact Ev.now _
          · rw [decide_eq_false h]
            have hlen : (dig pp).length ≤ (dig n).length := by
              rw [lp]
              have : E ≤ n := by
                have := hEle
                omega
              exact (dig_len_iff n 15).2 (by rw [hE15]; exact this)
            have t2 := minus_ev (dig n) (dig pp) (Ok.dig _) (Ok.dig _) (by omega) hlen (by rw [val_dig, val_dig]; omega)
            rw [val_dig, val_dig] at t2
            rw [show n % pp = n - pp by
              have := pp_big
              rw [Nat.mod_eq_sub_mod (by omega), Nat.mod_eq_of_lt (by omega)]]
            refine Ev.congr (fun k => if_neg (by simp)) (Ev.bind prime_ev ?_)
            exact Ev.bind t2 (Ev.now _)
      by_cases h16 : (dig n).length = 16
      · refine Ev.step (fun k => ?_) hj1
        have hd : ¬ rd (dig n) 15 > 32767 := by
          have := rd_dig' n 15
          rw [show ((15 : Nat) : Int) = 15 from rfl, hE15] at this
          rw [this]
          have h1 : n / E < 32768 := by rw [Nat.div_lt_iff_lt_mul (hEpos), Nat.mul_comm]; omega
          have hdd : n / E % 65536 ≤ n / E := Nat.mod_le _ _
          generalize n / E % 65536 = z at *
          omega
        rw [escutcheonref08_Fold.l0, if_neg (by omega), if_pos (by omega), if_pos (by omega), decide_eq_false hd]
      · refine Ev.step (fun k => ?_) hj1
        rw [escutcheonref08_Fold.l0, if_neg (by omega), if_neg (by omega)]
theorem fold_ev : ∀ n : Nat, (dig n).length ≤ 40000 → Ev (fun k => escutcheonref08_Fold.f k (dig n)) (dig (n % pp)) := fold_ev' D15 D15_eq D15_pos pp_eq D15_le D16_eq

theorem add_ev (a b : Nat) (ha : (dig a).length ≤ 30000) (hb : (dig b).length ≤ 30000) : Ev (fun k => escutcheonref08_Add.f k (dig a) (dig b)) (dig ((a + b) % pp)) := by
  have t1 := plus_ev (dig a) (dig b) (Ok.dig _) (Ok.dig _) (by omega) (by omega)
  rw [val_dig, val_dig] at t1
  refine Ev.bind t1 (Ev.bind (fold_ev _ ?_) (Ev.now _))
  have h1 := val_lt (Ok.dig a)
  have h2 := val_lt (Ok.dig b)
  rw [val_dig] at h1 h2
  obtain ⟨m, hm⟩ : ∃ m, m = 30000 := ⟨_, rfl⟩
  rw [← hm] at ha hb
  refine Nat.le_trans (dig_length_le _ (m + 1) ?_) (by omega)
  have h3 := Nat.pow_le_pow_right D_pos ha
  have h4 := Nat.pow_le_pow_right D_pos hb
  have h5 : D ^ m * 2 ≤ D ^ m * D := Nat.mul_le_mul_left _ (by decide)
  rw [Nat.pow_succ]
  omega
theorem mul_ev (a b : Nat) (ha : (dig a).length ≤ 20000) (hb : (dig b).length ≤ 20000) : Ev (fun k => escutcheonref08_Mul.f k (dig a) (dig b)) (dig (a * b % pp)) := by
  have t1 := times_ev (dig a) (dig b) (Ok.dig _) (Ok.dig _) (by omega) (by omega)
  rw [val_dig, val_dig] at t1
  refine Ev.bind t1 (Ev.bind (fold_ev _ ?_) (Ev.now _))
  have h1 := val_lt (Ok.dig a)
  have h2 := val_lt (Ok.dig b)
  rw [val_dig] at h1 h2
  have := dig_length_le (a * b) ((dig a).length + (dig b).length) (by rw [Nat.pow_add]; exact Nat.mul_lt_mul_of_lt_of_lt h1 h2)
  omega
theorem same_ev (a b : Nat) (ha : (dig a).length ≤ 30000) (hb : (dig b).length ≤ 30000) : Ev (fun k => escutcheonref08_Same.f k (dig a) (dig b)) (decide (a = b)) := by
  have t1 := less_ev (dig a) (dig b) (Ok.dig _) (Ok.dig _) (by omega) (by omega)
  have t2 := less_ev (dig b) (dig a) (Ok.dig _) (Ok.dig _) (by omega) (by omega)
  rw [val_dig, val_dig] at t1 t2
  refine Ev.bind t1 ?_
  by_cases h : a < b
  · rw [decide_eq_true h, decide_eq_false (by omega : ¬ a = b)]
    exact Ev.now _
  · rw [decide_eq_false h]
    refine Ev.congr (fun k => if_neg (by simp)) (Ev.bind t2 ?_)
    by_cases h2 : b < a
    · rw [decide_eq_true h2, decide_eq_false (by omega : ¬ a = b)]
      exact Ev.now _
    · rw [decide_eq_false h2, decide_eq_true (by omega : a = b)]
      exact Ev.now _
theorem small_len (n : Nat) (h : n < pp) : (dig n).length ≤ 16 := dig_length_le n 16 (by have := pp_lt16; omega)
theorem pp_pos : 0 < pp := by have := pp_big; omega
theorem sub_ev (a b : Nat) (ha : (dig a).length ≤ 30000) (hb : (dig b).length ≤ 30000) : Ev (fun k => escutcheonref08_Sub.f k (dig a) (dig b)) (dig ((a % pp + (pp - b % pp)) % pp)) := by
  refine Ev.bind (fold_ev a (by omega)) (Ev.bind prime_ev (Ev.bind (fold_ev b (by omega)) ?_))
  have hb1 := Nat.mod_lt b pp_pos
  have ha1 := Nat.mod_lt a pp_pos
  have lp : (dig pp).length = 16 := by rw [ppd_eq]; rfl
  have t1 := minus_ev (dig pp) (dig (b % pp)) (Ok.dig _) (Ok.dig _) (by omega) (by rw [lp]; exact small_len _ hb1) (by rw [val_dig, val_dig]; omega)
  rw [val_dig, val_dig] at t1
  refine Ev.bind t1 ?_
  have l1 : (dig (pp - b % pp)).length ≤ 16 := dig_length_le _ 16 (by have := pp_lt16; omega)
  have l2 := small_len _ ha1
  have t2 := plus_ev (dig (a % pp)) (dig (pp - b % pp)) (Ok.dig _) (Ok.dig _) (by omega) (by omega)
  rw [val_dig, val_dig] at t2
  refine Ev.bind t2 (Ev.bind (fold_ev _ ?_) (Ev.now _))
  have := dig_length_le (a % pp + (pp - b % pp)) 16 (by have := pp_lt16; omega)
  omega
end Go.Proofs.Ytdfmamemnenkcaa.PResidueAdds
