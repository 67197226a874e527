/-
  The reference's numbers modulo the prime: what each of its functions tells of digits is the digits of what it tells of numbers.
-/
import Derived.Test.YtdfmamemnenkcaaQ4
import Derived.Test.YtdfmamemnenkcaaDg
set_option linter.unusedVariables false
set_option linter.unusedSimpArgs false
namespace Go.Proofs.Ytdfmamemnenkcaa.PResidueAdds
open Go.Dg Go.RowKit Go.Proofs.YtdfmamemnenkcaaW.PrintWords Go.Proofs.YtdfmamemnenkcaaW.PrintLast Go.Proofs.YtdfmamemnenkcaaW.PrintMore

theorem evget {α : Type} {g : Nat → Option α} {r : α} (h : Ev g r) : ∃ K, ∀ k, K ≤ k → g k = some r := by
  obtain ⟨K, hK⟩ := h; exact ⟨K, fun k hk => hK k hk⟩
theorem w64 {x : Int} (h0 : -9223372036854775808 ≤ x) (h1 : x ≤ 9223372036854775807) : wrap64 x = x := by unfold wrap64; omega
theorem wsucc (i : Nat) (h : i ≤ 1000000) : wrap64 ((i : Int) + 1) = ((i + 1 : Nat) : Int) := by rw [w64 (by omega) (by omega)]; rfl
theorem rd_nat (l : List Int) (i : Nat) : rd l (i : Int) = l.getD i 0 := by simp [rd]
theorem tmod_nat (a : Nat) : Int.tmod (a : Int) 65536 = ((a % 65536 : Nat) : Int) := by
  rw [Int.tmod_eq_emod_of_nonneg (by omega)]; rfl
theorem tdiv_nat (a : Nat) : Int.tdiv (a : Int) 65536 = ((a / 65536 : Nat) : Int) := by
  rw [Int.tdiv_eq_ediv_of_nonneg (by omega)]; rfl

theorem trim_ev (l : List Int) (h : Ok l) (hl : l.length ≤ 1000000) : Ev (fun k => escutcheonref08_Trim.f k l) (dig (val l)) := by
  unfold escutcheonref08_Trim.f
  obtain ⟨n, hn⟩ : ∃ n, n = l.length := ⟨_, rfl⟩
  induction n generalizing l with
  | zero =>
    have : l = [] := List.eq_nil_of_length_eq_zero hn.symm
    subst this
    rw [val_nil, dig_zero]
    refine ⟨1, fun k hk => ?_⟩
    obtain ⟨k, rfl⟩ : ∃ m, k = m + 1 := ⟨k - 1, by omega⟩
    simp [escutcheonref08_Trim.l0]
  | succ n ih =>
    have e1 : wrap64 ((l.length : Int) - 1) = (n : Int) := by rw [w64 (by omega) (by omega)]; omega
    have hlast : l = l.take n ++ [l.getD n 0] := by
      have : l.take (n + 1) = l := List.take_of_length_le (by omega)
      rw [List.take_succ_eq_append_getElem (by omega)] at this
      rw [List.getD_eq_getElem?_getD, List.getElem?_eq_getElem (by omega)]
      exact this.symm
    by_cases hz : l.getD n 0 = 0
    · have hv : val l = val (l.take n) := by
        conv => lhs; rw [hlast, hz, val_snoc_zero]
      rw [hv]
      refine Ev.step (fun k => ?_) (ih (l.take n) (h.take n) (by rw [List.length_take]; omega) (by rw [List.length_take]; omega))
      simp only [escutcheonref08_Trim.l0, e1]
      rw [if_pos (by omega), if_pos (by omega), if_pos (by omega), rd_nat, if_pos hz, if_pos (by omega), Int.toNat_natCast]
    · refine ⟨1, fun k hk => ?_⟩
      obtain ⟨k, rfl⟩ : ∃ m, k = m + 1 := ⟨k - 1, by omega⟩
      simp only [escutcheonref08_Trim.l0, e1]
      rw [if_pos (by omega), if_pos (by omega), if_pos (by omega), rd_nat, if_neg hz]
      rw [dig_val h]
      intro d hd
      rw [hlast] at hd
      simp at hd
      rw [← hd]; simpa using hz


theorem plus_j (k : Nat) (a b out : List Int) (c x y i s : Nat) (hla : a.length ≤ 100000) (hlb : b.length ≤ 100000) (hlo : out.length ≤ 200001) (hc : c ≤ 1) (hi : i = out.length)
    (hx : rd a i = x) (hy : rd b i = y) (hxl : x < 65536) (hyl : y < 65536) (hx0 : i < a.length ∨ x = 0) (hy0 : i < b.length ∨ y = 0) (hs : s = c + x + y) :
    escutcheonref08_Plus.j1 (k + 1) a b out (c : Int) (i : Int) true = escutcheonref08_Plus.l0 k a b (out ++ [((s % 65536 : Nat) : Int)]) ((s / 65536 : Nat) : Int) ((i + 1 : Nat) : Int) := by
  have g0 : (0 : Int) ≤ i := by omega
  have go : out.length < 17592186044416 := by omega
  have g1 : i < a.length ∨ ¬ i < a.length := by omega
  have g2 : i < b.length ∨ ¬ i < b.length := by omega
  have e1 : ¬ i < b.length → ((c + x : Nat) : Int) = (s : Int) := by omega
  have e2 : ¬ i < a.length → ((c + y : Nat) : Int) = (s : Int) := by omega
  have e3 : ¬ i < a.length → ¬ i < b.length → (c : Int) = (s : Int) := by omega
  have n1 : ∀ {u v : Nat}, u < v → (u : Int) < (v : Int) := by omega
  have n2 : ∀ {u v : Nat}, ¬ u < v → ¬ (u : Int) < (v : Int) := by omega
  have ew : wrap64 ((i : Int) + 1) = ((i + 1 : Nat) : Int) := by rw [w64 (by omega) (by omega)]; rfl
  have ed : wrap64 (Int.tdiv (s : Int) 65536) = ((s / 65536 : Nat) : Int) := by clear ew; rw [tdiv_nat, w64 (by omega) (by omega)]
  have em : Int.tmod (s : Int) 65536 = ((s % 65536 : Nat) : Int) := tmod_nat s
  have w1 : wrap64 ((c : Int) + x) = ((c + x : Nat) : Int) := by clear ew ed em; rw [w64 (by omega) (by omega)]; rfl
  have w2 : wrap64 ((c : Int) + y) = ((c + y : Nat) : Int) := by clear ew ed em w1; rw [w64 (by omega) (by omega)]; rfl
  have w3 : wrap64 (((c + x : Nat) : Int) + y) = ((c + x + y : Nat) : Int) := by clear ew ed em w1 w2; rw [w64 (by omega) (by omega)]; rfl
  unfold escutcheonref08_Plus.j1
  rw [if_pos rfl]
  rcases g1 with g1 | g1
  · rw [if_pos (n1 g1), if_pos g0]
    rcases g2 with g2 | g2
    · rw [if_pos (n1 g2), if_pos go, hx, hy, w1, w3, ← hs, em, ed, ew]
    · rw [if_neg (n2 g2), if_pos go, hx, w1, e1 g2, em, ed, ew]
  · rw [if_neg (n2 g1)]
    rcases g2 with g2 | g2
    · rw [if_pos (n1 g2), if_pos g0, if_pos go, hy, w2, e2 g1, em, ed, ew]
    · rw [if_neg (n2 g2), if_pos go, e3 g1 g2, em, ed, ew]

theorem plus_loop (a b : List Int) (ha : Ok a) (hb : Ok b) (hla : a.length ≤ 100000) (hlb : b.length ≤ 100000) : ∀ (d : Nat) (out : List Int) (c : Nat), Ok out → c ≤ 1 → out.length ≤ 200001 →
    2 * (max a.length b.length - out.length) + c ≤ d → (out.length ≤ max a.length b.length ∨ c = 0) →
    Ev (fun k => escutcheonref08_Plus.l0 k a b out (c : Int) (out.length : Int)) (dig (val out + D ^ out.length * (val (a.drop out.length) + val (b.drop out.length) + c))) := by
  intro d
  induction d with
  | zero =>
    intro out c ho hc hlo hd hor
    have hc0 : c = 0 := by omega
    subst hc0
    have h1 : a.length ≤ out.length := by omega
    have h2 : b.length ≤ out.length := by omega
    rw [List.drop_eq_nil_of_le h1, List.drop_eq_nil_of_le h2, val_nil]
    obtain ⟨K, hK⟩ := evget (trim_ev out ho (by omega))
    refine ⟨K + 2, fun k hk => ?_⟩
    obtain ⟨k, rfl⟩ : ∃ m, k = m + 2 := ⟨k - 2, by omega⟩
    simp only [escutcheonref08_Plus.l0]
    rw [if_neg (by omega), if_neg (by omega)]
    simp only [escutcheonref08_Plus.j1]
    rw [if_neg (by simp), hK k (by omega)]
    simp
  | succ d ih =>
    intro out c ho hc hlo hd hor
    obtain ⟨i, hi⟩ : ∃ i, i = out.length := ⟨_, rfl⟩
    rw [← hi]
    have hda := ha.rd i
    have hdb := hb.rd i
    by_cases hend : a.length ≤ i ∧ b.length ≤ i ∧ c = 0
    · obtain ⟨h1, h2, rfl⟩ := hend
      rw [List.drop_eq_nil_of_le h1, List.drop_eq_nil_of_le h2, val_nil]
      obtain ⟨K, hK⟩ := evget (trim_ev out ho (by omega))
      refine ⟨K + 2, fun k hk => ?_⟩
      obtain ⟨k, rfl⟩ : ∃ m, k = m + 2 := ⟨k - 2, by omega⟩
      simp only [escutcheonref08_Plus.l0]
      rw [if_neg (by omega), if_neg (by omega)]
      simp only [escutcheonref08_Plus.j1]
      rw [if_neg (by simp), hK k (by omega)]
      simp
    · -- one digit
      obtain ⟨x, hx⟩ : ∃ x : Nat, (x : Int) = a.getD i 0 := ⟨(a.getD i 0).toNat, Int.toNat_of_nonneg hda.1⟩
      obtain ⟨y, hy⟩ : ∃ y : Nat, (y : Int) = b.getD i 0 := ⟨(b.getD i 0).toNat, Int.toNat_of_nonneg hdb.1⟩
      have hva : val (a.drop i) = x + D * val (a.drop (i + 1)) := by
        rcases Nat.lt_or_ge i a.length with h | h
        · rw [val_drop_succ a i h, ← hx]; rfl
        · have : x = 0 := by
            have : a.getD i 0 = 0 := by rw [List.getD_eq_getElem?_getD, List.getElem?_eq_none h]; rfl
            omega
          rw [List.drop_eq_nil_of_le h, List.drop_eq_nil_of_le (by omega), this]; rfl
      have hvb : val (b.drop i) = y + D * val (b.drop (i + 1)) := by
        rcases Nat.lt_or_ge i b.length with h | h
        · rw [val_drop_succ b i h, ← hy]; rfl
        · have : y = 0 := by
            have : b.getD i 0 = 0 := by rw [List.getD_eq_getElem?_getD, List.getElem?_eq_none h]; rfl
            omega
          rw [List.drop_eq_nil_of_le h, List.drop_eq_nil_of_le (by omega), this]; rfl
      have hx0 : i < a.length ∨ x = 0 := by
        rcases Nat.lt_or_ge i a.length with h | h
        · exact .inl h
        · have : a.getD i 0 = 0 := by rw [List.getD_eq_getElem?_getD, List.getElem?_eq_none h]; rfl
          exact .inr (by omega)
      have hy0 : i < b.length ∨ y = 0 := by
        rcases Nat.lt_or_ge i b.length with h | h
        · exact .inl h
        · have : b.getD i 0 = 0 := by rw [List.getD_eq_getElem?_getD, List.getElem?_eq_none h]; rfl
          exact .inr (by omega)
      obtain ⟨s, hs⟩ : ∃ s : Nat, s = c + x + y := ⟨_, rfl⟩
      have hi1 : (out ++ [((s % 65536 : Nat) : Int)]).length = i + 1 := by rw [List.length_append, ← hi]; rfl
      have key := ih (out ++ [((s % 65536 : Nat) : Int)]) (s / 65536) (ho.append (Ok.one (by omega) (by omega))) (by omega) (by omega) (by omega) (by omega)
      have hval : val (out ++ [((s % 65536 : Nat) : Int)]) + D ^ (out ++ [((s % 65536 : Nat) : Int)]).length * (val (a.drop (out ++ [((s % 65536 : Nat) : Int)]).length) + val (b.drop (out ++ [((s % 65536 : Nat) : Int)]).length) + s / 65536) =
          val out + D ^ i * (val (a.drop i) + val (b.drop i) + c) := by
        rw [hi1, val_append, val_one, ← hi, Int.toNat_natCast, hva, hvb, Nat.pow_succ, Nat.mul_assoc, Nat.add_assoc, ← Nat.mul_add]
        congr 2
        unfold D
        omega
      rw [hval] at key
      rw [hi1] at key
      obtain ⟨K, hK⟩ := evget key
      refine ⟨K + 2, fun k hk => ?_⟩
      obtain ⟨k, rfl⟩ : ∃ m, k = m + 2 := ⟨k - 2, by omega⟩
      have hK' := hK k (by omega)
      have hj := plus_j k a b out c x y i s hla hlb hlo hc hi (by rw [rd_nat, hx]) (by rw [rd_nat, hy]) (by omega) (by omega) hx0 hy0 hs
      rw [hK'] at hj
      simp only [escutcheonref08_Plus.l0]
      by_cases h1 : i < a.length
      · rw [if_pos (by omega), hj]
      · rw [if_neg (by omega)]
        by_cases h2 : i < b.length
        · rw [if_pos (by omega), hj]
        · rw [if_neg (by omega), decide_eq_true (show (c : Int) > 0 by omega), hj]

theorem plus_ev (a b : List Int) (ha : Ok a) (hb : Ok b) (hla : a.length ≤ 100000) (hlb : b.length ≤ 100000) : Ev (fun k => escutcheonref08_Plus.f k a b) (dig (val a + val b)) := by
  have := plus_loop a b ha hb hla hlb _ [] 0 Ok.nil (by omega) (by simp) (Nat.le_refl _) (by simp)
  simpa [val_nil, escutcheonref08_Plus.f] using this


theorem times_j (k : Nat) (a b out : List Int) (c x y o i j s : Nat) (m n : Int) (hla : a.length ≤ 50000) (hlb : b.length ≤ 50000) (hlo : out.length = a.length + b.length + 1) (hc : c ≤ 65535) (hi : i < a.length) (hj : j ≤ b.length)
    (hx : rd a i = x) (hy : rd b j = y) (ho : rd out ((i + j : Nat) : Int) = o) (hxl : x < 65536) (hyl : y < 65536) (hol : o < 65536) (hxy : x * y ≤ 65535 * 65535) (hy0 : j < b.length ∨ y = 0) (hs : s = o + c + x * y) :
    escutcheonref08_Times.j2 (k + 1) a b out (i : Int) (c : Int) (j : Int) m n true = escutcheonref08_Times.l1 k a b (out.set (i + j) ((s % 65536 : Nat) : Int)) (i : Int) ((s / 65536 : Nat) : Int) ((j + 1 : Nat) : Int) m n := by
  have g0 : (0 : Int) ≤ i := by omega
  have g0j : (0 : Int) ≤ j := by omega
  have g0s : (0 : Int) ≤ ((i + j : Nat) : Int) := by omega
  have gs : ((i + j : Nat) : Int) < (out.length : Int) := by omega
  have g1 : (i : Int) < (a.length : Int) := by omega
  have g2 : j < b.length ∨ ¬ j < b.length := by omega
  have e1 : ¬ j < b.length → ((o + c : Nat) : Int) = (s : Int) := by
    intro h
    have : y = 0 := by omega
    subst this
    omega
  have n1 : ∀ {u v : Nat}, u < v → (u : Int) < (v : Int) := by omega
  have n2 : ∀ {u v : Nat}, ¬ u < v → ¬ (u : Int) < (v : Int) := by omega
  have ew : wrap64 ((j : Int) + 1) = ((j + 1 : Nat) : Int) := by rw [w64 (by omega) (by omega)]; rfl
  have es : wrap64 ((i : Int) + j) = ((i + j : Nat) : Int) := by clear ew; rw [w64 (by omega) (by omega)]; rfl
  have ed : wrap64 (Int.tdiv (s : Int) 65536) = ((s / 65536 : Nat) : Int) := by clear ew es; rw [tdiv_nat, w64 (by omega) (by omega)]
  have em : Int.tmod (s : Int) 65536 = ((s % 65536 : Nat) : Int) := tmod_nat s
  have w1 : wrap64 ((o : Int) + c) = ((o + c : Nat) : Int) := by clear ew es ed em; rw [w64 (by omega) (by omega)]; rfl
  have w2 : wrap64 ((x : Int) * y) = ((x * y : Nat) : Int) := by clear ew es ed em w1; rw [← Int.natCast_mul, w64 (by omega) (by omega)]
  have w3 : wrap64 (((o + c : Nat) : Int) + ((x * y : Nat) : Int)) = ((o + c + x * y : Nat) : Int) := by clear ew es ed em w1 w2; rw [← Int.natCast_add, w64 (by omega) (by omega)]
  unfold escutcheonref08_Times.j2
  rw [if_pos rfl, es, if_pos g0s, if_pos gs]
  rcases g2 with g2 | g2
  · rw [if_pos (n1 g2), if_pos g0, if_pos g1, if_pos g0j, ho, hx, hy, w1, w2, w3, ← hs, em, ed, ew, Int.toNat_natCast]
  · rw [if_neg (n2 g2), ho, w1, e1 g2, em, ed, ew, Int.toNat_natCast]

theorem times_row (a b : List Int) (ha : Ok a) (hb : Ok b) (hla : a.length ≤ 50000) (hlb : b.length ≤ 50000) (i : Nat) (hi : i < a.length) (T : Nat) (hT : T < D ^ (i + 1 + b.length)) (r : List Int)
    (hr : ∀ out, Ok out → out.length = a.length + b.length + 1 → val out = T → Ev (fun k => escutcheonref08_Times.l0 k a b out (a.length : Int) ((i + 1 : Nat) : Int)) r) :
    ∀ (d : Nat) (out : List Int) (c j : Nat), Ok out → out.length = a.length + b.length + 1 → c ≤ 65535 → b.length + 1 - j ≤ d → j ≤ b.length + 1 → (j ≤ b.length ∨ c = 0) →
      val out + D ^ (i + j) * c + D ^ (i + j) * ((a.getD i 0).toNat * val (b.drop j)) = T →
      Ev (fun k => escutcheonref08_Times.l1 k a b out (i : Int) (c : Int) (j : Int) (a.length : Int) (i : Int)) r := by
  intro d
  obtain ⟨x, hx⟩ : ∃ x : Nat, (x : Int) = a.getD i 0 := ⟨(a.getD i 0).toNat, Int.toNat_of_nonneg (ha.rd i).1⟩
  have hxl := (ha.rd i).2
  -- the row's end
  have fin : ∀ (out : List Int) (j : Nat), Ok out → out.length = a.length + b.length + 1 → b.length ≤ j → val out = T → Ev (fun k => escutcheonref08_Times.l1 k a b out (i : Int) ((0 : Nat) : Int) (j : Int) (a.length : Int) (i : Int)) r := by
    intro out j ho hlo hj hv
    obtain ⟨K, hK⟩ := evget (hr out ho hlo hv)
    refine ⟨K + 2, fun k hk => ?_⟩
    obtain ⟨k, rfl⟩ : ∃ m, k = m + 2 := ⟨k - 2, by omega⟩
    simp only [escutcheonref08_Times.l1]
    rw [if_neg (by omega)]
    simp only [escutcheonref08_Times.j2]
    have hK' := hK k (by omega)
    rw [if_neg (by simp), wsucc i (by omega)]
    exact hK'
  induction d with
  | zero =>
    intro out c j ho hlo hc hd hj hor hv
    have hc0 : c = 0 := by omega
    subst hc0
    refine fin out j ho hlo (by omega) ?_
    rw [List.drop_eq_nil_of_le (by omega), val_nil] at hv
    simpa using hv
  | succ d ih =>
    intro out c j ho hlo hc hd hj hor hv
    by_cases hend : b.length ≤ j ∧ c = 0
    · obtain ⟨h1, rfl⟩ := hend
      refine fin out j ho hlo h1 ?_
      rw [List.drop_eq_nil_of_le h1, val_nil] at hv
      simpa using hv
    · have hjb : j ≤ b.length := by omega
      obtain ⟨y, hy⟩ : ∃ y : Nat, (y : Int) = b.getD j 0 := ⟨(b.getD j 0).toNat, Int.toNat_of_nonneg (hb.rd j).1⟩
      have hyl := (hb.rd j).2
      obtain ⟨o, hoo⟩ : ∃ o : Nat, (o : Int) = out.getD (i + j) 0 := ⟨(out.getD (i + j) 0).toNat, Int.toNat_of_nonneg (ho.rd _).1⟩
      have hol := (ho.rd (i + j)).2
      have hxy : x * y ≤ 65535 * 65535 := Nat.mul_le_mul (by omega) (by omega)
      obtain ⟨s, hs⟩ : ∃ s : Nat, s = o + c + x * y := ⟨_, rfl⟩
      have hvb : val (b.drop j) = y + D * val (b.drop (j + 1)) := by
        rcases Nat.lt_or_ge j b.length with h | h
        · rw [val_drop_succ b j h, ← hy]; rfl
        · have : y = 0 := by
            have : b.getD j 0 = 0 := by rw [List.getD_eq_getElem?_getD, List.getElem?_eq_none h]; rfl
            omega
          rw [List.drop_eq_nil_of_le h, List.drop_eq_nil_of_le (by omega), this]; rfl
      have hset := val_set out (i + j) ((s % 65536 : Nat) : Int) (by omega)
      rw [← hoo, Int.toNat_natCast, Int.toNat_natCast] at hset
      have hval : val (out.set (i + j) ((s % 65536 : Nat) : Int)) + D ^ (i + (j + 1)) * (s / 65536) + D ^ (i + (j + 1)) * ((a.getD i 0).toNat * val (b.drop (j + 1))) = T := by
        rw [← hv, hvb, ← hx, Int.toNat_natCast]
        have e1 : D ^ (i + (j + 1)) = D ^ (i + j) * D := by rw [← Nat.add_assoc, Nat.pow_succ]
        have e2 : D ^ (i + j) * (s % 65536) + D ^ (i + j) * D * (s / 65536) = D ^ (i + j) * s := by
          rw [Nat.mul_assoc, ← Nat.mul_add]; congr 1; unfold D; omega
        have e3 : D ^ (i + j) * s = D ^ (i + j) * o + D ^ (i + j) * c + D ^ (i + j) * (x * y) := by rw [hs, Nat.mul_add, Nat.mul_add]
        have e4 : D ^ (i + j) * (x * (y + D * val (b.drop (j + 1)))) = D ^ (i + j) * (x * y) + D ^ (i + j) * D * (x * val (b.drop (j + 1))) := by
          rw [Nat.mul_add, Nat.mul_add, Nat.mul_assoc (D ^ (i + j)) D]
          congr 2
          rw [Nat.mul_left_comm]
        rw [e1, e4]
        omega
      have hset' : Ok (out.set (i + j) ((s % 65536 : Nat) : Int)) := ho.set _ (by omega) (by omega)
      have hc' : j + 1 ≤ b.length ∨ s / 65536 = 0 := by
        rcases Nat.lt_or_ge j b.length with h | h
        · exact .inl h
        · right
          have hjl : j = b.length := by omega
          subst hjl
          rcases Nat.eq_zero_or_pos (s / 65536) with h0 | h0
          · exact h0
          · exfalso
            have e5 : D ^ (i + (b.length + 1)) * 1 ≤ D ^ (i + (b.length + 1)) * (s / 65536) := Nat.mul_le_mul_left _ h0
            rw [show i + 1 + b.length = i + (b.length + 1) by omega] at hT
            omega
      obtain ⟨K, hK⟩ := evget (ih (out.set (i + j) ((s % 65536 : Nat) : Int)) (s / 65536) (j + 1) hset' (by rw [List.length_set]; exact hlo) (by omega) (by omega) (by omega) hc' hval)
      refine ⟨K + 2, fun k hk => ?_⟩
      obtain ⟨k, rfl⟩ : ∃ m, k = m + 2 := ⟨k - 2, by omega⟩
      have hK' := hK k (by omega)
      have hj2 := times_j k a b out c x y o i j s (a.length : Int) (i : Int) hla hlb hlo hc hi hjb (by rw [rd_nat, hx]) (by rw [rd_nat, hy]) (by rw [rd_nat, hoo]) (by omega) (by omega) (by omega) hxy
        (by
          rcases Nat.lt_or_ge j b.length with h | h
          · exact .inl h
          · have : b.getD j 0 = 0 := by rw [List.getD_eq_getElem?_getD, List.getElem?_eq_none h]; rfl
            exact .inr (by omega)) hs
      rw [hK'] at hj2
      simp only [escutcheonref08_Times.l1]
      by_cases h1 : j < b.length
      · rw [if_pos (by omega), hj2]
      · rw [if_neg (by omega), decide_eq_true (show (c : Int) > 0 by omega), hj2]

theorem times_loop (a b : List Int) (ha : Ok a) (hb : Ok b) (hla : a.length ≤ 50000) (hlb : b.length ≤ 50000) : ∀ (d i : Nat) (out : List Int), Ok out → out.length = a.length + b.length + 1 → a.length - i = d → i ≤ a.length →
    val out = val (a.take i) * val b → Ev (fun k => escutcheonref08_Times.l0 k a b out (a.length : Int) (i : Int)) (dig (val a * val b)) := by
  intro d
  induction d with
  | zero =>
    intro i out ho hlo hd hi hv
    have : i = a.length := by omega
    subst this
    rw [List.take_length] at hv
    obtain ⟨K, hK⟩ := evget (trim_ev out ho (by omega))
    refine ⟨K + 1, fun k hk => ?_⟩
    obtain ⟨k, rfl⟩ : ∃ m, k = m + 1 := ⟨k - 1, by omega⟩
    simp only [escutcheonref08_Times.l0]
    rw [if_neg (by omega), hK k (by omega), hv]
    rfl
  | succ d ih =>
    intro i out ho hlo hd hi hv
    have hil : i < a.length := by omega
    have hT : val (a.take (i + 1)) * val b < D ^ (i + 1 + b.length) := by
      rw [Nat.pow_add]
      have h1 := val_lt (ha.take (i + 1))
      rw [List.length_take, Nat.min_eq_left (by omega)] at h1
      exact Nat.mul_lt_mul_of_lt_of_lt h1 (val_lt hb)
    obtain ⟨K, hK⟩ := times_row a b ha hb hla hlb i hil _ hT _ (fun out' ho' hlo' hv' => ih (i + 1) out' ho' hlo' (by omega) (by omega) hv') _ out 0 0 ho hlo (by omega) (Nat.le_refl _) (by omega) (by omega)
      (by rw [List.drop_zero, Nat.add_zero, Nat.mul_zero, Nat.add_zero, val_take_succ a i hil, Nat.add_mul, hv, Nat.mul_assoc])
    refine ⟨K + 1, fun k hk => ?_⟩
    obtain ⟨k, rfl⟩ : ∃ m, k = m + 1 := ⟨k - 1, by omega⟩
    simp only [escutcheonref08_Times.l0]
    rw [if_pos (by omega)]
    exact hK k (by omega)

theorem times_ev (a b : List Int) (ha : Ok a) (hb : Ok b) (hla : a.length ≤ 50000) (hlb : b.length ≤ 50000) : Ev (fun k => escutcheonref08_Times.f k a b) (dig (val a * val b)) := by
  obtain ⟨K, hK⟩ := times_loop a b ha hb hla hlb _ 0 (List.replicate (a.length + b.length + 1) 0) (Ok.replicate _) (by simp) rfl (by omega) (by rw [val_replicate]; simp [val])
  refine ⟨K, fun k hk => ?_⟩
  unfold escutcheonref08_Times.f
  have e1 : wrap64 (wrap64 ((a.length : Int) + (b.length : Int)) + 1) = ((a.length + b.length + 1 : Nat) : Int) := by
    rw [w64 (x := (a.length : Int) + b.length) (by omega) (by omega), w64 (by omega) (by omega)]; omega
  simp only [e1]
  rw [if_pos (by omega), if_pos (by omega), Int.toNat_natCast]
  exact hK k hk

end Go.Proofs.Ytdfmamemnenkcaa.PResidueAdds
