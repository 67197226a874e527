/-
  The plain side: tail, Filled, joined, few; all of them as contracts.
-/
import Derived.Test.YtnaiifidcpdamaaDoorKp
set_option linter.unusedVariables false
set_option linter.unusedSimpArgs false
namespace Go.Proofs.YtnaiifidcpdamaaDoor
open Go.RowKit Go.Og Go.Ub Go.Proofs.YtnaiifidcpdamaaDoorW.PrintWords Go.Proofs.YtnaiifidcpdamaaDoorW.PrintMore Go.Proofs.YtnaiifidcpdamaaDoor.PShaLongs
/-- How many noughts fill a block up to its last sixteen bytes. -/
def zc (n : Nat) : Nat := (239 - n % 128) % 128
theorem zc_mod (n : Nat) : (n + 1 + zc n) % 128 = 112 := by unfold zc; omega
theorem zc_not (n j : Nat) (h : j < zc n) : (n + 1 + j) % 128 ≠ 112 := by unfold zc at h; omega
/-- What fills so many bytes up. -/
def tailb (n : Nat) : List UInt8 := [128] ++ List.replicate (zc n) 0 ++ List.replicate 8 0 ++ wbytes (UInt64.ofNat (8 * n)) 8
theorem tailb_length (n : Nat) : (tailb n).length = zc n + 17 := by simp [tailb, wbytes_length]
theorem bi0 : bi 0 = 0 := rfl
theorem byte_p (x : UInt64) (q : Nat) (hq : q < 64) : shr .u64 (wi x) q % 256 = bi (x >>> UInt64.ofNat q).toUInt8 := by
  unfold shr
  rw [wi_eq, bi_eq, UInt64.toNat_toUInt8, UInt64.toNat_shiftRight, Nat.shiftRight_eq_div_pow]
  have h1 : (UInt64.ofNat q).toNat % 64 = q := by simp; omega
  rw [h1, Int.toNat_natCast, show min q IntKind.u64.bits = q by simp [IntKind.bits]; omega]
  simp
theorem tail_l1 (n : Nat) (hn : n ≤ 1000000000) : ∀ d j k acc, j + d = 8 → d < k → (acc : List UInt8).length ≤ 1000 →
    sha_tail.l1 k n ((acc ++ wbytes (UInt64.ofNat (8 * n)) j).map bi) (ival j) = some ((acc ++ wbytes (UInt64.ofNat (8 * n)) 8).map bi) := by
  intro d
  induction d with
  | zero =>
    intro j k acc hj hk ha
    obtain ⟨k, rfl⟩ : ∃ m, k = m + 1 := ⟨k - 1, by omega⟩
    simp only [sha_tail.l1]
    obtain rfl : j = 8 := by omega
    rw [if_neg (by decide)]
  | succ d ih =>
    intro j k acc hj hk ha
    obtain ⟨k, rfl⟩ : ∃ m, k = m + 1 := ⟨k - 1, by omega⟩
    simp only [sha_tail.l1]
    have h0 : 0 ≤ ival j := by unfold ival; omega
    have hl := wbytes_length (UInt64.ofNat (8 * n)) j
    rw [if_pos h0, if_pos h0, if_pos (by simp only [List.length_map, List.length_append]; omega)]
    have hs : wrap64 (ival j - 8) = ival (j + 1) := by
      unfold ival
      unfold wrap64
      omega
    have hq : ival j = ((8 * (7 - j) : Nat) : Int) := by unfold ival; omega
    have hx : IntKind.u64.wrap (IntKind.u64.wrap (n : Int) * 8) = wi (UInt64.ofNat (8 * n)) := by
      rw [Ub.w64, Ub.w64, wi_eq, UInt64.toNat_ofNat']
      omega
    rw [hs, hx]
    rw [show shr .u64 (wi (UInt64.ofNat (8 * n))) (ival j) % 256 = bi ((UInt64.ofNat (8 * n)) >>> UInt64.ofNat (8 * (7 - j))).toUInt8 by rw [hq]; exact byte_p _ _ (by omega)]
    have := ih (j + 1) k acc (by omega) (by omega) ha
    rw [← this]
    simp only [wbytes, List.map_append, List.map_cons, List.map_nil, List.append_assoc]
theorem tail_p (n : Nat) (hn : n ≤ 1000000000) : ∃ k, sha_tail.f k n = some ((tailb n).map bi) := by
  refine ⟨200, ?_⟩
  unfold sha_tail.f
  have hz : zc n < 128 := by unfold zc; omega
  have key : ∀ d j k, j + d = zc n → d + 20 < k → sha_tail.l0 k n (([128] ++ List.replicate j 0 : List UInt8).map bi) = some ((tailb n).map bi) := by
    intro d
    induction d with
    | zero =>
      intro j k hj hk
      obtain ⟨k, rfl⟩ : ∃ m, k = m + 1 := ⟨k - 1, by omega⟩
      obtain rfl : j = zc n := by omega
      simp only [sha_tail.l0]
      have hm := zc_mod n
      have hlen : (([128] ++ List.replicate (zc n) 0 : List UInt8).map bi).length = zc n + 1 := by simp
      rw [hlen]
      have hc : Int.tmod (wrap64 ((n : Int) + ((zc n + 1 : Nat) : Int))) 128 = 112 := by
        rw [wrap64_id _ (by omega) (by omega), Int.tmod_eq_emod_of_nonneg (by omega)]
        omega
      rw [if_pos hc]
      simp only [Option.bind_some]
      rw [if_pos (by simp; omega)]
      rw [if_pos (by rw [List.length_append, hlen]; simp; omega)]
      have h61 : IntKind.u64.wrap (n : Int) / 2305843009213693952 % 256 = 0 := by rw [Ub.w64]; omega
      rw [h61]
      have := tail_l1 n hn 8 0 k ([128] ++ List.replicate (zc n) 0 ++ List.replicate 8 0) (by omega) (by omega) (by simp; omega)
      rw [show wbytes (UInt64.ofNat (8 * n)) 0 = [] from rfl, List.append_nil] at this
      unfold tailb
      rw [← this]
      simp only [List.map_append, List.append_assoc]
      rfl
    | succ d ih =>
      intro j k hj hk
      obtain ⟨k, rfl⟩ : ∃ m, k = m + 1 := ⟨k - 1, by omega⟩
      simp only [sha_tail.l0]
      have hm := zc_not n j (by omega)
      have hlen : (([128] ++ List.replicate j 0 : List UInt8).map bi).length = j + 1 := by simp
      rw [hlen]
      have hc : ¬ Int.tmod (wrap64 ((n : Int) + ((j + 1 : Nat) : Int))) 128 = 112 := by
        rw [wrap64_id _ (by omega) (by omega), Int.tmod_eq_emod_of_nonneg (by omega)]
        omega
      rw [if_neg hc, if_pos (by omega)]
      have := ih (j + 1) k (by omega) (by omega)
      rw [← this]
      simp only [List.replicate_succ', List.map_append, List.append_assoc]
      rfl
  have := key (zc n) 0 200 (by omega) (by omega)
  exact this
theorem tail_any (n : Nat) (hn : n ≤ 1000000000) (w : World) : Calls Tryd.prog 38 #[.int .i64 n] w fun e w' => ∃ v, e = .returned v ∧ BAt w' v (tailb n) ∧ Below w.heap.size w w' := by
  obtain ⟨k, hk⟩ := tail_p n hn
  refine (sha_tail.calls k n _ w hk).mono ?_
  rintro e w' ⟨v, rfl, hR, hb⟩
  exact ⟨v, rfl, BAt.of_R hR, hb⟩
theorem turnr_any (x : UInt64) (n : Nat) (hn : n < 64) (w : World) : Calls Tryd.prog 50 #[.int .u64 (wi x), .int .i64 n] w fun e w' => e = .returned (.int .u64 (wi (rotr x n))) ∧ Drawn0 w w' :=
  escutcheonref02_Turn.calls _ _ _ _ w (turn_p x n hn (n + 1) (by omega))
theorem down_any (x : UInt64) (n : Nat) (hn : n < 64) (w : World) : Calls Tryd.prog 51 #[.int .u64 (wi x), .int .i64 n] w fun e w' => e = .returned (.int .u64 (wi (x >>> UInt64.ofNat n))) ∧ Drawn0 w w' :=
  escutcheonref02_down.calls _ _ _ _ w (down_p x n hn (n + 1) (by omega))
theorem choose_any (e f g : UInt64) (w : World) : Calls Tryd.prog 52 #[.int .u64 (wi e), .int .u64 (wi f), .int .u64 (wi g)] w fun en w' => en = .returned (.int .u64 (wi (e &&& f ^^^ ~~~e &&& g))) ∧ Drawn0 w w' :=
  escutcheonref02_choose.calls _ _ _ _ w (choose_p e f g)
theorem major_any (e f g : UInt64) (w : World) : Calls Tryd.prog 53 #[.int .u64 (wi e), .int .u64 (wi f), .int .u64 (wi g)] w fun en w' => en = .returned (.int .u64 (wi (e &&& f ^^^ e &&& g ^^^ f &&& g))) ∧ Drawn0 w w' :=
  escutcheonref02_major.calls _ _ _ _ w (major_p e f g)
theorem word_any (l : List UInt8) (hl : l.length = 8) (v : Value) (w : World) (hv : BAt w v l) : Calls Tryd.prog 49 #[v] w fun e w' => e = .returned (.int .u64 (wi (be l))) ∧ Drawn0 w w' := by
  obtain ⟨A, c, rfl, hc, hC⟩ := hv
  have hlen : (l.map bi).length = l.length := List.length_map _
  have := escutcheonref02_word.calls 9 A c (l.map bi) _ w (by rw [hlen]; exact hC) (by rw [hlen]; exact hc) (word_p l hl 9 (by omega))
  rw [hlen] at this
  exact this
/-- What the document's Filled makes of bytes. -/
def filled (b : List UInt8) : List UInt8 := b ++ tailb b.length
/-- The last bytes of a word, so many. -/
def sfx (x : UInt64) : Nat → List UInt8
  | 0 => []
  | i + 1 => (x >>> UInt64.ofNat (8 * i)).toUInt8 :: sfx x i
theorem sfx_length (x : UInt64) (i : Nat) : (sfx x i).length = i := by
  induction i with
  | zero => rfl
  | succ i ih => simp [sfx, ih]
theorem sfx_8 (x : UInt64) : sfx x 8 = wbytes x 8 := rfl
theorem filled_l1 (b : List UInt8) (acc : List UInt8) (hb : b.length ≤ 1000000000) (ha : acc.length ≤ 2000000000) : ∀ d i k, i + d = 8 → d + 9 < k →
    escutcheonref02_Filled.l1 k (acc.map bi) ((8 * b.length / 256 ^ i : Nat) : Int) ((sfx (UInt64.ofNat (8 * b.length)) i).map bi) i = some ((acc ++ (List.replicate 8 0 ++ wbytes (UInt64.ofNat (8 * b.length)) 8)).map bi) := by
  intro d
  induction d with
  | zero =>
    intro i k hi hk
    obtain rfl : i = 8 := by omega
    have h0 : 8 * b.length / 256 ^ 8 = 0 := by rw [Nat.div_eq_of_lt]; rw [show (256 : Nat) ^ 8 = 18446744073709551616 from rfl]; omega
    rw [h0, sfx_8]
    have key : ∀ d j k, j + d = 8 → d < k → escutcheonref02_Filled.l1 k (acc.map bi) 0 ((List.replicate j 0 ++ wbytes (UInt64.ofNat (8 * b.length)) 8).map bi) ((8 + j : Nat) : Int) = some ((acc ++ (List.replicate 8 0 ++ wbytes (UInt64.ofNat (8 * b.length)) 8)).map bi) := by
      intro d
      induction d with
      | zero =>
        intro j k hj hk
        obtain ⟨k, rfl⟩ : ∃ m, k = m + 1 := ⟨k - 1, by omega⟩
        obtain rfl : j = 8 := by omega
        simp only [escutcheonref02_Filled.l1]
        rw [if_neg (by decide), if_pos (by simp [wbytes_length]; omega)]
        simp only [List.map_append]
      | succ d ih =>
        intro j k hj hk
        obtain ⟨k, rfl⟩ : ∃ m, k = m + 1 := ⟨k - 1, by omega⟩
        simp only [escutcheonref02_Filled.l1]
        rw [if_pos (by omega)]
        simp only [Option.bind_some]
        rw [if_pos (by simp [wbytes_length]; omega)]
        have hw : wrap64 (((8 + j : Nat) : Int) + 1) = ((8 + (j + 1) : Nat) : Int) := by rw [wrap64_id _ (by omega) (by omega)]; omega
        rw [hw, show wrap64 (Int.tdiv 0 256) = 0 by simp [wrap64]]
        have := ih (j + 1) k (by omega) (by omega)
        rw [← this]
        simp only [List.replicate_succ, List.map_append, List.map_cons, List.append_assoc, List.cons_append]
        rfl
    exact key 8 0 k (by omega) (by omega)
  | succ d ih =>
    intro i k hi hk
    obtain ⟨k, rfl⟩ : ∃ m, k = m + 1 := ⟨k - 1, by omega⟩
    simp only [escutcheonref02_Filled.l1]
    have hl := sfx_length (UInt64.ofNat (8 * b.length)) i
    rw [if_pos (by omega)]
    simp only [Option.bind_some]
    rw [if_pos (by simp only [List.length_map, List.length_cons, List.length_nil]; omega)]
    have hw : wrap64 ((i : Int) + 1) = ((i + 1 : Nat) : Int) := by rw [wrap64_id _ (by omega) (by omega)]; simp
    rw [hw]
    have hle : 8 * b.length / 256 ^ i ≤ 8 * b.length := Nat.div_le_self _ _
    have hd : wrap64 (Int.tdiv ((8 * b.length / 256 ^ i : Nat) : Int) 256) = ((8 * b.length / 256 ^ (i + 1) : Nat) : Int) := by
      rw [Int.tdiv_eq_ediv_of_nonneg (Int.natCast_nonneg _), Nat.pow_succ, ← Nat.div_div_eq_div_mul]
      generalize 8 * b.length / 256 ^ i = y at *
      rw [wrap64_id _ (by omega) (by omega)]
      omega
    rw [hd]
    have hby : Int.tmod ((8 * b.length / 256 ^ i : Nat) : Int) 256 % 256 = bi ((UInt64.ofNat (8 * b.length)) >>> UInt64.ofNat (8 * i)).toUInt8 := by
      rw [Int.tmod_eq_emod_of_nonneg (Int.natCast_nonneg _), bi_eq, UInt64.toNat_toUInt8, UInt64.toNat_shiftRight, Nat.shiftRight_eq_div_pow]
      have h1 : (UInt64.ofNat (8 * i)).toNat % 64 = 8 * i := by simp; omega
      rw [h1, UInt64.toNat_ofNat', Nat.mod_eq_of_lt (a := 8 * b.length) (b := 2 ^ 64) (by omega), show (256 : Nat) ^ i = 2 ^ (8 * i) by rw [Nat.pow_mul]]
      generalize 8 * b.length / 2 ^ (8 * i) = y
      omega
    rw [hby]
    have := ih (i + 1) k (by omega) (by omega)
    rw [← this]
    rfl
theorem filled_p (b : List UInt8) (hb : b.length ≤ 1000000000) : ∃ k, escutcheonref02_Filled.f k (b.map bi) = some ((filled b).map bi) := by
  refine ⟨200, ?_⟩
  unfold escutcheonref02_Filled.f
  simp only [Option.bind_some, List.nil_append, List.length_nil, List.length_map, Nat.zero_add]
  rw [if_pos (by omega), if_pos (by omega)]
  have hz : zc b.length < 128 := by unfold zc; omega
  have key : ∀ d j k, j + d = zc b.length → d + 20 < k → escutcheonref02_Filled.l0 k (b.map bi) ((b ++ ([128] ++ List.replicate j 0) : List UInt8).map bi) = some ((filled b).map bi) := by
    intro d
    induction d with
    | zero =>
      intro j k hj hk
      obtain ⟨k, rfl⟩ : ∃ m, k = m + 1 := ⟨k - 1, by omega⟩
      obtain rfl : j = zc b.length := by omega
      simp only [escutcheonref02_Filled.l0]
      have hm := zc_mod b.length
      have hlen : ((b ++ ([128] ++ List.replicate (zc b.length) 0) : List UInt8).map bi).length = b.length + (zc b.length + 1) := by simp
      rw [hlen, if_pos (by omega)]
      have hw : wrap64 (((b.map bi).length : Int) * 8) = ((8 * b.length / 256 ^ 0 : Nat) : Int) := by rw [List.length_map, wrap64_id _ (by omega) (by omega)]; simp; omega
      rw [hw]
      have := filled_l1 b (b ++ ([128] ++ List.replicate (zc b.length) 0)) hb (by simp; omega) 8 0 k (by omega) (by omega)
      rw [show sfx (UInt64.ofNat (8 * b.length)) 0 = [] from rfl] at this
      rw [show ((filled b).map bi) = (b ++ ([128] ++ List.replicate (zc b.length) 0) ++ (List.replicate 8 0 ++ wbytes (UInt64.ofNat (8 * b.length)) 8)).map bi by unfold filled tailb; simp only [List.append_assoc]]
      exact this
    | succ d ih =>
      intro j k hj hk
      obtain ⟨k, rfl⟩ : ∃ m, k = m + 1 := ⟨k - 1, by omega⟩
      simp only [escutcheonref02_Filled.l0]
      have hm := zc_not b.length j (by omega)
      have hlen : ((b ++ ([128] ++ List.replicate j 0) : List UInt8).map bi).length = b.length + (j + 1) := by simp
      rw [hlen, if_neg (by omega), if_pos (by omega)]
      have := ih (j + 1) k (by omega) (by omega)
      rw [← this]
      simp only [List.replicate_succ', List.map_append, List.append_assoc]
      rfl
  have := key (zc b.length) 0 200 (by omega) (by omega)
  simp only [List.map_append] at this ⊢
  exact this
theorem filled_any (b : List UInt8) (hb : b.length ≤ 1000000000) (v : Value) (w : World) (hv : BAt w v b) : Calls Tryd.prog 48 #[v] w fun e w' => ∃ v, e = .returned v ∧ BAt w' v (filled b) ∧ Below w.heap.size w w' := by
  obtain ⟨A, c, rfl, hc, hC⟩ := hv
  obtain ⟨k, hk⟩ := filled_p b hb
  have hlen : (b.map bi).length = b.length := List.length_map _
  have := escutcheonref02_Filled.calls k A c (b.map bi) _ w (by rw [hlen]; exact hC) (by rw [hlen]; exact hc) hk
  rw [hlen] at this
  refine this.mono ?_
  rintro e w' ⟨v, rfl, hR, hb⟩
  exact ⟨v, rfl, BAt.of_R hR, hb⟩
end Go.Proofs.YtnaiifidcpdamaaDoor
