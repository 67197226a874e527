import Derived.Test.YtdfmamemnenkcaaLa
set_option linter.unusedVariables false
set_option linter.unusedSimpArgs false
namespace Go.Proofs.Ytdfmamemnenkcaa.PResidueAdds
open Go.Dg Go.RowKit Go.Og Go.Nm Go.Proofs.Ytdfmamemnenkcaa Go.Proofs.YtdfmamemnenkcaaW.PrintWords Go.Proofs.YtdfmamemnenkcaaW.PrintLast Go.Proofs.YtdfmamemnenkcaaW.PrintMore
/-- A slice that holds the digits. -/
def LAt (w : World) (v : Value) (l : List Int) : Prop := ∃ A c, v = .slice A l.length c ∧ l.length ≤ c ∧ Kd.C (Kd.int .i64) w A l.length l
/-- A slice that holds a number's digits. -/
def DAt (w : World) (v : Value) (n : Nat) : Prop := LAt w v (dig n)
theorem LAt.below {w w' : World} {v : Value} {l : List Int} (h : LAt w v l) (hb : Below w.heap.size w w') : LAt w' v l := by
  obtain ⟨A, c, hv, hc, hC⟩ := h
  exact ⟨A, c, hv, hc, Kd.C_below hC hb⟩
theorem LAt.of_V {w : World} {v : Value} {l : List Int} {e base : Nat} {ok : Nat → Prop} (h : Kd.V (Kd.int .i64) e w base ok v l) : LAt w v l := by
  obtain ⟨A, c, rfl⟩ := Kd.V_slice h
  have := Kd.V_reads' h
  exact ⟨A, c, rfl, this.2.1, this.2.2⟩
theorem LAt.to_V {w : World} {A : Option Addr} {c : Nat} {l : List Int} (base : Nat) (hc : l.length ≤ c) (h : Kd.C (Kd.int .i64) w A l.length l) : Kd.V (Kd.int .i64) 3 w base (fun k_ => k_ < w.heap.size) (.slice A l.length c) l :=
  Kd.V_mk hc (Kd.C_F (Kd.heap_int _) h)
theorem fold_d (n : Nat) (hn : (dig n).length ≤ 40000) (v : Value) (w : World) (hv : DAt w v n) : Calls Try.prog 11 #[v] w fun e w' => ∃ v', e = .returned v' ∧ DAt w' v' (n % pp) ∧ Below w.heap.size w w' := by
  obtain ⟨A, c, rfl, hc, hC⟩ := hv
  obtain ⟨k, hk⟩ := (fold_ev n hn).rounds
  refine (escutcheonref08_Fold.calls k _ A c (dig n) (dig (n % pp)) w (LAt.to_V _ hc hC) hk).mono ?_
  rintro e w' ⟨v0, rfl, hV, hb⟩
  exact ⟨v0, rfl, LAt.of_V hV, hb⟩
theorem add_d (a b : Nat) (ha : (dig a).length ≤ 20000) (hb : (dig b).length ≤ 20000) (u v : Value) (w : World) (hu : DAt w u a) (hv : DAt w v b) : Calls Try.prog 13 #[u, v] w fun e w' => ∃ v', e = .returned v' ∧ DAt w' v' ((a + b) % pp) ∧ Below w.heap.size w w' := by
  obtain ⟨A, c, rfl, hc, hC⟩ := hu
  obtain ⟨B, d, rfl, hd, hD⟩ := hv
  obtain ⟨k, hk⟩ := (add_ev a b (by omega) (by omega)).rounds
  refine (escutcheonref08_Add.calls k A c (dig a) B d (dig b) _ w hC hc hD hd hk).mono ?_
  rintro e w' ⟨v0, rfl, hV, hb⟩
  exact ⟨v0, rfl, LAt.of_V hV, hb⟩
theorem mul_d (a b : Nat) (ha : (dig a).length ≤ 20000) (hb : (dig b).length ≤ 20000) (u v : Value) (w : World) (hu : DAt w u a) (hv : DAt w v b) : Calls Try.prog 14 #[u, v] w fun e w' => ∃ v', e = .returned v' ∧ DAt w' v' (a * b % pp) ∧ Below w.heap.size w w' := by
  obtain ⟨A, c, rfl, hc, hC⟩ := hu
  obtain ⟨B, d, rfl, hd, hD⟩ := hv
  obtain ⟨k, hk⟩ := (mul_ev a b (by omega) (by omega)).rounds
  refine (escutcheonref08_Mul.calls k A c (dig a) B d (dig b) _ w hC hc hD hd hk).mono ?_
  rintro e w' ⟨v0, rfl, hV, hb⟩
  exact ⟨v0, rfl, LAt.of_V hV, hb⟩
theorem sub_d (a b : Nat) (ha : (dig a).length ≤ 20000) (hb : (dig b).length ≤ 20000) (u v : Value) (w : World) (hu : DAt w u a) (hv : DAt w v b) : Calls Try.prog 19 #[u, v] w fun e w' => ∃ v', e = .returned v' ∧ DAt w' v' ((a % pp + (pp - b % pp)) % pp) ∧ Below w.heap.size w w' := by
  obtain ⟨A, c, rfl, hc, hC⟩ := hu
  obtain ⟨B, d, rfl, hd, hD⟩ := hv
  obtain ⟨k, hk⟩ := (sub_ev a b (by omega) (by omega)).rounds
  refine (escutcheonref08_Sub.calls k _ A c (dig a) _ B d (dig b) _ w (LAt.to_V _ hc hC) (LAt.to_V _ hd hD) hk).mono ?_
  rintro e w' ⟨v0, rfl, hV, hb⟩
  exact ⟨v0, rfl, LAt.of_V hV, hb⟩
theorem same_d (a b : Nat) (ha : (dig a).length ≤ 20000) (hb : (dig b).length ≤ 20000) (u v : Value) (w : World) (hu : DAt w u a) (hv : DAt w v b) : Calls Try.prog 38 #[u, v] w fun e w' => e = .returned (.bool (decide (a = b))) ∧ Below w.heap.size w w' := by
  obtain ⟨A, c, rfl, hc, hC⟩ := hu
  obtain ⟨B, d, rfl, hd, hD⟩ := hv
  obtain ⟨k, hk⟩ := (same_ev a b (by omega) (by omega)).rounds
  exact escutcheonref08_Same.calls k A c (dig a) B d (dig b) _ w hC hc hD hd hk
theorem prime_d (w : World) : Calls Try.prog 22 #[] w fun e w' => ∃ v', e = .returned v' ∧ DAt w' v' pp ∧ Below w.heap.size w w' := by
  obtain ⟨k, hk⟩ := prime_ev.rounds
  refine (escutcheonref08_Prime.calls k _ w hk).mono ?_
  rintro e w' ⟨v0, rfl, hV, hb⟩
  exact ⟨v0, rfl, LAt.of_V (base := 0) (Kd.R_V hV), hb⟩
theorem dig_order : dig L25519 = [54253, 23797, 25370, 22546, 40150, 41719, 63966, 5342, 0, 0, 0, 0, 0, 0, 0, 4096] := by
  have h : Go.Dg.val [54253, 23797, 25370, 22546, 40150, 41719, 63966, 5342, 0, 0, 0, 0, 0, 0, 0, 4096] = L25519 := by decide
  rw [← h]
  exact dig_val (by intro d hd; simp at hd; omega) (by intro d hd; simp at hd; omega)
theorem order_d (w : World) : Calls Try.prog 24 #[] w fun e w' => ∃ v', e = .returned v' ∧ DAt w' v' L25519 ∧ Below w.heap.size w w' := by
  refine (escutcheonref08_Order.calls (dig L25519) w (by rw [dig_order]; rfl)).mono ?_
  rintro e w' ⟨v0, rfl, hV, hb⟩
  exact ⟨v0, rfl, LAt.of_V (base := 0) (Kd.R_V hV), hb⟩
theorem ref_d (n : Nat) (hn : n < W ^ 4) (w : World) : Calls Try.prog 12 #[num n] w fun e w' => ∃ v, e = .returned v ∧ DAt w' v n ∧ Below w.heap.size w w' := by
  refine (ref_any n hn w).mono ?_
  rintro e w' ⟨v0, rfl, hV, hb⟩
  exact ⟨v0, rfl, LAt.of_V hV, hb⟩
theorem DAt.below {w w' : World} {v : Value} {n : Nat} (h : DAt w v n) (hb : Below w.heap.size w w') : DAt w' v n := LAt.below h hb
theorem len4 (n : Nat) (hn : n < W ^ 4) : (dig n).length ≤ 16 := dig_length_le n 16 (Nat.lt_of_lt_of_le hn (by decide))
set_option maxRecDepth 100000 in
set_option maxHeartbeats 1000000 in
theorem is_any (a b : Nat) (ha : a < W ^ 4) (hb : (dig b).length ≤ 20000) (v : Value) (w : World) (hv : DAt w v b) : Calls Try.prog 15 #[num a, v] w fun e w' => e = .returned (.bool (decide (a = b))) ∧ Below w.heap.size w w' := by
  have hr := ref_d a ha
  have hs := same_d a b (by have := len4 a ha; omega) hb
  unfold num at *
  have hr' := Lib.hid hr
  have hs' := Lib.hid hs
  have hv' := Lib.hid hv
  clear hr hs hv
  go_enter Try.func15, Try.ntmps15
  go_wp2_with fail
  refine (hr'.out _).mono ?_
  rintro e w1 ⟨u, rfl, hu, hb1⟩
  have hu' := Lib.hid hu
  have hb1' := Lib.hid hb1
  clear hu hb1
  have hB1 : Below w.heap.size w w1 := ((Below.refl _ _).alloc (Nat.le_refl _) _).trans (hb1'.out.mono (by simp))
  go_wp2_with fail
  refine (hs'.out u v _ hu'.out (hv'.out.below hB1)).mono ?_
  rintro e w2 ⟨rfl, hb2⟩
  have hb2' := Lib.hid (hB1.trans (hb2.mono hB1.size))
  clear hb2 hB1
  go_wp2
  go_ret
  exact ⟨rfl, hb2'.out⟩
end Go.Proofs.Ytdfmamemnenkcaa.PResidueAdds
