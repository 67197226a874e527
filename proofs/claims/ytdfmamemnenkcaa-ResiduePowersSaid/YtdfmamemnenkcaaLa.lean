import Derived.Test.YtdfmamemnenkcaaDf
import Derived.Test.YtdfmamemnenkcaaRi
set_option linter.unusedVariables false
set_option linter.unusedSimpArgs false
namespace Go.Proofs.Ytdfmamemnenkcaa.PResidueAdds
open Go.Dg Go.RowKit Go.Og Go.Nm Go.Proofs.Ytdfmamemnenkcaa Go.Proofs.YtdfmamemnenkcaaW.PrintWords Go.Proofs.YtdfmamemnenkcaaW.PrintLast Go.Proofs.YtdfmamemnenkcaaW.PrintMore
/-- The first digits of a number. -/
def ds (n m : Nat) : List Int := (List.range m).map fun t => ((n / Go.Dg.D ^ t % 65536 : Nat) : Int)
theorem ds_len (n m : Nat) : (ds n m).length = m := by simp [ds]
theorem ds_succ (n m : Nat) : ds n (m + 1) = ds n m ++ [((n / Go.Dg.D ^ m % 65536 : Nat) : Int)] := by simp [ds, List.range_succ]
theorem ds_ok (n m : Nat) : Ok (ds n m) := by
  intro d hd
  simp only [ds, List.mem_map] at hd
  obtain ⟨t, _, rfl⟩ := hd
  omega
theorem ds_val (n m : Nat) : Go.Dg.val (ds n m) = n % Go.Dg.D ^ m := by
  induction m with
  | zero => simp [ds, Go.Dg.val, Nat.mod_one]
  | succ m ih => rw [ds_succ, val_append, ih, ds_len, val_one, Int.toNat_natCast, Nat.pow_succ, Nat.mod_mul]; rfl
theorem ds_digit (n i j x : Nat) (hj : j < 4) (hx : x = wd n i / Go.Dg.D ^ j) : ((n / Go.Dg.D ^ (i * 4 + j) % 65536 : Nat) : Int) = ((x % 65536 : Nat) : Int) := by
  have hW : W = Go.Dg.D ^ 4 := by decide
  have h2 : Go.Dg.D ^ 4 = Go.Dg.D ^ j * Go.Dg.D ^ (4 - j) := by rw [← Nat.pow_add]; congr 1; omega
  have h3 : Go.Dg.D ^ (4 - j) = Go.Dg.D * Go.Dg.D ^ (3 - j) := by rw [show 4 - j = (3 - j) + 1 by omega, Nat.pow_succ, Nat.mul_comm]
  rw [hx]
  congr 1
  unfold wd
  rw [hW, Nat.pow_add, Nat.mul_comm i 4, Nat.pow_mul, ← Nat.div_div_eq_div_mul]
  generalize n / (Go.Dg.D ^ 4) ^ i = q
  rw [h2, Nat.mod_mul_right_div_self, h3]
  show _ % Go.Dg.D = _ % Go.Dg.D
  rw [Nat.mod_mul_right_mod]
set_option maxRecDepth 100000 in
set_option maxHeartbeats 1000000 in
theorem ref_any (n : Nat) (hn : n < W ^ 4) (w : World) : Calls Try.prog 12 #[num n] w fun e w' => ∃ v, e = .returned v ∧ Kd.V (Kd.int .i64) 3 w' w.heap.size (fun k_ => (w.heap.size ≤ k_)) v (dig n) ∧ Below w.heap.size w w' := by
  unfold num
  go_enter Try.func12, Try.ntmps12
  go_wp2
  go_loopw [3, 7] (fun v3 i wr => ∃ k : Nat, k ≤ 4 ∧ i = .int .i64 k ∧ Below w.heap.size w wr ∧ Kd.R (Kd.int .i64) 3 wr w.heap.size (fun k_ => (w.heap.size ≤ k_)) v3 (ds n (k * 4))) (fun _ i _ => 4 - (intOf i).toNat)
  case atStart =>
    refine ⟨0, by omega, rfl, (Below.refl _ _).alloc (Nat.le_refl _) _, ?_⟩
    exact Kd.R_nil _ _ _ _ _
  case round =>
    obtain ⟨k, hk, rfl, hb, h3⟩ := hrel
    by_cases hlt : k < 4
    · have hb' := Lib.hid hb
      have h3' := Lib.hid h3
      have hix := index_words n k hlt
      have hkd : decide (((k : Nat) : Int) < 4) = true := decide_eq_true (by omega)
      clear hb h3
      go_wp2
      go_loopw [3, 5, 10] (fun v3 v5 i wi => ∃ j x : Nat, j ≤ 4 ∧ x < W ∧ v5 = .int .u64 x ∧ i = .int .i64 j ∧ (j < 4 → ((n / Go.Dg.D ^ (k * 4 + j) % 65536 : Nat) : Int) = ((x % 65536 : Nat) : Int)) ∧ Hid (j < 4 → x = wd n k / Go.Dg.D ^ j) ∧ Below w.heap.size w wi ∧ Kd.R (Kd.int .i64) 3 wi w.heap.size (fun k_ => (w.heap.size ≤ k_)) v3 (ds n (k * 4 + j))) (fun _ _ i _ => 4 - (intOf i).toNat)
      case atStart =>
        refine ⟨0, wd n k, by omega, wd_lt _ _, rfl, rfl, fun _ => ds_digit n k 0 _ (by omega) (by rw [Nat.pow_zero, Nat.div_one]), Lib.hid (fun _ => by rw [Nat.pow_zero, Nat.div_one]), hb'.out, h3'.out⟩
      case round =>
        obtain ⟨j, x, hj, hxl, rfl, rfl, hd, hxd, hbi, h3i⟩ := hrel
        by_cases hltj : j < 4
        · have hd' := Lib.hid (hd hltj)
          have hbi' := Lib.hid hbi
          have h3i' := Lib.hid h3i
          have hxl' := Lib.hid hxl
          clear hd hbi h3i hix hxl
          have hsz := hbi'.out.size
          go_wp2_with (first | ((with_reducible refine gate_builtin (b := .append) (xs := #[.tmp 12, .tmp 16]) rfl ?_); (try (refine gate_guard (by rfl) ?_; dsimp only)); at_builtin; refine Kd.R_append (Kd.int .i64) (w0 := w) w.heap.size rfl (.tmp 12) (.tmp 16) 26 3 (.int .i64 0) 8 rfl Try.underlying26 info3 rfl (by decide) (by omega) u3 (ds n (k * 4 + j)) ((x : Int) % 65536) [.int .i64 ((x : Int) % 65536)] (fun k_ => (w.heap.size ≤ k_)) (fun _ => False) rfl rfl ?aP (fun _ hk => hk.elim) ?aF ?aO ?aB ?aS ?aL ?_; (case aP => exact rfl); (case aB => first | exact hbi'.out | exact hbi'.out.alloc hbi'.out.size _); (case aF => first | exact (fun k_ hk => Nat.le_trans hsz hk) | exact (fun k_ hk => Nat.le_trans (hbi'.out.alloc hbi'.out.size _).size hk)); (case aO => first | exact h3i'.out | exact Kd.R_alloc h3i'.out _); (case aS => first | exact hsz | exact (hbi'.out.alloc hbi'.out.size _).size); (case aL => rw [ds_len]; omega); intro v122 w11 ho hbo hg hat; clear hg hat; replace ho := Lib.hid ho; replace hbo := Lib.hid hbo))
          go_roundw
          case rel =>
            refine ⟨j + 1, x / 65536, by omega, by have := hxl'.out; omega, by rw [IntWalk.u64_in _ (by have := hxl'.out; unfold W at this; omega)]; rfl, by go_num, ?_, ?_, hbo.out, ?_⟩
            · intro hj4
              exact ds_digit n k (j + 1) _ hj4 (by rw [hxd.out hltj, Nat.pow_succ, Nat.div_div_eq_div_mul]; rfl)
            · exact Lib.hid (fun _ => by rw [hxd.out hltj, Nat.pow_succ, Nat.div_div_eq_div_mul]; rfl)
            · rw [← Nat.add_assoc, ds_succ, hd'.out]; exact ho.out
          case measure => simp [intOf]; omega
        · obtain rfl : j = 4 := by omega
          have hbi' := Lib.hid hbi
          have h3i' := Lib.hid h3i
          clear hd hxd hbi h3i hix
          go_wp2
          go_roundw
          case rel =>
            refine ⟨k + 1, by omega, by go_num, hbi'.out, ?_⟩
            rw [Nat.add_mul, Nat.one_mul]; exact h3i'.out
          case measure => simp [intOf]; omega
    · obtain rfl : k = 4 := by omega
      obtain ⟨K, hK⟩ := (trim_ev (ds n 16) (ds_ok n 16) (by rw [ds_len]; omega)).rounds
      have hv : Go.Dg.val (ds n 16) = n := by
        rw [ds_val, Nat.mod_eq_of_lt]
        exact Nat.lt_of_lt_of_le hn (by decide)
      rw [hv] at hK
      have hsz := hb.size
      obtain ⟨A, c, rfl⟩ := Kd.V_slice (Kd.R_V (base' := wr.heap.size) h3)
      have htr := escutcheonref08_Trim.calls K (fun k_ => w.heap.size ≤ k_) A c (ds n 16) (dig n) wr (Kd.R_V h3) hK
      have htr' := Lib.hid htr
      have hb' := Lib.hid hb
      clear htr h3 hb hK hv
      go_wp2_with fail
      refine (htr'.out).mono ?_
      rintro e w3 ⟨v3, rfl, hv3, hb3⟩
      have hv3' := Lib.hid hv3
      have hb3' := Lib.hid hb3
      clear hv3 hb3
      go_wp2
      go_ret
      exact ⟨v3, rfl, Kd.V_mono hv3'.out (fun k_ hk => hk.elim id (fun h => Nat.le_trans hsz h)), hb'.out.trans (hb3'.out.mono hsz)⟩
end Go.Proofs.Ytdfmamemnenkcaa.PResidueAdds
