/-
  Sum512, Sum384 of the program.
-/
import Derived.Test.YtnaiifidcpdamaaDoorKr
import Derived.Deep.MidRow
set_option linter.unusedVariables false
set_option linter.unusedSimpArgs false
namespace Go.Proofs.YtnaiifidcpdamaaDoor
open Go.RowKit Go.Og Go.Ub Go.Proofs.YtnaiifidcpdamaaDoorW.PrintWords
theorem OAt.form {w : World} {base : Nat} {v : Value} {l : List UInt8} (h : OAt w base v l) (hl : 0 < l.length) : ∃ g c, v = .slice (some ⟨g, 0, none⟩) l.length c ∧ base ≤ g ∧ ∀ j u, (bcs l)[j]? = some u → w.cell? ⟨g, j, none⟩ = some u := by
  rcases h.2 with ⟨_, h0⟩ | ⟨g, cap, cur, rfl, hb, hh, hn, hm, hs, ht⟩
  · omega
  · refine ⟨g, cap, rfl, hb, fun j u hu => ?_⟩
    have := World.ownsRow.cells h (g := g) rfl j u hu
    rwa [add_plain] at this
/-- So many bytes 0, as cells. -/
def zb (n : Nat) : Array Value := (bcs (List.replicate n 0)).toArray

theorem zero34 (w : World) : (zeroValue 34).run Tryd.prog w = .ok (.agg (zb 64)) w := by kernel_rfl
theorem arrayAt34 (g c : Nat) (w : World) : (Instr.arrayAt 34 (.slice (some ⟨g, 0, none⟩) 64 c)).run Tryd.prog w = .ok (.pointer (some ⟨g, 0, none⟩)) w := by
  unfold Instr.arrayAt
  rw [Sem.run_bind, run_underlying Tryd.underlying34]
  rfl
set_option maxRecDepth 100000 in
set_option maxHeartbeats 8000000 in
theorem sum512_any (K : List UInt64) (hKl : K.length = 80) (s : S8) (ps : List (List UInt8)) (hml : ps.flatten.length ≤ 90000000) (v : Value) (w : World) (hp : PAt w v ps) (hK : Glob w 2 K) (hS : Glob w 0 s.l) :
    Calls Tryd.prog 25 #[v] w fun e w' => e = .returned (.agg (bcs ((sha K s ps.flatten).take 64)).toArray) ∧ Below w.heap.size w w' := by
  have hK2 := hK.lt
  have hz0 := hS.lt
  have hKl' := Lib.hid hK
  have hS' := Lib.hid hS
  have hp' := Lib.hid hp
  obtain ⟨A, c, rfl, _, hpa⟩ := hp.addr
  have hpa' := Lib.hid hpa
  clear hK hS hp hpa
  have z := zero34
  go_enter Tryd.func25, Tryd.ntmps25
  go_wp2_with fail
  clear z
  obtain ⟨w1, hw1⟩ : ∃ w1, w1 = w.alloc (.cells (zb 64) 34) := ⟨_, rfl⟩
  have hb1 : Below w.heap.size w w1 := by rw [hw1]; exact (Below.refl _ _).alloc (Nat.le_refl _) _
  have hblk1 : Blk w1 w.heap.size 34 (zb 64) := by rw [hw1]; exact Blk.new _ _ _ rfl
  rw [← hw1]
  clear hw1
  refine (new512_any K s w1 (hS'.out.below hb1 hz0)).mono ?_
  rintro e w2 ⟨rfl, hH2, hb2⟩
  have hz1 := hblk1.lt
  have hz2 := hb2.size
  have hb02 := hb1.trans (hb2.mono hb1.size)
  have hadd := add_any K hKl s 64 w1.heap.size (w1.heap.size + 1) [] ps (by rw [List.length_nil]; omega) _ w2 (by omega) (by have := hH2.lt; omega) (by omega) hH2 (hKl'.out.below hb02 hK2) (hp'.out.below hb02) (by
    intro hn ad n c' e
    have := hp'.out.block_lt hn ad n c' e
    have := hb1.size
    omega)
  have hadd' := Lib.hid hadd
  have hb02' := Lib.hid hb02
  have hblk2' := Lib.hid (hblk1.below hb2 hz1)
  clear hadd hb02 hb1 hb2 hblk1 hH2
  go_wp2_with (go_at_call 19; ((with_reducible refine hadd'.out.mono ?_); rintro e w3 ⟨rfl, hH3, hx3⟩; have hH3' := Lib.hid hH3; have hx3' := Lib.hid hx3; clear hH3 hx3))
  have hbx3 : Below w2.heap.size w2 w2 := Below.refl _ _
  have hb03 : Below w.heap.size w w3 := hb02'.out.trans (below_of_ext hx3'.out hb02'.out.size (fun k hk => by rw [hk]; omega))
  have hblk3 := Lib.hid (hblk2'.out.ext hx3'.out (fun e => by omega))
  rw [List.nil_append] at hH3'
  have hsum := sum_any K hKl s 64 w1.heap.size _ (by decide) ps.flatten (by omega) w3 hH3'.out (hKl'.out.below hb03 hK2)
  have hsum' := Lib.hid hsum
  have hb03' := Lib.hid hb03
  clear hsum hbx3 hb03
  obtain ⟨D, hD⟩ : ∃ D, D = (sha K s ps.flatten).take 64 := ⟨_, rfl⟩
  have hDl : D.length = 64 := by rw [hD, List.length_take, sha_length]; rfl
  rw [← hD] at hsum'
  have hD' := Lib.hid hD
  have hDl' := Lib.hid hDl
  clear hD hDl
  have hat := arrayAt34
  go_wp2_with (first
    | (go_at_call 20; ((with_reducible refine hsum'.out.mono ?_); rintro e w4 ⟨v4, rfl, hO4, hb4⟩; obtain ⟨g4, c4, rfl, hg4, hc4⟩ := hO4.form (by rw [hDl'.out]; decide); have hc4' := Lib.hid hc4; have hblk4 := Lib.hid (hblk3.out.below hb4 hblk3.out.lt); have hb4' := Lib.hid (hb03'.out.trans (hb4.mono hb03'.out.size)); clear hc4 hO4 hb4; rw [hDl'.out]))
    | (refine wpList_load_mid rfl 34 (.tmp 10) rfl g4 0 rfl (bcs D) _ (fun j u hu => by rw [Nat.zero_add]; exact hc4'.out j u hu) Tryd.underlying34 rfl (by rw [bcs_length, hDl'.out]; kernel_rfl) ?_)
    | (refine wpList_store_row rfl 34 (.tmp 2) (.tmp 11) rfl _ _ rfl rfl 34 _ hblk4.out (by simp only [List.size_toArray]; rw [bcs_length, hDl'.out]; kernel_rfl) (by simp only [zb, List.size_toArray]; rw [bcs_length, bcs_length, hDl'.out]; rfl) (all_oneCell_toArray (bcs_one _)) ?_))
  refine bodyPost_ret (results_cell_row rfl _ _ _ 34 (bcs D).toArray (0, 0) _ rfl (setRow_blk hblk4.out) Tryd.underlying34 rfl (by simp only [List.size_toArray]; rw [bcs_length, hDl'.out]; kernel_rfl)) rfl ⟨by rw [hD'.out], ?_⟩
  exact below_setRow hb4'.out (Nat.le_refl _) _

theorem zero36 (w : World) : (zeroValue 36).run Tryd.prog w = .ok (.agg (zb 48)) w := by kernel_rfl
theorem arrayAt36 (g c : Nat) (w : World) : (Instr.arrayAt 36 (.slice (some ⟨g, 0, none⟩) 48 c)).run Tryd.prog w = .ok (.pointer (some ⟨g, 0, none⟩)) w := by
  unfold Instr.arrayAt
  rw [Sem.run_bind, run_underlying Tryd.underlying36]
  rfl
set_option maxRecDepth 100000 in
set_option maxHeartbeats 8000000 in
theorem sum384_any (K : List UInt64) (hKl : K.length = 80) (s : S8) (ps : List (List UInt8)) (hml : ps.flatten.length ≤ 90000000) (v : Value) (w : World) (hp : PAt w v ps) (hK : Glob w 2 K) (hS : Glob w 1 s.l) :
    Calls Tryd.prog 26 #[v] w fun e w' => e = .returned (.agg (bcs ((sha K s ps.flatten).take 48)).toArray) ∧ Below w.heap.size w w' := by
  have hK2 := hK.lt
  have hz0 := hS.lt
  have hKl' := Lib.hid hK
  have hS' := Lib.hid hS
  have hp' := Lib.hid hp
  obtain ⟨A, c, rfl, _, hpa⟩ := hp.addr
  have hpa' := Lib.hid hpa
  clear hK hS hp hpa
  have z := zero36
  go_enter Tryd.func26, Tryd.ntmps26
  go_wp2_with fail
  clear z
  obtain ⟨w1, hw1⟩ : ∃ w1, w1 = w.alloc (.cells (zb 48) 36) := ⟨_, rfl⟩
  have hb1 : Below w.heap.size w w1 := by rw [hw1]; exact (Below.refl _ _).alloc (Nat.le_refl _) _
  have hblk1 : Blk w1 w.heap.size 36 (zb 48) := by rw [hw1]; exact Blk.new _ _ _ rfl
  rw [← hw1]
  clear hw1
  refine (new384_any K s w1 (hS'.out.below hb1 hz0)).mono ?_
  rintro e w2 ⟨rfl, hH2, hb2⟩
  have hz1 := hblk1.lt
  have hz2 := hb2.size
  have hb02 := hb1.trans (hb2.mono hb1.size)
  have hadd := add_any K hKl s 48 w1.heap.size (w1.heap.size + 1) [] ps (by rw [List.length_nil]; omega) _ w2 (by omega) (by have := hH2.lt; omega) (by omega) hH2 (hKl'.out.below hb02 hK2) (hp'.out.below hb02) (by
    intro hn ad n c' e
    have := hp'.out.block_lt hn ad n c' e
    have := hb1.size
    omega)
  have hadd' := Lib.hid hadd
  have hb02' := Lib.hid hb02
  have hblk2' := Lib.hid (hblk1.below hb2 hz1)
  clear hadd hb02 hb1 hb2 hblk1 hH2
  go_wp2_with (go_at_call 19; ((with_reducible refine hadd'.out.mono ?_); rintro e w3 ⟨rfl, hH3, hx3⟩; have hH3' := Lib.hid hH3; have hx3' := Lib.hid hx3; clear hH3 hx3))
  have hbx3 : Below w2.heap.size w2 w2 := Below.refl _ _
  have hb03 : Below w.heap.size w w3 := hb02'.out.trans (below_of_ext hx3'.out hb02'.out.size (fun k hk => by rw [hk]; omega))
  have hblk3 := Lib.hid (hblk2'.out.ext hx3'.out (fun e => by omega))
  rw [List.nil_append] at hH3'
  have hsum := sum_any K hKl s 48 w1.heap.size _ (by decide) ps.flatten (by omega) w3 hH3'.out (hKl'.out.below hb03 hK2)
  have hsum' := Lib.hid hsum
  have hb03' := Lib.hid hb03
  clear hsum hbx3 hb03
  obtain ⟨D, hD⟩ : ∃ D, D = (sha K s ps.flatten).take 48 := ⟨_, rfl⟩
  have hDl : D.length = 48 := by rw [hD, List.length_take, sha_length]; rfl
  rw [← hD] at hsum'
  have hD' := Lib.hid hD
  have hDl' := Lib.hid hDl
  clear hD hDl
  have hat := arrayAt36
  go_wp2_with (first
    | (go_at_call 20; ((with_reducible refine hsum'.out.mono ?_); rintro e w4 ⟨v4, rfl, hO4, hb4⟩; obtain ⟨g4, c4, rfl, hg4, hc4⟩ := hO4.form (by rw [hDl'.out]; decide); have hc4' := Lib.hid hc4; have hblk4 := Lib.hid (hblk3.out.below hb4 hblk3.out.lt); have hb4' := Lib.hid (hb03'.out.trans (hb4.mono hb03'.out.size)); clear hc4 hO4 hb4; rw [hDl'.out]))
    | (refine wpList_load_mid rfl 36 (.tmp 10) rfl g4 0 rfl (bcs D) _ (fun j u hu => by rw [Nat.zero_add]; exact hc4'.out j u hu) Tryd.underlying36 rfl (by rw [bcs_length, hDl'.out]; kernel_rfl) ?_)
    | (refine wpList_store_row rfl 36 (.tmp 2) (.tmp 11) rfl _ _ rfl rfl 36 _ hblk4.out (by simp only [List.size_toArray]; rw [bcs_length, hDl'.out]; kernel_rfl) (by simp only [zb, List.size_toArray]; rw [bcs_length, bcs_length, hDl'.out]; rfl) (all_oneCell_toArray (bcs_one _)) ?_))
  refine bodyPost_ret (results_cell_row rfl _ _ _ 36 (bcs D).toArray (0, 0) _ rfl (setRow_blk hblk4.out) Tryd.underlying36 rfl (by simp only [List.size_toArray]; rw [bcs_length, hDl'.out]; kernel_rfl)) rfl ⟨by rw [hD'.out], ?_⟩
  exact below_setRow hb4'.out (Nat.le_refl _) _

end Go.Proofs.YtnaiifidcpdamaaDoor
