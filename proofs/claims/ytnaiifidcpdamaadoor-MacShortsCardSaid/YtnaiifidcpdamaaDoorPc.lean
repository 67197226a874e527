/-
  The tag of a sum under a key; Sum and Check of package mac.
-/
import Derived.Test.YtnaiifidcpdamaaDoorPb
import Derived.Laws.Tables
set_option linter.unusedVariables false
set_option linter.unusedSimpArgs false
namespace Go.Proofs.YtnaiifidcpdamaaDoor
open Go.RowKit Go.Og Go.Ub Go.Proofs.YtnaiifidcpdamaaDoorW.PrintWords
set_option maxRecDepth 100000 in
set_option maxHeartbeats 4000000 in
theorem tag_any (K : List UInt64) (s : S8) (g : Nat) (w0 w : World) (M P : List UInt8) (u : Value) (hM : M.length ≤ 90000000) (hP : P.length ≤ 1000000) (hR : Run K s 48 g w0 w M) (hu : BAt w u P) (hS : Glob w 1 s.l) :
    Calls Tryd.prog 42 #[.agg #[.pointer (some ⟨g, 0, none⟩), u]] w fun e w' => ∃ v, e = .returned v ∧ BAt w' v ((sha K s (P ++ (sha K s M).take 48)).take 48) ∧ Below w.heap.size w w' := by
  have hS1 := hS.lt
  have z36 := zero36
  obtain ⟨D1, hD1⟩ : ∃ D1, D1 = (sha K s M).take 48 := ⟨_, rfl⟩
  have hD1l : D1.length = 48 := by rw [hD1, List.length_take, sha_length]; rfl
  have hfl : [P, D1].flatten = P ++ D1 := by simp
  obtain ⟨D, hD⟩ : ∃ D, D = (sha K s (P ++ D1)).take 48 := ⟨_, rfl⟩
  have hDl : D.length = 48 := by rw [hD, List.length_take, sha_length]; rfl
  have hsum := fun (v : Value) (wx : World) (hr : Run K s 48 g w0 wx M) (hb : Below w.heap.size w wx) (hp : PAt wx v [P, D1]) => sum384_any K hr.wide s [P, D1] (by rw [hfl, List.length_append]; omega) v wx hp hr.k (hS.below hb hS1)
  rw [hfl, ← hD] at hsum
  have htold := fun (wx : World) (hr : Run K s 48 g w0 wx M) => hr.told (by omega)
  rw [← hD1] at htold ⊢
  rw [← hD]
  have hsum' := Aside0.mk hsum
  have htold' := Aside0.mk htold
  have hDl' := Aside0.mk hDl
  have hR' := Aside0.mk hR
  have hu' := Aside0.mk hu
  obtain ⟨A, cP, rfl, huc, huC⟩ := hu
  clear hsum htold hS hD hD1 hDl hR huc huC hD1l hfl
  go_enter Tryd.func42, Tryd.ntmps42
  go_wp2_with fail
  refine' wp_region_last_lit [.is _, .is _, .is _, .is _, .such (fun v wx => BAt wx v D1), .such (fun v wx => PAt wx v [P, D1]), .is _, .such (fun v wx => ∃ q, v = .pointer (some ⟨q, 0, none⟩) ∧ w.heap.size ≤ q ∧ Blk wx q 36 (zb 48))]
    (fun wx => Below w.heap.size w wx ∧ Blk wx w.heap.size 69 #[.pointer (some ⟨g, 0, none⟩), .slice A P.length cP] ∧ BAt wx (.slice A P.length cP) P ∧ Run K s 48 g w0 wx M) (fun u u' => Below u.heap.size u u') rfl (by kernel_rfl) rfl (by kernel_rfl) (by kernel_rfl) ?h0a ?hwa
  case h0a => 
    have hbx : Below w.heap.size w (w.alloc (.cells #[.pointer (some ⟨g, 0, none⟩), .slice A P.length cP] 69)).drew := drew_below ((Below.refl _ _).alloc (Nat.le_refl _) _)
    exact ⟨hbx, Blk.drew (Blk.new _ _ _ rfl), hu'.out.below hbx, hR'.out.below hbx⟩
  case hwa =>
    simp only [List.dropLast_cons_cons, List.dropLast_singleton]
    iterate 4 (
      apply walk_is
      · rfl
      · rfl
      · intro c hc wx hS hE Kq hKq
        have hS' := Aside0.mk hS
        obtain ⟨sb, s1, s2, s3⟩ := hS
        clear hE hc
        have c0 : wx.cell? ⟨w.heap.size, 0, none⟩ = some (.pointer (some ⟨g, 0, none⟩)) := s1.cell 0
        have c1 : wx.cell? ⟨w.heap.size, 1, none⟩ = some (.slice A P.length cP) := s1.cell 1
        have hz := s1.lt
        have ht := Aside0.mk (htold'.out wx s3)
        have hbA := Aside0.mk (fun o => (Below.refl wx.heap.size wx).alloc (Nat.le_refl _) o)
        clear sb s1 s2 s3
        all_goals
         go_wp2_with (first | (go_at_call 20; ((with_reducible refine ht.out.mono ?_); rintro e w9 ⟨v9, rfl, hO9, -, hb9⟩)) | (go_at_call 26; ((with_reducible refine hq.out.mono ?_); rintro e w9 ⟨rfl, hb9⟩)))
         exact Told.mk (by first | (simp only [Act.put, List.setIfInBounds_toArray, List.set_cons_succ, List.set_cons_zero]; done) | (simp only [Act.put, List.setIfInBounds_toArray, List.set_cons_succ, List.set_cons_zero]; rfl)) (by first | exact hS'.out | exact ⟨hS'.out.1.trans (hb9.mono hS'.out.1.size), hS'.out.2.1.below hb9 hS'.out.2.1.lt, hS'.out.2.2.1.below hb9, hS'.out.2.2.2.below hb9⟩ | exact ⟨hS'.out.1.trans ((hbA.out _).mono hS'.out.1.size), hS'.out.2.1.below (hbA.out _) hS'.out.2.1.lt, hS'.out.2.2.1.below (hbA.out _), hS'.out.2.2.2.below (hbA.out _)⟩) (by first | exact Below.refl _ _ | exact hb9 | exact hbA.out _)
      simp only [Act.put, List.setIfInBounds_toArray, List.set_cons_succ, List.set_cons_zero])
    refine walk_such (R := _) rfl rfl (fun v u u' h hr => h.below hr) ?_ ?_
    · intro c hc wx hS hE Kq hKq
      have hS' := Aside0.mk hS
      obtain ⟨sb, s1, s2, s3⟩ := hS
      clear hE hc
      have c0 : wx.cell? ⟨w.heap.size, 0, none⟩ = some (.pointer (some ⟨g, 0, none⟩)) := s1.cell 0
      have c1 : wx.cell? ⟨w.heap.size, 1, none⟩ = some (.slice A P.length cP) := s1.cell 1
      have hz := s1.lt
      have ht := Aside0.mk (htold'.out wx s3)
      have hbA := Aside0.mk (fun o => (Below.refl wx.heap.size wx).alloc (Nat.le_refl _) o)
      clear sb s1 s2 s3
      go_wp2_with (first | (go_at_call 20; ((with_reducible refine ht.out.mono ?_); rintro e w9 ⟨v9, rfl, hO9, -, hb9⟩)) | (go_at_call 26; ((with_reducible refine hq.out.mono ?_); rintro e w9 ⟨rfl, hb9⟩)))
      exact Held.mk ⟨_, by first | (simp only [Act.put, List.setIfInBounds_toArray, List.set_cons_succ, List.set_cons_zero]; done) | (simp only [Act.put, List.setIfInBounds_toArray, List.set_cons_succ, List.set_cons_zero]; rfl), hO9.bat⟩ (by first | exact hS'.out | exact ⟨hS'.out.1.trans (hb9.mono hS'.out.1.size), hS'.out.2.1.below hb9 hS'.out.2.1.lt, hS'.out.2.2.1.below hb9, hS'.out.2.2.2.below hb9⟩ | exact ⟨hS'.out.1.trans ((hbA.out _).mono hS'.out.1.size), hS'.out.2.1.below (hbA.out _) hS'.out.2.1.lt, hS'.out.2.2.1.below (hbA.out _), hS'.out.2.2.2.below (hbA.out _)⟩) (by first | exact Below.refl _ _ | exact hb9 | exact hbA.out _)
    intro va4
    simp only [Act.put, List.setIfInBounds_toArray, List.set_cons_succ, List.set_cons_zero]
    refine walk_such (R := _) rfl rfl (fun v u u' h hr => h.below hr) ?_ ?_
    · intro c hc wx hS hE Kq hKq
      have hS' := Aside0.mk hS
      obtain ⟨sb, s1, s2, s3⟩ := hS
      have hI : BAt wx va4 D1 := hE (4, fun wx => BAt wx va4 D1) (by simp) (by dsimp only; decide)
      obtain ⟨A4, c4, rfl⟩ := hI.len
      have hP := Aside0.mk (PAt.two s2 hI)
      clear hI
      clear hE hc
      have c0 : wx.cell? ⟨w.heap.size, 0, none⟩ = some (.pointer (some ⟨g, 0, none⟩)) := s1.cell 0
      have c1 : wx.cell? ⟨w.heap.size, 1, none⟩ = some (.slice A P.length cP) := s1.cell 1
      have hz := s1.lt
      have ht := Aside0.mk (htold'.out wx s3)
      have hbA := Aside0.mk (fun o => (Below.refl wx.heap.size wx).alloc (Nat.le_refl _) o)
      clear sb s1 s2 s3
      go_wp2_with (first | (go_at_call 20; ((with_reducible refine ht.out.mono ?_); rintro e w9 ⟨v9, rfl, hO9, -, hb9⟩)) | (go_at_call 26; ((with_reducible refine hq.out.mono ?_); rintro e w9 ⟨rfl, hb9⟩)))
      exact Held.mk ⟨_, by first | (simp only [Act.put, List.setIfInBounds_toArray, List.set_cons_succ, List.set_cons_zero]; done) | (simp only [Act.put, List.setIfInBounds_toArray, List.set_cons_succ, List.set_cons_zero]; rfl), hP.out⟩ (by first | exact hS'.out | exact ⟨hS'.out.1.trans (hb9.mono hS'.out.1.size), hS'.out.2.1.below hb9 hS'.out.2.1.lt, hS'.out.2.2.1.below hb9, hS'.out.2.2.2.below hb9⟩ | exact ⟨hS'.out.1.trans ((hbA.out _).mono hS'.out.1.size), hS'.out.2.1.below (hbA.out _) hS'.out.2.1.lt, hS'.out.2.2.1.below (hbA.out _), hS'.out.2.2.2.below (hbA.out _)⟩) (by first | exact Below.refl _ _ | exact hb9 | exact hbA.out _)
    intro va5
    simp only [Act.put, List.setIfInBounds_toArray, List.set_cons_succ, List.set_cons_zero]
    iterate 1 (
      apply walk_is
      · rfl
      · rfl
      · intro c hc wx hS hE Kq hKq
        have hS' := Aside0.mk hS
        obtain ⟨sb, s1, s2, s3⟩ := hS
        have hI : PAt wx va5 [P, D1] := hE (5, fun wx => PAt wx va5 [P, D1]) (by simp) (by dsimp only; decide)
        have hq := Aside0.mk (hsum'.out va5 wx s3 sb hI)
        clear hI
        clear hE hc
        have c0 : wx.cell? ⟨w.heap.size, 0, none⟩ = some (.pointer (some ⟨g, 0, none⟩)) := s1.cell 0
        have c1 : wx.cell? ⟨w.heap.size, 1, none⟩ = some (.slice A P.length cP) := s1.cell 1
        have hz := s1.lt
        have ht := Aside0.mk (htold'.out wx s3)
        have hbA := Aside0.mk (fun o => (Below.refl wx.heap.size wx).alloc (Nat.le_refl _) o)
        clear sb s1 s2 s3
        all_goals
         go_wp2_with (first | (go_at_call 20; ((with_reducible refine ht.out.mono ?_); rintro e w9 ⟨v9, rfl, hO9, -, hb9⟩)) | (go_at_call 26; ((with_reducible refine hq.out.mono ?_); rintro e w9 ⟨rfl, hb9⟩)))
         exact Told.mk (by first | (simp only [Act.put, List.setIfInBounds_toArray, List.set_cons_succ, List.set_cons_zero]; done) | (simp only [Act.put, List.setIfInBounds_toArray, List.set_cons_succ, List.set_cons_zero]; rfl)) (by first | exact hS'.out | exact ⟨hS'.out.1.trans (hb9.mono hS'.out.1.size), hS'.out.2.1.below hb9 hS'.out.2.1.lt, hS'.out.2.2.1.below hb9, hS'.out.2.2.2.below hb9⟩ | exact ⟨hS'.out.1.trans ((hbA.out _).mono hS'.out.1.size), hS'.out.2.1.below (hbA.out _) hS'.out.2.1.lt, hS'.out.2.2.1.below (hbA.out _), hS'.out.2.2.2.below (hbA.out _)⟩) (by first | exact Below.refl _ _ | exact hb9 | exact hbA.out _)
      simp only [Act.put, List.setIfInBounds_toArray, List.set_cons_succ, List.set_cons_zero])
    refine walk_such (R := _) rfl rfl (fun v u u' h hr => (let ⟨q, e, h1, h2⟩ := h; ⟨q, e, h1, h2.below hr h2.lt⟩)) ?_ ?_
    · intro c hc wx hS hE Kq hKq
      have hS' := Aside0.mk hS
      obtain ⟨sb, s1, s2, s3⟩ := hS
      clear hE hc
      have c0 : wx.cell? ⟨w.heap.size, 0, none⟩ = some (.pointer (some ⟨g, 0, none⟩)) := s1.cell 0
      have c1 : wx.cell? ⟨w.heap.size, 1, none⟩ = some (.slice A P.length cP) := s1.cell 1
      have hz := s1.lt
      have ht := Aside0.mk (htold'.out wx s3)
      have hbA := Aside0.mk (fun o => (Below.refl wx.heap.size wx).alloc (Nat.le_refl _) o)
      clear sb s1 s2 s3
      go_wp2_with (first | (go_at_call 20; ((with_reducible refine ht.out.mono ?_); rintro e w9 ⟨v9, rfl, hO9, -, hb9⟩)) | (go_at_call 26; ((with_reducible refine hq.out.mono ?_); rintro e w9 ⟨rfl, hb9⟩)))
      exact Held.mk ⟨_, by first | (simp only [Act.put, List.setIfInBounds_toArray, List.set_cons_succ, List.set_cons_zero]; done) | (simp only [Act.put, List.setIfInBounds_toArray, List.set_cons_succ, List.set_cons_zero]; rfl), ⟨_, rfl, hS'.out.1.size, Blk.new _ _ _ rfl⟩⟩ (by first | exact hS'.out | exact ⟨hS'.out.1.trans (hb9.mono hS'.out.1.size), hS'.out.2.1.below hb9 hS'.out.2.1.lt, hS'.out.2.2.1.below hb9, hS'.out.2.2.2.below hb9⟩ | exact ⟨hS'.out.1.trans ((hbA.out _).mono hS'.out.1.size), hS'.out.2.1.below (hbA.out _) hS'.out.2.1.lt, hS'.out.2.2.1.below (hbA.out _), hS'.out.2.2.2.below (hbA.out _)⟩) (by first | exact Below.refl _ _ | exact hb9 | exact hbA.out _)
    intro va7
    simp only [Act.put, List.setIfInBounds_toArray, List.set_cons_succ, List.set_cons_zero]
    refine walk_end ?_
    intro wl hSl hEl Kl hKl
    obtain ⟨sb, s1, s2, s3⟩ := hSl
    have h7 : ∃ q, va7 = .pointer (some ⟨q, 0, none⟩) ∧ w.heap.size ≤ q ∧ Blk wl q 36 (zb 48) := hEl (7, fun wx => ∃ q, va7 = .pointer (some ⟨q, 0, none⟩) ∧ w.heap.size ≤ q ∧ Blk wx q 36 (zb 48)) (by simp)
    obtain ⟨q, rfl, hq1, hq2⟩ := h7
    have hend := Aside0.mk (BAt.of_blk (setRow_blk (cs' := (bcs D).toArray) hq2) (by rw [hDl'.out]; decide))
    have hbe := Aside0.mk (below_setRow (cs := (bcs D).toArray) sb hq1)
    refine wp_store_row 36 (.tmp 3) (.tmp 10) rfl q (bcs D).toArray rfl rfl 36 (zb 48) hq2 (by simp only [List.size_toArray]; rw [bcs_length, hDl'.out]; kernel_rfl) (by simp only [zb, List.size_toArray]; rw [bcs_length, bcs_length, hDl'.out]; rfl) (all_oneCell_toArray (bcs_one _)) ?_
    refine hKl _ _ ?_
    have hqz := hq2.lt
    have hqz' : q < (wl.setRow q (bcs D).toArray).heap.size := (setRow_blk (cs' := (bcs D).toArray) hq2).lt
    clear sb s1 s2 s3 hEl hKl hq2
    go_wp2
    go_ret
    have := hend.out
    rw [hDl'.out] at this
    exact ⟨_, rfl, this, hbe.out⟩
end Go.Proofs.YtnaiifidcpdamaaDoor
