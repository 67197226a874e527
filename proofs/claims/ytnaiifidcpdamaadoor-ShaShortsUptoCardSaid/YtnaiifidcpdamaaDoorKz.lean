/-
  ShaShorts walked.
-/
import Derived.Test.YtnaiifidcpdamaaDoorKx
set_option linter.unusedVariables false
set_option linter.unusedSimpArgs false
namespace Go.Proofs.YtnaiifidcpdamaaDoor
open Go.RowKit Go.Og Go.Ub Go.Proofs.YtnaiifidcpdamaaDoorW.PrintWords
set_option maxRecDepth 100000 in
set_option maxHeartbeats 8000000 in
theorem shorts_any (K : List UInt64) (hKl : K.length = 80) (s5 s3 : S8) (ps : List (List UInt8)) (hl : ps.flatten.length ≤ 1048576) (hn : ps.length ≤ 1048576) (v : Value) (w : World) (hv : PAt w v ps) (hK : Glob w 2 K) (h5 : Glob w 0 s5.l) (h3 : Glob w 1 s3.l) :
    Calls Tryd.prog 6 #[v] w fun e w' => e = .returned (.bool true) ∧ Below w.heap.size w w' := by
  have hK2 := hK.lt
  have hS0 := h5.lt
  have hS1 := h3.lt
  have haw := Aside0.mk (fun (wx : World) (hb : Below w.heap.size w wx) => awake2_any K hKl s5 wx (hK.below hb hK2) (h5.below hb hS0))
  have hB0 := Aside0.mk (Below.refl w.heap.size w)
  by_cases hf : ps.length ≤ 20 ∧ ps.flatten.length ≤ 600
  · have hfw := Aside0.mk (fun (wx : World) (hb : Below w.heap.size w wx) => few_yes ps hf v wx (hv.below hb))
    obtain ⟨F, hF⟩ : ∃ F, F = ps.flatten := ⟨_, rfl⟩
    obtain ⟨D, hD⟩ : ∃ D, D = (sha K s3 F).take 48 := ⟨_, rfl⟩
    have hDl : D.length = 48 := by rw [hD, List.length_take, sha_length]; rfl
    have hDl' := Aside0.mk hDl
    have hjn := fun (wx : World) (hb : Below w.heap.size w wx) => joined_any ps (by omega) (by omega) v wx (hv.below hb)
    have hsm := fun (wx : World) (hb : Below w.heap.size w wx) => sum384_any K hKl s3 ps (by omega) v wx (hv.below hb) (hK.below hb hK2) (h3.below hb hS1)
    have hlg := fun (u : Value) (wx : World) (hb : Below w.heap.size w wx) (hu : BAt wx u F) => short_any K hKl s3 F (by rw [hF]; omega) u wx hu (hK.below hb hK2) (h3.below hb hS1)
    rw [← hF] at hjn hsm
    rw [← hD] at hsm hlg
    have hjn' := Aside0.mk hjn
    have hsm' := Aside0.mk hsm
    have hlg' := Aside0.mk hlg
    have z34 := zero34
    have z36 := zero36
    obtain ⟨A, c, rfl, -⟩ := hv
    clear hjn hsm hlg hD hF hDl hK h5 h3 hf hl hn
    go_enter Tryd.func6, Tryd.ntmps6
    go_wp2_with (first
      | (go_at_call 15; ((with_reducible refine (haw.out _ hB0.out).mono ?_); rintro e w1 ⟨rfl, hb1⟩; have hB1 := Aside0.mk hb1; clear hb1))
      | (go_at_call 16; ((with_reducible refine (hfw.out _ hB1.out).mono ?_); rintro e w2 ⟨rfl, hb2⟩; have hB2 := Aside0.mk (hB1.out.trans (hb2.mono hB1.out.size)); clear hb2))
      | (go_at_call 26; ((with_reducible refine (hsm'.out _ hB2.out).mono ?_); rintro e w4 ⟨rfl, hb4⟩; have hB4 := Aside0.mk (hB2.out.trans (hb4.mono hB2.out.size)); clear hb4))
      | (refine wpList_store_row rfl 36 (.tmp 3) (.tmp 13) rfl w4.heap.size (bcs D).toArray rfl rfl 36 (zb 48) (Blk.new (w := w4) w4.heap.size 36 _ rfl) (by simp only [List.size_toArray]; rw [bcs_length, hDl'.out]; kernel_rfl) (by simp only [zb, List.size_toArray]; rw [bcs_length, bcs_length, hDl'.out]; rfl) (all_oneCell_toArray (bcs_one _)) ?_))
    clear z34 z36 hsm'
    refine' wp_region_og_lit 8 [none, none, none, none, none, none, none, none] [.is _, .is _, .is _, .such (fun v wx => BAt wx v F), .such (fun v wx => BAt wx v D), .is _, .is _, .is _]
      (fun c wx => Below w.heap.size w wx ∧ Blk wx w4.heap.size 36 (bcs D).toArray) (fun u u' => Below u.heap.size u u') (by kernel_rfl) (by kernel_rfl) ?h0a ?hwa
    case h0a => 
      refine ⟨drew_below (below_setRow (hB4.out.alloc hB4.out.size _) hB4.out.size _), ?_⟩
      · exact Blk.drew (setRow_blk (t := 36) (Blk.new (w := w4) w4.heap.size 36 _ rfl))
    case hwa =>
      iterate 3 (
        apply walk_is
        · rfl
        · rfl
        · intro c hc wx hS hE Kq hKq
          have hS' := Aside0.mk hS
          obtain ⟨sb, s6⟩ := hS
          clear hE hc
          have hz6 := s6.lt
          have cv6 := conv_run (BAt.of_blk s6 (by rw [hDl'.out]; decide))
          rw [hDl'.out] at cv6
          have jn := Aside0.mk (hjn'.out wx sb)
          clear sb s6
          all_goals
           go_wp2_with (first | (go_at_call 24; ((with_reducible refine jn.out.mono ?_); rintro e w9 ⟨v9, rfl, hB9, hb9⟩)) | (go_at_call 22; ((with_reducible refine lg.out.mono ?_); rintro e w9 ⟨v9, rfl, hB9, hb9⟩)))
           exact Told.mk (by first | (simp only [Act.put, List.setIfInBounds_toArray, List.set_cons_succ, List.set_cons_zero]; done) | (simp only [Act.put, List.setIfInBounds_toArray, List.set_cons_succ, List.set_cons_zero]; rfl)) (by first | exact hS'.out | exact ⟨hS'.out.1.trans (hb9.mono hS'.out.1.size), hS'.out.2.below hb9 hS'.out.2.lt⟩) (by first | exact Below.refl _ _ | exact hb9)
        simp only [Act.put, List.setIfInBounds_toArray, List.set_cons_succ, List.set_cons_zero])
      refine walk_such (R := _) rfl rfl (fun v u u' h hr => h.below hr) ?_ ?_
      · intro c hc wx hS hE Kq hKq
        have hS' := Aside0.mk hS
        obtain ⟨sb, s6⟩ := hS
        clear hE hc
        have hz6 := s6.lt
        have cv6 := conv_run (BAt.of_blk s6 (by rw [hDl'.out]; decide))
        rw [hDl'.out] at cv6
        have jn := Aside0.mk (hjn'.out wx sb)
        clear sb s6
        go_wp2_with (first | (go_at_call 24; ((with_reducible refine jn.out.mono ?_); rintro e w9 ⟨v9, rfl, hB9, hb9⟩)) | (go_at_call 22; ((with_reducible refine lg.out.mono ?_); rintro e w9 ⟨v9, rfl, hB9, hb9⟩)))
        exact Held.mk ⟨_, by first | (simp only [Act.put, List.setIfInBounds_toArray, List.set_cons_succ, List.set_cons_zero]; done) | (simp only [Act.put, List.setIfInBounds_toArray, List.set_cons_succ, List.set_cons_zero]; rfl), hB9⟩ (by first | exact hS'.out | exact ⟨hS'.out.1.trans (hb9.mono hS'.out.1.size), hS'.out.2.below hb9 hS'.out.2.lt⟩) (by first | exact Below.refl _ _ | exact hb9)
      intro va3
      simp only [Act.put, List.setIfInBounds_toArray, List.set_cons_succ, List.set_cons_zero]
      refine walk_such (R := _) rfl rfl (fun v u u' h hr => h.below hr) ?_ ?_
      · intro c hc wx hS hE Kq hKq
        have hS' := Aside0.mk hS
        obtain ⟨sb, s6⟩ := hS
        have hI : BAt wx va3 F := hE (3, fun wx => BAt wx va3 F) (by simp) (by dsimp only; decide)
        have lg := Aside0.mk (hlg'.out _ wx sb hI)
        clear hI
        clear hE hc
        have hz6 := s6.lt
        have cv6 := conv_run (BAt.of_blk s6 (by rw [hDl'.out]; decide))
        rw [hDl'.out] at cv6
        have jn := Aside0.mk (hjn'.out wx sb)
        clear sb s6
        go_wp2_with (first | (go_at_call 24; ((with_reducible refine jn.out.mono ?_); rintro e w9 ⟨v9, rfl, hB9, hb9⟩)) | (go_at_call 22; ((with_reducible refine lg.out.mono ?_); rintro e w9 ⟨v9, rfl, hB9, hb9⟩)))
        exact Held.mk ⟨_, by first | (simp only [Act.put, List.setIfInBounds_toArray, List.set_cons_succ, List.set_cons_zero]; done) | (simp only [Act.put, List.setIfInBounds_toArray, List.set_cons_succ, List.set_cons_zero]; rfl), hB9⟩ (by first | exact hS'.out | exact ⟨hS'.out.1.trans (hb9.mono hS'.out.1.size), hS'.out.2.below hb9 hS'.out.2.lt⟩) (by first | exact Below.refl _ _ | exact hb9)
      intro va4
      simp only [Act.put, List.setIfInBounds_toArray, List.set_cons_succ, List.set_cons_zero]
      iterate 1 (
        apply walk_is
        · rfl
        · rfl
        · intro c hc wx hS hE Kq hKq
          have hS' := Aside0.mk hS
          obtain ⟨sb, s6⟩ := hS
          have hI : BAt wx va4 D := hE (4, fun wx => BAt wx va4 D) (by simp) (by dsimp only; decide)
          have cvI := conv_run hI
          clear hI
          clear hE hc
          have hz6 := s6.lt
          have cv6 := conv_run (BAt.of_blk s6 (by rw [hDl'.out]; decide))
          rw [hDl'.out] at cv6
          have jn := Aside0.mk (hjn'.out wx sb)
          clear sb s6
          all_goals
           go_wp2_with (first | (go_at_call 24; ((with_reducible refine jn.out.mono ?_); rintro e w9 ⟨v9, rfl, hB9, hb9⟩)) | (go_at_call 22; ((with_reducible refine lg.out.mono ?_); rintro e w9 ⟨v9, rfl, hB9, hb9⟩)))
           exact Told.mk (by first | (simp only [Act.put, List.setIfInBounds_toArray, List.set_cons_succ, List.set_cons_zero]; done) | (simp only [Act.put, List.setIfInBounds_toArray, List.set_cons_succ, List.set_cons_zero]; rfl)) (by first | exact hS'.out | exact ⟨hS'.out.1.trans (hb9.mono hS'.out.1.size), hS'.out.2.below hb9 hS'.out.2.lt⟩) (by first | exact Below.refl _ _ | exact hb9)
        simp only [Act.put, List.setIfInBounds_toArray, List.set_cons_succ, List.set_cons_zero])
      iterate 2 (
        apply walk_is
        · rfl
        · rfl
        · intro c hc wx hS hE Kq hKq
          have hS' := Aside0.mk hS
          obtain ⟨sb, s6⟩ := hS
          clear hE hc
          have hz6 := s6.lt
          have cv6 := conv_run (BAt.of_blk s6 (by rw [hDl'.out]; decide))
          rw [hDl'.out] at cv6
          have jn := Aside0.mk (hjn'.out wx sb)
          clear sb s6
          all_goals
           go_wp2_with (first | (go_at_call 24; ((with_reducible refine jn.out.mono ?_); rintro e w9 ⟨v9, rfl, hB9, hb9⟩)) | (go_at_call 22; ((with_reducible refine lg.out.mono ?_); rintro e w9 ⟨v9, rfl, hB9, hb9⟩)))
           exact Told.mk (by first | (simp only [Act.put, List.setIfInBounds_toArray, List.set_cons_succ, List.set_cons_zero]; done) | (simp only [Act.put, List.setIfInBounds_toArray, List.set_cons_succ, List.set_cons_zero]; rfl)) (by first | exact hS'.out | exact ⟨hS'.out.1.trans (hb9.mono hS'.out.1.size), hS'.out.2.below hb9 hS'.out.2.lt⟩) (by first | exact Below.refl _ _ | exact hb9)
        simp only [Act.put, List.setIfInBounds_toArray, List.set_cons_succ, List.set_cons_zero])
      refine walk_end ?_
      intro wa hSa hEa
      go_wp2
      go_ret
      exact ⟨rfl, hSa.1⟩
  · have hfw := Aside0.mk (fun (wx : World) (hb : Below w.heap.size w wx) => few_no ps (by omega) (by omega) hf v wx (hv.below hb))
    obtain ⟨A, c, rfl, -⟩ := hv
    clear hK h5 h3 hf hl hn
    go_enter Tryd.func6, Tryd.ntmps6
    go_wp2_with (first
      | (go_at_call 15; ((with_reducible refine (haw.out _ hB0.out).mono ?_); rintro e w1 ⟨rfl, hb1⟩; have hB1 := Aside0.mk hb1; clear hb1))
      | (go_at_call 16; ((with_reducible refine (hfw.out _ hB1.out).mono ?_); rintro e w2 ⟨rfl, hb2⟩; have hB2 := Aside0.mk (hB1.out.trans (hb2.mono hB1.out.size)); clear hb2))
      | (go_at_call 15; ((with_reducible refine (haw.out _ hB2.out).mono ?_); rintro e w3 ⟨rfl, hb3⟩; have hB3 := Aside0.mk (hB2.out.trans (hb3.mono hB2.out.size)); clear hb3)))
    go_ret
    exact ⟨rfl, hB3.out⟩
end Go.Proofs.YtnaiifidcpdamaaDoor
