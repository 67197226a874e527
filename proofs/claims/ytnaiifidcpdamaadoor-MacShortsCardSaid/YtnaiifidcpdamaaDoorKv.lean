/-
  awake of chapter 2; ShaEdges.
-/
import Derived.Test.YtnaiifidcpdamaaDoorKu
set_option linter.unusedVariables false
set_option linter.unusedSimpArgs false
namespace Go.Proofs.YtnaiifidcpdamaaDoor
open Go.RowKit Go.Og Go.Ub Go.Proofs.YtnaiifidcpdamaaDoorW.PrintWords
set_option maxRecDepth 100000 in
set_option maxHeartbeats 4000000 in
theorem awake2_any (K : List UInt64) (hKl : K.length = 80) (s : S8) (w : World) (hK : Glob w 2 K) (hS : Glob w 0 s.l) : Calls Tryd.prog 15 #[] w fun e w' => e = .returned (.bool true) ∧ Below w.heap.size w w' := by
  have hK2 := hK.lt
  have hn := Aside0.mk (new512_any K s w hS)
  have hK' := Aside0.mk hK
  clear hK hS
  go_enter Tryd.func15, Tryd.ntmps15
  go_wp2_with (first
    | (go_at_call 17; ((with_reducible refine hn.out.mono ?_); rintro e w1 ⟨rfl, hH, hb⟩; have hH' := Aside0.mk hH; have hb' := Aside0.mk hb; clear hH hb))
    | (go_at_call 23; ((with_reducible refine (len_any K s 64 w.heap.size (w.heap.size + 1) [] _ hH'.out).mono ?_); rintro e w2 ⟨rfl, rfl⟩))
    | (go_at_call 20; ((with_reducible refine (sum_any K hKl s 64 w.heap.size (w.heap.size + 1) (by decide) [] (by decide) _ hH'.out (hK'.out.below hb'.out hK2)).mono ?_); rintro e w3 ⟨v3, rfl, hO3, hb3⟩; obtain ⟨A3, c3, rfl⟩ := hO3.slice; have hl3 : ((sha K s []).take 64).length = 64 := (by rw [List.length_take, sha_length]; rfl); rw [hl3]; have hb3' := Aside0.mk hb3; clear hb3 hO3 hl3)))
  go_ret
  exact ⟨rfl, hb'.out.trans (hb3'.out.mono hb'.out.size)⟩
theorem setRow_far {w : World} {g k : Nat} {t : TypeId} {cs cs' : Array Value} (h : Blk w k t cs) (hne : k ≠ g) : Blk (w.setRow g cs') k t cs := (setRow_other w g k cs' hne).trans h
theorem BAt.of_blk {w : World} {g : Nat} {t : TypeId} {l : List UInt8} (h : Blk w g t (bcs l).toArray) (hl : l.length ≤ 1000000000) : BAt w (.slice (some ⟨g, 0, none⟩) l.length l.length) l := by
  refine BAt.mk_ (Nat.le_refl _) (by omega) fun _ => ⟨_, rfl, fun j hj => ?_⟩
  rw [add_plain, h.cell j]
  simpa using bcs_get l j hj

set_option maxRecDepth 100000 in
set_option maxHeartbeats 8000000 in
theorem edges_any (K : List UInt64) (hKl : K.length = 80) (s5 s3 : S8) (a b : Nat) (ha : a < 256) (hb : b < 256) (w : World) (hK : Glob w 2 K) (h5 : Glob w 0 s5.l) (h3 : Glob w 1 s3.l) :
    Calls Tryd.prog 7 #[.int .u8 a, .int .u8 b] w fun e w' => e = .returned (.bool true) ∧ Below w.heap.size w w' := by
  have hK2 := hK.lt
  have hS0 := h5.lt
  have hS1 := h3.lt
  have haw := Aside0.mk (awake2_any K hKl s5 w hK h5)
  have hK' := Aside0.mk hK
  have h5' := Aside0.mk h5
  have h3' := Aside0.mk h3
  obtain ⟨c, hc⟩ : ∃ c, c = b % 3 := ⟨_, rfl⟩
  obtain ⟨N, hN⟩ : ∃ N, N = a + 128 * c := ⟨_, rfl⟩
  have hmod : (b : Int) % 3 = (c : Int) := by omega
  have hsum : (a : Int) + 128 * (c : Int) = (N : Int) := by omega
  have hN6 : N ≤ 600 := by omega
  have hc3 : c < 3 := by omega
  have hmk := fun W => make_run N (by omega) W
  have z34 := zero34
  have z36 := zero36
  clear hc hN hK h5 h3
  go_enter Tryd.func7, Tryd.ntmps7
  go_wp2_with (first
    | (go_at_call 15; ((with_reducible refine haw.out.mono ?_); rintro e w1 ⟨rfl, hb1⟩; have hb1' := Aside0.mk hb1; clear hb1)))
  clear hmk
  obtain ⟨Z, hZ⟩ : ∃ Z : List UInt8, Z = List.replicate N 0 := ⟨_, rfl⟩
  have hZl : Z.length = N := by rw [hZ, List.length_replicate]
  have hZb := make_bat N (by omega) w1
  rw [← hZ] at hZb
  obtain ⟨D5, hD5⟩ : ∃ D5, D5 = (sha K s5 Z).take 64 := ⟨_, rfl⟩
  obtain ⟨D3, hD3⟩ : ∃ D3, D3 = (sha K s3 Z).take 48 := ⟨_, rfl⟩
  have hl5 : D5.length = 64 := by rw [hD5, List.length_take, sha_length]; rfl
  have hl3 : D3.length = 48 := by rw [hD3, List.length_take, sha_length]; rfl
  have hfl : [Z].flatten = Z := by simp
  have hlong := fun (v : Value) (wx : World) (h1 : BAt wx v Z) (h2 : Glob wx 2 K) (h3 : Glob wx 0 s5.l) => long_any K hKl s5 Z (by omega) v wx h1 h2 h3
  have hshort := fun (v : Value) (wx : World) (h1 : BAt wx v Z) (h2 : Glob wx 2 K) (h3 : Glob wx 1 s3.l) => short_any K hKl s3 Z (by omega) v wx h1 h2 h3
  have hs5 := fun (v : Value) (wx : World) (h1 : PAt wx v [Z]) (h2 : Glob wx 2 K) (h3 : Glob wx 0 s5.l) => sum512_any K hKl s5 [Z] (by rw [hfl]; omega) v wx h1 h2 h3
  have hs3 := fun (v : Value) (wx : World) (h1 : PAt wx v [Z]) (h2 : Glob wx 2 K) (h3 : Glob wx 1 s3.l) => sum384_any K hKl s3 [Z] (by rw [hfl]; omega) v wx h1 h2 h3
  rw [hfl, ← hD5] at hs5
  rw [hfl, ← hD3] at hs3
  rw [← hD5] at hlong
  rw [← hD3] at hshort
  have hlong' := Aside0.mk hlong
  have hshort' := Aside0.mk hshort
  have hs5' := Aside0.mk hs5
  have hs3' := Aside0.mk hs3
  have hl5' := Aside0.mk hl5
  have hl3' := Aside0.mk hl3
  have hsz1 := hb1'.out.size
  have hBz : Below w.heap.size w (w1.alloc (.cells (zb N) 5)) := hb1'.out.alloc hsz1 _
  have hBz2 : Below w.heap.size w ((w1.alloc (.cells (zb N) 5)).alloc (.cells #[.slice (some ⟨w1.heap.size, 0, none⟩) N N] 27)) := hBz.alloc hBz.size _
  have hP1 := PAt.one hZb
  rw [show (w1.alloc (.cells (zb N) 5)).heap.size = w1.heap.size + 1 by simp] at hP1
  have hZb' := Aside0.mk hZb
  have hBz' := Aside0.mk hBz
  clear hlong hshort hs5 hs3 hl5 hl3 hZ hZl hD5 hD3 hfl hZb hBz
  with_reducible refine (hs5'.out _ _ hP1 (hK'.out.below hBz2 hK2) (h5'.out.below hBz2 hS0)).mono ?_
  rintro e w2 ⟨rfl, hb2⟩
  have hB2 := hBz2.trans (hb2.mono hBz2.size)
  have hZ2 : BAt w2 (.slice (some ⟨w1.heap.size, 0, none⟩) N N) Z := (hZb'.out.alloc _).below hb2
  have hB2' := Aside0.mk hB2
  have hZ2' := Aside0.mk hZ2
  have hB2a : Below w.heap.size w (w2.alloc (.cells #[.slice (some ⟨w1.heap.size, 0, none⟩) N N] 27)) := hB2.alloc hB2.size _
  have hc26 := hs3'.out _ _ (PAt.one hZ2) (hK'.out.below hB2a hK2) (h3'.out.below hB2a hS1)
  have hc26' := Aside0.mk hc26
  have hB2a' := Aside0.mk hB2a
  clear hb2 hB2 hZ2 hBz2 hP1 hc26 hB2a hZb' hBz'
  go_wp2_with (first
    | (go_at_call 26; ((with_reducible refine hc26'.out.mono ?_); rintro e w3 ⟨rfl, hb3⟩; have hB3 := Aside0.mk (hB2a'.out.trans (hb3.mono hB2a'.out.size)); have hZ3 := Aside0.mk ((hZ2'.out.alloc _).below hb3); clear hb3))
    | (refine wpList_store_row rfl 34 (.tmp 6) (.tmp 20) rfl w3.heap.size (bcs D5).toArray rfl rfl 34 (zb 64) ((Blk.new (w := w3) w3.heap.size 34 _ rfl).alloc _) (by simp only [List.size_toArray]; rw [bcs_length, hl5'.out]; kernel_rfl) (by simp only [zb, List.size_toArray]; rw [bcs_length, bcs_length, hl5'.out]; rfl) (all_oneCell_toArray (bcs_one _)) ?_)
    | (refine wpList_store_row rfl 36 (.tmp 7) (.tmp 23) rfl (w3.heap.size + 1) (bcs D3).toArray rfl rfl 36 (zb 48) (setRow_far (Blk.new (w3.heap.size + 1) 36 _ (by simp)) (by omega)) (by simp only [List.size_toArray]; rw [bcs_length, hl3'.out]; kernel_rfl) (by simp only [zb, List.size_toArray]; rw [bcs_length, bcs_length, hl3'.out]; rfl) (all_oneCell_toArray (bcs_one _)) ?_))
  clear z34 z36 hc26' hs5' hs3'
  refine' wp_region_og_lit 15 [none, none, none, none, none, none, none, none, none, none, none, none, none, none, none] [.is _, .is _, .is _, .such (fun v wx => BAt wx v D5), .is _, .is _, .is _, .is _, .is _, .is _, .such (fun v wx => BAt wx v D3), .is _, .is _, .is _, .is _]
    (fun c wx => Below w.heap.size w wx ∧ BAt wx (.slice (some ⟨w1.heap.size, 0, none⟩) N N) Z ∧ Blk wx w3.heap.size 34 (bcs D5).toArray ∧ Blk wx (w3.heap.size + 1) 36 (bcs D3).toArray) (fun u u' => Below u.heap.size u u') (by kernel_rfl) (by kernel_rfl) ?h0a ?hwa
  case h0a => 
    refine ⟨drew_below (below_setRow (below_setRow ((hB3.out.alloc hB3.out.size _).alloc (by have := hB3.out.size; simp; omega) _) hB3.out.size _) (by have := hB3.out.size; omega) _), ?_, ?_, ?_⟩
    · exact (hZ3.out.below (drew_below (below_setRow (below_setRow (((Below.refl _ _).alloc (Nat.le_refl _) _).alloc (by simp) _) (Nat.le_refl _) _) (by omega) _)))
    · exact Blk.drew (setRow_far (setRow_blk (t := 34) ((Blk.new (w := w3) w3.heap.size 34 _ rfl).alloc _)) (by omega))
    · exact Blk.drew (setRow_blk (setRow_far (Blk.new (w3.heap.size + 1) 36 _ (by simp)) (by omega)))
  case hwa =>
    iterate 3 (
      apply walk_is
      · rfl
      · rfl
      · intro c hc wx hS hE Kq hKq
        have hS' := Aside0.mk hS
        clear hE hc
        obtain ⟨sb, sz, s6, s7⟩ := hS
        have hz6 := s6.lt
        have hz7 := s7.lt
        have cv6 := conv_run (BAt.of_blk s6 (by rw [hl5'.out]; decide))
        have cv7 := conv_run (BAt.of_blk s7 (by rw [hl3'.out]; decide))
        rw [hl5'.out] at cv6
        rw [hl3'.out] at cv7
        have hlg := Aside0.mk (hlong'.out _ wx sz (hK'.out.below sb hK2) (h5'.out.below sb hS0))
        have hsh := Aside0.mk (hshort'.out _ wx sz (hK'.out.below sb hK2) (h3'.out.below sb hS1))
        clear sb sz s6 s7
        all_goals
         go_wp2_with (first | (go_at_call 21; ((with_reducible refine hlg.out.mono ?_); rintro e w9 ⟨v9, rfl, hB9, hb9⟩)) | (go_at_call 22; ((with_reducible refine hsh.out.mono ?_); rintro e w9 ⟨v9, rfl, hB9, hb9⟩)))
         exact Told.mk (by first | (simp only [Act.put, List.setIfInBounds_toArray, List.set_cons_succ, List.set_cons_zero]; done) | (simp only [Act.put, List.setIfInBounds_toArray, List.set_cons_succ, List.set_cons_zero]; rfl)) (by first | exact hS'.out | exact ⟨hS'.out.1.trans (hb9.mono hS'.out.1.size), hS'.out.2.1.below hb9, hS'.out.2.2.1.below hb9 hS'.out.2.2.1.lt, hS'.out.2.2.2.below hb9 hS'.out.2.2.2.lt⟩) (by first | exact Below.refl _ _ | exact hb9)
      simp only [Act.put, List.setIfInBounds_toArray, List.set_cons_succ, List.set_cons_zero])
    refine walk_such (R := _) rfl rfl (fun v u u' h hr => h.below hr) ?_ ?_
    · intro c hc wx hS hE Kq hKq
      have hS' := Aside0.mk hS
      clear hE hc
      obtain ⟨sb, sz, s6, s7⟩ := hS
      have hz6 := s6.lt
      have hz7 := s7.lt
      have cv6 := conv_run (BAt.of_blk s6 (by rw [hl5'.out]; decide))
      have cv7 := conv_run (BAt.of_blk s7 (by rw [hl3'.out]; decide))
      rw [hl5'.out] at cv6
      rw [hl3'.out] at cv7
      have hlg := Aside0.mk (hlong'.out _ wx sz (hK'.out.below sb hK2) (h5'.out.below sb hS0))
      have hsh := Aside0.mk (hshort'.out _ wx sz (hK'.out.below sb hK2) (h3'.out.below sb hS1))
      clear sb sz s6 s7
      go_wp2_with (first | (go_at_call 21; ((with_reducible refine hlg.out.mono ?_); rintro e w9 ⟨v9, rfl, hB9, hb9⟩)) | (go_at_call 22; ((with_reducible refine hsh.out.mono ?_); rintro e w9 ⟨v9, rfl, hB9, hb9⟩)))
      exact Held.mk ⟨_, by first | (simp only [Act.put, List.setIfInBounds_toArray, List.set_cons_succ, List.set_cons_zero]; done) | (simp only [Act.put, List.setIfInBounds_toArray, List.set_cons_succ, List.set_cons_zero]; rfl), hB9⟩ (by first | exact hS'.out | exact ⟨hS'.out.1.trans (hb9.mono hS'.out.1.size), hS'.out.2.1.below hb9, hS'.out.2.2.1.below hb9 hS'.out.2.2.1.lt, hS'.out.2.2.2.below hb9 hS'.out.2.2.2.lt⟩) (by first | exact Below.refl _ _ | exact hb9)
    intro va3
    simp only [Act.put, List.setIfInBounds_toArray, List.set_cons_succ, List.set_cons_zero]
    iterate 1 (
      apply walk_is
      · rfl
      · rfl
      · intro c hc wx hS hE Kq hKq
        have hS' := Aside0.mk hS
        have hI : BAt wx va3 D5 := hE (3, fun wx => BAt wx va3 D5) (by simp) (by dsimp only; decide)
        have cvI := conv_run hI
        clear hI
        clear hE hc
        obtain ⟨sb, sz, s6, s7⟩ := hS
        have hz6 := s6.lt
        have hz7 := s7.lt
        have cv6 := conv_run (BAt.of_blk s6 (by rw [hl5'.out]; decide))
        have cv7 := conv_run (BAt.of_blk s7 (by rw [hl3'.out]; decide))
        rw [hl5'.out] at cv6
        rw [hl3'.out] at cv7
        have hlg := Aside0.mk (hlong'.out _ wx sz (hK'.out.below sb hK2) (h5'.out.below sb hS0))
        have hsh := Aside0.mk (hshort'.out _ wx sz (hK'.out.below sb hK2) (h3'.out.below sb hS1))
        clear sb sz s6 s7
        all_goals
         go_wp2_with (first | (go_at_call 21; ((with_reducible refine hlg.out.mono ?_); rintro e w9 ⟨v9, rfl, hB9, hb9⟩)) | (go_at_call 22; ((with_reducible refine hsh.out.mono ?_); rintro e w9 ⟨v9, rfl, hB9, hb9⟩)))
         exact Told.mk (by first | (simp only [Act.put, List.setIfInBounds_toArray, List.set_cons_succ, List.set_cons_zero]; done) | (simp only [Act.put, List.setIfInBounds_toArray, List.set_cons_succ, List.set_cons_zero]; rfl)) (by first | exact hS'.out | exact ⟨hS'.out.1.trans (hb9.mono hS'.out.1.size), hS'.out.2.1.below hb9, hS'.out.2.2.1.below hb9 hS'.out.2.2.1.lt, hS'.out.2.2.2.below hb9 hS'.out.2.2.2.lt⟩) (by first | exact Below.refl _ _ | exact hb9)
      simp only [Act.put, List.setIfInBounds_toArray, List.set_cons_succ, List.set_cons_zero])
    iterate 5 (
      apply walk_is
      · rfl
      · rfl
      · intro c hc wx hS hE Kq hKq
        have hS' := Aside0.mk hS
        clear hE hc
        obtain ⟨sb, sz, s6, s7⟩ := hS
        have hz6 := s6.lt
        have hz7 := s7.lt
        have cv6 := conv_run (BAt.of_blk s6 (by rw [hl5'.out]; decide))
        have cv7 := conv_run (BAt.of_blk s7 (by rw [hl3'.out]; decide))
        rw [hl5'.out] at cv6
        rw [hl3'.out] at cv7
        have hlg := Aside0.mk (hlong'.out _ wx sz (hK'.out.below sb hK2) (h5'.out.below sb hS0))
        have hsh := Aside0.mk (hshort'.out _ wx sz (hK'.out.below sb hK2) (h3'.out.below sb hS1))
        clear sb sz s6 s7
        all_goals
         go_wp2_with (first | (go_at_call 21; ((with_reducible refine hlg.out.mono ?_); rintro e w9 ⟨v9, rfl, hB9, hb9⟩)) | (go_at_call 22; ((with_reducible refine hsh.out.mono ?_); rintro e w9 ⟨v9, rfl, hB9, hb9⟩)))
         exact Told.mk (by first | (simp only [Act.put, List.setIfInBounds_toArray, List.set_cons_succ, List.set_cons_zero]; done) | (simp only [Act.put, List.setIfInBounds_toArray, List.set_cons_succ, List.set_cons_zero]; rfl)) (by first | exact hS'.out | exact ⟨hS'.out.1.trans (hb9.mono hS'.out.1.size), hS'.out.2.1.below hb9, hS'.out.2.2.1.below hb9 hS'.out.2.2.1.lt, hS'.out.2.2.2.below hb9 hS'.out.2.2.2.lt⟩) (by first | exact Below.refl _ _ | exact hb9)
      simp only [Act.put, List.setIfInBounds_toArray, List.set_cons_succ, List.set_cons_zero])
    refine walk_such (R := _) rfl rfl (fun v u u' h hr => h.below hr) ?_ ?_
    · intro c hc wx hS hE Kq hKq
      have hS' := Aside0.mk hS
      clear hE hc
      obtain ⟨sb, sz, s6, s7⟩ := hS
      have hz6 := s6.lt
      have hz7 := s7.lt
      have cv6 := conv_run (BAt.of_blk s6 (by rw [hl5'.out]; decide))
      have cv7 := conv_run (BAt.of_blk s7 (by rw [hl3'.out]; decide))
      rw [hl5'.out] at cv6
      rw [hl3'.out] at cv7
      have hlg := Aside0.mk (hlong'.out _ wx sz (hK'.out.below sb hK2) (h5'.out.below sb hS0))
      have hsh := Aside0.mk (hshort'.out _ wx sz (hK'.out.below sb hK2) (h3'.out.below sb hS1))
      clear sb sz s6 s7
      go_wp2_with (first | (go_at_call 21; ((with_reducible refine hlg.out.mono ?_); rintro e w9 ⟨v9, rfl, hB9, hb9⟩)) | (go_at_call 22; ((with_reducible refine hsh.out.mono ?_); rintro e w9 ⟨v9, rfl, hB9, hb9⟩)))
      exact Held.mk ⟨_, by first | (simp only [Act.put, List.setIfInBounds_toArray, List.set_cons_succ, List.set_cons_zero]; done) | (simp only [Act.put, List.setIfInBounds_toArray, List.set_cons_succ, List.set_cons_zero]; rfl), hB9⟩ (by first | exact hS'.out | exact ⟨hS'.out.1.trans (hb9.mono hS'.out.1.size), hS'.out.2.1.below hb9, hS'.out.2.2.1.below hb9 hS'.out.2.2.1.lt, hS'.out.2.2.2.below hb9 hS'.out.2.2.2.lt⟩) (by first | exact Below.refl _ _ | exact hb9)
    intro va10
    simp only [Act.put, List.setIfInBounds_toArray, List.set_cons_succ, List.set_cons_zero]
    iterate 1 (
      apply walk_is
      · rfl
      · rfl
      · intro c hc wx hS hE Kq hKq
        have hS' := Aside0.mk hS
        have hI : BAt wx va10 D3 := hE (10, fun wx => BAt wx va10 D3) (by simp) (by dsimp only; decide)
        have cvI := conv_run hI
        clear hI
        clear hE hc
        obtain ⟨sb, sz, s6, s7⟩ := hS
        have hz6 := s6.lt
        have hz7 := s7.lt
        have cv6 := conv_run (BAt.of_blk s6 (by rw [hl5'.out]; decide))
        have cv7 := conv_run (BAt.of_blk s7 (by rw [hl3'.out]; decide))
        rw [hl5'.out] at cv6
        rw [hl3'.out] at cv7
        have hlg := Aside0.mk (hlong'.out _ wx sz (hK'.out.below sb hK2) (h5'.out.below sb hS0))
        have hsh := Aside0.mk (hshort'.out _ wx sz (hK'.out.below sb hK2) (h3'.out.below sb hS1))
        clear sb sz s6 s7
        all_goals
         go_wp2_with (first | (go_at_call 21; ((with_reducible refine hlg.out.mono ?_); rintro e w9 ⟨v9, rfl, hB9, hb9⟩)) | (go_at_call 22; ((with_reducible refine hsh.out.mono ?_); rintro e w9 ⟨v9, rfl, hB9, hb9⟩)))
         exact Told.mk (by first | (simp only [Act.put, List.setIfInBounds_toArray, List.set_cons_succ, List.set_cons_zero]; done) | (simp only [Act.put, List.setIfInBounds_toArray, List.set_cons_succ, List.set_cons_zero]; rfl)) (by first | exact hS'.out | exact ⟨hS'.out.1.trans (hb9.mono hS'.out.1.size), hS'.out.2.1.below hb9, hS'.out.2.2.1.below hb9 hS'.out.2.2.1.lt, hS'.out.2.2.2.below hb9 hS'.out.2.2.2.lt⟩) (by first | exact Below.refl _ _ | exact hb9)
      simp only [Act.put, List.setIfInBounds_toArray, List.set_cons_succ, List.set_cons_zero])
    iterate 3 (
      apply walk_is
      · rfl
      · rfl
      · intro c hc wx hS hE Kq hKq
        have hS' := Aside0.mk hS
        clear hE hc
        obtain ⟨sb, sz, s6, s7⟩ := hS
        have hz6 := s6.lt
        have hz7 := s7.lt
        have cv6 := conv_run (BAt.of_blk s6 (by rw [hl5'.out]; decide))
        have cv7 := conv_run (BAt.of_blk s7 (by rw [hl3'.out]; decide))
        rw [hl5'.out] at cv6
        rw [hl3'.out] at cv7
        have hlg := Aside0.mk (hlong'.out _ wx sz (hK'.out.below sb hK2) (h5'.out.below sb hS0))
        have hsh := Aside0.mk (hshort'.out _ wx sz (hK'.out.below sb hK2) (h3'.out.below sb hS1))
        clear sb sz s6 s7
        all_goals
         go_wp2_with (first | (go_at_call 21; ((with_reducible refine hlg.out.mono ?_); rintro e w9 ⟨v9, rfl, hB9, hb9⟩)) | (go_at_call 22; ((with_reducible refine hsh.out.mono ?_); rintro e w9 ⟨v9, rfl, hB9, hb9⟩)))
         exact Told.mk (by first | (simp only [Act.put, List.setIfInBounds_toArray, List.set_cons_succ, List.set_cons_zero]; done) | (simp only [Act.put, List.setIfInBounds_toArray, List.set_cons_succ, List.set_cons_zero]; rfl)) (by first | exact hS'.out | exact ⟨hS'.out.1.trans (hb9.mono hS'.out.1.size), hS'.out.2.1.below hb9, hS'.out.2.2.1.below hb9 hS'.out.2.2.1.lt, hS'.out.2.2.2.below hb9 hS'.out.2.2.2.lt⟩) (by first | exact Below.refl _ _ | exact hb9)
      simp only [Act.put, List.setIfInBounds_toArray, List.set_cons_succ, List.set_cons_zero])
    refine walk_end ?_
    intro wa hSa hEa
    go_wp2
    go_ret
    exact ⟨rfl, hSa.1⟩
end Go.Proofs.YtnaiifidcpdamaaDoor
