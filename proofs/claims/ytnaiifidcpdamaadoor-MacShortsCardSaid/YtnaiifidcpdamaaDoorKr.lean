/-
  Sum, Sum512, Sum384 of the program.
-/
import Derived.Test.YtnaiifidcpdamaaDoorKq
import Derived.Deep.WholeRow
set_option linter.unusedVariables false
set_option linter.unusedSimpArgs false
namespace Go.Proofs.YtnaiifidcpdamaaDoor
open Go.RowKit Go.Og Go.Ub Go.Proofs.YtnaiifidcpdamaaDoorW.PrintWords
/-- The sum of bytes, all its bytes. -/
def sha (K : List UInt64) (s : S8) (m : List UInt8) : List UInt8 := lbytes (st K s (m ++ tailb m.length)).l 8
theorem sha_length (K : List UInt64) (s : S8) (m : List UInt8) : (sha K s m).length = 64 := lbytes_length _ _
theorem below_of_ext {X : Nat → Prop} {B : Nat} {w w' : World} (h : Ext X w w') (hB : B ≤ w.heap.size) (hX : ∀ k, X k → B ≤ k) : Below B w w' := h.below hB (fun k hk hx => by have := hX k hx; omega)
set_option maxRecDepth 100000 in
set_option maxHeartbeats 8000000 in
theorem sum_any (K : List UInt64) (hKl : K.length = 80) (s : S8) (size g B : Nat) (hsz : size ≤ 64) (m : List UInt8) (hml : m.length ≤ 99000000) (w : World) (hH : HAt w g B K s size m) (hK : Glob w 2 K) :
    Calls Tryd.prog 20 #[.pointer (some ⟨g, 0, none⟩)] w fun e w' => ∃ v, e = .returned v ∧ OAt w' w.heap.size v ((sha K s m).take size) ∧ Below w.heap.size w w' := by
  have hK2 := hK.lt
  obtain ⟨A, c, hblk, hleft, hloc⟩ := hH
  have hgl := hblk.lt
  have p0 : w.cell? ⟨g, 0, none⟩ = some (.int .u64 (wi (st K s m).a)) := hblk.cell 0
  have p1 : w.cell? ⟨g, 1, none⟩ = some (.int .u64 (wi (st K s m).b)) := hblk.cell 1
  have p2 : w.cell? ⟨g, 2, none⟩ = some (.int .u64 (wi (st K s m).c)) := hblk.cell 2
  have p3 : w.cell? ⟨g, 3, none⟩ = some (.int .u64 (wi (st K s m).d)) := hblk.cell 3
  have p4 : w.cell? ⟨g, 4, none⟩ = some (.int .u64 (wi (st K s m).e)) := hblk.cell 4
  have p5 : w.cell? ⟨g, 5, none⟩ = some (.int .u64 (wi (st K s m).f)) := hblk.cell 5
  have p6 : w.cell? ⟨g, 6, none⟩ = some (.int .u64 (wi (st K s m).g)) := hblk.cell 6
  have p7 : w.cell? ⟨g, 7, none⟩ = some (.int .u64 (wi (st K s m).h)) := hblk.cell 7
  have p8 : w.cell? ⟨g, 8, none⟩ = some (.slice A (left m).length c) := hblk.cell 8
  have p9 : w.cell? ⟨g, 9, none⟩ = some (.int .i64 (m.length : Nat)) := hblk.cell 9
  have p10 : w.cell? ⟨g, 10, none⟩ = some (.int .i64 (size : Nat)) := hblk.cell 10
  have hll : (left m).length ≤ m.length := by unfold left; rw [List.length_drop]; omega
  have hclone := Lib.hid (clone_any (left m) (by omega))
  have htail := Lib.hid (tail_any m.length (by omega))
  have hblk' := Lib.hid hblk
  have hleft' := Lib.hid hleft
  have hK' := Lib.hid hK
  clear hblk hleft hloc hK
  go_enter Tryd.func20, Tryd.ntmps20
  go_wp2_with fail
  have hba : Below w.heap.size w (w.alloc (.cells (hcells (st K s m).l (.slice A (left m).length c) (.int .i64 (m.length : Nat)) (.int .i64 (size : Nat))) 63)) := (Below.refl _ _).alloc (Nat.le_refl _) _
  have hna : Blk (w.alloc (.cells (hcells (st K s m).l (.slice A (left m).length c) (.int .i64 (m.length : Nat)) (.int .i64 (size : Nat))) 63)) w.heap.size 63 (hcells (st K s m).l (.slice A (left m).length c) (.int .i64 (m.length : Nat)) (.int .i64 (size : Nat))) := Blk.new _ _ _ rfl
  have hza : (w.alloc (.cells (hcells (st K s m).l (.slice A (left m).length c) (.int .i64 (m.length : Nat)) (.int .i64 (size : Nat))) 63)).heap.size = w.heap.size + 1 := by simp
  have hcl := hclone.out _ (w.alloc (.cells (hcells (st K s m).l (.slice A (left m).length c) (.int .i64 (m.length : Nat)) (.int .i64 (size : Nat))) 63)) (hleft'.out.below hba)
  rw [hza] at hcl
  refine hcl.mono ?_
  rintro e w1 ⟨v1, rfl, hO1, hb1⟩
  rw [← hza] at hb1
  have hn1 := hna.below hb1 hna.lt
  have hb01 := hba.trans (hb1.mono hba.size)
  clear hcl hclone hna hza
  have q9 : w1.cell? ⟨g, 9, none⟩ = some (.int .i64 (m.length : Nat)) := (hb01.cell (p := ⟨g, 9, none⟩) hgl).trans p9
  have q8 : w1.cell? ⟨w.heap.size, 8, none⟩ = some (.slice A (left m).length c) := hn1.cell 8
  have f8 := hn1.frozen 8
  have hs8 := hn1.set 8 v1
  rw [hcells_set8] at hs8
  have hn1' := Lib.hid hn1
  have hO1' := Lib.hid hO1
  have hb01' := Lib.hid hb01
  have hs8' := Lib.hid hs8
  have hz1 := hn1.lt
  clear p0 p1 p2 p3 p4 p5 p6 p7 p8 p9 hO1 hb1 hba hn1 hs8 hb01
  obtain ⟨A1, c1, rfl⟩ := hO1'.out.slice
  go_wp2_with (go_at_call 38; ((with_reducible refine (htail.out _).mono ?_); rintro e w2 ⟨v2, rfl, hB2, hb2⟩; obtain ⟨A2, c2, rfl, _⟩ := hB2.slice; have hB2' := Lib.hid hB2; have hb2' := Lib.hid hb2; clear hB2 hb2))
  have hszs : (w1.setCell ⟨w.heap.size, 8, none⟩ (.slice A1 (left m).length c1)).heap.size = w1.heap.size := size_set _ _ _
  have hb2s := hb2'.out
  rw [hszs] at hb2s
  have hz2 : w1.heap.size ≤ w2.heap.size := by have := hb2s.size; rw [hszs] at this; exact this
  have hn2 : Blk w2 w.heap.size 63 (hcells (st K s m).l (.slice A1 (left m).length c1) (.int .i64 (m.length : Nat)) (.int .i64 (size : Nat))) := hs8'.out.below hb2s hz1
  have hbat2 : BAt w2 (.slice A1 (left m).length c1) (left m) := (hO1'.out.bat.ext_g hn1'.out (Ext.set1 _ _ _ _)).below (by rw [hszs]; exact hb2s)
  have hH2 : HAt (w2.alloc (.cells #[.slice A2 (tailb m.length).length c2] 27)) w.heap.size (w.heap.size + 1) K s size m :=
    HAt.below ⟨A1, c1, hn2, hbat2, hO1'.out.loc⟩ ((Below.refl _ _).alloc (Nat.le_refl _) _)
  have hbw2 : Below w.heap.size w w2 := (hb01'.out.setCell (Nat.le_refl _) _).trans (hb2s.mono (by omega))
  have hbw2a : Below w.heap.size w (w2.alloc (.cells #[.slice A2 (tailb m.length).length c2] 27)) := hbw2.alloc hbw2.size _
  have hzt : zc m.length < 128 := by unfold zc; omega
  have hfl : [tailb m.length].flatten = tailb m.length := by simp
  have hadd := add_any K hKl s size w.heap.size (w.heap.size + 1) m [tailb m.length] (by rw [hfl, tailb_length]; omega) _ _ (by omega) (by simp; omega) (by omega) hH2 (hK'.out.below hbw2a hK2) (PAt.one hB2'.out) (by
    intro _ ad n c e
    injection e with e1
    injection e1 with e1
    rw [← e1]
    show w2.heap.size ≠ w.heap.size
    omega)
  rw [hfl] at hadd
  refine hadd.mono ?_
  rintro e w3 ⟨rfl, hH3, hx3⟩
  obtain ⟨A3, c3, hblk3, _, _⟩ := hH3
  have hbw3 : Below w.heap.size w w3 := hbw2a.trans (below_of_ext hx3 (by simp; omega) (fun k hk => by rw [hk]; exact Nat.le_refl _))
  have hfin : st K s (m ++ tailb m.length) = st K s (m ++ tailb m.length) := rfl
  obtain ⟨F, hF⟩ : ∃ F, F = st K s (m ++ tailb m.length) := ⟨_, rfl⟩
  rw [← hF] at hblk3
  have hF' := Lib.hid hF
  obtain ⟨r1, hr1⟩ : ∃ r1, r1 = Value.slice A3 (left (m ++ tailb m.length)).length c3 := ⟨_, rfl⟩
  obtain ⟨r2, hr2⟩ : ∃ r2, r2 = Value.int .i64 ((m ++ tailb m.length).length : Nat) := ⟨_, rfl⟩
  rw [← hr1, ← hr2] at hblk3
  have hblk3' := Lib.hid hblk3
  have hbw3' := Lib.hid hbw3
  have hLl := Lib.hid (lbytes_length F.l 8)
  clear hadd hfin hF hr1 hr2 hblk3 hbw3 hx3 hbw2a hbw2 hH2 hbat2 hn2 hb2s hfl hszs q8 q9 f8
  go_wp2_with fail
  refine' wp_region_og_lit 8 [none, none, none, none, none, none, none, none] [.is _, .such (fun v wx => OAt wx w.heap.size v (lbytes F.l 8)), .is _, .is _, .is _, .is _, .such (fun v wx => OAt wx w.heap.size v ((lbytes F.l 8).take size)), .such (fun v wx => OAt wx w.heap.size v ((lbytes F.l 8).take size))]
    (fun c wx => Below w.heap.size w wx ∧ Blk wx w.heap.size 63 (hcells F.l r1 r2 (.int .i64 (size : Nat)))) (fun u u' => Below u.heap.size u u') (by kernel_rfl) (by kernel_rfl) ?h0a ?hwa
  case h0a => exact ⟨drew_below hbw3'.out, hblk3'.out.drew⟩
  case hwa =>
    iterate 1 (
      apply walk_is
      · rfl
      · rfl
      · intro c hc wx hS hE Kq hKq
        have hS' := Aside0.mk hS
        obtain ⟨sb, s1⟩ := hS
        clear hE hc
        have q10 := (sb.cell (p := ⟨g, 10, none⟩) hgl).trans p10
        have hz := s1.lt
        have sb' := Lib.hid sb
        have s1' := Lib.hid s1
        clear sb s1
        all_goals
         go_wp2_with ((go_at_call 39; ((with_reducible refine hby.out.mono ?_); rintro e w9 ⟨v9, rfl, hO9, hb9⟩)))
         exact Told.mk (by first | (simp only [Act.put, List.setIfInBounds_toArray, List.set_cons_succ, List.set_cons_zero]; done) | (simp only [Act.put, List.setIfInBounds_toArray, List.set_cons_succ, List.set_cons_zero]; rfl)) (by first | exact hS'.out | exact ⟨hS'.out.1.trans (hb9.mono hS'.out.1.size), hS'.out.2.below hb9 hS'.out.2.lt⟩) (by first | exact Below.refl _ _ | exact hb9)
      simp only [Act.put, List.setIfInBounds_toArray, List.set_cons_succ, List.set_cons_zero])
    refine walk_such (R := _) rfl rfl (fun v u u' h hr => h.below hr) ?_ ?_
    · intro c hc wx hS hE Kq hKq
      have hS' := Aside0.mk hS
      obtain ⟨sb, s1⟩ := hS
      have hby := Lib.hid (bytes_any F.l rfl r1 r2 (.int .i64 (size : Nat)) w.heap.size wx s1)
      clear hE hc
      have q10 := (sb.cell (p := ⟨g, 10, none⟩) hgl).trans p10
      have hz := s1.lt
      have sb' := Lib.hid sb
      have s1' := Lib.hid s1
      clear sb s1
      go_wp2_with ((go_at_call 39; ((with_reducible refine hby.out.mono ?_); rintro e w9 ⟨v9, rfl, hO9, hb9⟩)))
      exact Held.mk ⟨_, by first | (simp only [Act.put, List.setIfInBounds_toArray, List.set_cons_succ, List.set_cons_zero]; done) | (simp only [Act.put, List.setIfInBounds_toArray, List.set_cons_succ, List.set_cons_zero]; rfl), by first | exact hO9.lower sb'.out.size⟩ (by first | exact hS'.out | exact ⟨hS'.out.1.trans (hb9.mono hS'.out.1.size), hS'.out.2.below hb9 hS'.out.2.lt⟩) (by first | exact Below.refl _ _ | exact hb9)
    intro va1
    simp only [Act.put, List.setIfInBounds_toArray, List.set_cons_succ, List.set_cons_zero]
    iterate 4 (
      apply walk_is
      · rfl
      · rfl
      · intro c hc wx hS hE Kq hKq
        have hS' := Aside0.mk hS
        obtain ⟨sb, s1⟩ := hS
        clear hE hc
        have q10 := (sb.cell (p := ⟨g, 10, none⟩) hgl).trans p10
        have hz := s1.lt
        have sb' := Lib.hid sb
        have s1' := Lib.hid s1
        clear sb s1
        all_goals
         go_wp2_with ((go_at_call 39; ((with_reducible refine hby.out.mono ?_); rintro e w9 ⟨v9, rfl, hO9, hb9⟩)))
         exact Told.mk (by first | (simp only [Act.put, List.setIfInBounds_toArray, List.set_cons_succ, List.set_cons_zero]; done) | (simp only [Act.put, List.setIfInBounds_toArray, List.set_cons_succ, List.set_cons_zero]; rfl)) (by first | exact hS'.out | exact ⟨hS'.out.1.trans (hb9.mono hS'.out.1.size), hS'.out.2.below hb9 hS'.out.2.lt⟩) (by first | exact Below.refl _ _ | exact hb9)
      simp only [Act.put, List.setIfInBounds_toArray, List.set_cons_succ, List.set_cons_zero])
    refine walk_such (R := _) rfl rfl (fun v u u' h hr => h.below hr) ?_ ?_
    · intro c hc wx hS hE Kq hKq
      have hS' := Aside0.mk hS
      obtain ⟨sb, s1⟩ := hS
      have hI : OAt wx w.heap.size va1 (lbytes F.l 8) := hE (1, fun wx => OAt wx w.heap.size va1 (lbytes F.l 8)) (by simp) (by dsimp only; decide)
      obtain ⟨A9, c9, e9, hc9⟩ := hI.bat.slice
      rw [hLl.out] at e9 hc9
      subst e9
      have hT := hI.take size (by rw [hLl.out]; exact hsz)
      have hT' := Lib.hid hT
      have hsz9 : size ≤ c9 := by omega
      clear hI hT
      clear hE hc
      have q10 := (sb.cell (p := ⟨g, 10, none⟩) hgl).trans p10
      have hz := s1.lt
      have sb' := Lib.hid sb
      have s1' := Lib.hid s1
      clear sb s1
      go_wp2_with ((go_at_call 39; ((with_reducible refine hby.out.mono ?_); rintro e w9 ⟨v9, rfl, hO9, hb9⟩)))
      exact Held.mk ⟨_, by first | (simp only [Act.put, List.setIfInBounds_toArray, List.set_cons_succ, List.set_cons_zero]; done) | (simp only [Act.put, List.setIfInBounds_toArray, List.set_cons_succ, List.set_cons_zero]; rfl), hT'.out⟩ (by first | exact hS'.out | exact ⟨hS'.out.1.trans (hb9.mono hS'.out.1.size), hS'.out.2.below hb9 hS'.out.2.lt⟩) (by first | exact Below.refl _ _ | exact hb9)
    intro va6
    simp only [Act.put, List.setIfInBounds_toArray, List.set_cons_succ, List.set_cons_zero]
    refine walk_such (R := _) rfl rfl (fun v u u' h hr => h.below hr) ?_ ?_
    · intro c hc wx hS hE Kq hKq
      have hS' := Aside0.mk hS
      obtain ⟨sb, s1⟩ := hS
      have hI6 : OAt wx w.heap.size va6 ((lbytes F.l 8).take size) := hE (6, fun wx => OAt wx w.heap.size va6 ((lbytes F.l 8).take size)) (by simp) (by dsimp only; decide)
      have hI6' := Lib.hid hI6
      clear hI6
      clear hE hc
      have q10 := (sb.cell (p := ⟨g, 10, none⟩) hgl).trans p10
      have hz := s1.lt
      have sb' := Lib.hid sb
      have s1' := Lib.hid s1
      clear sb s1
      go_wp2_with ((go_at_call 39; ((with_reducible refine hby.out.mono ?_); rintro e w9 ⟨v9, rfl, hO9, hb9⟩)))
      exact Held.mk ⟨_, by first | (simp only [Act.put, List.setIfInBounds_toArray, List.set_cons_succ, List.set_cons_zero]; done) | (simp only [Act.put, List.setIfInBounds_toArray, List.set_cons_succ, List.set_cons_zero]; rfl), hI6'.out⟩ (by first | exact hS'.out | exact ⟨hS'.out.1.trans (hb9.mono hS'.out.1.size), hS'.out.2.below hb9 hS'.out.2.lt⟩) (by first | exact Below.refl _ _ | exact hb9)
    intro va7
    simp only [Act.put, List.setIfInBounds_toArray, List.set_cons_succ, List.set_cons_zero]
    refine walk_end ?_
    intro wa hSa hEa
    go_wp2
    go_ret
    exact ⟨_, rfl, by unfold sha; rw [← hF'.out]; exact hEa (7, fun wx => OAt wx w.heap.size va7 ((lbytes F.l 8).take size)) (by simp), hSa.1⟩
end Go.Proofs.YtnaiifidcpdamaaDoor
