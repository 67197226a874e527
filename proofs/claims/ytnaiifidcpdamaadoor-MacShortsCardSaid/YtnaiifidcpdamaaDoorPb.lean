/-
  A sum under a key: begin of package mac.
-/
import Derived.Test.YtnaiifidcpdamaaDoorPa
import Derived.Test.YtnaiifidcpdamaaDoorOj
set_option linter.unusedVariables false
set_option linter.unusedSimpArgs false
namespace Go.Proofs.YtnaiifidcpdamaaDoor
open Go.RowKit Go.Og Go.Ub Go.Proofs.YtnaiifidcpdamaaDoorW.PrintWords
theorem zero69 (w : World) : (zeroValue 69).run Tryd.prog w = .ok (.agg #[.pointer none, .slice none 0 0]) w := by kernel_rfl
theorem pad92_any (K : List UInt64) (hKl : K.length = 80) (s : S8) (l : List UInt8) (hl : l.length ≤ 1000000) (v : Value) (w : World) (hv : BAt w v l) (hK : Glob w 2 K) (hS : Glob w 1 s.l) :
    Calls Tryd.prog 54 #[v, .int .u8 92] w fun e w' => ∃ u, e = .returned u ∧ OAt w' w.heap.size u (padb K s l 92) ∧ Below w.heap.size w w' := pad_any K hKl s l hl 92 v w hv hK hS
theorem pad54_any (K : List UInt64) (hKl : K.length = 80) (s : S8) (l : List UInt8) (hl : l.length ≤ 1000000) (v : Value) (w : World) (hv : BAt w v l) (hK : Glob w 2 K) (hS : Glob w 1 s.l) :
    Calls Tryd.prog 54 #[v, .int .u8 54] w fun e w' => ∃ u, e = .returned u ∧ OAt w' w.heap.size u (padb K s l 54) ∧ Below w.heap.size w w' := pad_any K hKl s l hl 54 v w hv hK hS
theorem Run.ext_bat {K : List UInt64} {s : S8} {size g : Nat} {w wx wy : World} {m l : List UInt8} {u : Value} (h : Run K s size g w wx m) (hb : BAt wx u l) (hx : Ext (· = g) wx wy) : BAt wy u l := by
  obtain ⟨A, c, h1, _, _⟩ := h.sum
  exact hb.ext_g h1 hx
/-- Bytes do not lie in a block that holds no byte. -/
theorem BAt.not_blk {w : World} {v : Value} {l : List UInt8} {q : Nat} {t : TypeId} {cs : Array Value} (h : BAt w v l) (hl : 0 < l.length) (hq : Blk w q t cs) (hno : ∀ (i : Nat) (n : Int), cs[i]? ≠ some (.int .u8 n)) : ∀ ad n c, v = .slice (some ad) n c → ad.block ≠ q := by
  intro ad n' c' e he
  obtain ⟨A', c2, rfl, hc, hC⟩ := h
  obtain ⟨ad', rfl, hcell⟩ := C_addr hC hl
  injection e with e1
  injection e1 with e1
  subst e1
  have h0 := hcell 0 hl
  rw [show ad'.add 0 = ad' from rfl] at h0
  have h1 : w.cell? ad' = if ad'.spot.isSome then none else cs[ad'.off]? := by
    unfold Blk at hq
    unfold World.cell?
    rw [he, hq]
  rw [h1] at h0
  split at h0
  · cases h0
  · exact hno _ _ h0
theorem BAt.ext_blk {w w' : World} {v : Value} {l : List UInt8} {q : Nat} {t : TypeId} {cs : Array Value} (h : BAt w v l) (hq : Blk w q t cs) (hno : ∀ (i : Nat) (n : Int), cs[i]? ≠ some (.int .u8 n)) (hx : Ext (· = q) w w') : BAt w' v l := by
  rcases Nat.eq_zero_or_pos l.length with h0 | h0
  · obtain ⟨A', c2, rfl, hc, hC⟩ := h
    exact BAt.mk_ hc (by omega) fun hp => absurd hp (by omega)
  · exact h.ext hx (h.not_blk h0 hq hno)
theorem no_u8 (p : Option Addr) (A : Option Addr) (n c : Nat) : ∀ (i : Nat) (x : Int), (#[.pointer p, .slice A n c] : Array Value)[i]? ≠ some (.int .u8 x) := by
  intro i x h
  rcases i with _ | _ | i <;> simp at h
theorem Run.ext_far {K : List UInt64} {s : S8} {size g : Nat} {w wx wy : World} {m : List UInt8} {q : Nat} (h : Run K s size g w wx m) (hx : Ext (· = q) wx wy) (h1 : w.heap.size ≤ q) (h2 : q < g) : Run K s size g w wy m :=
  ⟨h.far.trans (hx.below (B := w.heap.size) h.far.size (fun k hk e => by omega)), h.sum.ext hx (by omega) (fun k hk => by omega), h.new, h.glob, h.small, h.wide⟩
set_option maxRecDepth 100000 in
set_option maxHeartbeats 4000000 in
theorem begin_any (K : List UInt64) (hKl : K.length = 80) (s : S8) (l : List UInt8) (hl : l.length ≤ 1000000) (ps : List (List UInt8)) (hps : ps.flatten.length ≤ 90000000) (v pv : Value) (w : World) (hv : BAt w v l) (hp : PAt w pv ps) (hK : Glob w 2 K) (hS : Glob w 1 s.l) :
    Calls Tryd.prog 41 #[v, pv] w fun e w' => ∃ g u, e = .returned (.agg #[.pointer (some ⟨g, 0, none⟩), u]) ∧ Run K s 48 g w w' (padb K s l 54 ++ ps.flatten) ∧ BAt w' u (padb K s l 92) := by
  have hK2 := hK.lt
  have hS1 := hS.lt
  have z69 := zero69
  have hst := Aside0.mk (fun (wx : World) (hb : Below w.heap.size w wx) => Run.start3 K hKl s w wx hb hK hS)
  have h92 := Aside0.mk (fun (wx : World) (hb : Below w.heap.size w wx) => pad92_any K hKl s l hl v wx (hv.below hb) (hK.below hb hK2) (hS.below hb hS1))
  have h54 := Aside0.mk (fun (wx : World) (hb : Below w.heap.size w wx) => pad54_any K hKl s l hl v wx (hv.below hb) (hK.below hb hK2) (hS.below hb hS1))
  have hpl := Aside0.mk (padb_length K s l 54)
  obtain ⟨P92, h92e⟩ : ∃ P92, P92 = padb K s l 92 := ⟨_, rfl⟩
  obtain ⟨P54, h54e⟩ : ∃ P54, P54 = padb K s l 54 := ⟨_, rfl⟩
  rw [← h92e] at h92 ⊢
  rw [← h54e] at h54 hpl ⊢
  have hp' := Aside0.mk hp
  have hps' := Aside0.mk hps
  have hB0 := Aside0.mk (Below.refl w.heap.size w |>.alloc (Nat.le_refl _) (.cells #[.pointer none, .slice none 0 0] 69))
  have hr0 := Aside0.mk (Blk.new (w := w) w.heap.size 69 #[.pointer none, .slice none 0 0] rfl)
  obtain ⟨A, c, rfl, hvc, hvC⟩ := hv
  obtain ⟨A2, c2, rfl, hpc, hpm⟩ := hp
  have hgs : (w.alloc (.cells #[.pointer none, .slice none 0 0] 69)).heap.size = w.heap.size + 1 := by simp
  clear hvc hvC hpc hpm hK hS h92e h54e hl hps
  go_enter Tryd.func41, Tryd.ntmps41
  go_wp2_with (first
    | (go_at_call 18; ((with_reducible refine (hst.out _ hB0.out).mono ?_); rintro e w1 ⟨rfl, hr1, hb1⟩; rw [hgs] at hr1; have hR1 := Aside0.mk hr1; have hq1 := Aside0.mk (hr0.out.below hb1 hr0.out.lt); clear hr1 hb1))
    | (go_at_call 54; ((with_reducible refine (h92.out _ hR1.out.far).mono ?_); rintro e w2 ⟨u92, rfl, hO2, hb2⟩; have hR2 := Aside0.mk (hR1.out.below hb2); obtain ⟨A9, c9, rfl⟩ := hO2.bat.len; have hO2' := Aside0.mk hO2.bat; have hq2 := Aside0.mk (hq1.out.below hb2 hq1.out.lt); clear hb2 hO2)))
  have hq2lt := Aside0.mk (show w.heap.size + 1 < w2.heap.size from hR2.out.lt)
  clear hst h92 z69 hgs
  refine' wp_region_last_lit [.is _, .is _, .is _, .such (fun v wx => BAt wx v P54), .such (fun v wx => PAt wx v [P54] ∧ ∀ ad n c, v = .slice (some ad) n c → ad.block ≠ w.heap.size + 1)]
    (fun wx => Run K s 48 (w.heap.size + 1) w wx [] ∧ Blk wx w.heap.size 69 #[.pointer none, .slice none 0 0] ∧ Blk wx w2.heap.size 69 #[.pointer (some ⟨w.heap.size + 1, 0, none⟩), .slice A9 P92.length c9] ∧ BAt wx (.slice A9 P92.length c9) P92) (fun u u' => Below u.heap.size u u') rfl (by kernel_rfl) rfl (by kernel_rfl) (by kernel_rfl) ?h0a ?hwa
  case h0a => 
    have hbx : Below w2.heap.size w2 (w2.alloc (.cells #[.pointer (some ⟨w.heap.size + 1, 0, none⟩), .slice A9 P92.length c9] 69)).drew := drew_below ((Below.refl _ _).alloc (Nat.le_refl _) _)
    exact ⟨hR2.out.below hbx, hq2.out.below hbx hq2.out.lt, Blk.drew (Blk.new _ _ _ rfl), hO2'.out.below hbx⟩
  case hwa =>
    simp only [List.dropLast_cons_cons, List.dropLast_singleton]
    iterate 3 (
      apply walk_is
      · rfl
      · rfl
      · intro c hc wx hS hE Kq hKq
        have hS' := Aside0.mk hS
        obtain ⟨sr, s1, s2, s3⟩ := hS
        clear hE hc
        have c0 : wx.cell? ⟨w2.heap.size, 0, none⟩ = some (.pointer (some ⟨w.heap.size + 1, 0, none⟩)) := s2.cell 0
        have hz := s2.lt
        have hw54 := Aside0.mk (h54.out wx sr.far)
        have hbA := Aside0.mk (fun o => (Below.refl wx.heap.size wx).alloc (Nat.le_refl _) o)
        clear sr s1 s2 s3
        all_goals
         go_wp2_with (first | (go_at_call 54; ((with_reducible refine hw54.out.mono ?_); rintro e w9 ⟨v9, rfl, hO9, hb9⟩)))
         exact Told.mk (by first | (simp only [Act.put, List.setIfInBounds_toArray, List.set_cons_succ, List.set_cons_zero]; done) | (simp only [Act.put, List.setIfInBounds_toArray, List.set_cons_succ, List.set_cons_zero]; rfl)) (by first | exact hS'.out | exact ⟨hS'.out.1.below hb9, hS'.out.2.1.below hb9 hS'.out.2.1.lt, hS'.out.2.2.1.below hb9 hS'.out.2.2.1.lt, hS'.out.2.2.2.below hb9⟩ | exact ⟨hS'.out.1.below (hbA.out _), hS'.out.2.1.below (hbA.out _) hS'.out.2.1.lt, hS'.out.2.2.1.below (hbA.out _) hS'.out.2.2.1.lt, hS'.out.2.2.2.below (hbA.out _)⟩) (by first | exact Below.refl _ _ | exact hb9 | exact hbA.out _)
      simp only [Act.put, List.setIfInBounds_toArray, List.set_cons_succ, List.set_cons_zero])
    refine walk_such (R := _) rfl rfl (fun v u u' h hr => h.below hr) ?_ ?_
    · intro c hc wx hS hE Kq hKq
      have hS' := Aside0.mk hS
      obtain ⟨sr, s1, s2, s3⟩ := hS
      clear hE hc
      have c0 : wx.cell? ⟨w2.heap.size, 0, none⟩ = some (.pointer (some ⟨w.heap.size + 1, 0, none⟩)) := s2.cell 0
      have hz := s2.lt
      have hw54 := Aside0.mk (h54.out wx sr.far)
      have hbA := Aside0.mk (fun o => (Below.refl wx.heap.size wx).alloc (Nat.le_refl _) o)
      clear sr s1 s2 s3
      go_wp2_with (first | (go_at_call 54; ((with_reducible refine hw54.out.mono ?_); rintro e w9 ⟨v9, rfl, hO9, hb9⟩)))
      exact Held.mk ⟨_, by first | (simp only [Act.put, List.setIfInBounds_toArray, List.set_cons_succ, List.set_cons_zero]; done) | (simp only [Act.put, List.setIfInBounds_toArray, List.set_cons_succ, List.set_cons_zero]; rfl), hO9.bat⟩ (by first | exact hS'.out | exact ⟨hS'.out.1.below hb9, hS'.out.2.1.below hb9 hS'.out.2.1.lt, hS'.out.2.2.1.below hb9 hS'.out.2.2.1.lt, hS'.out.2.2.2.below hb9⟩ | exact ⟨hS'.out.1.below (hbA.out _), hS'.out.2.1.below (hbA.out _) hS'.out.2.1.lt, hS'.out.2.2.1.below (hbA.out _) hS'.out.2.2.1.lt, hS'.out.2.2.2.below (hbA.out _)⟩) (by first | exact Below.refl _ _ | exact hb9 | exact hbA.out _)
    intro va3
    simp only [Act.put, List.setIfInBounds_toArray, List.set_cons_succ, List.set_cons_zero]
    refine walk_such (R := _) rfl rfl (fun v u u' h hr => ⟨h.1.below hr, h.2⟩) ?_ ?_
    · intro c hc wx hS hE Kq hKq
      have hS' := Aside0.mk hS
      obtain ⟨sr, s1, s2, s3⟩ := hS
      have hI : BAt wx va3 P54 := hE (3, fun wx => BAt wx va3 P54) (by simp) (by dsimp only; decide)
      obtain ⟨A3, c3, rfl⟩ := hI.len
      have hP := Aside0.mk (PAt.one hI)
      clear hI
      clear hE hc
      have c0 : wx.cell? ⟨w2.heap.size, 0, none⟩ = some (.pointer (some ⟨w.heap.size + 1, 0, none⟩)) := s2.cell 0
      have hz := s2.lt
      have hw54 := Aside0.mk (h54.out wx sr.far)
      have hbA := Aside0.mk (fun o => (Below.refl wx.heap.size wx).alloc (Nat.le_refl _) o)
      clear sr s1 s2 s3
      go_wp2_with (first | (go_at_call 54; ((with_reducible refine hw54.out.mono ?_); rintro e w9 ⟨v9, rfl, hO9, hb9⟩)))
      exact Held.mk ⟨_, by first | (simp only [Act.put, List.setIfInBounds_toArray, List.set_cons_succ, List.set_cons_zero]; done) | (simp only [Act.put, List.setIfInBounds_toArray, List.set_cons_succ, List.set_cons_zero]; rfl), ⟨hP.out, fun ad n c e => by injection e with e; injection e with e; subst e; have := hS'.out.1.lt; show wx.heap.size ≠ _; omega⟩⟩ (by first | exact hS'.out | exact ⟨hS'.out.1.below hb9, hS'.out.2.1.below hb9 hS'.out.2.1.lt, hS'.out.2.2.1.below hb9 hS'.out.2.2.1.lt, hS'.out.2.2.2.below hb9⟩ | exact ⟨hS'.out.1.below (hbA.out _), hS'.out.2.1.below (hbA.out _) hS'.out.2.1.lt, hS'.out.2.2.1.below (hbA.out _) hS'.out.2.2.1.lt, hS'.out.2.2.2.below (hbA.out _)⟩) (by first | exact Below.refl _ _ | exact hb9 | exact hbA.out _)
    intro va4
    simp only [Act.put, List.setIfInBounds_toArray, List.set_cons_succ, List.set_cons_zero]
    refine walk_end ?_
    intro wl hSl hEl Kl hKl
    obtain ⟨sr, s1, s2, s3⟩ := hSl
    have h4 : PAt wl va4 [P54] ∧ ∀ ad n c, va4 = .slice (some ad) n c → ad.block ≠ w.heap.size + 1 := hEl (4, fun wx => PAt wx va4 [P54] ∧ ∀ ad n c, va4 = .slice (some ad) n c → ad.block ≠ w.heap.size + 1) (by simp)
    have ha := Aside0.mk (sr.add [P54] (by simp [hpl.out]) va4 h4.1 (fun _ => h4.2))
    have hsr := Aside0.mk sr
    have hs1 := Aside0.mk s1
    have hs2 := Aside0.mk s2
    have hs3 := Aside0.mk s3
    have hgz := sr.new
    clear sr s1 s2 s3 h4 hEl hR2 hO2' hq2 hq1 hR1
    go_wp2_with (first
      | (go_at_call 19; ((with_reducible refine ha.out.mono ?_); rintro e w3 ⟨rfl, hr3, hx3⟩; have hrun : Run K s 48 (w.heap.size + 1) w w3 P54 := (by simpa using hr3); have t1 := Aside0.mk (hs1.out.ext hx3 (by omega)); have t2 := Aside0.mk (hs2.out.ext hx3 (by have := hq2lt.out; omega)); have t3 := Aside0.mk (hsr.out.ext_bat hs3.out hx3); have hb := Aside0.mk (hrun.add ps (by rw [hpl.out]; have := hps'.out; omega) _ (hp'.out.below hrun.far) (fun h0 ad n c e => by have := hp'.out.block_lt h0 ad n c e; omega)); have k0 : w3.cell? ⟨w2.heap.size, 0, none⟩ = some (.pointer (some ⟨w.heap.size + 1, 0, none⟩)) := t2.out.cell 0; have k1 : w2.heap.size < w3.heap.size := t2.out.lt; have hrun' := Aside0.mk hrun; clear hrun hr3 hx3))
      | (go_at_call 19; ((with_reducible refine hb.out.mono ?_); rintro e w4 ⟨rfl, hr4, hx4⟩; have u1 := t1.out.ext hx4 (by omega); have u2 := t2.out.ext hx4 (by have := hq2lt.out; omega); have u3 := Aside0.mk (hrun'.out.ext_bat t3.out hx4); have m0 : w4.cell? ⟨w2.heap.size, 0, none⟩ = some (.pointer (some ⟨w.heap.size + 1, 0, none⟩)) := u2.cell 0; have m1 : w4.cell? ⟨w2.heap.size, 1, none⟩ = some (.slice A9 P92.length c9) := u2.cell 1; have n0 : w4.cell? ⟨w.heap.size, 0, none⟩ = some (.pointer none) := u1.cell 0; have n1 : w4.cell? ⟨w.heap.size, 1, none⟩ = some (.slice none 0 0) := u1.cell 1; have f0 := u1.frozen 0; have f1 := u1.frozen 1; have q0 := u1.lt; have q1 := u2.lt; have u1' := Aside0.mk u1; have hr4' := Aside0.mk hr4; clear hr4 hx4 u1 u2)))
    have hxx : Ext (· = w.heap.size) w4 ((w4.setCell ⟨w.heap.size, 0, none⟩ (.pointer (some ⟨w.heap.size + 1, 0, none⟩))).setCell ⟨w.heap.size, 1, none⟩ (.slice A9 P92.length c9)) := (Ext.set1 w.heap.size 0 w4 _).trans (Ext.set1 w.heap.size 1 _ _)
    have hfinal : Blk ((w4.setCell ⟨w.heap.size, 0, none⟩ (.pointer (some ⟨w.heap.size + 1, 0, none⟩))).setCell ⟨w.heap.size, 1, none⟩ (.slice A9 P92.length c9)) w.heap.size 69 #[.pointer (some ⟨w.heap.size + 1, 0, none⟩), .slice A9 P92.length c9] := (u1'.out.set 0 _).set 1 _
    refine bodyPost_ret (results_cell_row rfl _ _ w.heap.size 69 _ (0, 0) _ rfl hfinal Tryd.underlying69 rfl (by kernel_rfl)) rfl ⟨_, _, rfl, ?_, ?_⟩
    · exact hr4'.out.ext_far hxx (Nat.le_refl _) (by omega)
    · exact u3.out.ext_blk u1'.out (no_u8 _ _ _ _) hxx
end Go.Proofs.YtnaiifidcpdamaaDoor
