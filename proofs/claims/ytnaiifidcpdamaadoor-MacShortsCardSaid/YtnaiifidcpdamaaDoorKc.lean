import Derived.Test.YtnaiifidcpdamaaDoorKb
set_option linter.unusedVariables false
set_option linter.unusedSimpArgs false
namespace Go.Proofs.YtnaiifidcpdamaaDoor
open Go.RowKit Go.Og Go.Ub Go.Proofs.YtnaiifidcpdamaaDoorW.PrintWords
attribute [local go_sem high] Ub.xor64 Ub.and64 Ub.or64 Ub.add64 Ub.not64 Ub.shl64v Ub.shr64v Ub.shl64_8 Ub.shr64_7 Ub.shr64_6 Ub.wrap8to64
/-- A word out of bytes. -/
def be (l : List UInt8) : UInt64 := l.foldl (fun a c => a <<< 8 ||| c.toUInt64) 0
theorem be_snoc (l : List UInt8) (c : UInt8) : be (l ++ [c]) = be l <<< 8 ||| c.toUInt64 := by simp [be]
/-- A word of those that come of the block's. -/
def wnext (ws : List UInt64) (t : Nat) : UInt64 :=
  ((turn (ws.getD (t - 2) 0) [19, 61] ^^^ ws.getD (t - 2) 0 >>> 6) + ws.getD (t - 7) 0 + (turn (ws.getD (t - 15) 0) [1, 8] ^^^ ws.getD (t - 15) 0 >>> 7)) + ws.getD (t - 16) 0
def sstep (b : List UInt8) (ws : List UInt64) (t : Nat) : List UInt64 := ws.set t (if t < 16 then be ((b.drop (8 * t)).take 8) else wnext ws t)
def sched (b : List UInt8) : Nat → List UInt64
  | 0 => List.replicate 80 0
  | t + 1 => sstep b (sched b t) t
theorem sched_length (b : List UInt8) (t : Nat) : (sched b t).length = 80 := by
  induction t with
  | zero => simp [sched]
  | succ t ih => simp [sched, sstep, ih]
theorem IAt.below {w w' : World} {v : Value} {ns : List Nat} (h : IAt w v ns) (hb : Below w.heap.size w w') : IAt w' v ns := by
  obtain ⟨g, c, rfl, hg, hc⟩ := h
  exact ⟨g, c, rfl, Nat.lt_of_lt_of_le hg hb.size, fun j n hj => (hb.cell (p := ⟨g, j, none⟩) hg).trans (hc j n hj)⟩
theorem IAt.new (w : World) (t : TypeId) (ns : List Nat) : IAt (w.alloc (.cells (ns.map fun (n : Nat) => Value.int .i64 (n : Int)).toArray t)) (.slice (some ⟨w.heap.size, 0, none⟩) ns.length ns.length) ns := by
  refine ⟨w.heap.size, ns.length, rfl, by simp, fun j n hj => ?_⟩
  rw [(Blk.new (w := w) w.heap.size t _ rfl).cell j]
  simp [hj]
theorem be_zero : be [] = 0 := rfl
theorem sched_zero (b : List UInt8) (t j : Nat) (h : t ≤ j) : (sched b t).getD j 0 = 0 := by
  induction t with
  | zero =>
    simp only [sched, List.getD_eq_getElem?_getD, List.getElem?_replicate]
    split <;> rfl
  | succ t ih =>
    have := ih (by omega)
    simp only [sched, sstep, List.getD_eq_getElem?_getD] at this ⊢
    rw [List.getElem?_set_ne (by omega)]
    exact this
theorem set_same (l : List UInt64) (i : Nat) (h : l.getD i 0 = 0) : l.set i 0 = l := by
  apply List.ext_getElem? 
  intro j
  rw [List.getElem?_set]
  split
  · subst_vars
    split
    · rename_i hlt
      rw [List.getD_eq_getElem?_getD, List.getElem?_eq_getElem hlt] at h
      rw [List.getElem?_eq_getElem hlt]
      simpa using h.symm
    · rename_i hge
      rw [List.getElem?_eq_none (by omega)]
  · rfl
theorem add_add (a : Addr) (i j : Nat) : (a.add i).add j = a.add (i + j) := by
  unfold Addr.add
  by_cases hi : i = 0 <;> by_cases hj : j = 0 <;> simp [hi, hj, Nat.add_assoc]
theorem wcs_one (ws : List UInt64) : (wcs ws).all (·.oneCell') = true := Array.all_eq_true_iff_forall_mem.2 fun v hv => by
  simp only [wcs, List.mem_toArray, List.mem_map] at hv
  obtain ⟨x, _, rfl⟩ := hv
  rfl
theorem setRow_blk {w : World} {g : Nat} {t : TypeId} {cs cs' : Array Value} (h : Blk w g t cs) : Blk (w.setRow g cs') g t cs' := setRow_heap w g cs cs' t _ h
theorem below_setRow {B g : Nat} {w w' : World} (h : Below B w w') (hg : B ≤ g) (cs : Array Value) : Below B w (w'.setRow g cs) :=
  ⟨h.os, h.tape, h.output, by simpa using h.size, fun k hk => (setRow_other w' g k cs (by omega)).trans (h.block k hk)⟩
theorem zero74 (w : World) : (zeroValue 74).run Tryd.prog w = .ok (.agg (wcs (List.replicate 80 0))) w := by kernel_rfl
set_option maxRecDepth 100000 in
set_option maxHeartbeats 4000000 in
theorem words_any (b : List UInt8) (hl : b.length = 128) (v : Value) (w : World) (hv : BAt w v b) : Calls Tryd.prog 46 #[v] w fun e w' => e = .returned (.agg (wcs (sched b 80))) ∧ Below w.heap.size w w' := by
  obtain ⟨A, c, rfl, hc, hC⟩ := hv
  obtain ⟨ad, rfl, hcell⟩ := C_addr hC (by omega)
  rw [hl] at hc hcell ⊢
  have hlb := Lib.hid hl
  clear hl
  have hcell' := Lib.hid hcell
  clear hcell hC
  have z74 := zero74
  go_enter Tryd.func46, Tryd.ntmps46
  go_wp2
  clear z74
  go_loopw [9] (fun i wr => ∃ t : Nat, t ≤ 80 ∧ i = .int .i64 t ∧ Below w.heap.size w wr ∧ WBlk wr w.heap.size 74 (List.replicate 80 0) ∧ WBlk wr (w.heap.size + 1) 74 (sched b t)) (fun i _ => 80 - (intOf i).toNat)
  case atStart => 
    refine ⟨0, by omega, rfl, ?_, ?_, ?_⟩
    · exact ((Below.refl _ _).alloc (Nat.le_refl _) _).alloc (by simp) _
    · exact (Blk.new _ _ _ rfl).alloc _
    · exact Blk.new _ _ _ (by simp)
  case round =>
    obtain ⟨t, ht, rfl, hb, h0, h1⟩ := hrel
    obtain ⟨wo, hwo⟩ : ∃ wo : World, wo = wr := ⟨_, rfl⟩
    subst hwo
    have hb' := Lib.hid hb
    have h0' := Lib.hid h0
    have h1' := Lib.hid h1
    have hz := h1.lt
    clear hb h0 h1
    by_cases ht16 : t < 16
    · have hlt : t < 80 := by omega
      obtain ⟨W, hW⟩ : ∃ W, W = sched b t := ⟨_, rfl⟩
      have hWl : W.length = 80 := by rw [hW]; exact sched_length _ _
      have hWz : W.set t 0 = W := by rw [hW]; exact set_same _ _ (sched_zero b t t (Nat.le_refl _))
      rw [← hW] at h1'
      have hW' := Lib.hid hW
      have hWz' := Lib.hid hWz
      have hWl' := Lib.hid hWl
      have d1 : decide ((t : Int) < 80) = true := decide_eq_true (by omega)
      have d2 : decide ((t : Int) < 16) = true := decide_eq_true (by omega)
      have hby : ∀ k, k < 8 → w.cell? ((ad.add (8 * t)).add k) = some (.int .u8 (bi (b.getD (8 * t + k) 0))) := fun k hk => by rw [add_add]; exact hcell'.out _ (by omega)
      have hby' := Lib.hid hby
      clear hW hWz hWl hby
      go_wp2
      rw [show 8 * t + 8 - 8 * t = 8 by omega]
      go_loopw [22] (fun j wr => ∃ k : Nat, k ≤ 8 ∧ j = .int .i64 k ∧ Below w.heap.size w wr ∧ WBlk wr w.heap.size 74 (List.replicate 80 0) ∧ WBlk wr (w.heap.size + 1) 74 (W.set t (be ((b.drop (8 * t)).take k)))) (fun j _ => 8 - (intOf j).toNat)
      case atStart =>
        refine ⟨0, by omega, rfl, hb'.out, h0'.out, ?_⟩
        rw [List.take_zero, be_zero, hWz'.out]
        exact h1'.out
      case round =>
        obtain ⟨k, hk, rfl, hb1, h01, h11⟩ := hrel
        have hb1' := Lib.hid hb1
        have h01' := Lib.hid h01
        have h11' := Lib.hid h11
        by_cases hlk : k < 8
        · have c0 := h11.cell t (by rw [List.length_set, hWl'.out]; omega)
          rw [List.getD_eq_getElem?_getD, List.getElem?_set_self (by rw [hWl'.out]; omega), Option.getD_some] at c0
          have f0 := Blk.frozen h11 t
          have hz1 := Blk.lt h11
          have c1 : wr.cell? ((ad.add (8 * t)).add k) = some (.int .u8 (bi (b.getD (8 * t + k) 0))) := by
            have hc0 := hby'.out k hlk
            exact (hb1.cell (World.block_lt_of_cell? w _ hc0)).trans hc0
          have hl := hlb.out
          have hsn : be ((b.drop (8 * t)).take (k + 1)) = be ((b.drop (8 * t)).take k) <<< 8 ||| (b.getD (8 * t + k) 0).toUInt64 := by
            rw [← be_snoc]
            congr 1
            rw [List.take_succ_eq_append_getElem (by rw [List.length_drop]; omega)]
            congr 2
            rw [List.getElem_drop, List.getD_eq_getElem?_getD, List.getElem?_eq_getElem (by omega), Option.getD_some]
          have hsn' := Lib.hid hsn
          clear hb1 h01 h11 hsn hl
          go_wp2
          refine ⟨⟨k + 1, by omega, by simp, hb1'.out.setCell (by simp) _, h01'.out.far (by simp) _, ?_⟩, by simp [intOf]; omega⟩
          have := h11'.out.set t (be ((b.drop (8 * t)).take k) <<< 8 ||| (b.getD (8 * t + k) 0).toUInt64)
          rw [List.set_set] at this
          rw [hsn'.out]
          exact this
        · obtain rfl : k = 8 := by omega
          have e : sched b (t + 1) = W.set t (be ((b.drop (8 * t)).take 8)) := by
            show sstep b (sched b t) t = _
            unfold sstep
            rw [if_pos ht16, ← hW'.out]
          rw [← e] at h11'
          clear hb1 h01 h11 e
          go_wp2
          exact ⟨⟨t + 1, by omega, by simp, hb1'.out, h01'.out, h11'.out⟩, by simp [intOf]; omega⟩
    · by_cases hlt : t < 80
      · obtain ⟨u, hu⟩ : ∃ u, t = u + 16 := ⟨t - 16, by omega⟩
        subst hu
        obtain ⟨W, hW⟩ : ∃ W, W = sched b (u + 16) := ⟨_, rfl⟩
        have hWl : W.length = 80 := by rw [hW]; exact sched_length _ _
        rw [← hW] at h1'
        have hW' := Lib.hid hW
        clear hW
        have d1 : decide ((u : Int) + 16 < 80) = true := decide_eq_true (by omega)
        have d2 : decide ((u : Int) + 16 < 16) = false := decide_eq_false (by omega)
        simp only [Int.natCast_add, Int.cast_ofNat_Int]
        go_wp2_with fail
        refine' wp_region_og_lit 13 [none, none, none, none, none, none, none, none, none, none, none, none, none] [.is _, .is _, .is _, .is _, .such (fun v wx => IAt wx v [1, 8]), .is _, .is _, .is _, .is _, .is _, .is _, .is _, .is _]
          (fun c wx => Below w.heap.size w wx ∧ WBlk wx w.heap.size 74 (List.replicate 80 0) ∧ WBlk wx (w.heap.size + 1) 74 W) (fun u u' => Below u.heap.size u u') (by kernel_rfl) (by kernel_rfl) ?h0a ?hwa
        case h0a => exact ⟨drew_below (⟨hb'.out, h0'.out, h1'.out⟩ : _ ∧ _ ∧ _).1, (⟨hb'.out, h0'.out, h1'.out⟩ : _ ∧ _ ∧ _).2.1.drew, (⟨hb'.out, h0'.out, h1'.out⟩ : _ ∧ _ ∧ _).2.2.drew⟩
        case hwa =>
          iterate 4 (
            apply walk_is
            · rfl
            · rfl
            · intro c hc wx hS hE K hK
              have hS' := Lib.hid hS
              obtain ⟨sb, s0, s1⟩ := hS
              clear hE hc
              have c1 := s1.cell (u + 1) (by omega)
              have hz1 := s1.lt
              clear s0 s1
              go_wp2_with ((go_at_call 47; refine (turned_any _ [1, 8] (by decide) (by decide) va4 _ hI'.out).mono ?_; rintro e w' ⟨rfl, rfl⟩))
              exact Told.mk (by first | (simp only [Act.put, List.setIfInBounds_toArray, List.set_cons_succ, List.set_cons_zero]; done) | (simp only [Act.put, List.setIfInBounds_toArray, List.set_cons_succ, List.set_cons_zero]; rfl)) (by first | exact hS'.out | exact ⟨hS'.out.1.alloc (hS'.out.1.size) _, hS'.out.2.1.alloc _, hS'.out.2.2.alloc _⟩) (by first | exact Below.refl _ _ | exact (Below.refl _ _).alloc (Nat.le_refl _) _)
            simp only [Act.put, List.setIfInBounds_toArray, List.set_cons_succ, List.set_cons_zero])
          refine walk_such (R := _) rfl rfl (fun v u u' h hr => h.below hr) ?_ ?_
          · intro c hc wx hS hE K hK
            have hS' := Lib.hid hS
            obtain ⟨sb, s0, s1⟩ := hS
            clear hE hc
            have c1 := s1.cell (u + 1) (by omega)
            have hz1 := s1.lt
            clear s0 s1
            go_wp2_with ((go_at_call 47; refine (turned_any _ [1, 8] (by decide) (by decide) va4 _ hI'.out).mono ?_; rintro e w' ⟨rfl, rfl⟩))
            exact Held.mk ⟨_, by first | (simp only [Act.put, List.setIfInBounds_toArray, List.set_cons_succ, List.set_cons_zero]; done) | (simp only [Act.put, List.setIfInBounds_toArray, List.set_cons_succ, List.set_cons_zero]; rfl), IAt.new _ _ [1, 8]⟩ (by first | exact hS'.out | exact ⟨hS'.out.1.alloc (hS'.out.1.size) _, hS'.out.2.1.alloc _, hS'.out.2.2.alloc _⟩) (by first | exact Below.refl _ _ | exact (Below.refl _ _).alloc (Nat.le_refl _) _)
          intro va4
          simp only [Act.put, List.setIfInBounds_toArray, List.set_cons_succ, List.set_cons_zero]
          iterate 1 (
            apply walk_is
            · rfl
            · rfl
            · intro c hc wx hS hE K hK
              have hS' := Lib.hid hS
              obtain ⟨sb, s0, s1⟩ := hS
              have hI : IAt wx va4 [1, 8] := hE (4, fun wx => IAt wx va4 [1, 8]) (by simp) (by dsimp only; decide)
              have hI' := Lib.hid hI
              clear hI
              clear hE hc
              have c1 := s1.cell (u + 1) (by omega)
              have hz1 := s1.lt
              clear s0 s1
              go_wp2_with ((go_at_call 47; refine (turned_any _ [1, 8] (by decide) (by decide) va4 _ hI'.out).mono ?_; rintro e w' ⟨rfl, rfl⟩))
              exact Told.mk (by first | (simp only [Act.put, List.setIfInBounds_toArray, List.set_cons_succ, List.set_cons_zero]; done) | (simp only [Act.put, List.setIfInBounds_toArray, List.set_cons_succ, List.set_cons_zero]; rfl)) (by first | exact hS'.out | exact ⟨hS'.out.1.alloc (hS'.out.1.size) _, hS'.out.2.1.alloc _, hS'.out.2.2.alloc _⟩) (by first | exact Below.refl _ _ | exact (Below.refl _ _).alloc (Nat.le_refl _) _)
            simp only [Act.put, List.setIfInBounds_toArray, List.set_cons_succ, List.set_cons_zero])
          iterate 7 (
            apply walk_is
            · rfl
            · rfl
            · intro c hc wx hS hE K hK
              have hS' := Lib.hid hS
              obtain ⟨sb, s0, s1⟩ := hS
              clear hE hc
              have c1 := s1.cell (u + 1) (by omega)
              have hz1 := s1.lt
              clear s0 s1
              go_wp2_with ((go_at_call 47; refine (turned_any _ [1, 8] (by decide) (by decide) va4 _ hI'.out).mono ?_; rintro e w' ⟨rfl, rfl⟩))
              exact Told.mk (by first | (simp only [Act.put, List.setIfInBounds_toArray, List.set_cons_succ, List.set_cons_zero]; done) | (simp only [Act.put, List.setIfInBounds_toArray, List.set_cons_succ, List.set_cons_zero]; rfl)) (by first | exact hS'.out | exact ⟨hS'.out.1.alloc (hS'.out.1.size) _, hS'.out.2.1.alloc _, hS'.out.2.2.alloc _⟩) (by first | exact Below.refl _ _ | exact (Below.refl _ _).alloc (Nat.le_refl _) _)
            simp only [Act.put, List.setIfInBounds_toArray, List.set_cons_succ, List.set_cons_zero])
          refine walk_end ?_
          intro wa hSa hEa
          have hSa' := Lib.hid hSa
          clear hSa hEa hb' h0' h1'
          go_wp2_with fail
          refine' wp_region_og_lit 13 [none, none, none, none, none, none, none, none, none, none, none, none, none] [.is _, .is _, .is _, .is _, .such (fun v wx => IAt wx v [19, 61]), .is _, .is _, .is _, .is _, .is _, .is _, .is _, .is _]
            (fun c wx => Below w.heap.size w wx ∧ WBlk wx w.heap.size 74 (List.replicate 80 0) ∧ WBlk wx (w.heap.size + 1) 74 W) (fun u u' => Below u.heap.size u u') (by kernel_rfl) (by kernel_rfl) ?h0b ?hwb
          case h0b => exact ⟨drew_below hSa'.out.1, hSa'.out.2.1.drew, hSa'.out.2.2.drew⟩
          case hwb =>
            iterate 4 (
              apply walk_is
              · rfl
              · rfl
              · intro c hc wx hS hE K hK
                have hS' := Lib.hid hS
                obtain ⟨sb, s0, s1⟩ := hS
                clear hE hc
                have c1 := s1.cell (u + 14) (by omega)
                have hz1 := s1.lt
                clear s0 s1
                go_wp2_with ((go_at_call 47; refine (turned_any _ [19, 61] (by decide) (by decide) vb4 _ hI'.out).mono ?_; rintro e w' ⟨rfl, rfl⟩))
                exact Told.mk (by first | (simp only [Act.put, List.setIfInBounds_toArray, List.set_cons_succ, List.set_cons_zero]; done) | (simp only [Act.put, List.setIfInBounds_toArray, List.set_cons_succ, List.set_cons_zero]; rfl)) (by first | exact hS'.out | exact ⟨hS'.out.1.alloc (hS'.out.1.size) _, hS'.out.2.1.alloc _, hS'.out.2.2.alloc _⟩) (by first | exact Below.refl _ _ | exact (Below.refl _ _).alloc (Nat.le_refl _) _)
              simp only [Act.put, List.setIfInBounds_toArray, List.set_cons_succ, List.set_cons_zero])
            refine walk_such (R := _) rfl rfl (fun v u u' h hr => h.below hr) ?_ ?_
            · intro c hc wx hS hE K hK
              have hS' := Lib.hid hS
              obtain ⟨sb, s0, s1⟩ := hS
              clear hE hc
              have c1 := s1.cell (u + 14) (by omega)
              have hz1 := s1.lt
              clear s0 s1
              go_wp2_with ((go_at_call 47; refine (turned_any _ [19, 61] (by decide) (by decide) vb4 _ hI'.out).mono ?_; rintro e w' ⟨rfl, rfl⟩))
              exact Held.mk ⟨_, by first | (simp only [Act.put, List.setIfInBounds_toArray, List.set_cons_succ, List.set_cons_zero]; done) | (simp only [Act.put, List.setIfInBounds_toArray, List.set_cons_succ, List.set_cons_zero]; rfl), IAt.new _ _ [19, 61]⟩ (by first | exact hS'.out | exact ⟨hS'.out.1.alloc (hS'.out.1.size) _, hS'.out.2.1.alloc _, hS'.out.2.2.alloc _⟩) (by first | exact Below.refl _ _ | exact (Below.refl _ _).alloc (Nat.le_refl _) _)
            intro vb4
            simp only [Act.put, List.setIfInBounds_toArray, List.set_cons_succ, List.set_cons_zero]
            iterate 1 (
              apply walk_is
              · rfl
              · rfl
              · intro c hc wx hS hE K hK
                have hS' := Lib.hid hS
                obtain ⟨sb, s0, s1⟩ := hS
                have hI : IAt wx vb4 [19, 61] := hE (4, fun wx => IAt wx vb4 [19, 61]) (by simp) (by dsimp only; decide)
                have hI' := Lib.hid hI
                clear hI
                clear hE hc
                have c1 := s1.cell (u + 14) (by omega)
                have hz1 := s1.lt
                clear s0 s1
                go_wp2_with ((go_at_call 47; refine (turned_any _ [19, 61] (by decide) (by decide) vb4 _ hI'.out).mono ?_; rintro e w' ⟨rfl, rfl⟩))
                exact Told.mk (by first | (simp only [Act.put, List.setIfInBounds_toArray, List.set_cons_succ, List.set_cons_zero]; done) | (simp only [Act.put, List.setIfInBounds_toArray, List.set_cons_succ, List.set_cons_zero]; rfl)) (by first | exact hS'.out | exact ⟨hS'.out.1.alloc (hS'.out.1.size) _, hS'.out.2.1.alloc _, hS'.out.2.2.alloc _⟩) (by first | exact Below.refl _ _ | exact (Below.refl _ _).alloc (Nat.le_refl _) _)
              simp only [Act.put, List.setIfInBounds_toArray, List.set_cons_succ, List.set_cons_zero])
            iterate 7 (
              apply walk_is
              · rfl
              · rfl
              · intro c hc wx hS hE K hK
                have hS' := Lib.hid hS
                obtain ⟨sb, s0, s1⟩ := hS
                clear hE hc
                have c1 := s1.cell (u + 14) (by omega)
                have hz1 := s1.lt
                clear s0 s1
                go_wp2_with ((go_at_call 47; refine (turned_any _ [19, 61] (by decide) (by decide) vb4 _ hI'.out).mono ?_; rintro e w' ⟨rfl, rfl⟩))
                exact Told.mk (by first | (simp only [Act.put, List.setIfInBounds_toArray, List.set_cons_succ, List.set_cons_zero]; done) | (simp only [Act.put, List.setIfInBounds_toArray, List.set_cons_succ, List.set_cons_zero]; rfl)) (by first | exact hS'.out | exact ⟨hS'.out.1.alloc (hS'.out.1.size) _, hS'.out.2.1.alloc _, hS'.out.2.2.alloc _⟩) (by first | exact Below.refl _ _ | exact (Below.refl _ _).alloc (Nat.le_refl _) _)
              simp only [Act.put, List.setIfInBounds_toArray, List.set_cons_succ, List.set_cons_zero])
            refine walk_end ?_
            intro wb hSb hEb
            have hSb' := Lib.hid hSb
            clear hSb hEb hSa'
            go_wp2_with fail
            refine' wp_region_og_lit 15 [some false, some false, some false, some false, some false, some false, some false, some false, some false, some false, some false, some false, some false, some false, some false, some false] [.is _, .is _, .is _, .is _, .is _, .is _, .is _, .is _, .is _, .is _, .is _, .is _, .is _, .is _, .is _, .is (undef)]
              (fun c wx => Below w.heap.size w wx ∧ WBlk wx w.heap.size 74 (List.replicate 80 0) ∧ WBlk wx (w.heap.size + 1) 74 (if c then W.set (u + 16) (wnext W (u + 16)) else W)) (fun w w' => True) (by kernel_rfl) (by kernel_rfl) ?h0c ?hwc
            case h0c => exact ⟨drew_below hSb'.out.1, hSb'.out.2.1.drew, hSb'.out.2.2.drew⟩
            case hwc =>
              iterate 16 (
                apply walk_is
                · rfl
                · rfl
                · intro c hc wx hS hE K hK
                  have hS' := Lib.hid hS
                  obtain ⟨sb, s0, s1⟩ := hS
                  clear hE; (first | (obtain rfl := hc _ rfl) | cases c)
                  have s1 : WBlk wx (w.heap.size + 1) 74 W := s1
                  have c9 := s1.cell (u + 9) (by omega)
                  have c0 := s1.cell u (by omega)
                  have c16 := s1.cell (u + 16) (by omega)
                  have f16 := s1.frozen (u + 16)
                  have hz1 := s1.lt
                  clear s0 s1
                  go_wp2_with (fail)
                  exact Told.mk (by first | (simp only [Act.put, List.setIfInBounds_toArray, List.set_cons_succ, List.set_cons_zero]; done) | (simp only [Act.put, List.setIfInBounds_toArray, List.set_cons_succ, List.set_cons_zero]; rfl)) (by first | exact hS'.out | exact ⟨hS'.out.1.setCell (by simp) _, hS'.out.2.1.far (by simp) _, hS'.out.2.2.set _ _⟩) (by first | exact trivial)
                simp only [Act.put, List.setIfInBounds_toArray, List.set_cons_succ, List.set_cons_zero])
              refine walk_end ?_
              intro wc hSc hEc
              have hSc' := Lib.hid hSc
              clear hSc hEc hSb'
              have hf : WBlk wc (w.heap.size + 1) 74 (W.set (u + 16) (wnext W (u + 16))) := hSc'.out.2.2
              have e : sched b (u + 16 + 1) = W.set (u + 16) (wnext W (u + 16)) := by
                show sstep b (sched b (u + 16)) (u + 16) = _
                unfold sstep
                rw [if_neg (by omega), ← hW'.out]
              rw [← e] at hf
              have hf' := Lib.hid hf
              clear e hf
              go_wp2
              exact ⟨⟨u + 16 + 1, by omega, by simp, hSc'.out.1, hSc'.out.2.1, hf'.out⟩, by simp [intOf]; omega⟩
      · obtain rfl : t = 80 := by omega
        have hs := sched_length b 80
        have hs' := Lib.hid hs
        clear hs
        go_wp2_with (first
          | refine wpList_load_row rfl 74 (.tmp 3) rfl _ rfl 74 _ (0, 0) _ h1'.out Tryd.underlying74 rfl (by rw [wcs_size, hs'.out]; kernel_rfl) ?_
          | refine wpList_store_row rfl 74 (.tmp 2) (.tmp 76) rfl _ _ rfl rfl 74 _ h0'.out (by rw [wcs_size, hs'.out]; kernel_rfl) (by rw [wcs_size, wcs_size, hs'.out]; rfl) (wcs_one _) ?_)
        refine bodyPost_ret (results_cell_row rfl _ _ _ 74 _ (0, 0) _ rfl (setRow_blk h0'.out) Tryd.underlying74 rfl (by rw [wcs_size, hs'.out]; kernel_rfl)) rfl ⟨rfl, ?_⟩
        exact below_setRow hb'.out (Nat.le_refl _) _
end Go.Proofs.YtnaiifidcpdamaaDoor
