import Derived.Test.YtnaiifidcpdamaaDoorKc
import Derived.Deep.WholeRow
set_option linter.unusedVariables false
set_option linter.unusedSimpArgs false
namespace Go.Proofs.YtnaiifidcpdamaaDoor
open Go.RowKit Go.Og Go.Ub Go.Proofs.YtnaiifidcpdamaaDoorW.PrintWords
attribute [local go_sem high] Ub.xor64 Ub.and64 Ub.or64 Ub.add64 Ub.not64 Ub.shl64v Ub.shr64v
/-- Eight words. -/
structure S8 where
  a : UInt64
  b : UInt64
  c : UInt64
  d : UInt64
  e : UInt64
  f : UInt64
  g : UInt64
  h : UInt64
def S8.l (s : S8) : List UInt64 := [s.a, s.b, s.c, s.d, s.e, s.f, s.g, s.h]
def t1of (v : S8) (k x : UInt64) : UInt64 := v.h + turn v.e [14, 18, 41] + (v.e &&& v.f ^^^ ~~~v.e &&& v.g) + k + x
def t2of (v : S8) : UInt64 := turn v.a [28, 34, 39] + (v.a &&& v.b ^^^ v.a &&& v.c ^^^ v.b &&& v.c)
def rnd (v : S8) (k x : UInt64) : S8 := ⟨t1of v k x + t2of v, v.a, v.b, v.c, v.d + t1of v k x, v.e, v.f, v.g⟩
def rounds8 (K W : List UInt64) (s : S8) : Nat → S8
  | 0 => s
  | t + 1 => rnd (rounds8 K W s t) (K.getD t 0) (W.getD t 0)
def S8.add (s v : S8) : S8 := ⟨s.a + v.a, s.b + v.b, s.c + v.c, s.d + v.d, s.e + v.e, s.f + v.f, s.g + v.g, s.h + v.h⟩
/-- A block taken. -/
def comp (K : List UInt64) (s : S8) (b : List UInt8) : S8 := s.add (rounds8 K (sched b 80) s 80)
/-- The cells of a running sum. -/
def hcells (l : List UInt64) (r1 r2 r3 : Value) : Array Value := wcs l ++ #[r1, r2, r3]
theorem hcells_get (l : List UInt64) (r1 r2 r3 : Value) (i : Nat) (h : i < l.length) : (hcells l r1 r2 r3)[i]? = some (.int .u64 (wi (l.getD i 0))) := by
  unfold hcells
  rw [Array.getElem?_append_left (by rw [wcs_size]; exact h), wcs_get l i h]
theorem hcells_set (l : List UInt64) (r1 r2 r3 : Value) (i : Nat) (x : UInt64) (h : i < l.length) : (hcells l r1 r2 r3).setIfInBounds i (.int .u64 (wi x)) = hcells (l.set i x) r1 r2 r3 := by
  unfold hcells
  rw [Array.setIfInBounds_append_left (by rw [wcs_size]; exact h), wcs_set]
theorem index_wcs (ws : List UInt64) (h : ws.length = 80) (t : Nat) (ht : t < 80) (w : World) : (Instr.index 74 (.agg (wcs ws)) (.int .i64 (t : Int))).run Tryd.prog w = .ok (.int .u64 (wi (ws.getD t 0))) w := by
  have hi : (Tryd.prog.info? 59).map (·.size) = some 1 := by kernel_rfl
  have hu := Tryd.underlying74
  have hu2 := Tryd.underlying59
  cases hq : Tryd.prog.info? 59 with
  | none => rw [hq] at hi; cases hi
  | some i =>
    have hs : i.size = 1 := by rw [hq] at hi; simpa using hi
    have hg := wcs_get ws t (by omega)
    have h2 : (t : Int) < 80 := by omega
    simp [Instr.index, asIntOf, run_underlying hu, sizeOf, typeInfo, hq, hs, h2, part, hg, hu2, run_underlying hu2, isAgg]
    intro h; omega
/-- What copying v[:7] onto v[1:] leaves. -/
theorem copy_run (h : Nat) (v : S8) (ty : TypeId) (w : World) (hB : Blk w h 61 (wcs v.l)) :
    (Builtin.copy_ #[77, 77] ty #[.slice (some ⟨h, 1, none⟩) 7 7, .slice (some ⟨h, 0, none⟩) 7 8]).run Tryd.prog w = .ok (goInt 7) (w.setRow h (wcs (S8.mk v.a v.a v.b v.c v.d v.e v.f v.g).l)) := by
  have := run_copy_row (P := Tryd.prog) w 77 77 ty 59 h 1 7 7 ⟨h, 0, none⟩ 7 8 (wcs v.l) 61 ([v.a, v.b, v.c, v.d, v.e, v.f, v.g].map fun x => Value.int .u64 (wi x)) Tryd.underlying77 (by kernel_rfl) hB rfl
    (fun j u hu => by
      rw [add_plain, hB.cell j]
      have hj : j < 7 := by have := (List.getElem?_eq_some_iff.1 hu).1; simpa using this
      rcases j with _ | _ | _ | _ | _ | _ | _ | j
      all_goals first | exact hu | omega)
    (by rw [wcs_size]; simp [S8.l]) (fun u hu => by
      simp only [List.mem_map] at hu
      obtain ⟨x, _, rfl⟩ := hu
      rfl)
  exact this
/-- The sum's words while they are added. -/
def adds (s v : S8) : Nat → List UInt64
  | 0 => s.l
  | i + 1 => (adds s v i).set i ((adds s v i).getD i 0 + v.l.getD i 0)
theorem adds_length (s v : S8) (i : Nat) : (adds s v i).length = 8 := by
  induction i with
  | zero => rfl
  | succ i ih => simp [adds, ih]
theorem adds_8 (s v : S8) : adds s v 8 = (s.add v).l := rfl

set_option maxRecDepth 100000 in
set_option maxHeartbeats 4000000 in
theorem block_any (K : List UInt64) (hKl : K.length = 80) (s : S8) (r1 r2 r3 : Value) (b : List UInt8) (hl : b.length = 128) (v : Value) (g : Nat) (w : World) (hv : BAt w v b) (hK : Glob w 2 K) (hH : Blk w g 63 (hcells s.l r1 r2 r3)) :
    Calls Tryd.prog 36 #[.pointer (some ⟨g, 0, none⟩), v] w fun e w' => e = .returned (.tuple #[]) ∧ Blk w' g 63 (hcells (comp K s b).l r1 r2 r3) ∧ Ext (· = g) w w' := by
  have hKc := Lib.hid (fun t (ht : t < 80) => hK.cell t (by omega))
  have hK2 := hK.lt
  have hgl := hH.lt
  have hwords := Lib.hid (words_any b hl)
  have hv' := Lib.hid hv
  have p0 : w.cell? ⟨g, 0, none⟩ = some (.int .u64 (wi s.a)) := hH.cell 0
  have p1 : w.cell? ⟨g, 1, none⟩ = some (.int .u64 (wi s.b)) := hH.cell 1
  have p2 : w.cell? ⟨g, 2, none⟩ = some (.int .u64 (wi s.c)) := hH.cell 2
  have p3 : w.cell? ⟨g, 3, none⟩ = some (.int .u64 (wi s.d)) := hH.cell 3
  have p4 : w.cell? ⟨g, 4, none⟩ = some (.int .u64 (wi s.e)) := hH.cell 4
  have p5 : w.cell? ⟨g, 5, none⟩ = some (.int .u64 (wi s.f)) := hH.cell 5
  have p6 : w.cell? ⟨g, 6, none⟩ = some (.int .u64 (wi s.g)) := hH.cell 6
  have p7 : w.cell? ⟨g, 7, none⟩ = some (.int .u64 (wi s.h)) := hH.cell 7
  have hH' := Lib.hid hH
  have hl' := Lib.hid hl
  have hKl' := Lib.hid hKl
  clear hv hK hH hl hKl
  go_enter Tryd.func36, Tryd.ntmps36
  go_wp2_with fail
  have hB0 : Blk (w.alloc (.cells (wcs s.l) 61)) w.heap.size 61 (wcs s.l) := Blk.new _ _ _ rfl
  have hBl : Below w.heap.size w (w.alloc (.cells (wcs s.l) 61)) := (Below.refl _ _).alloc (Nat.le_refl _) _
  have hcall := hwords.out v (w.alloc (.cells (wcs s.l) 61)) (hv'.out.below hBl)
  refine hcall.mono ?_
  rintro e w1 ⟨rfl, hb1⟩
  have hB1 := Lib.hid (hB0.below hb1 hB0.lt)
  have hb1' := Lib.hid (hBl.trans (hb1.mono hBl.size))
  have hz1 : w.heap.size < w1.heap.size := hB1.out.lt
  have hWl := Lib.hid (sched_length b 80)
  clear hcall hb1 hB0 hBl
  go_wp2
  clear p0 p1 p2 p3 p4 p5 p6 p7
  obtain ⟨W, hW⟩ : ∃ W, W = sched b 80 := ⟨_, rfl⟩
  have hW' := Lib.hid hW
  rw [← hW] at hWl
  rw [← hW]
  clear hW
  go_loopw [17] (fun i wr => ∃ t : Nat, t ≤ 80 ∧ i = .int .i64 t ∧ Below w.heap.size w wr ∧ Blk wr w.heap.size 61 (wcs (rounds8 K W s t).l)) (fun i _ => 80 - (intOf i).toNat)
  case atStart => exact ⟨0, by omega, rfl, hb1'.out, hB1.out⟩
  case round =>
    obtain ⟨t, ht, rfl, hb, hB⟩ := hrel
    obtain ⟨wo, hwo⟩ : ∃ wo : World, wo = wr := ⟨_, rfl⟩
    subst hwo
    by_cases hlt : t < 80
    · have hix := index_wcs W hWl.out t hlt
      have hrs : rounds8 K W s (t + 1) = rnd (rounds8 K W s t) (K.getD t 0) (W.getD t 0) := rfl
      have hrs' := Lib.hid hrs
      generalize rounds8 K W s t = v at hB hrs' hrs
      have hb' := Lib.hid hb
      have hB' := Lib.hid hB
      have hz := hB.lt
      clear hb hB hrs hb1' hB1
      have d1 : decide ((t : Int) < 80) = true := decide_eq_true (by omega)
      go_wp2_with fail
      refine' wp_region_og_lit 6 [none, none, none, none, none, none] [.is _, .is _, .is _, .is _, .is _, .is _]
        (fun c wx => Below w.heap.size w wx ∧ Blk wx w.heap.size 61 (wcs v.l)) (fun u u' => Below u.heap.size u u') (by kernel_rfl) (by kernel_rfl) ?h0a ?hwa
      case h0a => exact ⟨drew_below (⟨hb'.out, hB'.out⟩ : _ ∧ _).1, (⟨hb'.out, hB'.out⟩ : _ ∧ _).2.drew⟩
      case hwa =>
        iterate 6 (
          apply walk_is
          · rfl
          · rfl
          · intro c hc wx hS hE Kq hKq
            have hS' := Aside0.mk hS
            obtain ⟨sb, s1⟩ := hS
            clear hE hc
            have q4 : wx.cell? ⟨w.heap.size, 4, none⟩ = some (.int .u64 (wi v.e)) := s1.cell 4
            have q0 : wx.cell? ⟨w.heap.size, 0, none⟩ = some (.int .u64 (wi v.a)) := s1.cell 0
            have hz1 := s1.lt
            clear s1
            all_goals
             go_wp2_with (fail)
             exact Told.mk (by first | (simp only [Act.put, List.setIfInBounds_toArray, List.set_cons_succ, List.set_cons_zero]; done) | (simp only [Act.put, List.setIfInBounds_toArray, List.set_cons_succ, List.set_cons_zero]; rfl)) (by first | exact hS'.out | exact ⟨hS'.out.1.alloc hS'.out.1.size _, hS'.out.2.alloc _⟩) (by first | exact Below.refl _ _ | exact (Below.refl _ _).alloc (Nat.le_refl _) _)
          simp only [Act.put, List.setIfInBounds_toArray, List.set_cons_succ, List.set_cons_zero])
        refine walk_end ?_
        intro wa hSa hEa
        have hSa' := Lib.hid hSa
        clear hSa hEa hb' hB'
        go_wp2_with fail
        refine' wp_region_og_lit 24 [none, none, none, none, none, none, none, none, none, none, none, none, none, none, none, none, none, none, none, none, none, none, none, none] [.is _, .is _, .is _, .such (fun v wx => IAt wx v [14, 18, 41]), .is _, .is _, .is _, .is _, .is _, .is _, .is _, .is _, .is _, .is _, .is _, .is _, .is _, .is _, .is _, .is _, .is _, .is _, .is _, .is _]
          (fun c wx => Below w.heap.size w wx ∧ Blk wx w.heap.size 61 (wcs v.l)) (fun u u' => Below u.heap.size u u') (by kernel_rfl) (by kernel_rfl) ?h0b ?hwb
        case h0b => exact ⟨drew_below hSa'.out.1, hSa'.out.2.drew⟩
        case hwb =>
          iterate 3 (
            apply walk_is
            · rfl
            · rfl
            · intro c hc wx hS hE Kq hKq
              have hS' := Aside0.mk hS
              obtain ⟨sb, s1⟩ := hS
              clear hE hc
              have q7 : wx.cell? ⟨w.heap.size, 7, none⟩ = some (.int .u64 (wi v.h)) := s1.cell 7
              have q5 : wx.cell? ⟨w.heap.size, 5, none⟩ = some (.int .u64 (wi v.f)) := s1.cell 5
              have q6 : wx.cell? ⟨w.heap.size, 6, none⟩ = some (.int .u64 (wi v.g)) := s1.cell 6
              have ck : wx.cell? ⟨2, t, none⟩ = some (.int .u64 (wi (K.getD t 0))) := (sb.cell (p := ⟨2, t, none⟩) hK2).trans (hKc.out t hlt)
              have hz1 := s1.lt
              clear s1
              all_goals
               go_wp2_with ((go_at_call 47; refine (turned_any _ [14, 18, 41] (by decide) (by decide) vb3 _ hI'.out).mono ?_; rintro e w' ⟨rfl, rfl⟩))
               exact Told.mk (by first | (simp only [Act.put, List.setIfInBounds_toArray, List.set_cons_succ, List.set_cons_zero]; done) | (simp only [Act.put, List.setIfInBounds_toArray, List.set_cons_succ, List.set_cons_zero]; rfl)) (by first | exact hS'.out | exact ⟨hS'.out.1.alloc hS'.out.1.size _, hS'.out.2.alloc _⟩) (by first | exact Below.refl _ _ | exact (Below.refl _ _).alloc (Nat.le_refl _) _)
            simp only [Act.put, List.setIfInBounds_toArray, List.set_cons_succ, List.set_cons_zero])
          refine walk_such (R := _) rfl rfl (fun v u u' h hr => h.below hr) ?_ ?_
          · intro c hc wx hS hE Kq hKq
            have hS' := Aside0.mk hS
            obtain ⟨sb, s1⟩ := hS
            clear hE hc
            have q7 : wx.cell? ⟨w.heap.size, 7, none⟩ = some (.int .u64 (wi v.h)) := s1.cell 7
            have q5 : wx.cell? ⟨w.heap.size, 5, none⟩ = some (.int .u64 (wi v.f)) := s1.cell 5
            have q6 : wx.cell? ⟨w.heap.size, 6, none⟩ = some (.int .u64 (wi v.g)) := s1.cell 6
            have ck : wx.cell? ⟨2, t, none⟩ = some (.int .u64 (wi (K.getD t 0))) := (sb.cell (p := ⟨2, t, none⟩) hK2).trans (hKc.out t hlt)
            have hz1 := s1.lt
            clear s1
            go_wp2_with ((go_at_call 47; refine (turned_any _ [14, 18, 41] (by decide) (by decide) vb3 _ hI'.out).mono ?_; rintro e w' ⟨rfl, rfl⟩))
            exact Held.mk ⟨_, by first | (simp only [Act.put, List.setIfInBounds_toArray, List.set_cons_succ, List.set_cons_zero]; done) | (simp only [Act.put, List.setIfInBounds_toArray, List.set_cons_succ, List.set_cons_zero]; rfl), IAt.new _ _ [14, 18, 41]⟩ (by first | exact hS'.out | exact ⟨hS'.out.1.alloc hS'.out.1.size _, hS'.out.2.alloc _⟩) (by first | exact Below.refl _ _ | exact (Below.refl _ _).alloc (Nat.le_refl _) _)
          intro vb3
          simp only [Act.put, List.setIfInBounds_toArray, List.set_cons_succ, List.set_cons_zero]
          iterate 1 (
            apply walk_is
            · rfl
            · rfl
            · intro c hc wx hS hE Kq hKq
              have hS' := Aside0.mk hS
              obtain ⟨sb, s1⟩ := hS
              have hI : IAt wx vb3 [14, 18, 41] := hE (3, fun wx => IAt wx vb3 [14, 18, 41]) (by simp) (by dsimp only; decide)
              have hI' := Lib.hid hI
              clear hI
              clear hE hc
              have q7 : wx.cell? ⟨w.heap.size, 7, none⟩ = some (.int .u64 (wi v.h)) := s1.cell 7
              have q5 : wx.cell? ⟨w.heap.size, 5, none⟩ = some (.int .u64 (wi v.f)) := s1.cell 5
              have q6 : wx.cell? ⟨w.heap.size, 6, none⟩ = some (.int .u64 (wi v.g)) := s1.cell 6
              have ck : wx.cell? ⟨2, t, none⟩ = some (.int .u64 (wi (K.getD t 0))) := (sb.cell (p := ⟨2, t, none⟩) hK2).trans (hKc.out t hlt)
              have hz1 := s1.lt
              clear s1
              all_goals
               go_wp2_with ((go_at_call 47; refine (turned_any _ [14, 18, 41] (by decide) (by decide) vb3 _ hI'.out).mono ?_; rintro e w' ⟨rfl, rfl⟩))
               exact Told.mk (by first | (simp only [Act.put, List.setIfInBounds_toArray, List.set_cons_succ, List.set_cons_zero]; done) | (simp only [Act.put, List.setIfInBounds_toArray, List.set_cons_succ, List.set_cons_zero]; rfl)) (by first | exact hS'.out | exact ⟨hS'.out.1.alloc hS'.out.1.size _, hS'.out.2.alloc _⟩) (by first | exact Below.refl _ _ | exact (Below.refl _ _).alloc (Nat.le_refl _) _)
            simp only [Act.put, List.setIfInBounds_toArray, List.set_cons_succ, List.set_cons_zero])
          iterate 19 (
            apply walk_is
            · rfl
            · rfl
            · intro c hc wx hS hE Kq hKq
              have hS' := Aside0.mk hS
              obtain ⟨sb, s1⟩ := hS
              clear hE hc
              have q7 : wx.cell? ⟨w.heap.size, 7, none⟩ = some (.int .u64 (wi v.h)) := s1.cell 7
              have q5 : wx.cell? ⟨w.heap.size, 5, none⟩ = some (.int .u64 (wi v.f)) := s1.cell 5
              have q6 : wx.cell? ⟨w.heap.size, 6, none⟩ = some (.int .u64 (wi v.g)) := s1.cell 6
              have ck : wx.cell? ⟨2, t, none⟩ = some (.int .u64 (wi (K.getD t 0))) := (sb.cell (p := ⟨2, t, none⟩) hK2).trans (hKc.out t hlt)
              have hz1 := s1.lt
              clear s1
              all_goals
               go_wp2_with ((go_at_call 47; refine (turned_any _ [14, 18, 41] (by decide) (by decide) vb3 _ hI'.out).mono ?_; rintro e w' ⟨rfl, rfl⟩))
               exact Told.mk (by first | (simp only [Act.put, List.setIfInBounds_toArray, List.set_cons_succ, List.set_cons_zero]; done) | (simp only [Act.put, List.setIfInBounds_toArray, List.set_cons_succ, List.set_cons_zero]; rfl)) (by first | exact hS'.out | exact ⟨hS'.out.1.alloc hS'.out.1.size _, hS'.out.2.alloc _⟩) (by first | exact Below.refl _ _ | exact (Below.refl _ _).alloc (Nat.le_refl _) _)
            simp only [Act.put, List.setIfInBounds_toArray, List.set_cons_succ, List.set_cons_zero])
          refine walk_end ?_
          intro wb hSb hEb
          have hSb' := Lib.hid hSb
          clear hSb hEb hSa'
          go_wp2_with fail
          refine' wp_region_og_lit 20 [none, none, none, none, none, none, none, none, none, none, none, none, none, none, none, none, none, none, none, none] [.is _, .such (fun v wx => IAt wx v [28, 34, 39]), .is _, .is _, .is _, .is _, .is _, .is _, .is _, .is _, .is _, .is _, .is _, .is _, .is _, .is _, .is _, .is _, .is _, .is _]
            (fun c wx => Below w.heap.size w wx ∧ Blk wx w.heap.size 61 (wcs v.l)) (fun u u' => Below u.heap.size u u') (by kernel_rfl) (by kernel_rfl) ?h0c ?hwc
          case h0c => exact ⟨drew_below hSb'.out.1, hSb'.out.2.drew⟩
          case hwc =>
            iterate 1 (
              apply walk_is
              · rfl
              · rfl
              · intro c hc wx hS hE Kq hKq
                have hS' := Aside0.mk hS
                obtain ⟨sb, s1⟩ := hS
                clear hE hc
                have q1 : wx.cell? ⟨w.heap.size, 1, none⟩ = some (.int .u64 (wi v.b)) := s1.cell 1
                have q2 : wx.cell? ⟨w.heap.size, 2, none⟩ = some (.int .u64 (wi v.c)) := s1.cell 2
                have hz1 := s1.lt
                clear s1
                all_goals
                 go_wp2_with ((go_at_call 47; refine (turned_any _ [28, 34, 39] (by decide) (by decide) vc1 _ hI'.out).mono ?_; rintro e w' ⟨rfl, rfl⟩))
                 exact Told.mk (by first | (simp only [Act.put, List.setIfInBounds_toArray, List.set_cons_succ, List.set_cons_zero]; done) | (simp only [Act.put, List.setIfInBounds_toArray, List.set_cons_succ, List.set_cons_zero]; rfl)) (by first | exact hS'.out | exact ⟨hS'.out.1.alloc hS'.out.1.size _, hS'.out.2.alloc _⟩) (by first | exact Below.refl _ _ | exact (Below.refl _ _).alloc (Nat.le_refl _) _)
              simp only [Act.put, List.setIfInBounds_toArray, List.set_cons_succ, List.set_cons_zero])
            refine walk_such (R := _) rfl rfl (fun v u u' h hr => h.below hr) ?_ ?_
            · intro c hc wx hS hE Kq hKq
              have hS' := Aside0.mk hS
              obtain ⟨sb, s1⟩ := hS
              clear hE hc
              have q1 : wx.cell? ⟨w.heap.size, 1, none⟩ = some (.int .u64 (wi v.b)) := s1.cell 1
              have q2 : wx.cell? ⟨w.heap.size, 2, none⟩ = some (.int .u64 (wi v.c)) := s1.cell 2
              have hz1 := s1.lt
              clear s1
              go_wp2_with ((go_at_call 47; refine (turned_any _ [28, 34, 39] (by decide) (by decide) vc1 _ hI'.out).mono ?_; rintro e w' ⟨rfl, rfl⟩))
              exact Held.mk ⟨_, by first | (simp only [Act.put, List.setIfInBounds_toArray, List.set_cons_succ, List.set_cons_zero]; done) | (simp only [Act.put, List.setIfInBounds_toArray, List.set_cons_succ, List.set_cons_zero]; rfl), IAt.new _ _ [28, 34, 39]⟩ (by first | exact hS'.out | exact ⟨hS'.out.1.alloc hS'.out.1.size _, hS'.out.2.alloc _⟩) (by first | exact Below.refl _ _ | exact (Below.refl _ _).alloc (Nat.le_refl _) _)
            intro vc1
            simp only [Act.put, List.setIfInBounds_toArray, List.set_cons_succ, List.set_cons_zero]
            iterate 1 (
              apply walk_is
              · rfl
              · rfl
              · intro c hc wx hS hE Kq hKq
                have hS' := Aside0.mk hS
                obtain ⟨sb, s1⟩ := hS
                have hI : IAt wx vc1 [28, 34, 39] := hE (1, fun wx => IAt wx vc1 [28, 34, 39]) (by simp) (by dsimp only; decide)
                have hI' := Lib.hid hI
                clear hI
                clear hE hc
                have q1 : wx.cell? ⟨w.heap.size, 1, none⟩ = some (.int .u64 (wi v.b)) := s1.cell 1
                have q2 : wx.cell? ⟨w.heap.size, 2, none⟩ = some (.int .u64 (wi v.c)) := s1.cell 2
                have hz1 := s1.lt
                clear s1
                all_goals
                 go_wp2_with ((go_at_call 47; refine (turned_any _ [28, 34, 39] (by decide) (by decide) vc1 _ hI'.out).mono ?_; rintro e w' ⟨rfl, rfl⟩))
                 exact Told.mk (by first | (simp only [Act.put, List.setIfInBounds_toArray, List.set_cons_succ, List.set_cons_zero]; done) | (simp only [Act.put, List.setIfInBounds_toArray, List.set_cons_succ, List.set_cons_zero]; rfl)) (by first | exact hS'.out | exact ⟨hS'.out.1.alloc hS'.out.1.size _, hS'.out.2.alloc _⟩) (by first | exact Below.refl _ _ | exact (Below.refl _ _).alloc (Nat.le_refl _) _)
              simp only [Act.put, List.setIfInBounds_toArray, List.set_cons_succ, List.set_cons_zero])
            iterate 17 (
              apply walk_is
              · rfl
              · rfl
              · intro c hc wx hS hE Kq hKq
                have hS' := Aside0.mk hS
                obtain ⟨sb, s1⟩ := hS
                clear hE hc
                have q1 : wx.cell? ⟨w.heap.size, 1, none⟩ = some (.int .u64 (wi v.b)) := s1.cell 1
                have q2 : wx.cell? ⟨w.heap.size, 2, none⟩ = some (.int .u64 (wi v.c)) := s1.cell 2
                have hz1 := s1.lt
                clear s1
                all_goals
                 go_wp2_with ((go_at_call 47; refine (turned_any _ [28, 34, 39] (by decide) (by decide) vc1 _ hI'.out).mono ?_; rintro e w' ⟨rfl, rfl⟩))
                 exact Told.mk (by first | (simp only [Act.put, List.setIfInBounds_toArray, List.set_cons_succ, List.set_cons_zero]; done) | (simp only [Act.put, List.setIfInBounds_toArray, List.set_cons_succ, List.set_cons_zero]; rfl)) (by first | exact hS'.out | exact ⟨hS'.out.1.alloc hS'.out.1.size _, hS'.out.2.alloc _⟩) (by first | exact Below.refl _ _ | exact (Below.refl _ _).alloc (Nat.le_refl _) _)
              simp only [Act.put, List.setIfInBounds_toArray, List.set_cons_succ, List.set_cons_zero])
            refine walk_end ?_
            intro wc hSc hEc
            have hSc' := Lib.hid hSc
            clear hSc hEc hSb'
            go_wp2_with fail
            refine' wp_region_og_lit 2 [some false, some false, some false] [.is _, .is _, .is _]
              (fun c wx => Below w.heap.size w wx ∧ Blk wx w.heap.size 61 (wcs (if c then S8.mk v.a v.a v.b v.c v.d v.e v.f v.g else v).l)) (fun u u' => True) (by kernel_rfl) (by kernel_rfl) ?h0d ?hwd
            case h0d => exact ⟨drew_below hSc'.out.1, hSc'.out.2.drew⟩
            case hwd =>
              iterate 3 (
                apply walk_is
                · rfl
                · rfl
                · intro c hc wx hS hE Kq hKq
                  have hS' := Aside0.mk hS
                  obtain ⟨sb, s1⟩ := hS
                  clear hE; (first | (obtain rfl := hc _ rfl) | cases c)
                  have hcp := fun ty => copy_run w.heap.size v ty wx s1
                  have hz1 := Blk.lt s1
                  have hs1' := Lib.hid s1
                  clear s1
                  all_goals
                   go_wp2_with (fail)
                   exact Told.mk (by first | (simp only [Act.put, List.setIfInBounds_toArray, List.set_cons_succ, List.set_cons_zero]; done) | (simp only [Act.put, List.setIfInBounds_toArray, List.set_cons_succ, List.set_cons_zero]; rfl)) (by first | exact hS'.out | exact ⟨below_setRow hS'.out.1 (Nat.le_refl _) _, setRow_blk hS'.out.2⟩) (by first | exact trivial)
                simp only [Act.put, List.setIfInBounds_toArray, List.set_cons_succ, List.set_cons_zero])
              refine walk_end ?_
              intro wd hSd hEd
              have hd : Below w.heap.size w wd ∧ Blk wd w.heap.size 61 (wcs (S8.mk v.a v.a v.b v.c v.d v.e v.f v.g).l) := hSd
              have hd' := Lib.hid hd
              have q4 : wd.cell? ⟨w.heap.size, 4, none⟩ = some (.int .u64 (wi v.d)) := hd.2.cell 4
              have q0 : wd.cell? ⟨w.heap.size, 0, none⟩ = some (.int .u64 (wi v.a)) := hd.2.cell 0
              have f4 := hd.2.frozen 4
              have f0 := hd.2.frozen 0
              have hzd := hd.2.lt
              clear hSd hEd hSc' hd
              go_wp2
              refine ⟨⟨t + 1, by omega, by simp, (hd'.out.1.setCell (Nat.le_refl _) _).setCell (Nat.le_refl _) _, ?_⟩, by simp [intOf]; omega⟩
              rw [hrs'.out]
              exact (hd'.out.2.set 4 _).set 0 _
    · obtain rfl : t = 80 := by omega
      obtain ⟨v, hvv⟩ : ∃ v, v = rounds8 K W s 80 := ⟨_, rfl⟩
      have hvv' := Lib.hid hvv
      rw [← hvv] at hB
      clear hvv
      have hHw := hH'.out.below hb hgl
      have hb' := Lib.hid hb
      have hB' := Lib.hid hB
      have hz := hB.lt
      have hHw' := Lib.hid hHw
      clear hb hB hHw hb1' hB1
      have he0 := Lib.hid (Ext.of_below (X := (· = g)) (hb'.out.mono (Nat.le_refl _)))
      go_wp2
      go_loopw [80] (fun i wr => ∃ k : Nat, k ≤ 8 ∧ i = .int .i64 k ∧ Ext (· = g) w wr ∧ Blk wr g 63 (hcells (adds s v k) r1 r2 r3) ∧ Blk wr w.heap.size 61 (wcs v.l)) (fun i _ => 8 - (intOf i).toNat)
      case atStart => exact ⟨0, by omega, rfl, he0.out, hHw'.out, hB'.out⟩
      case round =>
        obtain ⟨k, hk, rfl, hx, hA, hV⟩ := hrel
        have hx' := Lib.hid hx
        have hA' := Lib.hid hA
        have hV' := Lib.hid hV
        have hal := Lib.hid (adds_length s v k)
        have hzz := hV.lt
        clear hx hA hV he0 hHw' hb' hB'
        by_cases hlk : k < 8
        · have d1 : decide ((k : Int) < 8) = true := decide_eq_true (by omega)
          go_wp2_with fail
          refine' wp_region_og_lit 11 [some false, some false, some false, some false, some false, some false, some false, some false, some false, none, some false, some false] [.is _, .is _, .is _, .is _, .is _, .is _, .is _, .is _, .is _, .is _, .is _, .is (undef)]
            (fun c wx => Ext (· = g) w wx ∧ Blk wx g 63 (hcells (adds s v (if c then k + 1 else k)) r1 r2 r3) ∧ Blk wx w.heap.size 61 (wcs v.l)) (fun u u' => True) (by kernel_rfl) (by kernel_rfl) ?h0e ?hwe
          case h0e => exact ⟨hx'.out.drew, hA'.out.drew, hV'.out.drew⟩
          case hwe =>
            iterate 9 (
              apply walk_is
              · rfl
              · rfl
              · intro c hc wx hS hE Kq hKq
                have hS' := Aside0.mk hS
                obtain ⟨sx, sa, sv⟩ := hS
                clear hE; (first | (obtain rfl := hc _ rfl) | cases c)
                have sa : Blk wx g 63 (hcells (adds s v k) r1 r2 r3) := sa
                have pg := (sa.cell k).trans (hcells_get (adds s v k) r1 r2 r3 k (by rw [hal.out]; exact hlk))
                have pv := (sv.cell k).trans (wcs_get v.l k hlk)
                have fg := sa.frozen k
                have hz1 := sa.lt
                have hz2 := sv.lt
                have sa' := Lib.hid sa
                have sv' := Lib.hid sv
                clear sa sv
                all_goals
                 go_wp2_with (fail)
                 exact Told.mk (by first | (simp only [Act.put, List.setIfInBounds_toArray, List.set_cons_succ, List.set_cons_zero]; done) | (simp only [Act.put, List.setIfInBounds_toArray, List.set_cons_succ, List.set_cons_zero]; rfl)) (by first | exact hS'.out | exact ⟨hS'.out.1.setCell (.inl rfl) _, by have := sa'.out.set k (.int .u64 (wi ((adds s v k).getD k 0 + v.l.getD k 0))); rw [hcells_set _ _ _ _ _ _ (by rw [hal.out]; exact hlk)] at this; exact this, sv'.out.far (Nat.ne_of_gt hgl) _⟩) (by first | exact trivial)
              simp only [Act.put, List.setIfInBounds_toArray, List.set_cons_succ, List.set_cons_zero])
            iterate 1 (
              apply walk_is
              · rfl
              · rfl
              · intro c hc wx hS hE Kq hKq
                have hS' := Aside0.mk hS
                obtain ⟨sx, sa, sv⟩ := hS
                clear hE hc
                clear sx sa sv
                cases c
                all_goals
                 go_wp2_with (fail)
                 exact Told.mk (by first | (simp only [Act.put, List.setIfInBounds_toArray, List.set_cons_succ, List.set_cons_zero]; done) | (simp only [Act.put, List.setIfInBounds_toArray, List.set_cons_succ, List.set_cons_zero]; rfl)) (by first | exact hS'.out | exact ⟨hS'.out.1.setCell (.inl rfl) _, by have := sa'.out.set k (.int .u64 (wi ((adds s v k).getD k 0 + v.l.getD k 0))); rw [hcells_set _ _ _ _ _ _ (by rw [hal.out]; exact hlk)] at this; exact this, sv'.out.far (Nat.ne_of_gt hgl) _⟩) (by first | exact trivial)
              simp only [Act.put, List.setIfInBounds_toArray, List.set_cons_succ, List.set_cons_zero])
            iterate 2 (
              apply walk_is
              · rfl
              · rfl
              · intro c hc wx hS hE Kq hKq
                have hS' := Aside0.mk hS
                obtain ⟨sx, sa, sv⟩ := hS
                clear hE; (first | (obtain rfl := hc _ rfl) | cases c)
                have sa : Blk wx g 63 (hcells (adds s v k) r1 r2 r3) := sa
                have pg := (sa.cell k).trans (hcells_get (adds s v k) r1 r2 r3 k (by rw [hal.out]; exact hlk))
                have pv := (sv.cell k).trans (wcs_get v.l k hlk)
                have fg := sa.frozen k
                have hz1 := sa.lt
                have hz2 := sv.lt
                have sa' := Lib.hid sa
                have sv' := Lib.hid sv
                clear sa sv
                all_goals
                 go_wp2_with (fail)
                 exact Told.mk (by first | (simp only [Act.put, List.setIfInBounds_toArray, List.set_cons_succ, List.set_cons_zero]; done) | (simp only [Act.put, List.setIfInBounds_toArray, List.set_cons_succ, List.set_cons_zero]; rfl)) (by first | exact hS'.out | exact ⟨hS'.out.1.setCell (.inl rfl) _, by have := sa'.out.set k (.int .u64 (wi ((adds s v k).getD k 0 + v.l.getD k 0))); rw [hcells_set _ _ _ _ _ _ (by rw [hal.out]; exact hlk)] at this; exact this, sv'.out.far (Nat.ne_of_gt hgl) _⟩) (by first | exact trivial)
              simp only [Act.put, List.setIfInBounds_toArray, List.set_cons_succ, List.set_cons_zero])
            refine walk_end ?_
            intro we hSe hEe
            have he : Ext (· = g) w we ∧ Blk we g 63 (hcells (adds s v (k + 1)) r1 r2 r3) ∧ Blk we w.heap.size 61 (wcs v.l) := hSe
            have he' := Lib.hid he
            clear hSe hEe he hx' hA' hV'
            go_wp2
            exact ⟨⟨k + 1, by omega, by simp, he'.out⟩, by simp [intOf]; omega⟩
        · obtain rfl : k = 8 := by omega
          go_wp2
          go_end0
          refine ⟨rfl, ?_, hx'.out⟩
          have := hA'.out
          rw [adds_8, hvv'.out, hW'.out] at this
          exact this
end Go.Proofs.YtnaiifidcpdamaaDoor
