/-
  MacShorts walked.
-/
import Derived.Test.YtnaiifidcpdamaaDoorPe
set_option linter.unusedVariables false
set_option linter.unusedSimpArgs false
namespace Go.Proofs.YtnaiifidcpdamaaDoor
open Go.RowKit Go.Og Go.Ub Go.Proofs.YtnaiifidcpdamaaDoorW.PrintWords
theorem BAt.take {w : World} {A : Option Addr} {n c : Nat} {l : List UInt8} (h : BAt w (.slice A n c) l) (m : Nat) (hm : m ≤ l.length) : BAt w (.slice A m c) (l.take m) := by
  obtain ⟨A', c', e, hc, hC⟩ := h
  injection e with e1 e2 e3
  subst e1 e2 e3
  have hl : (l.take m).length = m := by rw [List.length_take]; omega
  have hm9 : l.length ≤ 9223372036854775807 := hC.2.1
  have := BAt.mk_ (w := w) (A := A) (l := l.take m) (c := c) (by omega) (by omega) (fun h0 => by
    obtain ⟨ad, hA, hcell⟩ := C_addr hC (by omega)
    refine ⟨ad, hA, fun j hj => ?_⟩
    rw [hl] at hj
    rw [hcell j (by omega), List.getD_eq_getElem?_getD, List.getD_eq_getElem?_getD, List.getElem?_take_of_lt hj])
  rw [hl] at this
  exact this
/-- An append whose run is known, guarded or not. -/
theorem wpList_run_g {ops : Array Oper} {rest : List Oper} {o : Oper} {a : Act} {w : World} {Q : Exit → Act → World → Prop} (hw : Region.wanted o (yielded ops a.tmps) = true) (s x : Operand)
    (ho : o.op = .call { callee := .builtin .append, args := #[s, x], argTypes := #[27, 27] }) (v u : Value) (hs : a.eval s = v) (hx : a.eval x = u) {v' : Value} {w' : World}
    (hr : (Builtin.append_ #[27, 27] o.type #[v, u]).run Tryd.prog w = .ok v' w') (h : wpList Tryd.prog ops Q rest (a.put o.dst v') w') : wpList Tryd.prog ops Q (o :: rest) a w := by
  unfold wpList
  rw [if_pos hw]
  refine .inl ?_
  unfold Oper.wp execOp
  simp only [ho, resolve, invoke, builtin, Sem.run_bind, Sem.run_pure, Result.andThen_ok, List.map_toArray, List.map_cons, List.map_nil, hs, hx, hr]
  exact h
/-- An append onto a row of the call's own. -/
theorem app_own (w0 w : World) (base : Nat) (v : Value) (l : List UInt8) (hown : OAt w base v l) (x : Value) (m : List UInt8) (hx : BAt w x m) (hlen : l.length + m.length ≤ 1000000000) (hbase : base ≤ w.heap.size) (hb : Below base w0 w) :
    ∃ v' w', (Builtin.append_ #[27, 27] 27 #[v, x]).run Tryd.prog w = .ok v' w' ∧ OAt w' base v' (l ++ m) ∧ Below base w0 w' := by
  obtain ⟨v', w', hrun, h2, h3⟩ := run_app w 27 base v l hown x m hx hlen hbase
  exact ⟨v', w', hrun, h2, hb.grown h3 hbase (own_base hown)⟩
set_option maxRecDepth 100000 in
set_option maxHeartbeats 8000000 in
theorem macshorts_any (K : List UInt64) (hKl : K.length = 80) (s : S8) (l b : List UInt8) (m : Nat) (hm : m < 256) (y : UInt8) (v u : Value) (w : World) (hv : BAt w v l) (hu : BAt w u b) (hK : Glob w 2 K) (hS : Glob w 1 s.l) :
    Calls Tryd.prog 11 #[v, u, .agg #[.int .u8 m, .int .u8 (bi y)]] w fun e w' => e = .returned (.bool true) ∧ Below w.heap.size w w' := by
  have hK2 := hK.lt
  have hS1 := hS.lt
  have haw := Aside0.mk (fun (wx : World) (hb : Below w.heap.size w wx) => awake3_any K hKl s wx (hK.below hb hK2) (hS.below hb hS1))
  have hB0 := Aside0.mk (Below.refl w.heap.size w |>.alloc (Nat.le_refl _) (.cells #[.int .u8 m, .int .u8 (bi y)] 52))
  have hbx0 := Aside0.mk (Blk.new (w := w) w.heap.size 52 #[.int .u8 m, .int .u8 (bi y)] rfl)
  by_cases hlen : l.length ≤ 300 ∧ b.length ≤ 200
  · obtain ⟨hl3, hb2⟩ := hlen
    obtain ⟨M, hM⟩ : ∃ M, M = macs K s l b := ⟨_, rfl⟩
    have hMl : M.length = 48 := by rw [hM]; exact macs_length K s l b
    have hfl : [b].flatten = b := by simp
    have hpt := fun (X : World) (hb : Below w.heap.size w X) => PAt.one (hu.below hb)
    have hsm := fun (X : World) (hb : Below w.heap.size w X) => macsum_any K hKl s l (by omega) [b] (by rw [hfl]; omega) v (.slice (some ⟨X.heap.size, 0, none⟩) 1 1) (X.alloc (.cells #[u] 27)) (hv.below (hb.alloc hb.size _)) (hpt X hb) (hK.below (hb.alloc hb.size _) hK2) (hS.below (hb.alloc hb.size _) hS1)
    have hck := fun (X : World) (hb : Below w.heap.size w X) (x : Value) (b' : List UInt8) (hx : BAt X x b') (hl' : b'.length ≤ 1000) => check_any K hKl s l (by omega) b' (by omega) [b] (by rw [hfl]; omega) v x (.slice (some ⟨X.heap.size, 0, none⟩) 1 1) (X.alloc (.cells #[u] 27)) (hv.below (hb.alloc hb.size _)) (hx.alloc _) (hpt X hb) (hK.below (hb.alloc hb.size _) hK2) (hS.below (hb.alloc hb.size _) hS1)
    rw [hfl, ← hM] at hsm hck
    have hck8 : ∀ (X : World) (hb : Below w.heap.size w X) (x : Value) (b' : List UInt8) (hx : BAt X x b') (hl' : b'.length ≤ 1000) (hne : b'.length ≠ 48), Calls Tryd.prog 32 #[v, x, .slice (some ⟨X.heap.size, 0, none⟩) 1 1] (X.alloc (.cells #[u] 27)) fun e w' => e = .returned (.int .i64 8) ∧ Below w.heap.size w w' ∧ Below X.heap.size X w' := fun X hb x b' hx hl' hne => by
      refine (hck X hb x b' hx hl').mono ?_
      rintro e w' ⟨rfl, hb'⟩
      have h1 : Below X.heap.size X w' := ((Below.refl X.heap.size X).alloc (Nat.le_refl _) _).trans (hb'.mono (by simp))
      exact ⟨by rw [if_neg (fun h => hne (by rw [h, hMl]))], hb.trans (h1.mono hb.size), h1⟩
    have hck0 : ∀ (X : World) (hb : Below w.heap.size w X) (x : Value) (hx : BAt X x M), Calls Tryd.prog 32 #[v, x, .slice (some ⟨X.heap.size, 0, none⟩) 1 1] (X.alloc (.cells #[u] 27)) fun e w' => e = .returned (.int .i64 0) ∧ Below w.heap.size w w' := fun X hb x hx => by
      refine (hck X hb x M hx (by omega)).mono ?_
      rintro e w' ⟨rfl, hb'⟩
      have h1 : Below X.heap.size X w' := ((Below.refl X.heap.size X).alloc (Nat.le_refl _) _).trans (hb'.mono (by simp))
      exact ⟨by rw [if_pos rfl], hb.trans (h1.mono hb.size)⟩
    have hsm1 : ∀ (X : World) (hb : Below w.heap.size w X), Calls Tryd.prog 30 #[v, .slice (some ⟨X.heap.size, 0, none⟩) 1 1] (X.alloc (.cells #[u] 27)) fun e w' => ∃ A c, e = .returned (.slice A 48 c) ∧ 48 ≤ c ∧ BAt w' (.slice A 48 c) M ∧ Below w.heap.size w w' := fun X hb => by
      refine (hsm X hb).mono ?_
      rintro e w' ⟨x, rfl, hx, hb'⟩
      obtain ⟨A, c, rfl, hc⟩ := hx.slice
      rw [hMl] at hx hc ⊢
      have h1 : Below X.heap.size X w' := ((Below.refl X.heap.size X).alloc (Nat.le_refl _) _).trans (hb'.mono (by simp))
      exact ⟨A, c, rfl, hc, hx, hb.trans (h1.mono hb.size)⟩
    have g1 := Aside0.mk hsm1
    have g8 := Aside0.mk hck8
    have g0 := Aside0.mk hck0
    have hMl' := Aside0.mk hMl
    obtain ⟨A, c, rfl, -⟩ := hv
    obtain ⟨A2, c2, rfl, -⟩ := hu
    have d1 : decide ((300 : Int) < (l.length : Int)) = false := decide_eq_false (by omega)
    have d2 : decide ((200 : Int) < (b.length : Int)) = false := decide_eq_false (by omega)
    obtain ⟨k, hk⟩ : ∃ k, k = m % 48 := ⟨_, rfl⟩
    have hk48 : k < 48 := by omega
    have hmod : (m : Int) % 48 = (k : Int) := by omega
    clear hpt hsm hck hsm1 hck8 hck0 hM hMl hfl hK hS hk hl3 hb2
    go_enter Tryd.func11, Tryd.ntmps11
    go_wp2_with (first
      | (go_at_call 27; ((with_reducible refine (haw.out _ hB0.out).mono ?_); rintro e w1 ⟨rfl, hb1⟩; have hB1 := Aside0.mk (hB0.out.trans (hb1.mono hB0.out.size)); have hbx1 := Aside0.mk (hbx0.out.below hb1 hbx0.out.lt); clear hb1)))
    refine' wp_region_og_lit 6 [none, none, none, none, none, none] [.is _, .is _, .is _, .is _, .is _, .is _]
      (fun c wx => Below w.heap.size w wx ∧ Blk wx w.heap.size 52 #[.int .u8 m, .int .u8 (bi y)]) (fun _ _ => True) (by kernel_rfl) (by kernel_rfl) ?h0a ?hwa
    case h0a => exact ⟨drew_below hB1.out, hbx1.out.drew⟩
    case hwa =>
      iterate 6 (
        apply walk_is
        · rfl
        · rfl
        · intro c hc wx hS hE Kq hKq
          have hS' := Aside0.mk hS
          clear hE hc
          have c0 : wx.cell? ⟨w.heap.size, 0, none⟩ = some (.int .u8 (m : Int)) := hS.2.cell 0
          have c1 : wx.cell? ⟨w.heap.size, 1, none⟩ = some (.int .u8 (bi y)) := hS.2.cell 1
          have hz := hS.2.lt
          clear hS
          all_goals
           go_wp2_with (fail)
           exact Told.mk (by first | (simp only [Act.put, List.setIfInBounds_toArray, List.set_cons_succ, List.set_cons_zero]; done) | (simp only [Act.put, List.setIfInBounds_toArray, List.set_cons_succ, List.set_cons_zero]; rfl)) (by first | exact hS'.out) (by first | trivial)
        simp only [Act.put, List.setIfInBounds_toArray, List.set_cons_succ, List.set_cons_zero])
      refine walk_end ?_
      intro wa hSa hEa
      have hBa := Aside0.mk hSa.1
      clear hSa hEa
      go_wp2_with (first
        | (go_at_call 30; ((with_reducible refine (g1.out _ hBa.out).mono ?_); rintro e w3 ⟨A3, c3, rfl, hc3, hx3, hb3⟩; have hB3 := Aside0.mk hb3; have hX3 := Aside0.mk hx3; have ht3 := Aside0.mk (hx3.take k (by rw [hMl'.out]; omega)); have hz3 := Aside0.mk (show (M.take k).length = k by rw [List.length_take, hMl'.out]; omega); clear hx3 hb3))
        | (go_at_call 32; ((with_reducible refine (g8.out _ hB3.out _ _ ht3.out (by rw [hz3.out]; omega) (by rw [hz3.out]; omega)).mono ?_); rintro e w4 ⟨rfl, hb4, hb34⟩; have hB4 := Aside0.mk hb4; have hX4 := Aside0.mk (hX3.out.below hb34); obtain ⟨v5, w5, hrun5, hO5, hb5⟩ := app_own w4 (w4.alloc (.cells #[] 5)) w4.heap.size (.slice (some ⟨w4.heap.size, 0, none⟩) 0 0) [] (OAt.new w4 [] (by simp)) (.slice A3 48 c3) M (hX4.out.alloc _) (by rw [hMl'.out]; decide) (by simp) ((Below.refl _ _).alloc (Nat.le_refl _) _); obtain ⟨v6, w6, hrun6, hO6, hb6⟩ := app_own w4 (w5.alloc (.cells #[.int .u8 (bi y)] 5)) w4.heap.size v5 M (by have := hO5.alloc (.cells #[.int .u8 (bi y)] 5); simpa using this) (.slice (some ⟨w5.heap.size, 0, none⟩) 1 1) [y] (BAt.one w5 y) (by rw [hMl'.out]; show 48 + 1 ≤ 1000000000; decide) (by have := hb5.size; simp; omega) (hb5.alloc hb5.size _); have hO6' := Aside0.mk hO6.bat; have hB6 := Aside0.mk (hb4.trans (hb6.mono hb4.size)); have hX6 := Aside0.mk (hX4.out.below hb6); have hz6 := Aside0.mk (show (M ++ [y]).length = 49 by rw [List.length_append, hMl'.out]; rfl); clear hb4 hb34 hO5 hb5 hO6 hb6))
        | ((with_reducible refine gate_builtin (b := .append) (xs := #[.tmp 50, .tmp 51]) rfl ?_); refine wpList_run_g (by kernel_rfl) (.tmp 50) (.tmp 51) rfl _ _ rfl rfl hrun5 ?_)
        | ((with_reducible refine gate_builtin (b := .append) (xs := #[.tmp 52, .tmp 54]) rfl ?_); refine wpList_run_g (by kernel_rfl) (.tmp 52) (.tmp 54) rfl _ _ rfl rfl hrun6 ?_)
        | (go_at_call 32; ((with_reducible refine (g8.out _ hB6.out _ _ hO6'.out (by rw [hz6.out]; decide) (by rw [hz6.out]; decide)).mono ?_); rintro e w7 ⟨rfl, hb7, hb67⟩; have hB7 := Aside0.mk hb7; have hX7 := Aside0.mk (hX6.out.below hb67); clear hb7 hb67))
        | (go_at_call 32; ((with_reducible refine (g0.out _ hB7.out _ hX7.out).mono ?_); rintro e w8 ⟨rfl, hb8⟩; have hB8 := Aside0.mk hb8; clear hb8)))
      go_ret
      exact ⟨rfl, hB8.out⟩
  · obtain ⟨A, c, rfl, -⟩ := hv
    obtain ⟨A2, c2, rfl, -⟩ := hu
    clear hK hS
    by_cases h1 : l.length ≤ 300
    · have d1 : decide ((300 : Int) < (l.length : Int)) = false := decide_eq_false (by omega)
      have d2 : decide ((200 : Int) < (b.length : Int)) = true := decide_eq_true (by omega)
      clear h1 hlen
      go_enter Tryd.func11, Tryd.ntmps11
      go_wp2_with (first
        | (go_at_call 27; ((with_reducible refine (haw.out _ hB0.out).mono ?_); rintro e w1 ⟨rfl, hb1⟩; have hB1 := Aside0.mk (hB0.out.trans (hb1.mono hB0.out.size)); clear hb1))
        | (go_at_call 27; ((with_reducible refine (haw.out _ hB1.out).mono ?_); rintro e w2 ⟨rfl, hb2⟩; have hB2 := Aside0.mk (hB1.out.trans (hb2.mono hB1.out.size)); clear hb2)))
      go_ret
      exact ⟨rfl, hB2.out⟩
    · have d1 : decide ((300 : Int) < (l.length : Int)) = true := decide_eq_true (by omega)
      clear h1 hlen
      go_enter Tryd.func11, Tryd.ntmps11
      go_wp2_with (first
        | (go_at_call 27; ((with_reducible refine (haw.out _ hB0.out).mono ?_); rintro e w1 ⟨rfl, hb1⟩; have hB1 := Aside0.mk (hB0.out.trans (hb1.mono hB0.out.size)); clear hb1))
        | (go_at_call 27; ((with_reducible refine (haw.out _ hB1.out).mono ?_); rintro e w2 ⟨rfl, hb2⟩; have hB2 := Aside0.mk (hB1.out.trans (hb2.mono hB1.out.size)); clear hb2)))
      go_ret
      exact ⟨rfl, hB2.out⟩
end Go.Proofs.YtnaiifidcpdamaaDoor
