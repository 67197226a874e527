/-
  A running sum held by its caller; ShaAgain walked.
-/
import Derived.Test.YtnaiifidcpdamaaDoorKx
set_option linter.unusedVariables false
set_option linter.unusedSimpArgs false
namespace Go.Proofs.YtnaiifidcpdamaaDoor
open Go.RowKit Go.Og Go.Ub Go.Proofs.YtnaiifidcpdamaaDoorW.PrintWords
/-- A running sum in block g, made since world w. -/
structure Run (K : List UInt64) (s : S8) (size g : Nat) (w wx : World) (m : List UInt8) : Prop where
  far : Below w.heap.size w wx
  sum : HAt wx g (g + 1) K s size m
  new : w.heap.size ≤ g
  glob : Glob w 2 K
  small : size ≤ 64
  wide : K.length = 80
section
variable {K : List UInt64} {s : S8} {size g : Nat} {w wx wy : World} {m : List UInt8}
theorem Run.lt (h : Run K s size g w wx m) : g < wx.heap.size := h.sum.lt
theorem Run.k (h : Run K s size g w wx m) : Glob wx 2 K := h.glob.below h.far h.glob.lt
theorem Run.below (h : Run K s size g w wx m) (hb : Below wx.heap.size wx wy) : Run K s size g w wy m :=
  ⟨h.far.trans (hb.mono h.far.size), h.sum.below hb, h.new, h.glob, h.small, h.wide⟩
theorem Run.add (h : Run K s size g w wx m) (ps : List (List UInt8)) (hml : m.length + ps.flatten.length ≤ 100000000) (u : Value) (hp : PAt wx u ps) (hv : 0 < ps.length → ∀ ad n c, u = .slice (some ad) n c → ad.block ≠ g) :
    Calls Tryd.prog 19 #[.pointer (some ⟨g, 0, none⟩), u] wx fun e w' => e = .returned (.tuple #[]) ∧ Run K s size g w w' (m ++ ps.flatten) ∧ Ext (· = g) wx w' := by
  have hlt := h.lt
  have h2 := h.glob.lt
  have hn := h.new
  refine (add_any K h.wide s size g (g + 1) m ps hml u wx (by omega) (by omega) (by omega) h.sum h.k hp hv).mono ?_
  rintro e w' ⟨rfl, hH, hx⟩
  have hb := bk_le ps.length (g + 1) wx.heap.size g (by omega) (by omega)
  exact ⟨rfl, ⟨h.far.trans (hx.below (B := w.heap.size) h.far.size (fun k hk hx => by omega)), hH.mono hb, hn, h.glob, h.small, h.wide⟩, hx⟩
theorem Run.told (h : Run K s size g w wx m) (hml : m.length ≤ 99000000) :
    Calls Tryd.prog 20 #[.pointer (some ⟨g, 0, none⟩)] wx fun e w' => ∃ v, e = .returned v ∧ OAt w' wx.heap.size v ((sha K s m).take size) ∧ Run K s size g w w' m ∧ Below wx.heap.size wx w' := by
  refine (sum_any K h.wide s size g (g + 1) h.small m hml wx h.sum h.k).mono ?_
  rintro e w' ⟨v, rfl, hO, hb⟩
  exact ⟨v, rfl, hO, h.below hb, hb⟩
theorem Run.len (h : Run K s size g w wx m) : Calls Tryd.prog 23 #[.pointer (some ⟨g, 0, none⟩)] wx fun e w' => e = .returned (.int .i64 (m.length : Nat)) ∧ wx = w' := len_any K s size g (g + 1) m wx h.sum
end
theorem BAt.len {w : World} {v : Value} {l : List UInt8} (h : BAt w v l) : ∃ A c, v = .slice A l.length c := by
  obtain ⟨A, c, rfl, _⟩ := h
  exact ⟨A, c, rfl⟩
theorem BAt.empty (w : World) (g : Nat) : BAt w (.slice (some ⟨g, 0, none⟩) 0 0) [] := BAt.mk_ (l := []) (A := some ⟨g, 0, none⟩) (c := 0) (by simp) (by simp) (fun h => by simp at h)
/-- Nothing more, taken. -/
theorem Run.idle {K : List UInt64} {s : S8} {size g : Nat} {w wx : World} {m : List UInt8} (h : Run K s size g w wx m) (hml : m.length ≤ 90000000) (ps : List (List UInt8)) (hps : ps.flatten = []) (u : Value) (hp : PAt wx u ps) (hv : 0 < ps.length → ∀ ad n c, u = .slice (some ad) n c → ad.block ≠ g) :
    Calls Tryd.prog 19 #[.pointer (some ⟨g, 0, none⟩), u] wx fun e w' => e = .returned (.tuple #[]) ∧ Run K s size g w w' m := by
  refine (h.add ps (by rw [hps]; simp; omega) u hp hv).mono ?_
  rintro e w' ⟨rfl, hR, _⟩
  rw [hps, List.append_nil] at hR
  exact ⟨rfl, hR⟩
/-- The sum that a law takes: of 48 bytes, or of 64. -/
theorem Run.start5 (K : List UInt64) (hKl : K.length = 80) (s : S8) (w wx : World) (hb : Below w.heap.size w wx) (hK : Glob w 2 K) (hS : Glob w 0 s.l) :
    Calls Tryd.prog 17 #[] wx fun e w' => e = .returned (.pointer (some ⟨wx.heap.size, 0, none⟩)) ∧ Run K s 64 wx.heap.size w w' [] := by
  refine (new512_any K s wx (hS.below hb hS.lt)).mono ?_
  rintro e w' ⟨rfl, hH, hb'⟩
  exact ⟨rfl, ⟨hb.trans (hb'.mono hb.size), hH, hb.size, hK, by decide, hKl⟩⟩
theorem Run.start3 (K : List UInt64) (hKl : K.length = 80) (s : S8) (w wx : World) (hb : Below w.heap.size w wx) (hK : Glob w 2 K) (hS : Glob w 1 s.l) :
    Calls Tryd.prog 18 #[] wx fun e w' => e = .returned (.pointer (some ⟨wx.heap.size, 0, none⟩)) ∧ Run K s 48 wx.heap.size w w' [] := by
  refine (new384_any K s wx (hS.below hb hS.lt)).mono ?_
  rintro e w' ⟨rfl, hH, hb'⟩
  exact ⟨rfl, ⟨hb.trans (hb'.mono hb.size), hH, hb.size, hK, by decide, hKl⟩⟩
set_option maxRecDepth 100000 in
set_option maxHeartbeats 8000000 in
theorem again_no (K : List UInt64) (hKl : K.length = 80) (s5 s3 : S8) (ps : List (List UInt8)) (hl : ps.flatten.length ≤ 1048576) (hn : ps.length ≤ 1048576) (v : Value) (w : World) (hv : PAt w v ps) (hK : Glob w 2 K) (h5 : Glob w 0 s5.l) (h3 : Glob w 1 s3.l) :
    Calls Tryd.prog 4 #[v, .bool false] w fun e w' => e = .returned (.bool true) ∧ Below w.heap.size w w' := by
  have hK2 := hK.lt
  have haw := Aside0.mk (fun (wx : World) (hb : Below w.heap.size w wx) => awake2_any K hKl s5 wx (hK.below hb hK2) (h5.below hb h5.lt))
  have hB0 := Aside0.mk (Below.refl w.heap.size w)
  have hv' := Aside0.mk hv
  by_cases hf : ps.length ≤ 20 ∧ ps.flatten.length ≤ 600
  · have hfw := Aside0.mk (fun (wx : World) (hb : Below w.heap.size w wx) => few_yes ps hf v wx (hv.below hb))
    have hst5 := Aside0.mk (fun (wx : World) (hb : Below w.heap.size w wx) => Run.start5 K hKl s5 w wx hb hK h5)
    have hst3 := Aside0.mk (fun (wx : World) (hb : Below w.heap.size w wx) => Run.start3 K hKl s3 w wx hb hK h3)
    have hjn := Aside0.mk (fun (wx : World) (hb : Below w.heap.size w wx) => joined_any ps (by omega) (by omega) v wx (hv.below hb))
    have hadd := Aside0.mk (fun (s : S8) (size g : Nat) (wx : World) (hR : Run K s size g w wx []) => hR.add ps (by rw [List.length_nil]; omega) v (hv.below hR.far) (fun h0 ad n c e => by have := hv.block_lt h0 ad n c e; have := hR.new; omega))
    have hlf := Aside0.mk hf.2
    obtain ⟨A, c, rfl, -⟩ := hv
    clear hK h5 h3 hf hl hn
    go_enter Tryd.func4, Tryd.ntmps4
    go_wp2_with (first
      | (go_at_call 15; ((with_reducible refine (haw.out _ hB0.out).mono ?_); rintro e w1 ⟨rfl, hb1⟩; have hB1 := Aside0.mk hb1; clear hb1))
      | (go_at_call 16; ((with_reducible refine (hfw.out _ hB1.out).mono ?_); rintro e w2 ⟨rfl, hb2⟩; have hB2 := Aside0.mk (hB1.out.trans (hb2.mono hB1.out.size)); clear hb2))
      | (go_at_call 17; ((with_reducible refine (hst5.out _ hB2.out).mono ?_); rintro e w3 ⟨rfl, hr3⟩; have hR3 := Aside0.mk hr3; have hB3 := Aside0.mk hr3.far; clear hr3))
      | (go_at_call 18; ((with_reducible refine (hst3.out _ hB3.out).mono ?_); rintro e w4 ⟨rfl, hr4⟩; have hR4 := Aside0.mk hr4; clear hr4))
      | (go_at_call 19; ((with_reducible refine (hadd.out _ _ _ _ hR3.out).mono ?_); rintro e w5 ⟨rfl, hr5, _⟩; rw [List.nil_append] at hr5; have hR5 := Aside0.mk hr5; clear hr5))
      | (go_at_call 20; ((with_reducible refine (hR5.out.told (by have := hlf.out; omega)).mono ?_); rintro e w6 ⟨v6, rfl, hO6, hr6, -⟩; have cv6 := conv_run hO6.bat; have hR6 := Aside0.mk hr6; clear hr6 hO6))
      | (go_at_call 19; ((with_reducible refine (hR6.out.idle (by have := hlf.out; omega) [] rfl _ (PAt.nil _) (fun h => by simp at h)).mono ?_); rintro e w7 ⟨rfl, hr7⟩; have hR7 := Aside0.mk hr7; clear hr7; have hP7 := PAt.two (w := w7.alloc (.cells #[] 5)) (BAt.nil _) (BAt.empty _ w7.heap.size); rw [show (w7.alloc (.cells #[] 5)).heap.size = w7.heap.size + 1 by simp] at hP7; have hP7' := Aside0.mk hP7; clear hP7))
      | (go_at_call 19; ((with_reducible refine ((hR7.out.below (((Below.refl _ _).alloc (Nat.le_refl _) _).alloc (by simp) _)).idle (by have := hlf.out; omega) [[], []] rfl _ hP7'.out (fun _ ad n c e => by have := hR7.out.lt; injection e with e _ _; injection e with e; subst e; simp; omega)).mono ?_); rintro e w8 ⟨rfl, hr8⟩; have hR8 := Aside0.mk hr8; clear hr8))
      | (go_at_call 20; ((with_reducible refine (hR8.out.told (by have := hlf.out; omega)).mono ?_); rintro e w9 ⟨v9, rfl, hO9, hr9, -⟩; have cv9 := conv_run hO9.bat; have hR9 := Aside0.mk hr9; clear hr9 hO9))
      | (go_at_call 20; ((with_reducible refine (hR9.out.told (by have := hlf.out; omega)).mono ?_); rintro e w10 ⟨v10, rfl, hO10, hr10, -⟩; have cv10 := conv_run hO10.bat; have hR10 := Aside0.mk hr10; clear hr10 hO10))
      | (go_at_call 23; ((with_reducible refine (hR10.out.len).mono ?_); rintro e w11 ⟨rfl, rfl⟩))
      | (go_at_call 24; ((with_reducible refine (hjn.out _ hR10.out.far).mono ?_); rintro e w12 ⟨v12, rfl, hJ12, hb12⟩; obtain ⟨A12, c12, rfl⟩ := hJ12.len; have hB12 := Aside0.mk (hR10.out.far.trans (hb12.mono hR10.out.far.size)); clear hb12 hJ12)))
    go_ret
    exact ⟨rfl, hB12.out⟩
  · have hfw := Aside0.mk (fun (wx : World) (hb : Below w.heap.size w wx) => few_no ps (by omega) (by omega) hf v wx (hv.below hb))
    obtain ⟨A, c, rfl, -⟩ := hv
    clear hK h5 h3 hf hl hn
    go_enter Tryd.func4, Tryd.ntmps4
    go_wp2_with (first
      | (go_at_call 15; ((with_reducible refine (haw.out _ hB0.out).mono ?_); rintro e w1 ⟨rfl, hb1⟩; have hB1 := Aside0.mk hb1; clear hb1))
      | (go_at_call 16; ((with_reducible refine (hfw.out _ hB1.out).mono ?_); rintro e w2 ⟨rfl, hb2⟩; have hB2 := Aside0.mk (hB1.out.trans (hb2.mono hB1.out.size)); clear hb2))
      | (go_at_call 15; ((with_reducible refine (haw.out _ hB2.out).mono ?_); rintro e w3 ⟨rfl, hb3⟩; have hB3 := Aside0.mk (hB2.out.trans (hb3.mono hB2.out.size)); clear hb3)))
    go_ret
    exact ⟨rfl, hB3.out⟩
set_option maxRecDepth 100000 in
set_option maxHeartbeats 8000000 in
theorem again_yes (K : List UInt64) (hKl : K.length = 80) (s5 s3 : S8) (ps : List (List UInt8)) (hl : ps.flatten.length ≤ 1048576) (hn : ps.length ≤ 1048576) (v : Value) (w : World) (hv : PAt w v ps) (hK : Glob w 2 K) (h5 : Glob w 0 s5.l) (h3 : Glob w 1 s3.l) :
    Calls Tryd.prog 4 #[v, .bool true] w fun e w' => e = .returned (.bool true) ∧ Below w.heap.size w w' := by
  have hK2 := hK.lt
  have haw := Aside0.mk (fun (wx : World) (hb : Below w.heap.size w wx) => awake2_any K hKl s5 wx (hK.below hb hK2) (h5.below hb h5.lt))
  have hB0 := Aside0.mk (Below.refl w.heap.size w)
  have hv' := Aside0.mk hv
  by_cases hf : ps.length ≤ 20 ∧ ps.flatten.length ≤ 600
  · have hfw := Aside0.mk (fun (wx : World) (hb : Below w.heap.size w wx) => few_yes ps hf v wx (hv.below hb))
    have hst5 := Aside0.mk (fun (wx : World) (hb : Below w.heap.size w wx) => Run.start5 K hKl s5 w wx hb hK h5)
    have hst3 := Aside0.mk (fun (wx : World) (hb : Below w.heap.size w wx) => Run.start3 K hKl s3 w wx hb hK h3)
    have hjn := Aside0.mk (fun (wx : World) (hb : Below w.heap.size w wx) => joined_any ps (by omega) (by omega) v wx (hv.below hb))
    have hadd := Aside0.mk (fun (s : S8) (size g : Nat) (wx : World) (hR : Run K s size g w wx []) => hR.add ps (by rw [List.length_nil]; omega) v (hv.below hR.far) (fun h0 ad n c e => by have := hv.block_lt h0 ad n c e; have := hR.new; omega))
    have hlf := Aside0.mk hf.2
    obtain ⟨A, c, rfl, -⟩ := hv
    clear hK h5 h3 hf hl hn
    go_enter Tryd.func4, Tryd.ntmps4
    go_wp2_with (first
      | (go_at_call 15; ((with_reducible refine (haw.out _ hB0.out).mono ?_); rintro e w1 ⟨rfl, hb1⟩; have hB1 := Aside0.mk hb1; clear hb1))
      | (go_at_call 16; ((with_reducible refine (hfw.out _ hB1.out).mono ?_); rintro e w2 ⟨rfl, hb2⟩; have hB2 := Aside0.mk (hB1.out.trans (hb2.mono hB1.out.size)); clear hb2))
      | (go_at_call 17; ((with_reducible refine (hst5.out _ hB2.out).mono ?_); rintro e w3 ⟨rfl, hr3⟩; have hR3 := Aside0.mk hr3; have hB3 := Aside0.mk hr3.far; clear hr3))
      | (go_at_call 18; ((with_reducible refine (hst3.out _ hB3.out).mono ?_); rintro e w4 ⟨rfl, hr4⟩; have hR4 := Aside0.mk hr4; clear hr4))
      | (go_at_call 19; ((with_reducible refine (hadd.out _ _ _ _ hR4.out).mono ?_); rintro e w5 ⟨rfl, hr5, _⟩; rw [List.nil_append] at hr5; have hR5 := Aside0.mk hr5; clear hr5))
      | (go_at_call 20; ((with_reducible refine (hR5.out.told (by have := hlf.out; omega)).mono ?_); rintro e w6 ⟨v6, rfl, hO6, hr6, -⟩; have cv6 := conv_run hO6.bat; have hR6 := Aside0.mk hr6; clear hr6 hO6))
      | (go_at_call 19; ((with_reducible refine (hR6.out.idle (by have := hlf.out; omega) [] rfl _ (PAt.nil _) (fun h => by simp at h)).mono ?_); rintro e w7 ⟨rfl, hr7⟩; have hR7 := Aside0.mk hr7; clear hr7; have hP7 := PAt.two (w := w7.alloc (.cells #[] 5)) (BAt.nil _) (BAt.empty _ w7.heap.size); rw [show (w7.alloc (.cells #[] 5)).heap.size = w7.heap.size + 1 by simp] at hP7; have hP7' := Aside0.mk hP7; clear hP7))
      | (go_at_call 19; ((with_reducible refine ((hR7.out.below (((Below.refl _ _).alloc (Nat.le_refl _) _).alloc (by simp) _)).idle (by have := hlf.out; omega) [[], []] rfl _ hP7'.out (fun _ ad n c e => by have := hR7.out.lt; injection e with e _ _; injection e with e; subst e; simp; omega)).mono ?_); rintro e w8 ⟨rfl, hr8⟩; have hR8 := Aside0.mk hr8; clear hr8))
      | (go_at_call 20; ((with_reducible refine (hR8.out.told (by have := hlf.out; omega)).mono ?_); rintro e w9 ⟨v9, rfl, hO9, hr9, -⟩; have cv9 := conv_run hO9.bat; have hR9 := Aside0.mk hr9; clear hr9 hO9))
      | (go_at_call 20; ((with_reducible refine (hR9.out.told (by have := hlf.out; omega)).mono ?_); rintro e w10 ⟨v10, rfl, hO10, hr10, -⟩; have cv10 := conv_run hO10.bat; have hR10 := Aside0.mk hr10; clear hr10 hO10))
      | (go_at_call 23; ((with_reducible refine (hR10.out.len).mono ?_); rintro e w11 ⟨rfl, rfl⟩))
      | (go_at_call 24; ((with_reducible refine (hjn.out _ hR10.out.far).mono ?_); rintro e w12 ⟨v12, rfl, hJ12, hb12⟩; obtain ⟨A12, c12, rfl⟩ := hJ12.len; have hB12 := Aside0.mk (hR10.out.far.trans (hb12.mono hR10.out.far.size)); clear hb12 hJ12)))
    go_ret
    exact ⟨rfl, hB12.out⟩
  · have hfw := Aside0.mk (fun (wx : World) (hb : Below w.heap.size w wx) => few_no ps (by omega) (by omega) hf v wx (hv.below hb))
    obtain ⟨A, c, rfl, -⟩ := hv
    clear hK h5 h3 hf hl hn
    go_enter Tryd.func4, Tryd.ntmps4
    go_wp2_with (first
      | (go_at_call 15; ((with_reducible refine (haw.out _ hB0.out).mono ?_); rintro e w1 ⟨rfl, hb1⟩; have hB1 := Aside0.mk hb1; clear hb1))
      | (go_at_call 16; ((with_reducible refine (hfw.out _ hB1.out).mono ?_); rintro e w2 ⟨rfl, hb2⟩; have hB2 := Aside0.mk (hB1.out.trans (hb2.mono hB1.out.size)); clear hb2))
      | (go_at_call 15; ((with_reducible refine (haw.out _ hB2.out).mono ?_); rintro e w3 ⟨rfl, hb3⟩; have hB3 := Aside0.mk (hB2.out.trans (hb3.mono hB2.out.size)); clear hb3)))
    go_ret
    exact ⟨rfl, hB3.out⟩
end Go.Proofs.YtnaiifidcpdamaaDoor
