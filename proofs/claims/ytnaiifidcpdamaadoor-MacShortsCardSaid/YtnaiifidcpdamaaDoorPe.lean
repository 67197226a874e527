/-
  Check of package mac; awake of chapter 3.
-/
import Derived.Test.YtnaiifidcpdamaaDoorPd
import Derived.Lib.SlBytesConst
set_option linter.unusedVariables false
set_option linter.unusedSimpArgs false
namespace Go.Proofs.YtnaiifidcpdamaaDoor
open Go.RowKit Go.Og Go.Ub Go.Proofs.YtnaiifidcpdamaaDoorW.PrintWords
set_option maxRecDepth 100000 in
set_option maxHeartbeats 4000000 in
theorem check_any (K : List UInt64) (hKl : K.length = 80) (s : S8) (l : List UInt8) (hl : l.length ≤ 1000000) (b : List UInt8) (hbl : b.length ≤ 1000000000) (ps : List (List UInt8)) (hps : ps.flatten.length ≤ 80000000) (v u pv : Value) (w : World) (hv : BAt w v l) (hu : BAt w u b) (hp : PAt w pv ps) (hK : Glob w 2 K) (hS : Glob w 1 s.l) :
    Calls Tryd.prog 32 #[v, u, pv] w fun e w' => e = .returned (.int .i64 (if b = macs K s l ps.flatten then 0 else 8)) ∧ Below w.heap.size w w' := by
  have hsm := Aside0.mk (macsum_any K hKl s l hl ps hps v pv w hv hp hK hS)
  have hsame := Aside0.mk (fun (x : Value) (wx : World) (hb : Below w.heap.size w wx) (hx : BAt wx x (macs K s l ps.flatten)) => same_any b (macs K s l ps.flatten) hbl u x wx (hu.below hb) hx)
  obtain ⟨A, c, rfl, -⟩ := hv
  obtain ⟨A1, c1, rfl, -⟩ := hu
  obtain ⟨A2, c2, rfl, -⟩ := hp
  clear hK hS hl hps hbl
  go_enter Tryd.func32, Tryd.ntmps32
  by_cases hq : b = macs K s l ps.flatten
  · have hd : decide (b = macs K s l ps.flatten) = true := decide_eq_true hq
    have hi : (if b = macs K s l ps.flatten then (0 : Int) else 8) = 0 := if_pos hq
    rw [hd] at hsame
    rw [hi]
    clear hq hd hi
    go_wp2_with (first
      | (go_at_call 30; ((with_reducible refine hsm.out.mono ?_); rintro e w1 ⟨x, rfl, hx, hb⟩; have hx' := Aside0.mk hx; have hb' := Aside0.mk hb; clear hx hb))
      | (go_at_call 43; ((with_reducible refine (hsame.out _ _ hb'.out hx'.out).mono ?_); rintro e w2 ⟨rfl, hb2⟩; have hb2' := Aside0.mk (hb'.out.trans (hb2.mono hb'.out.size)); clear hb2)))
    go_ret
    exact ⟨rfl, hb2'.out⟩
  · have hd : decide (b = macs K s l ps.flatten) = false := decide_eq_false hq
    have hi : (if b = macs K s l ps.flatten then (0 : Int) else 8) = 8 := if_neg hq
    rw [hd] at hsame
    rw [hi]
    clear hq hd hi
    go_wp2_with (first
      | (go_at_call 30; ((with_reducible refine hsm.out.mono ?_); rintro e w1 ⟨x, rfl, hx, hb⟩; have hx' := Aside0.mk hx; have hb' := Aside0.mk hb; clear hx hb))
      | (go_at_call 43; ((with_reducible refine (hsame.out _ _ hb'.out hx'.out).mono ?_); rintro e w2 ⟨rfl, hb2⟩; have hb2' := Aside0.mk (hb'.out.trans (hb2.mono hb'.out.size)); clear hb2)))
    go_ret
    exact ⟨rfl, hb2'.out⟩
theorem mk48 (w : World) : (Instr.makeSlice 27 (.int .i64 48) (.int .i64 48)).run Tryd.prog w = .ok (.slice (some ⟨w.heap.size, 0, none⟩) 48 48) (w.alloc (.cells (zb 48) 5)) := make_run 48 (by decide) w
set_option maxRecDepth 100000 in
set_option maxHeartbeats 4000000 in
theorem expand0_any (K : List UInt64) (hKl : K.length = 80) (s : S8) (l : List UInt8) (hl : l.length ≤ 1000000) (v : Value) (w : World) (hv : BAt w v l) (hK : Glob w 2 K) (hS : Glob w 1 s.l) :
    Calls Tryd.prog 28 #[v, .slice none 0 0, .slice none 0 0, .int .i64 0] w fun e w' => e = .returned (.tuple #[.slice none 0 0, .int .i64 0]) ∧ Below w.heap.size w w' := by
  have hK2 := hK.lt
  have hS1 := hS.lt
  have hmk := mk48
  have hz := make_bat 48 (by decide) w
  have hb1 : Below w.heap.size w (w.alloc (.cells (zb 48) 5)) := (Below.refl _ _).alloc (Nat.le_refl _) _
  have hsz1 : (w.alloc (.cells (zb 48) 5)).heap.size = w.heap.size + 1 := by simp
  have hP := PAt.one (hv.alloc (.cells (zb 48) 5))
  rw [hsz1] at hP
  have hb2 : Below w.heap.size w ((w.alloc (.cells (zb 48) 5)).alloc (.cells #[v] 27)) := hb1.alloc hb1.size _
  have hsm := Aside0.mk (macsum_any K hKl s (List.replicate 48 0) (by simp) [l] (by simp; omega) _ _ _ (hz.alloc _) hP (hK.below hb2 hK2) (hS.below hb2 hS1))
  have hb2' := Aside0.mk hb2
  obtain ⟨A, c, rfl, -⟩ := hv
  clear hK hS hl hz hb1 hsz1 hP hb2
  go_enter Tryd.func28, Tryd.ntmps28
  go_wp2_with (first
    | (go_at_call 30; ((with_reducible refine hsm.out.mono ?_); rintro e w1 ⟨x, rfl, hx, hb⟩; have hb' := Aside0.mk (hb2'.out.trans (hb.mono hb2'.out.size)); clear hx hb)))
  go_loopw [11, 12, 13] (fun o la i wr => o = .slice none 0 0 ∧ wr = w1) (fun _ _ _ _ => 0)
  case atStart => exact ⟨rfl, rfl⟩
  case round =>
    obtain ⟨rfl, rfl⟩ := hrel
    go_wp2
    go_ret2
    exact ⟨rfl, hb'.out⟩
theorem conv_k (w : World) : (convert 27 27 (.slice (some ⟨w.heap.size, 0, none⟩) 1 1)).run Tryd.prog (w.alloc (.cells #[.int .u8 107] 5)) = .ok (.slice (some ⟨w.heap.size, 0, none⟩) 1 1) (w.alloc (.cells #[.int .u8 107] 5 (1, 2))) :=
  Lib.run_convert_bytes_const (P := Tryd.prog) w 27 5 #[.int .u8 107] 1 1 Tryd.underlying27 Tryd.underlying5
theorem bat_k (w : World) : BAt (w.alloc (.cells #[.int .u8 107] 5 (1, 2))) (.slice (some ⟨w.heap.size, 0, none⟩) 1 1) [107] := by
  refine BAt.mk_ (l := [107]) (A := some ⟨w.heap.size, 0, none⟩) (c := 1) (by decide) (by decide) fun _ => ⟨_, rfl, fun j hj => ?_⟩
  obtain rfl : j = 0 := by simp at hj; omega
  rw [add_plain, cell_of_row _ w.heap.size 0 #[.int .u8 107] 5 (1, 2) (MapKept.heap_alloc w _).1]
  rfl
set_option maxRecDepth 100000 in
set_option maxHeartbeats 4000000 in
theorem awake3_any (K : List UInt64) (hKl : K.length = 80) (s : S8) (w : World) (hK : Glob w 2 K) (hS : Glob w 1 s.l) : Calls Tryd.prog 27 #[] w fun e w' => e = .returned (.bool true) ∧ Below w.heap.size w w' := by
  have hK2 := hK.lt
  have hS1 := hS.lt
  have hex := Aside0.mk (fun (v : Value) (wx : World) (hb : Below w.heap.size w wx) (hv : BAt wx v [107]) => expand0_any K hKl s [107] (by decide) v wx hv (hK.below hb hK2) (hS.below hb hS1))
  have hsm := Aside0.mk (fun (v : Value) (wx : World) (hb : Below w.heap.size w wx) (hv : BAt wx v [107]) => macsum_any K hKl s [107] (by decide) [] (by decide) v (.slice none 0 0) wx hv (PAt.nil wx) (hK.below hb hK2) (hS.below hb hS1))
  have hk := Aside0.mk bat_k
  have hB0 : Below w.heap.size w (w.alloc (.cells #[.int .u8 107] 5 (1, 2))) := (Below.refl _ _).alloc (Nat.le_refl _) _
  have hml := macs_length K s [107] ([] : List (List UInt8)).flatten
  have hcv := conv_k
  have hB0' := Aside0.mk hB0
  have hml' := Aside0.mk hml
  clear hK hS hB0 hml
  go_enter Tryd.func27, Tryd.ntmps27
  go_wp2_with (first
    | (go_at_call 28; ((with_reducible refine (hex.out _ _ hB0'.out (hk.out w)).mono ?_); rintro e w1 ⟨rfl, hb⟩; have hb1 := Aside0.mk (hB0'.out.trans (hb.mono hB0'.out.size)); have hb1a := Aside0.mk (hb1.out.alloc hb1.out.size (.cells #[.int .u8 107] 5 (1, 2))); clear hb))
    | (go_at_call 30; ((with_reducible refine (hsm.out _ _ hb1a.out (hk.out w1)).mono ?_); rintro e w2 ⟨x, rfl, hx, hb⟩; obtain ⟨A, c, rfl⟩ := hx.len; rw [hml'.out]; have hb2 := Aside0.mk (hb1a.out.trans (hb.mono hb1a.out.size)); clear hb hx)))
  go_ret
  exact ⟨rfl, hb2.out⟩
end Go.Proofs.YtnaiifidcpdamaaDoor
