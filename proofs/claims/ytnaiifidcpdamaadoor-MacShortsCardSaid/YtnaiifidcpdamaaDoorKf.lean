/-
  Slices of slices of bytes; Grow, Concat, Clone of the library at bytes; New512, New384, Len.
-/
import Derived.Test.YtnaiifidcpdamaaDoorKe
set_option linter.unusedVariables false
set_option linter.unusedSimpArgs false
namespace Go.Proofs.YtnaiifidcpdamaaDoor
open Go.RowKit Go.Og Go.Ub Go.Proofs.YtnaiifidcpdamaaDoorW.PrintWords
/-- A slice of slices that hold bytes. -/
def PAt (w : World) (v : Value) (ps : List (List UInt8)) : Prop := ∃ A c, v = .slice A ps.length c ∧ ps.length ≤ c ∧ ps.length ≤ 9223372036854775807 ∧
  (0 < ps.length → ∃ ad, A = some ad ∧ ∀ j, j < ps.length → ∃ u, w.cell? (ad.add j) = some u ∧ BAt w u (ps.getD j []))
theorem PAt.below {w w' : World} {v : Value} {ps : List (List UInt8)} (h : PAt w v ps) (hb : Below w.heap.size w w') : PAt w' v ps := by
  obtain ⟨A, c, hv, hc, hm, hh⟩ := h
  refine ⟨A, c, hv, hc, hm, fun hn => ?_⟩
  obtain ⟨ad, hA, hcell⟩ := hh hn
  refine ⟨ad, hA, fun j hj => ?_⟩
  obtain ⟨u, hu, hB⟩ := hcell j hj
  exact ⟨u, (hb.cell (World.block_lt_of_cell? w _ hu)).trans hu, hB.below hb⟩
theorem PAt.nil (w : World) : PAt w (.slice none 0 0) [] := ⟨none, 0, rfl, Nat.le_refl _, by simp, fun h => absurd h (by simp)⟩
theorem PAt.addr {w : World} {v : Value} {ps : List (List UInt8)} (h : PAt w v ps) : ∃ A c, v = .slice A ps.length c ∧ ps.length ≤ c ∧ ∀ j, j < ps.length → ∃ ad u, A = some ad ∧ w.cell? (ad.add j) = some u ∧ BAt w u (ps.getD j []) := by
  obtain ⟨A, c, hv, hc, hm, hh⟩ := h
  refine ⟨A, c, hv, hc, fun j hj => ?_⟩
  obtain ⟨ad, hA, hcell⟩ := hh (by omega)
  obtain ⟨u, hu, hB⟩ := hcell j hj
  exact ⟨ad, u, hA, hu, hB⟩
theorem PAt.one {w : World} {u : Value} {l : List UInt8} (h : BAt w u l) : PAt (w.alloc (.cells #[u] 27)) (.slice (some ⟨w.heap.size, 0, none⟩) 1 1) [l] := by
  refine ⟨_, 1, rfl, Nat.le_refl _, by simp, fun _ => ⟨_, rfl, fun j hj => ?_⟩⟩
  obtain rfl : j = 0 := by simp at hj; omega
  exact ⟨u, by rw [add_plain, (Blk.new (w := w) w.heap.size 27 _ rfl).cell 0]; rfl, h.alloc _⟩
theorem PAt.two {w : World} {u u' : Value} {l l' : List UInt8} (h : BAt w u l) (h' : BAt w u' l') : PAt (w.alloc (.cells #[u, u'] 27)) (.slice (some ⟨w.heap.size, 0, none⟩) 2 2) [l, l'] := by
  refine ⟨_, 2, rfl, Nat.le_refl _, by simp, fun _ => ⟨_, rfl, fun j hj => ?_⟩⟩
  have : j = 0 ∨ j = 1 := by simp at hj; omega
  rcases this with rfl | rfl
  · exact ⟨u, by rw [add_plain, (Blk.new (w := w) w.heap.size 27 _ rfl).cell 0]; rfl, h.alloc _⟩
  · exact ⟨u', by rw [add_plain, (Blk.new (w := w) w.heap.size 27 _ rfl).cell 1]; rfl, h'.alloc _⟩
theorem PAt.three {w : World} {u u' u'' : Value} {l l' l'' : List UInt8} (h : BAt w u l) (h' : BAt w u' l') (h'' : BAt w u'' l'') : PAt (w.alloc (.cells #[u, u', u''] 27)) (.slice (some ⟨w.heap.size, 0, none⟩) 3 3) [l, l', l''] := by
  refine ⟨_, 3, rfl, Nat.le_refl _, by simp, fun _ => ⟨_, rfl, fun j hj => ?_⟩⟩
  have : j = 0 ∨ j = 1 ∨ j = 2 := by simp at hj; omega
  rcases this with rfl | rfl | rfl
  · exact ⟨u, by rw [add_plain, (Blk.new (w := w) w.heap.size 27 _ rfl).cell 0]; rfl, h.alloc _⟩
  · exact ⟨u', by rw [add_plain, (Blk.new (w := w) w.heap.size 27 _ rfl).cell 1]; rfl, h'.alloc _⟩
  · exact ⟨u'', by rw [add_plain, (Blk.new (w := w) w.heap.size 27 _ rfl).cell 2]; rfl, h''.alloc _⟩
theorem OAt.take {w : World} {base n c : Nat} {A : Option Addr} {l : List UInt8} (h : OAt w base (.slice A n c) l) (m : Nat) (hm : m ≤ l.length) : OAt w base (.slice A m c) (l.take m) := by
  have hl : (l.take m).length = m := by simp; omega
  unfold OAt at *
  rw [hl]
  rcases h with ⟨h1, h2⟩
  refine ⟨by rw [bcs_length, hl]; omega, ?_⟩
  rcases h2 with ⟨hv, hn⟩ | ⟨g, cap, cur, hv, hg, hh, hnc, hcm, hs, ht⟩
  · injection hv with e1 e2 e3
    obtain rfl : m = 0 := by omega
    subst e1 e3
    exact .inl ⟨rfl, rfl⟩
  · injection hv with e1 e2 e3
    subst e1 e3
    refine .inr ⟨g, c, cur, rfl, hg, hh, by omega, hcm, hs, ?_⟩
    have : bcs (l.take m) = (bcs l).take m := by simp [bcs, List.map_take]
    rw [this, ← ht, List.take_take, Nat.mul_one, Nat.min_eq_left (by omega)]
theorem wpList_appz {ops : Array Oper} {rest : List Oper} {o : Oper} {a : Act} {Q : Exit → Act → World → Prop} {w0 w : World} {base : Nat} (hgd : o.guard = none) (s x : Operand)
    (ho : o.op = .call { callee := .builtin .append, args := #[s, x], argTypes := #[27, 3] }) (v : Value) (l : List UInt8) (hs : a.eval s = v) (hown : OAt w base v l) (m : Nat) (hx : a.eval x = .int .i64 m)
    (hlen : l.length + m ≤ 1000000000) (hbase : base ≤ w.heap.size) (hb : Below base w0 w)
    (h : ∀ v' w', OAt w' base v' (l ++ List.replicate m 0) → Below base w0 w' → wpList Tryd.prog ops Q rest (a.put o.dst v') w') : wpList Tryd.prog ops Q (o :: rest) a w := by
  refine wpList_plain hgd fun _ hK => ?_
  obtain ⟨i, hi, hz, hsz, hy⟩ := info_parts info5
  have hzc : (Builtin.zeroCells (Value.int .u8 0).cells m).toList = bcs (List.replicate m 0) := by
    have : ∀ k, (Builtin.zeroCells (Value.int .u8 0).cells k).toList = List.replicate k (.int .u8 0) := by
      intro k
      simp only [Builtin.zeroCells, Value.cells]
      refine List.eq_replicate_iff.2 ⟨by simp, fun b hb => ?_⟩
      simp at hb
      obtain ⟨i, _, rfl⟩ := hb
      rw [Nat.mod_one]
      rfl
    rw [this]
    simp [bcs]
    right
    rfl
  obtain ⟨v', w', hrun, h2, h3, _⟩ := run_append_zeros (P := Tryd.prog) w base 27 3 o.type 5 i (.int .u8 0) 1 1 Tryd.underlying27 Tryd.underlying3 hi hz hsz hy rfl (by decide) (by decide) v l.length (bcs l) hown .i64 m (by rw [hzc]; exact bcs_one _) (by omega) hbase
  unfold Oper.wp execOp
  simp only [ho, resolve, invoke, builtin, Sem.run_bind, Sem.run_pure, Result.andThen_ok, List.map_toArray, List.map_cons, List.map_nil, hs, hx, hrun]
  refine hK _ _ (h v' w' ?_ (hb.grown h3 hbase (own_base hown)))
  unfold OAt
  rw [List.length_append, List.length_replicate, bcs_append, ← hzc]
  exact h2
set_option maxRecDepth 100000 in
set_option maxHeartbeats 4000000 in
theorem grow_any (n : Nat) (hn : n ≤ 1000000000) (w : World) :
    Calls Tryd.prog 45 #[.slice none 0 0, .int .i64 n] w fun e w' => ∃ v, e = .returned v ∧ OAt w' w.heap.size v [] ∧ Below w.heap.size w w' := by
  rcases Nat.eq_zero_or_pos n with rfl | hpos
  · go_enter Tryd.func45, Tryd.ntmps45
    go_wp2
    go_ret
    exact ⟨_, rfl, OAt.nil _ _, Below.refl _ _⟩
  · go_enter Tryd.func45, Tryd.ntmps45
    go_wp2_with (at_builtin; go_loud (refine wpList_appz (w0 := w) (base := w.heap.size) rfl (.tmp 20) (.tmp 21) rfl _ [] rfl (OAt.nil _ _) n rfl (by simp; omega) (Nat.le_refl _) (Below.refl _ _) ?_); intro v' w' hO hb; obtain ⟨A, c, rfl⟩ := hO.slice; have hO' := Lib.hid hO; have hb' := Lib.hid hb; clear hO hb)
    go_ret
    refine ⟨_, rfl, ?_, hb'.out⟩
    have := hO'.out.take 0 (Nat.zero_le _)
    rw [List.take_zero] at this
    exact this
theorem flat_succ (ps : List (List UInt8)) (k : Nat) (h : k < ps.length) : (ps.take (k + 1)).flatten = (ps.take k).flatten ++ ps.getD k [] := by
  rw [List.take_succ_eq_append_getElem h, List.flatten_append]
  simp [h]
theorem flat_le (ps : List (List UInt8)) (k : Nat) : (ps.take k).flatten.length ≤ ps.flatten.length := by
  conv => rhs; rw [← List.take_append_drop k ps, List.flatten_append, List.length_append]
  omega
set_option maxRecDepth 100000 in
set_option maxHeartbeats 4000000 in
theorem concat_any (ps : List (List UInt8)) (hl : ps.flatten.length ≤ 1000000000) (v : Value) (w : World) (hv : PAt w v ps) :
    Calls Tryd.prog 35 #[v] w fun e w' => ∃ v, e = .returned v ∧ OAt w' w.heap.size v ps.flatten ∧ Below w.heap.size w w' := by
  have hv0 := Lib.hid hv
  obtain ⟨A, c, rfl, hc, hcell⟩ := hv.addr
  have hm : ps.length ≤ 9223372036854775807 := by obtain ⟨_, _, _, _, h, _⟩ := hv; exact h
  have hcell' := Lib.hid hcell
  clear hv hcell
  go_enter Tryd.func35, Tryd.ntmps35
  go_wp2
  go_loop [3, 11] (fun s i => ∃ k : Nat, k ≤ ps.length ∧ i = .int .i64 k ∧ s = .int .i64 ((ps.take k).flatten.length : Nat)) (fun _ i => ps.length - (intOf i).toNat)
  case atStart => exact ⟨0, by omega, rfl, by simp⟩
  case round =>
    obtain ⟨k, hk, rfl, rfl⟩ := hrel
    by_cases hlt : k < ps.length
    · obtain ⟨ad, u, rfl, hu, hB⟩ := hcell'.out k hlt
      obtain ⟨A', c', rfl, hc'⟩ := hB.slice
      have hs := flat_succ ps k hlt
      have hle := flat_le ps (k + 1)
      have hsl : (ps.take (k + 1)).flatten.length = (ps.take k).flatten.length + (ps.getD k []).length := by rw [hs, List.length_append]
      rw [hsl] at hle
      have hsl' := Lib.hid hsl
      clear hs hsl hB
      generalize (ps.take k).flatten.length = n0 at *
      generalize (ps.getD k []).length = n1 at *
      have d1 : decide ((k : Int) < (ps.length : Int)) = true := decide_eq_true (by omega)
      go_wp2
      go_round
      case rel => exact ⟨k + 1, by omega, by go_num, by rw [hsl'.out]; go_num⟩
      case measure => simp [intOf]; omega
    · obtain rfl : k = ps.length := by omega
      have hle := hl
      rw [show (ps.take ps.length).flatten.length = ps.flatten.length by rw [List.take_length]]
      obtain ⟨N, hN⟩ : ∃ N, N = ps.flatten.length := ⟨_, rfl⟩
      rw [← hN] at hle ⊢
      have hN' := Lib.hid hN
      have hl' := Lib.hid hl
      have hg := Lib.hid (grow_any N hle)
      clear hN hl hle
      go_wp2_with (go_at_call 45; refine (hg.out _).mono ?_; rintro e w1 ⟨v1, rfl, hO, hb⟩)
      have hO' := Lib.hid hO
      have hb' := Lib.hid hb
      clear hO hb
      go_loopw [6, 27] (fun v i wr => ∃ k : Nat, k ≤ ps.length ∧ i = .int .i64 k ∧ OAt wr w.heap.size v (ps.take k).flatten ∧ Below w.heap.size w wr) (fun _ i _ => ps.length - (intOf i).toNat)
      case atStart => exact ⟨0, by omega, rfl, hO'.out, hb'.out⟩
      case round =>
        obtain ⟨k, hk, rfl, hO1, hb1⟩ := hrel
        have hO1' := Lib.hid hO1
        have hb1' := Lib.hid hb1
        clear hO1 hb1 hO' hb'
        by_cases hlt : k < ps.length
        · obtain ⟨ad, u, rfl, hu, hB⟩ := hcell'.out k hlt
          have hu1 : wr.cell? (ad.add k) = some u := (hb1'.out.cell (World.block_lt_of_cell? w _ hu)).trans hu
          obtain ⟨A', c', rfl, hc'⟩ := hB.slice
          have hB' := Lib.hid hB
          have hs := Lib.hid (flat_succ ps k hlt)
          have hle := flat_le ps (k + 1)
          rw [hs.out, List.length_append] at hle
          have hle' := Lib.hid hle
          have d1 : decide ((k : Int) < (ps.length : Int)) = true := decide_eq_true (by omega)
          clear hB hle hu
          generalize ps.getD k [] = p at *
          go_wp2_with (at_builtin; go_loud (refine wpList_app (w0 := w) (base := w.heap.size) rfl (.tmp 31) (.tmp 32) rfl _ _ rfl hO1'.out _ p rfl (hB'.out.below hb1'.out) (by have := hle'.out; have := hl'.out; omega) hb1'.out.size hb1'.out ?_); intro v' w' hO2 hb2; have hO2' := Lib.hid hO2; have hb2' := Lib.hid hb2; clear hO2 hb2)
          exact ⟨⟨k + 1, by omega, by simp, by rw [hs.out]; exact hO2'.out, hb2'.out⟩, by simp [intOf]; omega⟩
        · obtain rfl : k = ps.length := by omega
          go_wp2
          go_ret
          refine ⟨_, rfl, ?_, hb1'.out⟩
          have := hO1'.out
          rw [List.take_length] at this
          exact this
set_option maxRecDepth 100000 in
set_option maxHeartbeats 4000000 in
theorem clone_any (l : List UInt8) (hl : l.length ≤ 100000000) (v : Value) (w : World) (hv : BAt w v l) :
    Calls Tryd.prog 37 #[v] w fun e w' => ∃ v, e = .returned v ∧ OAt w' w.heap.size v l ∧ Below w.heap.size w w' := by
  have hv' := Lib.hid hv
  obtain ⟨A, c, rfl, hc⟩ := hv.slice
  clear hv
  rcases A with _ | ad
  · have h0 : l.length = 0 := by
      rcases Nat.eq_zero_or_pos l.length with h | h
      · exact h
      · obtain ⟨A, c', e, _, hC⟩ := hv'.out
        injection e with e1 e2 e3
        subst e1
        obtain ⟨ad, h1, _⟩ := C_addr hC h
        cases h1
    obtain rfl : l = [] := List.eq_nil_of_length_eq_zero h0
    have he := fun w n c => Lib.run_eql_slice_nil (P := Tryd.prog) w 27 5 none n c 0 0 Tryd.underlying27
    go_enter Tryd.func37, Tryd.ntmps37
    go_wp2
    go_ret
    exact ⟨_, rfl, OAt.nil _ _, Below.refl _ _⟩
  · have he := fun w n c => Lib.run_eql_slice_nil (P := Tryd.prog) w 27 5 (some ad) n c 0 0 Tryd.underlying27
    go_enter Tryd.func37, Tryd.ntmps37
    go_wp2_with (at_builtin; go_loud (refine wpList_app (w0 := w) (base := w.heap.size) rfl (.tmp 5) (.tmp 6) rfl _ [] rfl (OAt.new _ [] (by simp)) _ l rfl (hv'.out.alloc _) (by simp; omega) (by simp) ((Below.refl _ _).alloc (Nat.le_refl _) _) ?_); intro v' w' hO2 hb2; have hO2' := Lib.hid hO2; have hb2' := Lib.hid hb2; clear hO2 hb2)
    go_ret
    exact ⟨_, rfl, hO2'.out, hb2'.out⟩
end Go.Proofs.YtnaiifidcpdamaaDoor
