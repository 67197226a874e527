/-
  Appending bytes: a slice of the call's own, and what is put behind it.
-/
import Derived.Test.YtnaiifidcpdamaaDoorKd
import Derived.Maps.AppendAt
set_option linter.unusedVariables false
set_option linter.unusedSimpArgs false
namespace Go.Proofs.YtnaiifidcpdamaaDoor
open Go.RowKit Go.Og Go.Ub Go.Proofs.YtnaiifidcpdamaaDoorW.PrintWords
def bcs (l : List UInt8) : List Value := l.map fun b => Value.int .u8 (bi b)
theorem bcs_length (l : List UInt8) : (bcs l).length = l.length := by simp [bcs]
theorem bcs_append (l m : List UInt8) : bcs (l ++ m) = bcs l ++ bcs m := by simp [bcs]
theorem bcs_get (l : List UInt8) (j : Nat) (h : j < l.length) : (bcs l)[j]? = some (.int .u8 (bi (l.getD j 0))) := by simp [bcs, h]
theorem bcs_one (l : List UInt8) : ∀ u ∈ bcs l, u.oneCell' = true := fun u hu => by
  simp only [bcs, List.mem_map] at hu
  obtain ⟨x, _, rfl⟩ := hu
  rfl
/-- A slice of bytes of the call's own. -/
def OAt (w : World) (base : Nat) (v : Value) (l : List UInt8) : Prop := w.ownsRow base 5 1 v l.length (bcs l)
section
variable {w w' : World} {base : Nat} {v : Value} {l : List UInt8}
theorem OAt.nil (w : World) (base : Nat) : OAt w base (.slice none 0 0) [] := World.ownsRow_nil _ _ _ _
theorem OAt.alloc (h : OAt w base v l) (o : Obj) : OAt (w.alloc o) base v l := World.ownsRow.alloc h o
theorem OAt.below (h : OAt w base v l) (hb : Below w.heap.size w w') : OAt w' base v l := pw_own_below h hb
theorem OAt.lower {base' : Nat} (h : OAt w base v l) (hb : base' ≤ base) : OAt w base' v l := own_weaken h hb
theorem OAt.drew (h : OAt w base v l) : OAt w.drew base v l := h
theorem OAt.slice (h : OAt w base v l) : ∃ A c, v = .slice A l.length c := own_slice h
theorem OAt.bat (h : OAt w base v l) : BAt w v l := by
  have h2 : w.ownsRow base 5 1 v (l.map bi).length (encs (Value.int .u8) (l.map bi)) := by
    have : encs (Value.int .u8) (l.map bi) = bcs l := by simp [encs, bcs]
    rw [this, List.length_map]
    exact h
  obtain ⟨A, c, hv, hc, hr⟩ := own_reads_of_le (d := 0) h2
  rw [List.length_map] at hv hc hr
  exact ⟨A, c, hv, hc, Kd.C_of_reads hr⟩
end
theorem BAt.alloc {w : World} {v : Value} {l : List UInt8} (h : BAt w v l) (o : Obj) : BAt (w.alloc o) v l := h.below ((Below.refl _ _).alloc (Nat.le_refl _) _)
theorem BAt.drew {w : World} {v : Value} {l : List UInt8} (h : BAt w v l) : BAt w.drew v l := h.below (drew_below (Below.refl _ _))
theorem BAt.slice {w : World} {v : Value} {l : List UInt8} (h : BAt w v l) : ∃ A c, v = .slice A l.length c ∧ l.length ≤ c := by
  obtain ⟨A, c, hv, hc, _⟩ := h
  exact ⟨A, c, hv, hc⟩
/-- A literal of bytes. -/
theorem BAt.new (w : World) (l : List UInt8) (hl : l.length ≤ 9223372036854775807) : BAt (w.alloc (.cells (bcs l).toArray 5)) (.slice (some ⟨w.heap.size, 0, none⟩) l.length l.length) l := by
  refine BAt.mk_ (Nat.le_refl _) hl fun h => ⟨_, rfl, fun j hj => ?_⟩
  rw [add_plain, (Blk.new (w := w) w.heap.size 5 _ rfl).cell j]
  simpa using bcs_get l j hj
theorem BAt.one (w : World) (b : UInt8) : BAt (w.alloc (.cells #[.int .u8 (bi b)] 5)) (.slice (some ⟨w.heap.size, 0, none⟩) 1 1) [b] := BAt.new w [b] (by simp)
theorem OAt.new (w : World) (l : List UInt8) (hl : l.length ≤ 9223372036854775807) : OAt (w.alloc (.cells (bcs l).toArray 5)) w.heap.size (.slice (some ⟨w.heap.size, 0, none⟩) l.length l.length) l := by
  refine ⟨by simp [bcs], .inr ⟨w.heap.size, l.length, (bcs l).toArray, rfl, Nat.le_refl _, Blk.new _ _ _ rfl, Nat.le_refl _, by unfold maxLen; omega, by simp [bcs], by rw [Nat.mul_one, List.take_of_length_le (by simp [bcs])]⟩⟩
theorem info5 : (Tryd.prog.info? 5).map (fun i => (i.zero, i.size, i.bytes)) = some (some (.int .u8 0), 1, 1) := by kernel_rfl
theorem run_app (w : World) (ty : TypeId) (base : Nat) (v : Value) (l : List UInt8) (hown : OAt w base v l) (x : Value) (m : List UInt8) (hx : BAt w x m) (hlen : l.length + m.length ≤ 1000000000) (hbase : base ≤ w.heap.size) :
    ∃ v' w', (Builtin.append_ #[27, 27] ty #[v, x]).run Tryd.prog w = .ok v' w' ∧ OAt w' base v' (l ++ m) ∧ w.grownBy w' v.ownBlock := by
  obtain ⟨i, hi, hz, hs, hy⟩ := info_parts info5
  obtain ⟨A, c, rfl, hc, hC⟩ := hx
  rcases Nat.eq_zero_or_pos m.length with h0 | h0
  · obtain rfl : m = [] := List.eq_nil_of_length_eq_zero h0
    rw [List.append_nil]
    refine ⟨v, w, ?_, hown, World.grownBy.refl w _⟩
    have hu := Tryd.underlying27
    rcases A with _ | ad
    · rcases hown.2 with ⟨rfl, h1⟩ | ⟨g, cap, cur, rfl, _, _, hnc, _⟩
      · simp [Builtin.append_, run_underlying hu, sizeOf, typeInfo, hi, Builtin.lenOf, Builtin.firstCells]
      · simp [Builtin.append_, run_underlying hu, sizeOf, typeInfo, hi, Builtin.lenOf, Builtin.firstCells, hnc, storeCells]
    · rcases hown.2 with ⟨rfl, h1⟩ | ⟨g, cap, cur, rfl, _, hg, hnc, _⟩
      · simp [Builtin.append_, run_underlying hu, sizeOf, typeInfo, hi, Builtin.lenOf, Builtin.firstCells, loadCells, loadCellsFrom]
      · simp [Builtin.append_, run_underlying hu, sizeOf, typeInfo, hi, Builtin.lenOf, Builtin.firstCells, hnc, storeCells, loadCells, loadCellsFrom]
  · obtain ⟨ad, rfl, hcell⟩ := C_addr hC h0
    obtain ⟨v', w', hrun, h2, h3, _⟩ := run_append_own_at (P := Tryd.prog) w base 27 ty 5 i (.int .u8 0) 1 1 Tryd.underlying27 hi hz hs hy rfl (by decide) v l.length (bcs l) hown ad m.length c (bcs m) (by simp [bcs])
      (fun j u hu => by
        have hj : j < m.length := by have := (List.getElem?_eq_some_iff.1 hu).1; rwa [bcs_length] at this
        rw [hcell j hj, ← hu, bcs_get m j hj]) (bcs_one m) (by unfold maxLen; omega) (by omega) hbase
    refine ⟨v', w', hrun, ?_, h3⟩
    unfold OAt
    rw [List.length_append, bcs_append]
    exact h2
/-- An append, and where the world stands behind it. -/
theorem wpList_app {ops : Array Oper} {rest : List Oper} {o : Oper} {a : Act} {Q : Exit → Act → World → Prop} {w0 w : World} {base : Nat} (hgd : o.guard = none) (s x : Operand)
    (ho : o.op = .call { callee := .builtin .append, args := #[s, x], argTypes := #[27, 27] }) (v : Value) (l : List UInt8) (hs : a.eval s = v) (hown : OAt w base v l) (u : Value) (m : List UInt8) (hx : a.eval x = u) (hu : BAt w u m)
    (hlen : l.length + m.length ≤ 1000000000) (hbase : base ≤ w.heap.size) (hb : Below base w0 w)
    (h : ∀ v' w', OAt w' base v' (l ++ m) → Below base w0 w' → wpList Tryd.prog ops Q rest (a.put o.dst v') w') : wpList Tryd.prog ops Q (o :: rest) a w := by
  refine wpList_plain hgd fun _ hK => ?_
  obtain ⟨v', w', hrun, h2, h3⟩ := run_app w o.type base v l hown u m hu hlen hbase
  unfold Oper.wp execOp
  simp only [ho, resolve, invoke, builtin, Sem.run_bind, Sem.run_pure, Result.andThen_ok, List.map_toArray, List.map_cons, List.map_nil, hs, hx, hrun]
  exact hK _ _ (h v' w' h2 (hb.grown h3 hbase (own_base hown)))
attribute [local go_sem high] Ub.xor64 Ub.and64 Ub.or64 Ub.add64 Ub.not64 Ub.shl64v Ub.shr64v Ub.wrap64to8
/-- A word's bytes, so many of them, the highest first. -/
def wbytes (x : UInt64) : Nat → List UInt8
  | 0 => []
  | j + 1 => wbytes x j ++ [(x >>> UInt64.ofNat (8 * (7 - j))).toUInt8]
theorem wbytes_length (x : UInt64) (j : Nat) : (wbytes x j).length = j := by
  induction j with
  | zero => rfl
  | succ j ih => simp [wbytes, ih]
/-- The first words' bytes. -/
def lbytes (l : List UInt64) : Nat → List UInt8
  | 0 => []
  | k + 1 => lbytes l k ++ wbytes (l.getD k 0) 8
theorem lbytes_length (l : List UInt64) (k : Nat) : (lbytes l k).length = 8 * k := by
  induction k with
  | zero => rfl
  | succ k ih => simp [lbytes, ih, wbytes_length]; omega
/-- The shift of a byte: 56 down to 0, then -8. -/
def ival (j : Nat) : Int := 56 - 8 * (j : Int)
set_option maxRecDepth 100000 in
set_option maxHeartbeats 4000000 in
theorem bytes_any (l : List UInt64) (hl : l.length = 8) (r1 r2 r3 : Value) (g : Nat) (w : World) (hH : Blk w g 63 (hcells l r1 r2 r3)) :
    Calls Tryd.prog 39 #[.pointer (some ⟨g, 0, none⟩)] w fun e w' => ∃ v, e = .returned v ∧ OAt w' w.heap.size v (lbytes l 8) ∧ Below w.heap.size w w' := by
  have hgl := hH.lt
  have hc := Lib.hid (fun k (hk : k < 8) => (hH.cell k).trans (hcells_get l r1 r2 r3 k (by omega)))
  clear hH
  go_enter Tryd.func39, Tryd.ntmps39
  go_wp2
  go_loopw [3, 8] (fun v i wr => ∃ k : Nat, k ≤ 8 ∧ i = .int .i64 k ∧ OAt wr w.heap.size v (lbytes l k) ∧ Below w.heap.size w wr) (fun _ i _ => 8 - (intOf i).toNat)
  case atStart => exact ⟨0, by omega, rfl, OAt.nil _ _, Below.refl _ _⟩
  case round =>
    obtain ⟨k, hk, rfl, hO, hb⟩ := hrel
    obtain ⟨wo, hwo⟩ : ∃ wo : World, wo = wr := ⟨_, rfl⟩
    subst hwo
    have hO' := Lib.hid hO
    have hb' := Lib.hid hb
    by_cases hlt : k < 8
    · have ck : wo.cell? ⟨g, k, none⟩ = some (.int .u64 (wi (l.getD k 0))) := (hb.cell (p := ⟨g, k, none⟩) hgl).trans (hc.out k hlt)
      clear hO hb
      have hnext := Lib.hid (show lbytes l (k + 1) = lbytes l k ++ wbytes (l.getD k 0) 8 from rfl)
      generalize l.getD k 0 = x at *
      have hll := lbytes_length l k
      have hll2 : (lbytes l k).length ≤ 64 := by omega
      clear hll
      have hll := hll2
      clear hll2
      generalize lbytes l k = acc at *
      have d1 : decide ((k : Int) < 8) = true := decide_eq_true (by omega)
      go_wp2
      go_loopw [3, 6] (fun v i wr => ∃ j : Nat, j ≤ 8 ∧ i = .int .i64 (ival j) ∧ OAt wr w.heap.size v (acc ++ wbytes x j) ∧ Below w.heap.size w wr) (fun _ i _ => (intOf i + 8).toNat)
      case atStart => exact ⟨0, by omega, rfl, by rw [show wbytes x 0 = [] from rfl, List.append_nil]; exact hO'.out, hb'.out⟩
      case round =>
        obtain ⟨j, hj, rfl, hO1, hb1⟩ := hrel
        have hO1' := Lib.hid hO1
        have hb1' := Lib.hid hb1
        clear hO1 hb1
        by_cases hj8 : j < 8
        · obtain ⟨q, hq⟩ : ∃ q, q = 8 * (7 - j) := ⟨_, rfl⟩
          have hq64 : q < 64 := by omega
          have hi : ival j = (q : Int) := by unfold ival; omega
          have hstep := Lib.hid (show acc ++ wbytes x (j + 1) = acc ++ wbytes x j ++ [(x >>> UInt64.ofNat q).toUInt8] by rw [hq, List.append_assoc]; rfl)
          have hwl := wbytes_length x j
          generalize wbytes x j = bs at *
          rw [hi]
          have hi' := Lib.hid hi
          have hq' := Lib.hid hq
          have hwl' := Lib.hid hwl
          have hll' := Lib.hid hll
          clear hi hq hwl
          go_wp2_with (at_builtin; refine wpList_app (w0 := w) (base := w.heap.size) rfl (.tmp 17) (.tmp 22) rfl _ _ rfl (hO1'.out.alloc _) _ [(x >>> UInt64.ofNat q).toUInt8] rfl (BAt.one _ _) (by have := hwl'.out; have := hll'.out; simp; omega) (by have := hb1'.out.size; simp; omega) (hb1'.out.alloc hb1'.out.size _) ?_; intro v' w' hO2 hb2; have hO2' := Lib.hid hO2; have hb2' := Lib.hid hb2; clear hO2 hb2)
          refine ⟨⟨j + 1, by omega, ?_, ?_, hb2'.out⟩, ?_⟩
          · have := hi'.out
            unfold ival at this ⊢
            congr 1
            omega
          · rw [hstep.out]; exact hO2'.out
          · have := hi'.out
            simp [intOf, this]
            omega
        · obtain rfl : j = 8 := by omega
          rw [show ival 8 = -8 from rfl]
          go_wp2
          refine ⟨⟨k + 1, by omega, by simp, ?_, hb1'.out⟩, by simp [intOf]; omega⟩
          rw [hnext.out]
          exact hO1'.out
    · obtain rfl : k = 8 := by omega
      clear hO hb
      go_wp2
      go_ret
      exact ⟨_, rfl, hO'.out, hb'.out⟩
end Go.Proofs.YtnaiifidcpdamaaDoor
