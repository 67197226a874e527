/-
  Parts put behind each other: joined and few of chapter 2; how arguments that are slices of bytes are opened; what the bound on an argument's bulk gives.
-/
import Derived.Test.YtnaiifidcpdamaaDoorKw
import Derived.Deep.Matrix
import Derived.Carry
set_option linter.unusedVariables false
set_option linter.unusedSimpArgs false
namespace Go.Proofs.YtnaiifidcpdamaaDoor
open Go.ChangeShapes Go.WideShapes Go.ChangeAt Go.RowKit Go.Og Go.Ub Go.Proofs.YtnaiifidcpdamaaDoorW.PrintWords Go.Proofs.YtnaiifidcpdamaaDoorW.PrintMore Go.Proofs.YtnaiifidcpdamaaDoor.PShaLongs
theorem PAt.rows {w : World} {v : Value} {ps : List (List UInt8)} (h : PAt w v ps) : ∃ A c, v = .slice A (ps.map (List.map bi)).length c ∧ (ps.map (List.map bi)).length ≤ c ∧ Kd.C (Kd.slice 5 (Kd.int .u8)) w A (ps.map (List.map bi)).length (ps.map (List.map bi)) := by
  obtain ⟨A, c, hv, hc, hm, hh⟩ := h
  have hl : (ps.map (List.map bi)).length = ps.length := List.length_map _
  refine ⟨A, c, by rw [hl]; exact hv, by rw [hl]; exact hc, rfl, by rw [hl]; exact hm, fun hn => ?_⟩
  rw [hl] at hn
  obtain ⟨ad, hA, hcell⟩ := hh hn
  refine ⟨ad, hA, fun j p hp => ?_⟩
  have hj : j < ps.length := by
    have := (List.getElem?_eq_some_iff.1 hp).1
    rwa [hl] at this
  obtain ⟨u, hu, A', c', rfl, hc', hC'⟩ := hcell j hj
  have hpe : p = (ps.getD j []).map bi := by
    rw [List.getElem?_map, List.getElem?_eq_getElem hj] at hp
    rw [List.getD_eq_getElem?_getD, List.getElem?_eq_getElem hj]
    simpa using hp.symm
  subst hpe
  refine ⟨[.slice A' ((ps.getD j []).map bi).length c'], rfl, ⟨A', c', rfl, by rw [List.length_map]; exact hc', by rw [List.length_map]; exact hC'⟩, fun i u hu' => ?_⟩
  cases i with
  | zero =>
    simp only [List.getElem?_cons_zero, Option.some.injEq] at hu'
    subst hu'
    show w.cell? (ad.add (j * 1 + 0)) = _
    rw [Nat.mul_one, Nat.add_zero, hu, List.length_map]
  | succ i => simp at hu'
theorem rd_parts (ps : List (List UInt8)) (j : Nat) : rd_L1 (ps.map (List.map bi)) (j : Int) = (ps.getD j []).map bi := by
  unfold rd_L1
  rw [Int.toNat_natCast, List.getD_eq_getElem?_getD, List.getD_eq_getElem?_getD, List.getElem?_map]
  cases ps[j]? <;> rfl
theorem joined_l0 (ps : List (List UInt8)) (hl : ps.flatten.length ≤ 1000000000) (hn : ps.length ≤ 1000000000) : ∀ d j k, j + d = ps.length → d < k →
    escutcheonlaw02_joined.l0 k ((ps.take j).flatten.map bi) (ps.map (List.map bi)) ((ps.map (List.map bi)).length : Int) (j : Int) = some (ps.flatten.map bi) := by
  have hm : (ps.map (List.map bi)).length = ps.length := List.length_map _
  intro d
  induction d with
  | zero =>
    intro j k hj hk
    obtain ⟨k, rfl⟩ : ∃ m, k = m + 1 := ⟨k - 1, by omega⟩
    simp only [escutcheonlaw02_joined.l0]
    rw [if_neg (by omega), List.take_of_length_le (by omega)]
  | succ d ih =>
    intro j k hj hk
    obtain ⟨k, rfl⟩ : ∃ m, k = m + 1 := ⟨k - 1, by omega⟩
    simp only [escutcheonlaw02_joined.l0]
    have hlt : j < ps.length := by omega
    have ht : (ps.take (j + 1)).flatten = (ps.take j).flatten ++ ps.getD j [] := by
      rw [List.take_add_one, List.flatten_append, List.getD_eq_getElem?_getD, List.getElem?_eq_getElem hlt]
      simp
    have hle : ((ps.take j).flatten ++ ps.getD j []).length ≤ ps.flatten.length := by
      rw [← ht]
      conv => rhs; rw [← List.take_append_drop (j + 1) ps, List.flatten_append, List.length_append]
      omega
    rw [List.length_append] at hle
    rw [rd_parts, if_pos (by omega), if_pos (by omega), if_pos (by omega), if_pos (by rw [List.length_map, List.length_map]; omega)]
    rw [← List.map_append, ← ht]
    have hw : wrap64 ((j : Int) + 1) = ((j + 1 : Nat) : Int) := by unfold wrap64; omega
    rw [hw]
    exact ih (j + 1) k (by omega) (by omega)
theorem joined_p (ps : List (List UInt8)) (hl : ps.flatten.length ≤ 1000000000) (hn : ps.length ≤ 1000000000) : escutcheonlaw02_joined.f (ps.length + 1) (ps.map (List.map bi)) = some (ps.flatten.map bi) := by
  have := joined_l0 ps hl hn ps.length 0 (ps.length + 1) (by omega) (by omega)
  simpa [escutcheonlaw02_joined.f] using this
theorem joined_any (ps : List (List UInt8)) (hl : ps.flatten.length ≤ 1000000000) (hn : ps.length ≤ 1000000000) (v : Value) (w : World) (hv : PAt w v ps) :
    Calls Tryd.prog 24 #[v] w fun e w' => ∃ v, e = .returned v ∧ BAt w' v ps.flatten ∧ Below w.heap.size w w' := by
  obtain ⟨A, c, rfl, hc, hC⟩ := hv.rows
  refine (escutcheonlaw02_joined.calls _ A c _ _ w hC hc (joined_p ps hl hn)).mono ?_
  rintro e w' ⟨v, rfl, hR, hb⟩
  exact ⟨v, rfl, BAt.of_R hR, hb⟩
theorem few_any (ps : List (List UInt8)) (hl : ps.flatten.length ≤ 1000000000) (hn : ps.length ≤ 1000000000) (v : Value) (w : World) (hv : PAt w v ps) :
    Calls Tryd.prog 16 #[v] w fun e w' => e = .returned (.bool (decide (ps.length ≤ 20 ∧ ps.flatten.length ≤ 600))) ∧ Below w.heap.size w w' := by
  obtain ⟨A, c, rfl, hc, hC⟩ := hv.rows
  refine escutcheonlaw02_few.calls (ps.length + 1) A c _ _ w hC hc ?_
  unfold escutcheonlaw02_few.f
  rw [joined_p ps hl hn, List.length_map]
  by_cases h : ps.length ≤ 20
  · rw [if_pos (by omega), Option.bind_some, List.length_map]
    congr 1
    apply decide_eq_decide.2
    omega
  · rw [if_neg (by omega)]
    congr 1
    exact (decide_eq_false (fun hh => h hh.1)).symm
theorem few_yes (ps : List (List UInt8)) (hf : ps.length ≤ 20 ∧ ps.flatten.length ≤ 600) (v : Value) (w : World) (hv : PAt w v ps) :
    Calls Tryd.prog 16 #[v] w fun e w' => e = .returned (.bool true) ∧ Below w.heap.size w w' := by
  have := few_any ps (by omega) (by omega) v w hv
  rwa [decide_eq_true hf] at this
theorem few_no (ps : List (List UInt8)) (hl : ps.flatten.length ≤ 1000000000) (hn : ps.length ≤ 1000000000) (hf : ¬(ps.length ≤ 20 ∧ ps.flatten.length ≤ 600)) (v : Value) (w : World) (hv : PAt w v ps) :
    Calls Tryd.prog 16 #[v] w fun e w' => e = .returned (.bool false) ∧ Below w.heap.size w w' := by
  have := few_any ps hl hn v w hv
  rwa [decide_eq_false hf] at this
/-- WHAT A ROW's SHORTER LIST GIVES. -/
theorem globs5 {W : World} (h : laidMetH Tryd.prog [("escutcheon/api.Rounds80", Rows.laid_escutcheon_api_Rounds80), ("escutcheon/api.Start512", Rows.laid_escutcheon_api_Start512)] W) : Glob W 2 K80 ∧ Glob W 0 s5.l := by
  have h : laidMet Tryd.prog [("escutcheon/api.Rounds80", Rows.laid_escutcheon_api_Rounds80), ("escutcheon/api.Start512", Rows.laid_escutcheon_api_Start512)] W := h
  rw [is80, is5] at h
  refine ⟨glob_of_tab (Lib.tabIs_of_head g2 g2t Tryd.underlying74 Tryd.underlying59 cells59 cells74 h) g2 (by rw [len80]; decide) ok80, ?_⟩
  rw [s5l]
  exact glob_of_tab (Lib.tabIs_of_head g0 g0t Tryd.underlying60 Tryd.underlying59 cells59 cells60 h.tail) g0 (by rw [len5]; decide) ok5
theorem globs3 {W : World} (h : laidMetH Tryd.prog [("escutcheon/api.Rounds80", Rows.laid_escutcheon_api_Rounds80), ("escutcheon/api.Start384", Rows.laid_escutcheon_api_Start384)] W) : Glob W 2 K80 ∧ Glob W 1 s3.l := by
  have h : laidMet Tryd.prog [("escutcheon/api.Rounds80", Rows.laid_escutcheon_api_Rounds80), ("escutcheon/api.Start384", Rows.laid_escutcheon_api_Start384)] W := h
  rw [is80, is3] at h
  refine ⟨glob_of_tab (Lib.tabIs_of_head g2 g2t Tryd.underlying74 Tryd.underlying59 cells59 cells74 h) g2 (by rw [len80]; decide) ok80, ?_⟩
  rw [s3l]
  exact glob_of_tab (Lib.tabIs_of_head g1 g1t Tryd.underlying60 Tryd.underlying59 cells59 cells60 h.tail) g1 (by rw [len3]; decide) ok3
theorem laid_met5 (os : Os) (args : Array Value) : laidMet Tryd.prog [("escutcheon/api.Rounds80", Rows.laid_escutcheon_api_Rounds80), ("escutcheon/api.Start512", Rows.laid_escutcheon_api_Start512)] ((laidWorld os).forCall (fun _ _ => 0) ⟨#[], args, []⟩).memory :=
  laidMet_of_run' 8 (by kernel_rfl) (by kernel_rfl)
theorem laid_met3 (os : Os) (args : Array Value) : laidMet Tryd.prog [("escutcheon/api.Rounds80", Rows.laid_escutcheon_api_Rounds80), ("escutcheon/api.Start384", Rows.laid_escutcheon_api_Start384)] ((laidWorld os).forCall (fun _ _ => 0) ⟨#[], args, []⟩).memory :=
  laidMet_of_run' 8 (by kernel_rfl) (by kernel_rfl)
theorem cells5 : Tryd.prog.cellsOf 5 = 1 := by kernel_rfl
theorem cells27 : Tryd.prog.cellsOf 27 = 1 := by kernel_rfl
theorem lawful : laidOutB Tryd.prog = true := by kernel_rfl
/-- Bytes out of integers. -/
def bytesOf (zs : List Int) : List UInt8 := zs.map fun n => UInt8.ofNat n.toNat
theorem bytesOf_length (zs : List Int) : (bytesOf zs).length = zs.length := List.length_map _
theorem bi_back {n : Int} (h : (Lit.int .u8 n).wf = true) : bi (UInt8.ofNat n.toNat) = n := by
  have hb := bounds_u8 h
  unfold bi
  rw [UInt8.toNat_ofNat', Nat.mod_eq_of_lt (show n.toNat < 2 ^ 8 by omega)]
  omega
theorem bytesOf_get (zs : List Int) (h : ∀ n ∈ zs, (Lit.int .u8 n).wf = true) (j : Nat) (hj : j < zs.length) : bi ((bytesOf zs).getD j 0) = zs.getD j 0 := by
  unfold bytesOf
  rw [List.getD_eq_getElem?_getD, List.getD_eq_getElem?_getD, List.getElem?_map, List.getElem?_eq_getElem hj]
  exact bi_back (h _ (List.getElem_mem hj))
section
variable {H : Type}
theorem bulk_one (d : DataW H) : 1 ≤ Rows.uptoBulk d := by
  cases d with
  | lit l => cases l <;> simp [Rows.uptoBulk]
  | _ => simp [Rows.uptoBulk]
theorem bulk_len (l : List (DataW H)) : l.length ≤ Rows.uptoBulkAll l := by
  induction l with
  | nil => exact Nat.zero_le _
  | cons x r ih =>
    have := bulk_one x
    simp only [Rows.uptoBulkAll, List.length_cons]
    omega
theorem bulk_row (a b : List (DataW H)) : Rows.uptoBulkAll a + 1 ≤ Rows.uptoBulk (.slice a b) := by
  simp only [Rows.uptoBulk]
  omega
theorem bulk_sum (f : Nat → List UInt8) (g : Nat → DataW H) : ∀ rs : List Nat, (∀ r ∈ rs, (f r).length + 1 ≤ Rows.uptoBulk (g r)) → (rs.map f).flatten.length + rs.length ≤ Rows.uptoBulkAll (rs.map g)
  | [], _ => by simp [Rows.uptoBulkAll]
  | r :: rs, h => by
    have h1 := h r (by simp)
    have h2 := bulk_sum f g rs (fun x hx => h x (by simp [hx]))
    simp only [List.map_cons, List.flatten_cons, List.length_append, List.length_cons, Rows.uptoBulkAll]
    omega
/-- The bound, as the row hands it over. -/
theorem bulk_of {l : List (DataW H)} (h : Rows.uptoSmall H l = true) : Rows.uptoBulkAll l ≤ 1048576 := of_decide_eq_true h
end
section
variable {H : Type} {enc : TypeId × Value → H} {W : World} {base : Nat} {v : Value} {d : DataW H} {p : List MemPlace}
/-- A slice of bytes that came in. -/
theorem open_b (hv : Value.okWide Tryd.prog W .any base 27 v) (h : DataW.Trod enc Tryd.prog W 0 (fun _ => true) true 27 v d p) : ∃ l, BAt W v l ∧ l.length + 1 ≤ Rows.uptoBulk d := by
  obtain ⟨a1, len, cap, rfl⟩ := okWide_slice Tryd.underlying27 hv
  obtain ⟨fuel, hf⟩ := h
  rcases open_ints Tryd.underlying27 Tryd.underlying5 cells5 hf with ⟨hcs, hx⟩ | ⟨a, len', cap', zs, hcs, _, hl, hm, hz, hx, hcell, hwz⟩
  · simp [Value.cells] at hcs
    obtain ⟨rfl, rfl, rfl⟩ := hcs
    simp only [Prod.mk.injEq] at hx
    obtain ⟨rfl, rfl⟩ := hx
    exact ⟨[], BAt.nil W, by simp [Rows.uptoBulk]⟩
  · simp [Value.cells] at hcs
    obtain ⟨rfl, rfl, rfl⟩ := hcs
    simp only [Prod.mk.injEq] at hx
    obtain ⟨rfl, rfl⟩ := hx
    simp only [if_true] at hz
    have hlen : (zs.take len).length = len := by rw [List.length_take]; omega
    have hb := bytesOf_length (zs.take len)
    rw [hlen] at hb
    refine ⟨bytesOf (zs.take len), ?_, ?_⟩
    · have := BAt.mk_ (w := W) (A := some a) (l := bytesOf (zs.take len)) (c := cap) (by omega) (by unfold maxLen at hm; omega) (fun _ => ⟨a, rfl, fun j hj => by
        rw [hb] at hj
        rw [hcell j (by omega), bytesOf_get _ (fun n hn => hwz n (List.mem_of_mem_take hn)) j (by omega)]
        rw [List.getD_eq_getElem?_getD, List.getD_eq_getElem?_getD, List.getElem?_take_of_lt hj]⟩)
      rw [hb] at this
      exact this
    · have h1 := bulk_row (lits (H := H) .u8 (zs.take len)) (lits .u8 (zs.drop len))
      have h2 := bulk_len (lits (H := H) .u8 (zs.take len))
      have hll : (lits (H := H) .u8 (zs.take len)).length = len := by simp [lits]; omega
      omega
/-- A slice of slices of bytes that came in. -/
theorem open_p (hv : Value.okWide Tryd.prog W .any base 22 v) (h : DataW.Trod enc Tryd.prog W 0 (fun _ => true) true 22 v d p) : ∃ ps, PAt W v ps ∧ ps.flatten.length + ps.length ≤ Rows.uptoBulk d := by
  obtain ⟨a1, len, cap, rfl⟩ := okWide_slice Tryd.underlying22 hv
  obtain ⟨fuel, hf⟩ := h
  rcases Deep.open_int_rows Tryd.underlying22 Tryd.underlying27 Tryd.underlying5 cells27 cells5 hf with ⟨hcs, hx⟩ | ⟨a, len', cap', A, L, C, Z, hcs, _, hl, hm, hx, hrow⟩
  · simp [Value.cells] at hcs
    obtain ⟨rfl, rfl, rfl⟩ := hcs
    simp only [Prod.mk.injEq] at hx
    obtain ⟨rfl, rfl⟩ := hx
    exact ⟨[], PAt.nil W, by simp⟩
  · simp [Value.cells] at hcs
    obtain ⟨rfl, rfl, rfl⟩ := hcs
    simp only [Prod.mk.injEq] at hx
    obtain ⟨rfl, rfl⟩ := hx
    have hpl : ∀ r, r < cap → (bytesOf ((Z r).take (L r))).length = L r := fun r hr => by
      obtain ⟨_, h1, _, h2, _⟩ := hrow r hr
      rw [bytesOf_length, List.length_take]
      omega
    have hlen : ((List.range len).map fun r => bytesOf ((Z r).take (L r))).length = len := by simp
    have hget : ∀ j, j < len → ((List.range len).map fun r => bytesOf ((Z r).take (L r))).getD j [] = bytesOf ((Z j).take (L j)) := fun j hj => by
      rw [List.getD_eq_getElem?_getD, List.getElem?_map, List.getElem?_range hj]
      rfl
    refine ⟨(List.range len).map fun r => bytesOf ((Z r).take (L r)), ⟨some a, cap, by rw [hlen], by omega, by unfold maxLen at hm; omega, fun _ => ⟨a, rfl, fun j hj => ?_⟩⟩, ?_⟩
    · rw [hlen] at hj
      rw [hget j hj]
      obtain ⟨h0, h1, h2, h3, h4, h5, h6⟩ := hrow j (by omega)
      refine ⟨_, h0, ?_⟩
      have hb := hpl j (by omega)
      have := BAt.mk_ (w := W) (A := A j) (l := bytesOf ((Z j).take (L j))) (c := C j) (by omega) (by unfold maxLen at h2; omega) (fun hpos => by
        cases hA : A j with
        | none => have := h5 hA; omega
        | some ad =>
          refine ⟨ad, rfl, fun i hi => ?_⟩
          rw [hb] at hi
          rw [(h6 ad hA).2 i (by omega), bytesOf_get _ (fun n hn => h4 n (List.mem_of_mem_take hn)) i (by rw [List.length_take]; omega)]
          rw [List.getD_eq_getElem?_getD, List.getD_eq_getElem?_getD, List.getElem?_take_of_lt hi])
      rw [hb] at this
      exact this
    · have h1 := bulk_row ((List.range len).map fun r => Deep.intRow (H := H) .u8 (A r) (L r) (Z r)) ((List.range (cap - len)).map fun j => Deep.intRow .u8 (A (len + j)) (L (len + j)) (Z (len + j)))
      have h2 := bulk_sum (fun r => bytesOf ((Z r).take (L r))) (fun r => Deep.intRow (H := H) .u8 (A r) (L r) (Z r)) (List.range len) (fun r hr => by
        have hr := List.mem_range.1 hr
        obtain ⟨_, g1, _, g3, _, g5, _⟩ := hrow r (by omega)
        rw [hpl r (by omega)]
        cases hA : A r with
        | none =>
          have := g5 hA
          have := bulk_one (Deep.intRow (H := H) .u8 none (L r) (Z r))
          omega
        | some ad =>
          show L r + 1 ≤ Rows.uptoBulk (.slice (lits (H := H) .u8 ((Z r).take (L r))) (lits .u8 ((Z r).drop (L r))))
          have k1 := bulk_row (lits (H := H) .u8 ((Z r).take (L r))) (lits .u8 ((Z r).drop (L r)))
          have k2 := bulk_len (lits (H := H) .u8 ((Z r).take (L r)))
          have k3 : (lits (H := H) .u8 ((Z r).take (L r))).length = L r := by simp [lits]; omega
          omega)
      rw [List.length_range] at h2
      rw [hlen]
      omega
theorem again {t : TypeId} {W' : World} (hr : Tryd.prog.readableRec t = true) (hrow : t < Tryd.prog.types.size) (h : DataW.Trod enc Tryd.prog W 0 (fun _ => true) true t v d p) (hb : Below W.heap.size W W') (hlt : ∀ x ∈ p, x.block < W.heap.size)
    (sp : Nat → Bool) (hsp : ∀ x ∈ p, sp x.block = true) : DataW.Trod enc Tryd.prog W' 0 sp true t v d p :=
  WideElems.Trod_stays lawful hr hrow h (fun x hx => hb.same (hlt x hx)) hsp
end
end Go.Proofs.YtnaiifidcpdamaaDoor
