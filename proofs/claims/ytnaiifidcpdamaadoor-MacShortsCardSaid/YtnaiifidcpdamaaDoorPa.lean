/-
  A key filled up: pad of package mac.
-/
import Derived.Test.YtnaiifidcpdamaaDoorNa
import Derived.Laws.CopyRow
import Derived.Lib.SlBuf
import Derived.Laws.IdiomCopy
set_option linter.unusedVariables false
set_option linter.unusedSimpArgs false
namespace Go.Proofs.YtnaiifidcpdamaaDoor
open Go.RowKit Go.Og Go.Ub Go.Proofs.YtnaiifidcpdamaaDoorW.PrintWords
attribute [local go_sem high] Ub.xor8
/-- A block of bytes. -/
def BBlk (w : World) (g : Nat) (l : List UInt8) : Prop := Blk w g 5 (bcs l).toArray
section
variable {w w' : World} {g : Nat} {l : List UInt8}
theorem BBlk.cell (h : BBlk w g l) (i : Nat) (hi : i < l.length) : w.cell? ⟨g, i, none⟩ = some (.int .u8 (bi (l.getD i 0))) := by
  have := Blk.cell h i
  rw [this]
  simpa using bcs_get l i hi
theorem BBlk.set (h : BBlk w g l) (i : Nat) (x : UInt8) : BBlk (w.setCell ⟨g, i, none⟩ (.int .u8 (bi x))) g (l.set i x) := by
  have := Blk.set h i (.int .u8 (bi x))
  have e : (bcs l).toArray.setIfInBounds i (.int .u8 (bi x)) = (bcs (l.set i x)).toArray := by simp [bcs, List.map_set]
  rw [e] at this
  exact this
theorem BBlk.own (h : BBlk w g l) {base : Nat} (hb : base ≤ g) (hl : l.length ≤ 9223372036854775807) : OAt w base (.slice (some ⟨g, 0, none⟩) l.length l.length) l :=
  ⟨by simp [bcs], .inr ⟨g, l.length, (bcs l).toArray, rfl, hb, h, Nat.le_refl _, by unfold maxLen; omega, by simp [bcs], by rw [Nat.mul_one, List.take_of_length_le (by simp [bcs])]⟩⟩
end
/-- Bytes, the first of them with one more. -/
def xpart (Z : List UInt8) (x : UInt8) (k : Nat) : List UInt8 := (Z.take k).map (· ^^^ x) ++ Z.drop k
theorem xpart_length (Z : List UInt8) (x : UInt8) (k : Nat) : (xpart Z x k).length = Z.length := by
  unfold xpart
  rw [List.length_append, List.length_map, List.length_take, List.length_drop]
  omega
theorem xpart_get (Z : List UInt8) (x : UInt8) (k : Nat) (hk : k < Z.length) : (xpart Z x k).getD k 0 = Z.getD k 0 := by
  unfold xpart
  rw [List.getD_eq_getElem?_getD, List.getElem?_append_right (by rw [List.length_map, List.length_take]; omega), List.length_map, List.length_take, List.getElem?_drop, List.getD_eq_getElem?_getD]
  congr 2
  omega
theorem xpart_set (Z : List UInt8) (x : UInt8) (k : Nat) (hk : k < Z.length) : (xpart Z x k).set k (Z.getD k 0 ^^^ x) = xpart Z x (k + 1) := by
  unfold xpart
  rw [List.set_append_right _ _ (by rw [List.length_map, List.length_take]; omega), List.length_map, List.length_take, show k - min k Z.length = 0 by omega, List.drop_eq_getElem_cons hk, List.set_cons_zero, List.take_succ_eq_append_getElem hk, List.map_append, List.append_assoc, List.getD_eq_getElem?_getD, List.getElem?_eq_getElem hk]
  rfl
theorem xpart_all (Z : List UInt8) (x : UInt8) (k : Nat) (hk : Z.length ≤ k) : xpart Z x k = Z.map (· ^^^ x) := by
  unfold xpart
  rw [List.take_of_length_le hk, List.drop_of_length_le hk, List.append_nil]
/-- A key of at most 128 bytes. -/
def keyb (K : List UInt64) (s : S8) (l : List UInt8) : List UInt8 := if 128 < l.length then (sha K s l).take 48 else l
/-- .. filled up. -/
def fill (l : List UInt8) : List UInt8 := l ++ List.replicate (128 - l.length) 0
theorem fill_length (l : List UInt8) (h : l.length ≤ 128) : (fill l).length = 128 := by
  unfold fill
  rw [List.length_append, List.length_replicate]
  omega
theorem keyb_length (K : List UInt64) (s : S8) (l : List UInt8) : (keyb K s l).length ≤ 128 := by
  unfold keyb
  split
  · rw [List.length_take, sha_length]; omega
  · omega
def padb (K : List UInt64) (s : S8) (l : List UInt8) (x : UInt8) : List UInt8 := (fill (keyb K s l)).map (· ^^^ x)
theorem padb_length (K : List UInt64) (s : S8) (l : List UInt8) (x : UInt8) : (padb K s l x).length = 128 := by
  unfold padb
  rw [List.length_map, fill_length _ (keyb_length K s l)]
theorem cp_run (g : Nat) (w : World) (u : Value) (k : List UInt8) (hk : k.length ≤ 128) (ty : TypeId) (hB : BBlk w g (List.replicate 128 0)) (hu : BAt w u k) :
    ∃ w', (Builtin.copy_ #[27, 27] ty #[.slice (some ⟨g, 0, none⟩) 128 128, u]).run Tryd.prog w = .ok (goInt k.length) w' ∧ BBlk w' g (fill k) ∧ (∀ {a : World} {B : Nat}, Below B a w → B ≤ g → Below B a w') := by
  obtain ⟨A, c, rfl, hc, hC⟩ := hu
  rcases Nat.eq_zero_or_pos k.length with h0 | h0
  · obtain rfl : k = [] := List.eq_nil_of_length_eq_zero h0
    refine ⟨w, ?_, ?_, fun h _ => h⟩
    · have := run_copy_none (P := Tryd.prog) w 27 27 ty 5 (some ⟨g, 0, none⟩) A 128 128 0 c Tryd.underlying27 (by kernel_rfl) (by simp)
      exact this
    · have e : fill [] = List.replicate 128 0 := by simp [fill]
      rw [e]
      exact hB
  · obtain ⟨ad, rfl, hcell⟩ := C_addr hC h0
    have := run_copy_row (P := Tryd.prog) w 27 27 ty 5 g 0 128 128 ad k.length c (bcs (List.replicate 128 0)).toArray 5 (bcs k) Tryd.underlying27 (by kernel_rfl) hB (by rw [bcs_length]; exact (Nat.min_eq_left hk).symm)
      (fun j u hu => by
        have hj : j < k.length := by have := (List.getElem?_eq_some_iff.1 hu).1; rwa [bcs_length] at this
        rw [hcell j hj, ← hu, bcs_get k j hj]) (by rw [bcs_length]; simp [bcs]; omega) (bcs_one k)
    rw [bcs_length] at this
    refine ⟨_, this, ?_, fun h hb => below_setRow h hb _⟩
    have e : ((bcs (List.replicate 128 0)).toArray.toList.take 0 ++ bcs k ++ (bcs (List.replicate 128 0)).toArray.toList.drop (0 + k.length)).toArray = (bcs (fill k)).toArray := by
      show ((bcs (List.replicate 128 0)).take 0 ++ bcs k ++ (bcs (List.replicate 128 0)).drop (0 + k.length)).toArray = _
      unfold fill
      rw [bcs_append, List.take_zero, List.nil_append, Nat.zero_add]
      congr 2
      unfold bcs
      rw [← List.map_drop, List.drop_replicate]
    rw [e]
    exact setRow_blk hB
theorem mk128 (w : World) : (Instr.makeSlice 27 (.int .i64 128) (.int .i64 128)).run Tryd.prog w = .ok (.slice (some ⟨w.heap.size, 0, none⟩) 128 128) (w.alloc (.cells (zb 128) 5)) := make_run 128 (by decide) w
set_option maxRecDepth 100000 in
set_option maxHeartbeats 4000000 in
theorem pad_any (K : List UInt64) (hKl : K.length = 80) (s : S8) (l : List UInt8) (hl : l.length ≤ 1000000) (x : UInt8) (v : Value) (w : World) (hv : BAt w v l) (hK : Glob w 2 K) (hS : Glob w 1 s.l) :
    Calls Tryd.prog 54 #[v, .int .u8 (bi x)] w fun e w' => ∃ u, e = .returned u ∧ OAt w' w.heap.size u (padb K s l x) ∧ Below w.heap.size w w' := by
  have hK2 := hK.lt
  have hS1 := hS.lt
  have hmk := mk128
  have z36 := zero36
  by_cases hlt : 128 < l.length
  · have hkey : keyb K s l = (sha K s l).take 48 := by unfold keyb; rw [if_pos hlt]
    obtain ⟨D, hD⟩ : ∃ D, D = (sha K s l).take 48 := ⟨_, rfl⟩
    have hDl : D.length = 48 := by rw [hD, List.length_take, sha_length]; rfl
    have hsm := fun (u : Value) (wx : World) (hb : Below w.heap.size w wx) (hu : PAt wx u [l]) => sum384_any K hKl s [l] (by simp; omega) u wx hu (hK.below hb hK2) (hS.below hb hS1)
    rw [show [l].flatten = l by simp, ← hD] at hsm
    have hP := PAt.one hv
    have hcl := hsm _ _ ((Below.refl _ _).alloc (Nat.le_refl _) _) hP
    have hfin : padb K s l x = (fill D).map (· ^^^ x) := by unfold padb; rw [hkey, ← hD]
    rw [hfin]
    have hDl' := Aside0.mk hDl
    have hcl' := Aside0.mk hcl
    have hBa := Aside0.mk (Below.refl w.heap.size w |>.alloc (Nat.le_refl _) (.cells #[v] 27))
    obtain ⟨A, c, rfl, -⟩ := hv
    have hd : decide (128 < (l.length : Int)) = true := decide_eq_true (by omega)
    have hd' : decide ((l.length : Int) > 128) = true := decide_eq_true (by omega)
    clear hsm hP hcl hkey hD hK hS hfin hDl
    go_enter Tryd.func54, Tryd.ntmps54
    go_wp2_with (first
      | (go_at_call 26; ((with_reducible refine hcl'.out.mono ?_); rintro e w1 ⟨rfl, hb1⟩; have hB1 := Aside0.mk (hBa.out.trans (hb1.mono hBa.out.size)); clear hb1))
      | (refine wpList_store_row rfl 36 (.tmp 5) (.tmp 13) rfl w1.heap.size (bcs D).toArray rfl rfl 36 (zb 48) (Blk.new (w := w1) w1.heap.size 36 _ rfl) (by simp only [List.size_toArray]; rw [bcs_length, hDl'.out]; kernel_rfl) (by simp only [zb, List.size_toArray]; rw [bcs_length, bcs_length, hDl'.out]; rfl) (all_oneCell_toArray (bcs_one _)) ?_; obtain ⟨wa, hwa⟩ : ∃ wa, wa = (w1.alloc (.cells (zb 48) 36)).setRow w1.heap.size (bcs D).toArray := ⟨_, rfl⟩; have hBw : Below w.heap.size w wa := (by rw [hwa]; exact below_setRow (hB1.out.alloc hB1.out.size _) hB1.out.size _); have hDa : BAt wa (.slice (some ⟨w1.heap.size, 0, none⟩) 48 48) D := (by have := BAt.of_blk (w := wa) (g := w1.heap.size) (t := 36) (l := D) (by rw [hwa]; exact setRow_blk (t := 36) (Blk.new (w := w1) w1.heap.size 36 _ rfl)) (by rw [hDl'.out]; decide); rwa [hDl'.out] at this); rw [← hwa]; have hBw' := Aside0.mk hBw; have hDa' := Aside0.mk hDa; clear hwa hBw hDa; obtain ⟨wc, hrun, hBk, hfar⟩ := cp_run wa.heap.size (wa.alloc (.cells (zb 128) 5)) (.slice (some ⟨w1.heap.size, 0, none⟩) 48 48) D (by rw [hDl'.out]; decide) 3 (Blk.new _ _ _ rfl) (hDa'.out.alloc _); have hBk' := Aside0.mk hBk; have hBc' := Aside0.mk (hfar (hBw'.out.alloc hBw'.out.size _) hBw'.out.size); clear hfar hBk))
    have hfl := Aside0.mk (fill_length D (by rw [hDl'.out]; decide))
    obtain ⟨gg, hgg⟩ : ∃ gg, gg = wa.heap.size := ⟨_, rfl⟩
    have hgz := Aside0.mk (show w.heap.size ≤ gg by rw [hgg]; exact hBw'.out.size)
    rw [← hgg] at hBk' ⊢
    clear hgg
    go_loopw [21] (fun i wr => ∃ k : Nat, k ≤ 128 ∧ i = .int .i64 k ∧ Below w.heap.size w wr ∧ BBlk wr gg (xpart (fill D) x k)) (fun i _ => 128 - (intOf i).toNat)
    case atStart => exact ⟨0, by omega, rfl, hBc'.out, hBk'.out⟩
    case round =>
      obtain ⟨k, hk, rfl, hb, hA⟩ := hrel
      have hb' := Aside0.mk hb
      have hA' := Aside0.mk hA
      have hz := Blk.lt hA
      by_cases hlk : k < 128
      · have d1 : decide ((k : Int) < 128) = true := decide_eq_true (by omega)
        have ca := hA.cell k (by rw [xpart_length, hfl.out]; exact hlk)
        have fa := Blk.frozen hA k
        rw [xpart_get _ _ _ (by rw [hfl.out]; exact hlk)] at ca
        clear hb hA hBc' hBk'
        go_wp2
        refine ⟨⟨k + 1, by omega, by simp, hb'.out.setCell hgz.out _, ?_⟩, by simp [intOf]; omega⟩
        have := hA'.out.set k ((fill D).getD k 0 ^^^ x)
        rw [xpart_set _ _ _ (by rw [hfl.out]; exact hlk)] at this
        exact this
      · obtain rfl : k = 128 := by omega
        rw [xpart_all _ _ _ (by rw [hfl.out]; decide)] at hA
        have hO := hA.own (base := w.heap.size) hgz.out (by rw [List.length_map, hfl.out]; decide)
        rw [List.length_map, hfl.out] at hO
        have hO' := Aside0.mk hO
        clear hb hA hA' hO hBc' hBk'
        go_wp2
        go_ret
        exact ⟨_, rfl, hO'.out, hb'.out⟩
  · have hkey : keyb K s l = l := by unfold keyb; rw [if_neg hlt]
    have hfin : padb K s l x = (fill l).map (· ^^^ x) := by unfold padb; rw [hkey]
    rw [hfin]
    have hDl' := Aside0.mk (show l.length ≤ 128 by omega)
    have hd : decide (128 < (l.length : Int)) = false := decide_eq_false (by omega)
    have hd' : decide ((l.length : Int) > 128) = false := decide_eq_false (by omega)
    have hDa' := Aside0.mk hv
    have hBw' := Aside0.mk (Below.refl w.heap.size w)
    obtain ⟨A, c, rfl, -⟩ := hv
    obtain ⟨wc, hrun, hBk, hfar⟩ := cp_run w.heap.size (w.alloc (.cells (zb 128) 5)) _ l (hDl'.out) 3 (Blk.new _ _ _ rfl) (hDa'.out.alloc _); have hBk' := Aside0.mk hBk; have hBc' := Aside0.mk (hfar (hBw'.out.alloc hBw'.out.size _) hBw'.out.size); clear hfar hBk
    clear hkey hK hS hfin hlt
    go_enter Tryd.func54, Tryd.ntmps54
    go_wp2
    have hfl := Aside0.mk (fill_length l (hDl'.out))
    obtain ⟨gg, hgg⟩ : ∃ gg, gg = w.heap.size := ⟨_, rfl⟩
    have hgz := Aside0.mk (show w.heap.size ≤ gg by rw [hgg]; exact hBw'.out.size)
    rw [← hgg] at hBk' ⊢
    clear hgg
    go_loopw [21] (fun i wr => ∃ k : Nat, k ≤ 128 ∧ i = .int .i64 k ∧ Below w.heap.size w wr ∧ BBlk wr gg (xpart (fill l) x k)) (fun i _ => 128 - (intOf i).toNat)
    case atStart => exact ⟨0, by omega, rfl, hBc'.out, hBk'.out⟩
    case round =>
      obtain ⟨k, hk, rfl, hb, hA⟩ := hrel
      have hb' := Aside0.mk hb
      have hA' := Aside0.mk hA
      have hz := Blk.lt hA
      by_cases hlk : k < 128
      · have d1 : decide ((k : Int) < 128) = true := decide_eq_true (by omega)
        have ca := hA.cell k (by rw [xpart_length, hfl.out]; exact hlk)
        have fa := Blk.frozen hA k
        rw [xpart_get _ _ _ (by rw [hfl.out]; exact hlk)] at ca
        clear hb hA hBc' hBk'
        go_wp2
        refine ⟨⟨k + 1, by omega, by simp, hb'.out.setCell hgz.out _, ?_⟩, by simp [intOf]; omega⟩
        have := hA'.out.set k ((fill l).getD k 0 ^^^ x)
        rw [xpart_set _ _ _ (by rw [hfl.out]; exact hlk)] at this
        exact this
      · obtain rfl : k = 128 := by omega
        rw [xpart_all _ _ _ (by rw [hfl.out]; decide)] at hA
        have hO := hA.own (base := w.heap.size) hgz.out (by rw [List.length_map, hfl.out]; decide)
        rw [List.length_map, hfl.out] at hO
        have hO' := Aside0.mk hO
        clear hb hA hA' hO hBc' hBk'
        go_wp2
        go_ret
        exact ⟨_, rfl, hO'.out, hb'.out⟩
end Go.Proofs.YtnaiifidcpdamaaDoor
