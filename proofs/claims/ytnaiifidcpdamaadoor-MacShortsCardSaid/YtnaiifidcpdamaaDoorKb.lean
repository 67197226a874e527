/-
  Words for memory: a block known whole, a block of words, a slice that holds bytes.
-/
import Derived.Test.YtnaiifidcpdamaaDoorKa
set_option linter.unusedVariables false
set_option linter.unusedSimpArgs false
namespace Go.Proofs.YtnaiifidcpdamaaDoor
open Go.RowKit Go.Og Go.Ub Go.Proofs.YtnaiifidcpdamaaDoorW.PrintWords
/-- A block of cells. -/
def Blk (w : World) (g : Nat) (t : TypeId) (cs : Array Value) : Prop := w.heap[g]? = some (.cells cs t (0, 0))
section
variable {w w' : World} {g : Nat} {t : TypeId} {cs : Array Value}
theorem Blk.cell (h : Blk w g t cs) : ∀ i, w.cell? ⟨g, i, none⟩ = cs[i]? := fun i => cell_of_row w g i cs t (0, 0) h
theorem Blk.frozen (h : Blk w g t cs) : ∀ i, w.frozen? ⟨g, i, none⟩ = false := fun i => by
  unfold Blk at h; simp [World.frozen?, h]
theorem Blk.lt (h : Blk w g t cs) : g < w.heap.size := by
  rcases Nat.lt_or_ge g w.heap.size with hlt | hge
  · exact hlt
  · unfold Blk at h; rw [Array.getElem?_eq_none hge] at h; cases h
theorem Blk.set (h : Blk w g t cs) (i : Nat) (u : Value) : Blk (w.setCell ⟨g, i, none⟩ u) g t (cs.setIfInBounds i u) := by
  unfold Blk at h ⊢
  simp [World.setCell, Array.getElem?_modify, h]
theorem Blk.ext {X : Nat → Prop} (h : Blk w g t cs) (hx : Ext X w w') (hg : ¬X g) : Blk w' g t cs := (hx.block g h.lt hg).trans h
theorem Blk.below {B : Nat} (h : Blk w g t cs) (hb : Below B w w') (hg : g < B) : Blk w' g t cs := (hb.block g hg).trans h
theorem Blk.new (g : Nat) (t : TypeId) (cs : Array Value) (h : w.heap.size = g) : Blk (w.alloc (.cells cs t)) g t cs := by subst h; exact MapKept.heap_alloc w _ |>.1
theorem Blk.alloc (h : Blk w g t cs) (o : Obj) : Blk (w.alloc o) g t cs := (Below.heap_alloc w o g h.lt).trans h
theorem Blk.far (h : Blk w g t cs) {p : Addr} (hp : g ≠ p.block) (u : Value) : Blk (w.setCell p u) g t cs := (Below.heap_setCell w p u g hp).trans h
theorem Blk.drew (h : Blk w g t cs) : Blk w.drew g t cs := h
theorem Blk.drewN (h : Blk w g t cs) (n : Nat) : Blk (w.drewN n) g t cs := h
end
theorem drew_below {B : Nat} {a w : World} (h : Below B a w) : Below B a w.drew := ⟨h.os, h.tape, h.output, h.size, h.block⟩
/-- A block of words. -/
def wcs (ws : List UInt64) : Array Value := (ws.map fun x => Value.int .u64 (wi x)).toArray
theorem wcs_get (ws : List UInt64) (i : Nat) (h : i < ws.length) : (wcs ws)[i]? = some (.int .u64 (wi (ws.getD i 0))) := by
  simp [wcs, h]
theorem wcs_set (ws : List UInt64) (i : Nat) (x : UInt64) : (wcs ws).setIfInBounds i (.int .u64 (wi x)) = wcs (ws.set i x) := by
  simp [wcs, List.map_set]
theorem wcs_size (ws : List UInt64) : (wcs ws).size = ws.length := by simp [wcs]
def WBlk (w : World) (g : Nat) (t : TypeId) (ws : List UInt64) : Prop := Blk w g t (wcs ws)
section
variable {w w' : World} {g : Nat} {t : TypeId} {ws : List UInt64}
theorem WBlk.cell (h : WBlk w g t ws) (i : Nat) (hi : i < ws.length) : w.cell? ⟨g, i, none⟩ = some (.int .u64 (wi (ws.getD i 0))) := (Blk.cell h i).trans (wcs_get ws i hi)
theorem WBlk.set (h : WBlk w g t ws) (i : Nat) (x : UInt64) : WBlk (w.setCell ⟨g, i, none⟩ (.int .u64 (wi x))) g t (ws.set i x) := by
  have := Blk.set h i (.int .u64 (wi x))
  rw [wcs_set] at this
  exact this
end
/-- A package-level row of words: its cells. -/
structure Glob (w : World) (g : Nat) (ws : List UInt64) : Prop where
  lt : g < w.heap.size
  cell : ∀ i, i < ws.length → w.cell? ⟨g, i, none⟩ = some (.int .u64 (wi (ws.getD i 0)))
theorem Glob.below {w w' : World} {g B : Nat} {ws : List UInt64} (h : Glob w g ws) (hb : Below B w w') (hg : g < B) : Glob w' g ws :=
  ⟨Nat.lt_of_lt_of_le h.lt hb.size, fun i hi => (hb.cell (p := ⟨g, i, none⟩) hg).trans (h.cell i hi)⟩
theorem Glob.ext {w w' : World} {g : Nat} {X : Nat → Prop} {ws : List UInt64} (h : Glob w g ws) (hx : Ext X w w') (hg : ¬X g) : Glob w' g ws :=
  ⟨Nat.lt_of_lt_of_le h.lt hx.size, fun i hi => (hx.cells g i h.lt hg).trans (h.cell i hi)⟩
/-- A slice that holds bytes. -/
def BAt (w : World) (v : Value) (l : List UInt8) : Prop := ∃ A c, v = .slice A l.length c ∧ l.length ≤ c ∧ (Kd.int .u8).C w A l.length (l.map bi)
theorem BAt.below {w w' : World} {v : Value} {l : List UInt8} (h : BAt w v l) (hb : Below w.heap.size w w') : BAt w' v l := by
  obtain ⟨A, c, hv, hc, hC⟩ := h
  exact ⟨A, c, hv, hc, Kd.C_below hC hb⟩
theorem rd_bytes (l : List UInt8) (j : Nat) : rd (l.map bi) (j : Int) = bi (l.getD j 0) := by
  unfold rd
  simp only [Int.toNat_natCast, List.getD_eq_getElem?_getD, List.getElem?_map]
  cases l[j]? <;> rfl
/-- Its cells. -/
theorem C_cell {w : World} {A : Option Addr} {l : List UInt8} (h : (Kd.int .u8).C w A l.length (l.map bi)) (j : Nat) (hj : j < l.length) : ∃ ad, A = some ad ∧ w.cell? (ad.add j) = some (.int .u8 (bi (l.getD j 0))) := by
  obtain ⟨ad, hA, hc⟩ := Kd.at_int h (j : Int) (by omega) (by omega)
  rw [rd_bytes, Int.toNat_natCast] at hc
  exact ⟨ad, hA, hc⟩
theorem C_addr {w : World} {A : Option Addr} {l : List UInt8} (h : (Kd.int .u8).C w A l.length (l.map bi)) (hl : 0 < l.length) : ∃ ad, A = some ad ∧ ∀ j, j < l.length → w.cell? (ad.add j) = some (.int .u8 (bi (l.getD j 0))) := by
  obtain ⟨ad, hA, _⟩ := C_cell h 0 hl
  subst hA
  refine ⟨ad, rfl, fun j hj => ?_⟩
  obtain ⟨ad', hA, hc⟩ := C_cell h j hj
  obtain rfl : ad = ad' := by injection hA
  exact hc
theorem BAt.mk_ {w : World} {A : Option Addr} {l : List UInt8} {c : Nat} (hc : l.length ≤ c) (hm : l.length ≤ 9223372036854775807) (h : 0 < l.length → ∃ ad, A = some ad ∧ ∀ j, j < l.length → w.cell? (ad.add j) = some (.int .u8 (bi (l.getD j 0)))) : BAt w (.slice A l.length c) l := by
  refine ⟨A, c, rfl, hc, Kd.C_of_reads (enc := Value.int .u8) (d := 0) ?_⟩
  refine ⟨by simp, hm, fun hn => ?_⟩
  obtain ⟨ad, rfl, hcell⟩ := h hn
  refine ⟨ad, rfl, fun j hj => ?_⟩
  rw [hcell j hj, ← rd_bytes]
  unfold rd
  rw [Int.toNat_natCast]
theorem BAt.of_R {w : World} {v : Value} {l : List UInt8} {e base : Nat} {ok : Nat → Prop} (h : (Kd.int .u8).R e w base ok v (l.map bi)) : BAt w v l := by
  obtain ⟨A, c, hv, hc, hC⟩ := Kd.R_reads h
  rw [List.length_map] at hv hc hC
  exact ⟨A, c, hv, hc, hC⟩
theorem BAt.nil (w : World) : BAt w (.slice none 0 0) [] := ⟨none, 0, rfl, Nat.le_refl _, Kd.C_nil _ _⟩
end Go.Proofs.YtnaiifidcpdamaaDoor
