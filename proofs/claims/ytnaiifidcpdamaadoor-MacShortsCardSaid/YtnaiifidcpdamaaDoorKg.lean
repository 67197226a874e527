/-
  The running sum as memory, and what Add does to it.
-/
import Derived.Test.YtnaiifidcpdamaaDoorKf
set_option linter.unusedVariables false
set_option linter.unusedSimpArgs false
namespace Go.Proofs.YtnaiifidcpdamaaDoor
open Go.RowKit Go.Og Go.Ub Go.Proofs.YtnaiifidcpdamaaDoorW.PrintWords
/-- The words after so many blocks of m. -/
def runN (K : List UInt64) (s : S8) (m : List UInt8) : Nat → S8
  | 0 => s
  | n + 1 => comp K (runN K s m n) ((m.drop (128 * n)).take 128)
def st (K : List UInt64) (s : S8) (m : List UInt8) : S8 := runN K s m (m.length / 128)
def left (m : List UInt8) : List UInt8 := m.drop (128 * (m.length / 128))
theorem runN_append (K : List UInt64) (s : S8) (m p : List UInt8) (n : Nat) (h : 128 * n ≤ m.length) : runN K s (m ++ p) n = runN K s m n := by
  induction n with
  | zero => rfl
  | succ n ih =>
    simp only [runN]
    rw [ih (by omega)]
    congr 1
    rw [List.drop_append_of_le_length (by omega), List.take_append_of_le_length (by rw [List.length_drop]; omega)]
theorem left_append (m p : List UInt8) : left m ++ p = (m ++ p).drop (128 * (m.length / 128)) := by
  unfold left
  rw [List.drop_append_of_le_length (by omega)]
/-- A slice lies in blocks from B on. -/
def Loc (B : Nat) (v : Value) : Prop := ∀ ad n c, v = .slice (some ad) n c → B ≤ ad.block
theorem Loc.mono {B B' : Nat} {v : Value} (h : Loc B v) (hb : B' ≤ B) : Loc B' v := fun ad n c e => Nat.le_trans hb (h ad n c e)
theorem Loc.nil (B n c : Nat) : Loc B (.slice none n c) := fun ad _ _ e => by cases e
theorem OAt.loc {w : World} {base : Nat} {v : Value} {l : List UInt8} (h : OAt w base v l) : Loc base v := by
  intro ad n c e
  exact own_base h ad.block (by rw [e]; rfl)
/-- Bytes stay where a block that isn't theirs is written. -/
theorem BAt.ext {X : Nat → Prop} {w w' : World} {v : Value} {l : List UInt8} (h : BAt w v l) (hx : Ext X w w') (hne : ∀ ad n c, v = .slice (some ad) n c → ¬ X ad.block) : BAt w' v l := by
  obtain ⟨A, c, rfl, hc, hC⟩ := h
  refine BAt.mk_ hc (by have := hC.2.1; omega) fun h0 => ?_
  obtain ⟨ad, rfl, hcell⟩ := C_addr hC h0
  refine ⟨ad, rfl, fun j hj => ?_⟩
  have h1 := hcell j hj
  have hlt := World.block_lt_of_cell? w _ h1
  have e : (ad.add j).block = ad.block := by unfold Addr.add; split <;> rfl
  exact (World.cell?_of_block (hx.block _ hlt (by rw [e]; exact hne _ _ _ rfl))).trans h1
theorem hcells_not_u8 (l : List UInt64) (A : Option Addr) (n c : Nat) (a b : Int) (i : Nat) (x : Int) : (hcells l (.slice A n c) (.int .i64 a) (.int .i64 b))[i]? ≠ some (.int .u8 x) := by
  unfold hcells
  intro h
  rw [Array.getElem?_append] at h
  split at h
  · simp only [wcs, List.getElem?_toArray, List.getElem?_map, Option.map_eq_some_iff] at h
    obtain ⟨y, _, h⟩ := h
    cases h
  · rcases hi : i - (wcs l).size with _ | _ | _ | k
    all_goals rw [hi] at h; simp at h
/-- Bytes do not lie in a running sum's block. -/
theorem BAt.not_g {w : World} {v : Value} {l : List UInt8} {g : Nat} {s : List UInt64} {A : Option Addr} {n c : Nat} {a b : Int} (h : BAt w v l) (hl : 0 < l.length) (hg : Blk w g 63 (hcells s (.slice A n c) (.int .i64 a) (.int .i64 b))) :
    ∀ ad n c, v = .slice (some ad) n c → ad.block ≠ g := by
  intro ad n' c' e he
  obtain ⟨A', c2, rfl, hc, hC⟩ := h
  obtain ⟨ad', rfl, hcell⟩ := C_addr hC hl
  injection e with e1
  injection e1 with e1
  subst e1
  have h0 := hcell 0 hl
  rw [show ad'.add 0 = ad' from rfl] at h0
  have h1 : w.cell? ad' = if ad'.spot.isSome then none else (hcells s (.slice A n c) (.int .i64 a) (.int .i64 b))[ad'.off]? := by
    unfold Blk at hg
    unfold World.cell?
    rw [he, hg]
  rw [h1] at h0
  split at h0
  · cases h0
  · exact hcells_not_u8 _ _ _ _ _ _ _ _ h0
theorem BAt.ext_g {w w' : World} {v : Value} {l : List UInt8} {g : Nat} {s : List UInt64} {A : Option Addr} {n c : Nat} {a b : Int} (h : BAt w v l) (hg : Blk w g 63 (hcells s (.slice A n c) (.int .i64 a) (.int .i64 b))) (hx : Ext (· = g) w w') : BAt w' v l := by
  rcases Nat.eq_zero_or_pos l.length with h0 | h0
  · obtain ⟨A', c2, rfl, hc, hC⟩ := h
    exact BAt.mk_ hc (by omega) fun hp => absurd hp (by omega)
  · exact h.ext hx (h.not_g h0 hg)
theorem C_drop1 {w : World} {A : Option Addr} {l : List UInt8} {c k : Nat} (h : BAt w (.slice A l.length c) l) (hk : k ≤ l.length) : BAt w (.slice (if c = k then A else A.map (·.add k)) (l.length - k) (c - k)) (l.drop k) := by
  obtain ⟨A', c', e, hc, hC⟩ := h
  injection e with e1 e2 e3
  subst e1 e3
  have := BAt.mk_ (w := w) (A := if c = k then A else A.map (·.add k)) (l := l.drop k) (c := c - k) (by rw [List.length_drop]; omega) (by rw [List.length_drop]; have := hC.2.1; omega) (fun h0 => by
    rw [List.length_drop] at h0
    obtain ⟨ad, rfl, hcell⟩ := C_addr hC (by omega)
    rw [if_neg (by omega)]
    refine ⟨ad.add k, rfl, fun j hj => ?_⟩
    rw [List.length_drop] at hj
    rw [add_add, hcell _ (by omega)]
    simp [List.getD_eq_getElem?_getD, List.getElem?_drop])
  rw [List.length_drop] at this
  exact this
theorem C_take1 {w : World} {A : Option Addr} {l : List UInt8} {c k : Nat} (h : BAt w (.slice A l.length c) l) (hk : k ≤ l.length) : BAt w (.slice A k c) (l.take k) := by
  obtain ⟨A', c', e, hc, hC⟩ := h
  injection e with e1 e2 e3
  subst e1 e3
  have hl : (l.take k).length = k := by rw [List.length_take]; omega
  have := BAt.mk_ (w := w) (A := A) (l := l.take k) (c := c) (by omega) (by have := hC.2.1; omega) (fun h0 => by
    rw [hl] at h0
    obtain ⟨ad, rfl, hcell⟩ := C_addr hC (by omega)
    refine ⟨ad, rfl, fun j hj => ?_⟩
    rw [hl] at hj
    rw [hcell _ (by omega)]
    simp [List.getD_eq_getElem?_getD, List.getElem?_take, hj])
  rw [hl] at this
  exact this
theorem PAt.ext_g {w w' : World} {v : Value} {ps : List (List UInt8)} {g : Nat} {s : List UInt64} {A : Option Addr} {n c : Nat} {a b : Int} (h : PAt w v ps) (hg : Blk w g 63 (hcells s (.slice A n c) (.int .i64 a) (.int .i64 b))) (hx : Ext (· = g) w w')
    (hv : 0 < ps.length → ∀ ad n c, v = .slice (some ad) n c → ad.block ≠ g) : PAt w' v ps := by
  obtain ⟨A', c', rfl, hc, hm, hh⟩ := h
  refine ⟨A', c', rfl, hc, hm, fun hn => ?_⟩
  obtain ⟨ad, rfl, hcell⟩ := hh hn
  refine ⟨ad, rfl, fun j hj => ?_⟩
  obtain ⟨u, hu, hB⟩ := hcell j hj
  have hlt := World.block_lt_of_cell? w _ hu
  have e : (ad.add j).block = ad.block := by unfold Addr.add; split <;> rfl
  exact ⟨u, (World.cell?_of_block (hx.block _ hlt (by rw [e]; exact hv hn _ _ _ rfl))).trans hu, hB.ext_g hg hx⟩
/-- Where a slice of slices lies. -/
theorem PAt.block_lt {w : World} {v : Value} {ps : List (List UInt8)} (h : PAt w v ps) (hn : 0 < ps.length) : ∀ ad n c, v = .slice (some ad) n c → ad.block < w.heap.size := by
  obtain ⟨A, c, rfl, hc, hm, hh⟩ := h
  intro ad n c e
  obtain ⟨ad', rfl, hcell⟩ := hh hn
  obtain ⟨u, hu, _⟩ := hcell 0 hn
  injection e with e1
  injection e1 with e1
  subst e1
  exact World.block_lt_of_cell? w _ hu
/-- A running sum of m: its words, what is left, how many, how many it gives. -/
def HAt (w : World) (g B : Nat) (K : List UInt64) (s : S8) (size : Nat) (m : List UInt8) : Prop :=
  ∃ A c, Blk w g 63 (hcells (st K s m).l (.slice A (left m).length c) (.int .i64 (m.length : Nat)) (.int .i64 (size : Nat))) ∧ BAt w (.slice A (left m).length c) (left m) ∧ Loc B (.slice A (left m).length c)
theorem HAt.below {w w' : World} {g B size : Nat} {K : List UInt64} {s : S8} {m : List UInt8} (h : HAt w g B K s size m) (hb : Below w.heap.size w w') : HAt w' g B K s size m := by
  obtain ⟨A, c, h1, h2, h3⟩ := h
  exact ⟨A, c, h1.below hb h1.lt, h2.below hb, h3⟩
theorem HAt.mono {w : World} {g B B' size : Nat} {K : List UInt64} {s : S8} {m : List UInt8} (h : HAt w g B K s size m) (hb : B' ≤ B) : HAt w g B' K s size m := by
  obtain ⟨A, c, h1, h2, h3⟩ := h
  exact ⟨A, c, h1, h2, h3.mono hb⟩
theorem HAt.lt {w : World} {g B size : Nat} {K : List UInt64} {s : S8} {m : List UInt8} (h : HAt w g B K s size m) : g < w.heap.size := by
  obtain ⟨A, c, h1, _⟩ := h
  exact h1.lt
/-- Writes to blocks below B that aren't its own leave a running sum alone. -/
theorem HAt.ext {X : Nat → Prop} {w w' : World} {g B size : Nat} {K : List UInt64} {s : S8} {m : List UInt8} (h : HAt w g B K s size m) (hx : Ext X w w') (hg : ¬ X g) (hX : ∀ k, X k → k < B) : HAt w' g B K s size m := by
  obtain ⟨A, c, h1, h2, h3⟩ := h
  exact ⟨A, c, h1.ext hx hg, h2.ext hx (fun ad n c e hxa => by have := h3 ad n c e; have := hX _ hxa; omega), h3⟩
set_option maxRecDepth 100000 in
set_option maxHeartbeats 4000000 in
theorem new512_any (K : List UInt64) (s : S8) (w : World) (hS : Glob w 0 s.l) : Calls Tryd.prog 17 #[] w fun e w' => e = .returned (.pointer (some ⟨w.heap.size, 0, none⟩)) ∧ HAt w' w.heap.size (w.heap.size + 1) K s 64 [] ∧ Below w.heap.size w w' := by
  have p0 : w.cell? ⟨0, 0, none⟩ = some (.int .u64 (wi s.a)) := hS.cell 0 (by decide : 0 < 8)
  have p1 : w.cell? ⟨0, 1, none⟩ = some (.int .u64 (wi s.b)) := hS.cell 1 (by decide : 1 < 8)
  have p2 : w.cell? ⟨0, 2, none⟩ = some (.int .u64 (wi s.c)) := hS.cell 2 (by decide : 2 < 8)
  have p3 : w.cell? ⟨0, 3, none⟩ = some (.int .u64 (wi s.d)) := hS.cell 3 (by decide : 3 < 8)
  have p4 : w.cell? ⟨0, 4, none⟩ = some (.int .u64 (wi s.e)) := hS.cell 4 (by decide : 4 < 8)
  have p5 : w.cell? ⟨0, 5, none⟩ = some (.int .u64 (wi s.f)) := hS.cell 5 (by decide : 5 < 8)
  have p6 : w.cell? ⟨0, 6, none⟩ = some (.int .u64 (wi s.g)) := hS.cell 6 (by decide : 6 < 8)
  have p7 : w.cell? ⟨0, 7, none⟩ = some (.int .u64 (wi s.h)) := hS.cell 7 (by decide : 7 < 8)
  clear hS
  go_enter Tryd.func17, Tryd.ntmps17
  go_wp2
  go_ret
  refine ⟨rfl, ⟨none, 0, Blk.new _ _ _ rfl, BAt.nil _, Loc.nil _ _ _⟩, (Below.refl _ _).alloc (Nat.le_refl _) _⟩
set_option maxRecDepth 100000 in
set_option maxHeartbeats 4000000 in
theorem new384_any (K : List UInt64) (s : S8) (w : World) (hS : Glob w 1 s.l) : Calls Tryd.prog 18 #[] w fun e w' => e = .returned (.pointer (some ⟨w.heap.size, 0, none⟩)) ∧ HAt w' w.heap.size (w.heap.size + 1) K s 48 [] ∧ Below w.heap.size w w' := by
  have p0 : w.cell? ⟨1, 0, none⟩ = some (.int .u64 (wi s.a)) := hS.cell 0 (by decide : 0 < 8)
  have p1 : w.cell? ⟨1, 1, none⟩ = some (.int .u64 (wi s.b)) := hS.cell 1 (by decide : 1 < 8)
  have p2 : w.cell? ⟨1, 2, none⟩ = some (.int .u64 (wi s.c)) := hS.cell 2 (by decide : 2 < 8)
  have p3 : w.cell? ⟨1, 3, none⟩ = some (.int .u64 (wi s.d)) := hS.cell 3 (by decide : 3 < 8)
  have p4 : w.cell? ⟨1, 4, none⟩ = some (.int .u64 (wi s.e)) := hS.cell 4 (by decide : 4 < 8)
  have p5 : w.cell? ⟨1, 5, none⟩ = some (.int .u64 (wi s.f)) := hS.cell 5 (by decide : 5 < 8)
  have p6 : w.cell? ⟨1, 6, none⟩ = some (.int .u64 (wi s.g)) := hS.cell 6 (by decide : 6 < 8)
  have p7 : w.cell? ⟨1, 7, none⟩ = some (.int .u64 (wi s.h)) := hS.cell 7 (by decide : 7 < 8)
  clear hS
  go_enter Tryd.func18, Tryd.ntmps18
  go_wp2
  go_ret
  refine ⟨rfl, ⟨none, 0, Blk.new _ _ _ rfl, BAt.nil _, Loc.nil _ _ _⟩, (Below.refl _ _).alloc (Nat.le_refl _) _⟩
set_option maxRecDepth 100000 in
set_option maxHeartbeats 4000000 in
theorem len_any (K : List UInt64) (s : S8) (size g B : Nat) (m : List UInt8) (w : World) (h : HAt w g B K s size m) : Calls Tryd.prog 23 #[.pointer (some ⟨g, 0, none⟩)] w fun e w' => e = .returned (.int .i64 (m.length : Nat)) ∧ w = w' := by
  obtain ⟨A, c, h1, _⟩ := h
  have p9 : w.cell? ⟨g, 9, none⟩ = some (.int .i64 (m.length : Nat)) := h1.cell 9
  clear h1
  go_enter Tryd.func23, Tryd.ntmps23
  go_wp2
  go_ret
  exact ⟨rfl, rfl⟩
end Go.Proofs.YtnaiifidcpdamaaDoor
