import Derived.Test.YtdfmamemnenkcaaProg
import Derived.Test.YtdfmamemnenkcaaOg
import Derived.Test.YtdfmamemnenkcaaNm
import Derived.WalkKit
import Derived.WalkSpells
import Derived.WalkLawsBesides
import Derived.Outline
import Derived.RowKit3
import Derived.Laws.Externs
import Derived.KernelRfl
import Derived.Lib.Hide
import Derived.Deep.LoopGhost
set_option linter.unusedVariables false
set_option linter.unusedSimpArgs false
namespace Go.Proofs.Ytdfmamemnenkcaa
open Go.RowKit Go.Og Go.Nm
def add64Entry : Array Value → Sem Value := fun args => do
  let (x, y, c) ← Extern.MathBitsCarry.three "Add64" args
  pure (Extern.MathBitsCarry.pair ((x + y + c) % Extern.MathBitsCarry.m64) ((x + y + c) / Extern.MathBitsCarry.m64))
def sub64Entry : Array Value → Sem Value := fun args => do
  let (x, y, b) ← Extern.MathBitsCarry.three "Sub64" args
  pure (Extern.MathBitsCarry.pair ((x + Extern.MathBitsCarry.m64 - y - b) % Extern.MathBitsCarry.m64) (if x < y + b then 1 else 0))
theorem run_add64 {P : Program} (x y c : Nat) (hc : c ≤ 1) (w : World) :
    (add64Entry #[.int .u64 x, .int .u64 y, .int .u64 c]).run P w = .ok (.tuple #[.int .u64 (((x + y + c) % W : Nat) : Int), .int .u64 (((x + y + c) / W : Nat) : Int)]) w := by
  have : c = 0 ∨ c = 1 := by omega
  rcases this with rfl | rfl <;> rfl
theorem run_sub64 {P : Program} (x y b : Nat) (hb : b ≤ 1) (w : World) :
    (sub64Entry #[.int .u64 x, .int .u64 y, .int .u64 b]).run P w = .ok (.tuple #[.int .u64 (((x + W - y - b) % W : Nat) : Int), .int .u64 ((if x < y + b then 1 else 0 : Nat) : Int)]) w := by
  have : b = 0 ∨ b = 1 := by omega
  rcases this with rfl | rfl <;> rfl
theorem call_add64 (x y c : Nat) (hc : c ≤ 1) (w : World) : (callFunc 59 #[.int .u64 x, .int .u64 y, .int .u64 c]).run Try.prog w =
    .ok (.value (.tuple #[.int .u64 (((x + y + c) % W : Nat) : Int), .int .u64 (((x + y + c) / W : Nat) : Int)])) w := by
  rw [run_callFunc_extern Try.func59 (by kernel_rfl) (by kernel_rfl) (by kernel_rfl) (e := add64Entry) (by kernel_rfl), run_add64 x y c hc]
  rfl
theorem call_sub64 (x y c : Nat) (hc : c ≤ 1) (w : World) : (callFunc 55 #[.int .u64 x, .int .u64 y, .int .u64 c]).run Try.prog w =
    .ok (.value (.tuple #[.int .u64 (((x + W - y - c) % W : Nat) : Int), .int .u64 ((if x < y + c then 1 else 0 : Nat) : Int)])) w := by
  rw [run_callFunc_extern Try.func55 (by kernel_rfl) (by kernel_rfl) (by kernel_rfl) (e := sub64Entry) (by kernel_rfl), run_sub64 x y c hc]
  rfl
/-- One word's sum, as the loop has it. -/
theorem add_step (a b k : Nat) (w : World) : (callFunc 59 #[.int .u64 (wd a k : Nat), .int .u64 (wd b k : Nat), .int .u64 (cy a b k : Nat)]).run Try.prog w =
    .ok (.value (.tuple #[.int .u64 (wd (a + b) k : Nat), .int .u64 (cy a b (k + 1) : Nat)])) w := by
  rw [call_add64 _ _ _ (cy_le a b k), sum_word, sum_carry]
theorem sub_step (a b k : Nat) (hk : k < 4) (hb : b ≤ a + W ^ 4) (w : World) : (callFunc 55 #[.int .u64 (wd a k : Nat), .int .u64 (wd b k : Nat), .int .u64 (bw a b k : Nat)]).run Try.prog w =
    .ok (.value (.tuple #[.int .u64 (wd (a + W ^ 4 - b) k : Nat), .int .u64 (bw a b (k + 1) : Nat)])) w := by
  rw [call_sub64 _ _ _ (bw_le a b k), diff_word a b 4 k hk hb, diff_borrow]

theorem Ext.set1 (g o : Nat) (w : World) (u : Value) : Ext (· = g) w (w.setCell ⟨g, o, none⟩ u) := Ext.setCell (X := (· = g)) (Ext.refl _ _) (.inl rfl) _
/-- A block of cells. -/
def Blk (w : World) (g : Nat) (t : TypeId) (cs : Array Value) : Prop := w.heap[g]? = some (.cells cs t (0, 0))
theorem Blk.cell {w : World} {g : Nat} {t : TypeId} {cs : Array Value} (h : Blk w g t cs) : ∀ i, w.cell? ⟨g, i, none⟩ = cs[i]? := fun i => cell_of_row w g i cs t (0, 0) h
theorem Blk.frozen {w : World} {g : Nat} {t : TypeId} {cs : Array Value} (h : Blk w g t cs) : ∀ i, w.frozen? ⟨g, i, none⟩ = false := fun i => by
  unfold Blk at h; simp [World.frozen?, h]
theorem Blk.lt {w : World} {g : Nat} {t : TypeId} {cs : Array Value} (h : Blk w g t cs) : g < w.heap.size := by
  rcases Nat.lt_or_ge g w.heap.size with hlt | hge
  · exact hlt
  · unfold Blk at h; rw [Array.getElem?_eq_none hge] at h; cases h
theorem Blk.set {w : World} {g : Nat} {t : TypeId} {cs : Array Value} (h : Blk w g t cs) (i : Nat) (u : Value) : Blk (w.setCell ⟨g, i, none⟩ u) g t (cs.setIfInBounds i u) := by
  unfold Blk at h ⊢
  simp [World.setCell, Array.getElem?_modify, h]
theorem Blk.ext {w w' : World} {g : Nat} {t : TypeId} {cs : Array Value} {X : Nat → Prop} (h : Blk w g t cs) (hx : Ext X w w') (hg : ¬X g) : Blk w' g t cs := (hx.block g h.lt hg).trans h
theorem Blk.below {w w' : World} {g : Nat} {t : TypeId} {cs : Array Value} {B : Nat} (h : Blk w g t cs) (hb : Below B w w') (hg : g < B) : Blk w' g t cs := (hb.block g hg).trans h

theorem Blk.new {w : World} (g : Nat) (t : TypeId) (cs : Array Value) (h : w.heap.size = g) : Blk (w.alloc (.cells cs t)) g t cs := by subst h; exact MapKept.heap_alloc w _ |>.1
theorem Blk.alloc {w : World} {g : Nat} {t : TypeId} {cs : Array Value} (h : Blk w g t cs) (o : Obj) : Blk (w.alloc o) g t cs := (Below.heap_alloc w o g h.lt).trans h
/-- The cells of the first number while the sum is made. -/
def half (a s k : Nat) : Array Value := #[.int .u64 (if 0 < k then wd s 0 else wd a 0 : Nat), .int .u64 (if 1 < k then wd s 1 else wd a 1 : Nat), .int .u64 (if 2 < k then wd s 2 else wd a 2 : Nat), .int .u64 (if 3 < k then wd s 3 else wd a 3 : Nat)]

theorem half_get (a s k j : Nat) (hj : j < 4) (h : k ≤ j) : (half a s k)[j]? = some (.int .u64 (wd a j : Nat)) := by
  have : j = 0 ∨ j = 1 ∨ j = 2 ∨ j = 3 := by omega
  rcases this with rfl | rfl | rfl | rfl <;> simp [half] <;> (split <;> first | rfl | omega)
theorem half_set (a s k : Nat) (hk : k < 4) : (half a s k).setIfInBounds k (.int .u64 (wd s k : Nat)) = half a s (k + 1) := by
  have : k = 0 ∨ k = 1 ∨ k = 2 ∨ k = 3 := by omega
  rcases this with rfl | rfl | rfl | rfl <;> rfl
def words (b : Nat) : Array Value := #[.int .u64 (wd b 0 : Nat), .int .u64 (wd b 1 : Nat), .int .u64 (wd b 2 : Nat), .int .u64 (wd b 3 : Nat)]
theorem words_get (b j : Nat) (hj : j < 4) : (words b)[j]? = some (.int .u64 (wd b j : Nat)) := by
  have : j = 0 ∨ j = 1 ∨ j = 2 ∨ j = 3 := by omega
  rcases this with rfl | rfl | rfl | rfl <;> rfl
theorem half_zero (a s : Nat) : half a s 0 = words a := rfl
theorem half_four (a s : Nat) : half a s 4 = words s := rfl

theorem Blk.words4 {w : World} {g n : Nat} (h : Blk w g 24 (words n)) : w.cell? ⟨g, 0, none⟩ = some (.int .u64 (wd n 0 : Nat)) ∧ w.cell? ⟨g, 1, none⟩ = some (.int .u64 (wd n 1 : Nat)) ∧ w.cell? ⟨g, 2, none⟩ = some (.int .u64 (wd n 2 : Nat)) ∧ w.cell? ⟨g, 3, none⟩ = some (.int .u64 (wd n 3 : Nat)) :=
  ⟨h.cell 0, h.cell 1, h.cell 2, h.cell 3⟩
theorem words_zero : words 0 = #[.int .u64 0, .int .u64 0, .int .u64 0, .int .u64 0] := by simp [words, wd]

set_option maxRecDepth 100000 in
set_option maxHeartbeats 1000000 in
theorem plus_any (a b : Nat) (w : World) : Calls Try.prog 52 #[num a, num b] w fun e w' => e = .returned (.tuple #[num (a + b), .int .u64 (cy a b 4 : Nat)]) ∧ Below w.heap.size w w' := by
  unfold num
  go_enter Try.func52, Try.ntmps52
  go_wp2
  go_loopw [6, 8] (fun c i wr => ∃ k : Nat, k ≤ 4 ∧ i = .int .i64 k ∧ c = .int .u64 (cy a b k : Nat) ∧ Below w.heap.size w wr ∧ Blk wr w.heap.size 24 (half a (a + b) k) ∧
      Blk wr (w.heap.size + 1) 24 (words b) ∧ Blk wr (w.heap.size + 2) 24 (words 0)) (fun _ i _ => 4 - (intOf i).toNat)
  case atStart =>
    refine ⟨0, by omega, rfl, by rw [cy_zero]; rfl, ?_, ?_, ?_, ?_⟩
    · exact (((Below.refl _ _).alloc (Nat.le_refl _) _).alloc (by simp) _).alloc (by simp; omega) _
    · exact ((Blk.new _ _ _ rfl).alloc _).alloc _
    · exact (Blk.new _ _ _ (by simp)).alloc _
    · rw [words_zero]; exact Blk.new _ _ _ (by simp)
  case round =>
    obtain ⟨k, hk, rfl, rfl, hb, h0, h1, h2⟩ := hrel
    by_cases hlt : k < 4
    · go_wp2
      have hstep := add_step a b k
      have hz := h2.lt
      refine' wp_region_og_lit 13 [some false, some false, some false, some false, some false, some false, some false, some false, some false, some false, some false, none, none, some false, some true]
        [.is _, .is _, .is _, .is _, .is _, .is _, .is _, .is _, .is _, .is _, .is _, .is _, .is _, .is undef, .is _]
        (fun c w' => Ext (· = w.heap.size) wr w' ∧ Blk w' w.heap.size 24 (half a (a + b) (if c then k + 1 else k))) (Ext (· = w.heap.size)) (by kernel_rfl) (by kernel_rfl) ?h0 ?hw
      case h0 => exact ⟨(Ext.refl _ _).drew, h0⟩
      case hw =>
        iterate 15 (
          apply walk_is
          · rfl
          · rfl
          · intro c hc wx hS hE K hK
            obtain ⟨hx, hB⟩ := hS
            have c1 : wx.cell? ⟨w.heap.size + 1, k, none⟩ = _ := ((h1.ext hx (by omega)).cell k).trans (words_get b k hlt)
            have c0 : c = false → wx.cell? ⟨w.heap.size, k, none⟩ = some (.int .u64 (wd a k : Nat)) := fun h => (hB.cell k).trans (by rw [h]; exact half_get a (a + b) k k hlt (Nat.le_refl _))
            have f0 := hB.frozen k
            (first | (obtain rfl := hc _ rfl) | cases c)
            all_goals (
              clear hE hc
              simp only [if_true, Bool.false_eq_true, if_false] at hB
              go_wp2
              apply Told.mk
              · first
                | (simp only [Act.put, List.setIfInBounds_toArray, List.set_cons_succ, List.set_cons_zero]; done)
                | (simp only [Act.put, List.setIfInBounds_toArray, List.set_cons_succ, List.set_cons_zero]; rfl)
              · first
                | exact ⟨hx, hB⟩
                | exact ⟨hx.setCell (.inl rfl) _, by rw [← half_set a (a + b) k hlt]; exact hB.set k _⟩
              · first
                | exact Ext.refl _ _
                | exact Ext.set1 _ _ _ _)
          simp only [Act.put, List.setIfInBounds_toArray, List.set_cons_succ, List.set_cons_zero])
        refine walk_end ?_
        rintro w2 ⟨hx, hB⟩ -
        simp only [List.length_cons, List.length_nil, Nat.reduceAdd, Nat.reduceLT, decide_true, if_true] at hB
        go_wp2
        go_roundw
        case rel =>
          exact ⟨k + 1, by omega, by go_num, rfl, hb.trans (hx.below hb.size (by intro j hj; omega)), hB, h1.ext hx (by omega), h2.ext hx (by omega)⟩
        case measure => simp [intOf]; omega
    · have : k = 4 := by omega
      subst this
      have hz := h2.lt
      rw [half_four] at h0
      obtain ⟨p0, p1, p2, p3⟩ := h0.words4
      obtain ⟨q0, q1, q2, q3⟩ := h2.words4
      have f2 := h2.frozen
      have hb' := Lib.hid hb
      clear hb h0 h1
      go_wp2
      refine bodyPost_ret (v := .tuple #[num (a + b), .int .u64 (cy a b 4 : Nat)]) (by simp [results, Try.results52, go_sem, q0, q1, q2, q3, num]) rfl ⟨rfl, ?_⟩
      exact (((hb'.out.setCell (by simp; omega) _).setCell (by simp; omega) _).setCell (by simp; omega) _).setCell (by simp; omega) _

set_option maxRecDepth 100000 in
set_option maxHeartbeats 1000000 in
theorem minus_any (a b : Nat) (hba : b ≤ a + W ^ 4) (w : World) : Calls Try.prog 42 #[num a, num b] w fun e w' => e = .returned (.tuple #[num (a + W ^ 4 - b), .int .u64 (bw a b 4 : Nat)]) ∧ Below w.heap.size w w' := by
  unfold num
  go_enter Try.func42, Try.ntmps42
  go_wp2
  go_loopw [6, 8] (fun c i wr => ∃ k : Nat, k ≤ 4 ∧ i = .int .i64 k ∧ c = .int .u64 (bw a b k : Nat) ∧ Below w.heap.size w wr ∧ Blk wr w.heap.size 24 (half a (a + W ^ 4 - b) k) ∧
      Blk wr (w.heap.size + 1) 24 (words b) ∧ Blk wr (w.heap.size + 2) 24 (words 0)) (fun _ i _ => 4 - (intOf i).toNat)
  case atStart =>
    refine ⟨0, by omega, rfl, by rw [bw_zero]; rfl, ?_, ?_, ?_, ?_⟩
    · exact (((Below.refl _ _).alloc (Nat.le_refl _) _).alloc (by simp) _).alloc (by simp; omega) _
    · exact ((Blk.new _ _ _ rfl).alloc _).alloc _
    · exact (Blk.new _ _ _ (by simp)).alloc _
    · rw [words_zero]; exact Blk.new _ _ _ (by simp)
  case round =>
    obtain ⟨k, hk, rfl, rfl, hb, h0, h1, h2⟩ := hrel
    by_cases hlt : k < 4
    · go_wp2
      have hstep := sub_step a b k hlt hba
      have hz := h2.lt
      refine' wp_region_og_lit 13 [some false, some false, some false, some false, some false, some false, some false, some false, some false, some false, some false, none, none, some false, some true]
        [.is _, .is _, .is _, .is _, .is _, .is _, .is _, .is _, .is _, .is _, .is _, .is _, .is _, .is undef, .is _]
        (fun c w' => Ext (· = w.heap.size) wr w' ∧ Blk w' w.heap.size 24 (half a (a + W ^ 4 - b) (if c then k + 1 else k))) (Ext (· = w.heap.size)) (by kernel_rfl) (by kernel_rfl) ?h0 ?hw
      case h0 => exact ⟨(Ext.refl _ _).drew, h0⟩
      case hw =>
        iterate 15 (
          apply walk_is
          · rfl
          · rfl
          · intro c hc wx hS hE K hK
            obtain ⟨hx, hB⟩ := hS
            have c1 : wx.cell? ⟨w.heap.size + 1, k, none⟩ = _ := ((h1.ext hx (by omega)).cell k).trans (words_get b k hlt)
            have c0 : c = false → wx.cell? ⟨w.heap.size, k, none⟩ = some (.int .u64 (wd a k : Nat)) := fun h => (hB.cell k).trans (by rw [h]; exact half_get a (a + W ^ 4 - b) k k hlt (Nat.le_refl _))
            have f0 := hB.frozen k
            (first | (obtain rfl := hc _ rfl) | cases c)
            all_goals (
              clear hE hc
              simp only [if_true, Bool.false_eq_true, if_false] at hB
              go_wp2
              apply Told.mk
              · first
                | (simp only [Act.put, List.setIfInBounds_toArray, List.set_cons_succ, List.set_cons_zero]; done)
                | (simp only [Act.put, List.setIfInBounds_toArray, List.set_cons_succ, List.set_cons_zero]; rfl)
              · first
                | exact ⟨hx, hB⟩
                | exact ⟨hx.setCell (.inl rfl) _, by rw [← half_set a (a + W ^ 4 - b) k hlt]; exact hB.set k _⟩
              · first
                | exact Ext.refl _ _
                | exact Ext.set1 _ _ _ _)
          simp only [Act.put, List.setIfInBounds_toArray, List.set_cons_succ, List.set_cons_zero])
        refine walk_end ?_
        rintro w2 ⟨hx, hB⟩ -
        simp only [List.length_cons, List.length_nil, Nat.reduceAdd, Nat.reduceLT, decide_true, if_true] at hB
        go_wp2
        go_roundw
        case rel =>
          exact ⟨k + 1, by omega, by go_num, rfl, hb.trans (hx.below hb.size (by intro j hj; omega)), hB, h1.ext hx (by omega), h2.ext hx (by omega)⟩
        case measure => simp [intOf]; omega
    · have : k = 4 := by omega
      subst this
      have hz := h2.lt
      rw [half_four] at h0
      obtain ⟨p0, p1, p2, p3⟩ := h0.words4
      obtain ⟨q0, q1, q2, q3⟩ := h2.words4
      have f2 := h2.frozen
      have hb' := Lib.hid hb
      clear hb h0 h1
      go_wp2
      refine bodyPost_ret (v := .tuple #[num (a + W ^ 4 - b), .int .u64 (bw a b 4 : Nat)]) (by simp [results, Try.results42, go_sem, q0, q1, q2, q3, num]) rfl ⟨rfl, ?_⟩
      exact (((hb'.out.setCell (by simp; omega) _).setCell (by simp; omega) _).setCell (by simp; omega) _).setCell (by simp; omega) _
end Go.Proofs.Ytdfmamemnenkcaa
