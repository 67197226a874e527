/-
  A running sum held by its caller.
-/
import Derived.Test.YtnaiifidcpdamaaDoorKx
set_option linter.unusedVariables false
set_option linter.unusedSimpArgs false
namespace Go.Proofs.YtnaiifidcpdamaaDoor
open Go.RowKit Go.Og Go.Ub Go.Proofs.YtnaiifidcpdamaaDoorW.PrintWords
/-- A running sum in block g, made since world w. -/
structure Run (K : List UInt64) (s : S8) (size g : Nat) (w wx : World) (m : List UInt8) : Prop where
  far : Below w.heap.size w wx
  sum : HAt wx g (g + 1) K s size m
  new : w.heap.size ≤ g
  glob : Glob w 2 K
  small : size ≤ 64
  wide : K.length = 80
section
variable {K : List UInt64} {s : S8} {size g : Nat} {w wx wy : World} {m : List UInt8}
theorem Run.lt (h : Run K s size g w wx m) : g < wx.heap.size := h.sum.lt
theorem Run.k (h : Run K s size g w wx m) : Glob wx 2 K := h.glob.below h.far h.glob.lt
theorem Run.below (h : Run K s size g w wx m) (hb : Below wx.heap.size wx wy) : Run K s size g w wy m :=
  ⟨h.far.trans (hb.mono h.far.size), h.sum.below hb, h.new, h.glob, h.small, h.wide⟩
theorem Run.add (h : Run K s size g w wx m) (ps : List (List UInt8)) (hml : m.length + ps.flatten.length ≤ 100000000) (u : Value) (hp : PAt wx u ps) (hv : 0 < ps.length → ∀ ad n c, u = .slice (some ad) n c → ad.block ≠ g) :
    Calls Tryd.prog 19 #[.pointer (some ⟨g, 0, none⟩), u] wx fun e w' => e = .returned (.tuple #[]) ∧ Run K s size g w w' (m ++ ps.flatten) ∧ Ext (· = g) wx w' := by
  have hlt := h.lt
  have h2 := h.glob.lt
  have hn := h.new
  refine (add_any K h.wide s size g (g + 1) m ps hml u wx (by omega) (by omega) (by omega) h.sum h.k hp hv).mono ?_
  rintro e w' ⟨rfl, hH, hx⟩
  have hb := bk_le ps.length (g + 1) wx.heap.size g (by omega) (by omega)
  exact ⟨rfl, ⟨h.far.trans (hx.below (B := w.heap.size) h.far.size (fun k hk hx => by omega)), hH.mono hb, hn, h.glob, h.small, h.wide⟩, hx⟩
theorem Run.told (h : Run K s size g w wx m) (hml : m.length ≤ 99000000) :
    Calls Tryd.prog 20 #[.pointer (some ⟨g, 0, none⟩)] wx fun e w' => ∃ v, e = .returned v ∧ OAt w' wx.heap.size v ((sha K s m).take size) ∧ Run K s size g w w' m ∧ Below wx.heap.size wx w' := by
  refine (sum_any K h.wide s size g (g + 1) h.small m hml wx h.sum h.k).mono ?_
  rintro e w' ⟨v, rfl, hO, hb⟩
  exact ⟨v, rfl, hO, h.below hb, hb⟩
theorem Run.len (h : Run K s size g w wx m) : Calls Tryd.prog 23 #[.pointer (some ⟨g, 0, none⟩)] wx fun e w' => e = .returned (.int .i64 (m.length : Nat)) ∧ wx = w' := len_any K s size g (g + 1) m wx h.sum
end
theorem BAt.len {w : World} {v : Value} {l : List UInt8} (h : BAt w v l) : ∃ A c, v = .slice A l.length c := by
  obtain ⟨A, c, rfl, _⟩ := h
  exact ⟨A, c, rfl⟩
theorem BAt.empty (w : World) (g : Nat) : BAt w (.slice (some ⟨g, 0, none⟩) 0 0) [] := BAt.mk_ (l := []) (A := some ⟨g, 0, none⟩) (c := 0) (by simp) (by simp) (fun h => by simp at h)
/-- Nothing more, taken. -/
theorem Run.idle {K : List UInt64} {s : S8} {size g : Nat} {w wx : World} {m : List UInt8} (h : Run K s size g w wx m) (hml : m.length ≤ 90000000) (ps : List (List UInt8)) (hps : ps.flatten = []) (u : Value) (hp : PAt wx u ps) (hv : 0 < ps.length → ∀ ad n c, u = .slice (some ad) n c → ad.block ≠ g) :
    Calls Tryd.prog 19 #[.pointer (some ⟨g, 0, none⟩), u] wx fun e w' => e = .returned (.tuple #[]) ∧ Run K s size g w w' m := by
  refine (h.add ps (by rw [hps]; simp; omega) u hp hv).mono ?_
  rintro e w' ⟨rfl, hR, _⟩
  rw [hps, List.append_nil] at hR
  exact ⟨rfl, hR⟩
/-- The sum that a law takes: of 48 bytes, or of 64. -/
theorem Run.start5 (K : List UInt64) (hKl : K.length = 80) (s : S8) (w wx : World) (hb : Below w.heap.size w wx) (hK : Glob w 2 K) (hS : Glob w 0 s.l) :
    Calls Tryd.prog 17 #[] wx fun e w' => e = .returned (.pointer (some ⟨wx.heap.size, 0, none⟩)) ∧ Run K s 64 wx.heap.size w w' [] ∧ Below wx.heap.size wx w' := by
  refine (new512_any K s wx (hS.below hb hS.lt)).mono ?_
  rintro e w' ⟨rfl, hH, hb'⟩
  exact ⟨rfl, ⟨hb.trans (hb'.mono hb.size), hH, hb.size, hK, by decide, hKl⟩, hb'⟩
theorem Run.start3 (K : List UInt64) (hKl : K.length = 80) (s : S8) (w wx : World) (hb : Below w.heap.size w wx) (hK : Glob w 2 K) (hS : Glob w 1 s.l) :
    Calls Tryd.prog 18 #[] wx fun e w' => e = .returned (.pointer (some ⟨wx.heap.size, 0, none⟩)) ∧ Run K s 48 wx.heap.size w w' [] ∧ Below wx.heap.size wx w' := by
  refine (new384_any K s wx (hS.below hb hS.lt)).mono ?_
  rintro e w' ⟨rfl, hH, hb'⟩
  exact ⟨rfl, ⟨hb.trans (hb'.mono hb.size), hH, hb.size, hK, by decide, hKl⟩, hb'⟩
end Go.Proofs.YtnaiifidcpdamaaDoor
