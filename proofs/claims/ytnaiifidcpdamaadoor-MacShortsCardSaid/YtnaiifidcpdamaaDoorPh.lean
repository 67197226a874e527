/-
  How arguments that are arrays of two are opened.
-/
import Derived.Test.YtnaiifidcpdamaaDoorKx
set_option linter.unusedVariables false
set_option linter.unusedSimpArgs false
namespace Go.Proofs.YtnaiifidcpdamaaDoor
open Go.ChangeShapes Go.WideShapes Go.ChangeAt Go.RowKit Go.Ub
theorem cells52 : Tryd.prog.cellsOf 52 = 2 := by kernel_rfl
theorem cells48 : Tryd.prog.cellsOf 48 = 2 := by kernel_rfl
theorem two_of {cs : Array Value} (h : cs.size = 2) : ∃ x y, cs = #[x, y] := by
  obtain ⟨l⟩ := cs
  rcases l with _ | ⟨x, _ | ⟨y, _ | ⟨z, l⟩⟩⟩ <;> simp at h
  exact ⟨x, y, rfl⟩
section
variable {H : Type} {enc : TypeId × Value → H} {P : Program} {w : World} {base : Nat} {sp : Nat → Bool} {hd : Bool}
theorem trod_two {t e : TypeId} {fuel : Nat} {c0 c1 : Value} {x : DataW H × List MemPlace} (ht : P.underlying t = some (.array 2 e)) (hce : P.cellsOf e = 1)
    (h : DataW.trod enc P w base sp hd fuel t [c0, c1] = some x) :
    ∃ y0 y1 n, x = (.agg [y0.1, y1.1], y0.2 ++ y1.2) ∧ DataW.trod enc P w base sp hd n e [c0] = some y0 ∧ DataW.trod enc P w base sp hd n e [c1] = some y1 := by
  cases fuel with
  | zero => simp [DataW.trod] at h
  | succ n =>
    unfold DataW.trod at h
    rw [ht] at h
    have r2 : List.range 2 = [0, 1] := rfl
    simp [r2, hce] at h
    obtain ⟨_, h⟩ := h
    cases h0 : DataW.trod enc P w base sp hd n e [c0] with
    | none => simp [h0] at h
    | some y0 =>
      cases h1 : DataW.trod enc P w base sp hd n e [c1] with
      | none => simp [h0, h1] at h
      | some y1 =>
        simp [h0, h1] at h
        exact ⟨y0, y1, n, h.symm, h0, h1⟩
end
section
variable {H : Type} {enc : TypeId × Value → H} {W : World} {base : Nat} {v : Value} {d : DataW H} {p : List MemPlace}
theorem open_u2 (hv : Value.okWide Tryd.prog W .any base 52 v) (h : DataW.Trod enc Tryd.prog W 0 (fun _ => true) true 52 v d p) : ∃ x y, v = .agg #[.int .u8 x, .int .u8 y] ∧ (Lit.int .u8 x).wf = true ∧ (Lit.int .u8 y).wf = true := by
  obtain ⟨cs, rfl, hsz, _⟩ : ∃ cs, v = .agg cs ∧ cs.size = Tryd.prog.cellsOf 52 ∧ Row.okWide Tryd.prog W .any base 52 cs := by
    simpa [Value.okWide, Tryd.underlying52] using hv
  rw [cells52] at hsz
  obtain ⟨c0, c1, rfl⟩ := two_of hsz
  obtain ⟨fuel, hf⟩ := h
  obtain ⟨y0, y1, n, hx, h0, h1⟩ := trod_two Tryd.underlying52 cells5 hf
  obtain ⟨x0, e0, rfl, w0⟩ := DataW.trod_int Tryd.underlying5 h0
  obtain ⟨x1, e1, rfl, w1⟩ := DataW.trod_int Tryd.underlying5 h1
  simp at e0 e1
  subst e0 e1
  exact ⟨x0, x1, rfl, w0, w1⟩
end
end Go.Proofs.YtnaiifidcpdamaaDoor
