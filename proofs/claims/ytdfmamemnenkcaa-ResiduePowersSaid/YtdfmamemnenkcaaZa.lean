/-
  How an argument that is a number of four words is opened, and the last step of a law's row, where of the world behind the call only this is known: what was there stands.
-/
import Derived.Test.YtdfmamemnenkcaaRows
import Derived.Test.YtdfmamemnenkcaaNm
import Derived.WalkKit
import Derived.ProofKit
import Derived.OpenShut
import Derived.Below
import Derived.Laws.IdiomArrays
import Derived.Lib.SmallJoins
set_option linter.unusedVariables false
set_option linter.unusedSimpArgs false
namespace Go.Proofs.Ytdfmamemnenkcaa
open Go.ChangeShapes Go.WideShapes Go.ChangeAt Go.RowKit Go.Nm
theorem own : ownKnob Try.prog.godebug = none := by kernel_rfl
theorem cells22 : Try.prog.cellsOf 22 = 1 := by kernel_rfl
theorem cells24 : Try.prog.cellsOf 24 = 4 := by kernel_rfl
/-- Four words make a number. -/
theorem num_of_words (a b c d : Nat) (ha : a < W) (hb : b < W) (hc : c < W) (hd : d < W) : ∃ n, n < W ^ 4 ∧ wd n 0 = a ∧ wd n 1 = b ∧ wd n 2 = c ∧ wd n 3 = d := by
  unfold W at *
  refine ⟨a + 18446744073709551616 * (b + 18446744073709551616 * (c + 18446744073709551616 * d)), ?_, ?_, ?_, ?_, ?_⟩
  · omega
  · unfold wd W; rw [Nat.pow_zero, Nat.div_one]; omega
  · unfold wd W; rw [Nat.pow_one]; omega
  · unfold wd W; rw [show 18446744073709551616 ^ 2 = 18446744073709551616 * 18446744073709551616 from rfl, ← Nat.div_div_eq_div_mul]; omega
  · unfold wd W; rw [show 18446744073709551616 ^ 3 = 18446744073709551616 * 18446744073709551616 * 18446744073709551616 from rfl, ← Nat.div_div_eq_div_mul, ← Nat.div_div_eq_div_mul]; omega
/-- An argument of type 24 is a number; it reads alike in every world. -/
theorem open_num {H : Type} {enc : TypeId × Value → H} {w : World} {base : Nat} {sp : Nat → Bool} {v : Value} {d : DataW H} {p : List MemPlace}
    (hv : Value.okWide Try.prog w .any base 24 v) (h : DataW.Trod enc Try.prog w 0 sp true 24 v d p) :
    ∃ n, n < W ^ 4 ∧ v = num n ∧ p = [] ∧ ∀ (w' : World) (sp' : Nat → Bool), DataW.Trod enc Try.prog w' 0 sp' true 24 v d [] := by
  obtain ⟨cs, rfl, hsz, _⟩ : ∃ cs, v = .agg cs ∧ cs.size = Try.prog.cellsOf 24 ∧ Row.okWide Try.prog w .any base 24 cs := by
    simpa [Value.okWide, Try.underlying24] using hv
  rw [cells24] at hsz
  obtain ⟨c0, c1, c2, c3, rfl⟩ := Joins.array4 hsz
  obtain ⟨fuel, hf⟩ := h
  obtain ⟨y0, y1, y2, y3, m, hx, hy0, hy1, hy2, hy3⟩ := trod_array4 Try.underlying24 cells22 hf
  obtain ⟨x0, e0, rfl, w0⟩ := DataW.trod_int Try.underlying22 hy0
  obtain ⟨x1, e1, rfl, w1⟩ := DataW.trod_int Try.underlying22 hy1
  obtain ⟨x2, e2, rfl, w2⟩ := DataW.trod_int Try.underlying22 hy2
  obtain ⟨x3, e3, rfl, w3⟩ := DataW.trod_int Try.underlying22 hy3
  simp at e0 e1 e2 e3
  subst e0 e1 e2 e3
  simp only [Prod.mk.injEq] at hx
  obtain ⟨rfl, rfl⟩ := hx
  have b0 := bounds_u64 w0
  have b1 := bounds_u64 w1
  have b2 := bounds_u64 w2
  have b3 := bounds_u64 w3
  obtain ⟨n, hn, f0, f1, f2, f3⟩ := num_of_words x0.toNat x1.toNat x2.toNat x3.toNat (by unfold W; omega) (by unfold W; omega) (by unfold W; omega) (by unfold W; omega)
  refine ⟨n, hn, ?_, rfl, fun w' sp' => ⟨2, by simp [DataW.trod, Value.cells, Try.underlying24, Try.underlying22, cells24, cells22, w0, w1, w2, w3, show List.range 4 = [0, 1, 2, 3] from rfl]⟩⟩
  unfold num
  rw [f0, f1, f2, f3, Int.toNat_of_nonneg b0.1, Int.toNat_of_nonneg b1.1, Int.toNat_of_nonneg b2.1, Int.toNat_of_nonneg b3.1]

/-- A law's last step: the arguments hold no memory of the caller's, and nothing that was there has changed. -/
theorem post_plain {H : Type} {enc : TypeId × Value → H} {P : Program} {f : Func} {s : ChangeSpec} {apart fresh handsOn again : Bool} {W W' : World} {args : Array Value} {v : Value} {ds : List (DataW H)}
    (hW : DataW.Whole enc P f.params.toList s.vars apart W args.toList ds [] [])
    (hres : ∀ (b : Nat) (sp : Nat → Bool) (hd : Bool), DataW.TrodAll enc P W' b sp hd f.resultTypes.toList (v.resultList f.resultTypes.size) (s.fn H (ds ++ [])).results [])
    (hargs : ∀ sp : Nat → Bool, DataW.TrodAll enc P W' 0 sp true f.params.toList args.toList (s.fn H (ds ++ [])).args [])
    (hvars : ∀ sp : Nat → Bool, DataW.TrodVars enc P W' sp s.vars (s.fn H (ds ++ [])).vars [])
    (hb : Below W.heap.size W W')
    (hok : ∀ (j : Nat) (t : TypeId) (r : Value), f.resultTypes[j]? = some t → (v.resultList f.resultTypes.size)[j]? = some r → Value.okWide P W' .any 0 t r) :
    s.post enc P f apart fresh handsOn again W args v W' := by
  have hk : W.keptBut W' (fun p => p ∈ ([] : List MemPlace)) := hb.frame _
  refine ⟨ds, [], [], [], [], [], hW, hres _ _ _, hargs _, hvars _, World.keptBut_mono (fun p hp => by cases hp) hk, fun _ => ⟨hok, _, _, [], ⟨[], [], trodAll_append (hargs _) (hres _ _ _), hvars _, rfl, ⟨fun b off hp => (by cases hp), fun _ => List.nodup_nil⟩⟩, fun p hp _ => (by cases hp)⟩⟩
end Go.Proofs.Ytdfmamemnenkcaa
