/-
  Proved: for every input escutcheonlaw03.MacShorts returns true, and each argument reads afterwards as it read before.
  Conditions: none beyond the given statement's own.
-/
import Derived.Test.YtnaiifidcpdamaaDoorPg
import Derived.Test.YtnaiifidcpdamaaDoorPh
set_option linter.unusedVariables false
set_option linter.unusedSimpArgs false
namespace Go.Proofs.YtnaiifidcpdamaaDoor
namespace MacShorts
open Go.ChangeShapes Go.WideShapes Go.ChangeAt Go.RowKit Go.Ub
theorem contract (H : Type) (enc : TypeId × Value → H) (W : World) (base : Nat) (args : Array Value) (ds gs : List (DataW H)) (before : List MemPlace)
    (hval : ∀ (j : Nat) t v, Tryd.f11.params[j]? = some t → args[j]? = some v → Value.okWide Tryd.prog W .any base t v)
    (hW : DataW.Whole enc Tryd.prog Tryd.f11.params.toList Rows.macShortsSpec.vars false W args.toList ds gs before) (hL : laidMetH Tryd.prog Rows.macShortsRow.laid W) :
    Calls Tryd.prog 11 args W fun e W' => ∃ v, e = .returned v ∧ Rows.macShortsSpec.post enc Tryd.prog Tryd.f11 false true false false W args v W' := by
  have hW' := hW
  obtain ⟨p, q, hA0, hV, rfl, hfz, hnd⟩ := hW
  have hA : DataW.TrodAll enc Tryd.prog W 0 (fun _ => true) true Tryd.f11.params.toList args.toList ds p := hA0
  rw [Tryd.params11] at hA hval
  obtain ⟨v0, vs0, d0, ds0, p0, q0, hargs, rfl, rfl, h0, r0⟩ := trodAll_cons hA
  obtain ⟨v1, vs1, d1, ds1, p1, q1, rfl, rfl, rfl, h1, r1⟩ := trodAll_cons r0
  obtain ⟨v2, vs2, d2, ds2, p2, q2, rfl, rfl, rfl, h2, r2⟩ := trodAll_cons r1
  obtain ⟨rfl, rfl, rfl⟩ := trodAll_nil r2
  obtain rfl : args = #[v0, v1, v2] := by cases args; simp_all
  obtain ⟨rfl, rfl⟩ := trodVars_none hV
  obtain ⟨l0, hB0, hz0⟩ := open_b (hval 0 27 v0 rfl rfl) h0
  obtain ⟨l1, hB1, hz1⟩ := open_b (hval 1 27 v1 rfl rfl) h1
  obtain ⟨x2, y2, rfl, hx2, hy2⟩ := open_u2 (hval 2 52 v2 rfl rfl) h2
  clear hA0
  have hlt := hW'.lt
  obtain ⟨hK, h3⟩ := globs3 hL
  have walk : Calls Tryd.prog 11 #[v0, v1, .agg #[.int .u8 x2, .int .u8 y2]] W fun e w' => e = .returned (.bool true) ∧ Below W.heap.size W w' := by
    have b2 := bounds_u8 hx2
    have b3 := bounds_u8 hy2
    obtain ⟨m, rfl⟩ : ∃ m : Nat, x2 = (m : Int) := ⟨x2.toNat, by omega⟩
    have e3 : y2 = bi (UInt8.ofNat y2.toNat) := (bi_back hy2).symm
    rw [e3]
    exact macshorts_any K80 K80l s3 l0 l1 m (by omega) (UInt8.ofNat y2.toNat) v0 v1 W hB0 hB1 hK h3
  refine walk.mono fun e W' ⟨he, hg⟩ => ?_
  subst he
  exact ⟨_, rfl, post_of_below (pa := (p0 ++ (p1 ++ (p2 ++ [])))) (pv := []) hW' (fun _ _ _ => trodAll_cons_mk (shut_bool Tryd.underlying4 _) trodAll_mk0)
    (fun sp hsp => (trodAll_cons_mk (again (by kernel_rfl) (of_decide_eq_true (by kernel_rfl)) h0 hg (fun x hx => hlt x (by simp [hx])) sp (fun x hx => hsp x (by simp [hx]))) (trodAll_cons_mk (again (by kernel_rfl) (of_decide_eq_true (by kernel_rfl)) h1 hg (fun x hx => hlt x (by simp [hx])) sp (fun x hx => hsp x (by simp [hx]))) (trodAll_cons_mk (again (by kernel_rfl) (of_decide_eq_true (by kernel_rfl)) h2 hg (fun x hx => hlt x (by simp [hx])) sp (fun x hx => hsp x (by simp [hx]))) trodAll_mk0)))) (fun _ _ => rfl) (by simp)
    hg (ok_one (by kernel_rfl) rfl (okWide_bool_mk Tryd.underlying4 _))⟩
theorem reads (os : Os) {H : Type} (enc : TypeId × Value → H) : ∃ places, DataW.whole enc Tryd.prog ((laidWorld os).forCall (fun _ _ => 0) ⟨#[], #[.slice none 0 0, .slice none 0 0, .agg #[.int .u8 0, .int .u8 0]], []⟩).memory Tryd.f11.params.toList Rows.macShortsSpec.vars false #[Value.slice none 0 0, .slice none 0 0, .agg #[.int .u8 0, .int .u8 0]].toList 8 = some ([.nil, .nil, .agg [.lit (.int .u8 0), .lit (.int .u8 0)]], [], places) :=
  ⟨[], by kernel_rfl⟩
set_option maxRecDepth 100000 in
theorem lifted (os : Os) (started : os.Started) (H : Type) (enc : TypeId × Value → H) (F : Stop.Interp) :
    ReturnsInHanded {} Tryd.checked os 11 .any ((OpenSpec.ofChange Rows.macShortsSpec).preRow enc Tryd.prog Tryd.f11 Rows.macShortsRow.domain false Rows.macShortsRow.laid) (((OpenSpec.ofChange Rows.macShortsSpec).at F).post enc Tryd.prog Tryd.f11 false true false false) := by
  obtain ⟨places, hx⟩ := reads os enc
  refine returnsInHanded_of_row (C := Tryd.checked) (s := OpenSpec.ofChange Rows.macShortsSpec) own started (by kernel_rfl) Tryd.func11
    (witness_row_at (enc := enc) (C := Tryd.checked) false (laidWorld os) #[.slice none 0 0, .slice none 0 0, .agg #[.int .u8 0, .int .u8 0]] rfl (by kernel_rfl) (by kernel_rfl) (by kernel_rfl)
      (OpenSpec.preRow_of_cond 8 hx (by kernel_rfl) (fun k hk => by cases hk) (by kernel_rfl) (laid_met3 os _))) ?_
  intro W base args ds gs before hval hW _ hcond _ hL _ _
  exact contract H enc W base args ds gs before hval hW hL
theorem said : Rows.MacShortsSaid :=
  OpenClaim.holds_of_cond 11 Tryd.f11 rfl rfl rfl rfl rfl rfl rfl ⟨rfl, rfl, rfl, rfl, rfl⟩ rfl rfl rfl rfl rfl (by kernel_rfl) Tryd.func11 (by kernel_rfl)
    (of_decide_eq_true (by kernel_rfl)) (by unfold Func.isWrapper; first | (rw [if_pos (by decide +kernel)]; kernel_rfl) | (rw [if_neg (by decide +kernel)]; exact ⟨rfl, rfl⟩))
    (fun os started H enc _ F => by rw [OpenClaim.pre_eq_preRow]; exact lifted os started H enc F)
theorem plain (f : FuncId) (fn : Func) (hf : Tryd.pinned.checked.prog.funcNamed "escutcheon/escutcheonlaw03.MacShorts" = some f) (hfn : Tryd.pinned.checked.prog.funcs[f]? = some fn) :
    false = Tryd.pinned.checked.prog.looks [] ∧ ∀ (j : Nat) t, fn.params[j]? = some t → Tryd.pinned.checked.prog.wantsStandIn t = false := by
  obtain rfl : f = 11 := Option.some.inj ((show Tryd.prog.funcNamed "escutcheon/escutcheonlaw03.MacShorts" = some 11 by kernel_rfl).symm.trans hf) |>.symm
  obtain rfl : fn = Tryd.f11 := (Option.some.inj (Tryd.func11.symm.trans hfn)).symm
  refine ⟨by kernel_rfl, fun j t ht => ?_⟩
  rw [Tryd.params11] at ht
  rcases j with _ | _ | _ | j
  · obtain rfl : 27 = t := Option.some.inj (show some 27 = some t from ht)
    exact (show Tryd.prog.wantsStandIn 27 = false by kernel_rfl)
  · obtain rfl : 27 = t := Option.some.inj (show some 27 = some t from ht)
    exact (show Tryd.prog.wantsStandIn 27 = false by kernel_rfl)
  · obtain rfl : 52 = t := Option.some.inj (show some 52 = some t from ht)
    exact (show Tryd.prog.wantsStandIn 52 = false by kernel_rfl)
  · simp at ht
end MacShorts
theorem macShorts_card : Rows.MacShortsCardSaid :=
  Claim7.holds_tied_plain_at .later [] _ _ _ _ MacShorts.said (fun _ h => by cases h) (by kernel_rfl) (fun _ h => by cases h) macShorts_row_tie rfl ⟨rfl, rfl⟩ (by kernel_rfl) rfl MacShorts.plain (by kernel_rfl)
#print axioms macShorts_card
end Go.Proofs.YtnaiifidcpdamaaDoor
