/-
  The package-level rows of words as a row lists them, the last step of a row, and a world for the witness.
-/
import Derived.Test.YtnaiifidcpdamaaDoorKv
import Derived.Test.YtnaiifidcpdamaaDoorCards
import Derived.Test.YtnaiifidcpdamaaDoorTie
import Derived.WalkKit
import Derived.ProofKit
import Derived.OpenShut
import Derived.Deep.DeepHandedRow
import Derived.Lib.LaidTab
import Derived.Stop.LaidErr
import Derived.Below
import Derived.ChangeSame
set_option linter.unusedVariables false
set_option linter.unusedSimpArgs false
namespace Go.Proofs.YtnaiifidcpdamaaDoor
open Go.ChangeShapes Go.WideShapes Go.ChangeAt Go.RowKit Go.Ub
theorem own : ownKnob Tryd.prog.godebug = none := by kernel_rfl
def numOf : DataW Unit → Int
  | .lit (.int _ z) => z
  | _ => 0
def numsOf : DataW Unit → List Int
  | .agg l => l.map numOf
  | _ => []
noncomputable def zs80 : List Int := numsOf Rows.laid_escutcheon_api_Rounds80
noncomputable def zs5 : List Int := numsOf Rows.laid_escutcheon_api_Start512
noncomputable def zs3 : List Int := numsOf Rows.laid_escutcheon_api_Start384
theorem is80 : (Rows.laid_escutcheon_api_Rounds80 : DataW Unit) = Lib.tabData .u64 zs80 := by kernel_rfl
theorem is5 : (Rows.laid_escutcheon_api_Start512 : DataW Unit) = Lib.tabData .u64 zs5 := by kernel_rfl
theorem is3 : (Rows.laid_escutcheon_api_Start384 : DataW Unit) = Lib.tabData .u64 zs3 := by kernel_rfl
def word64 (z : Int) : UInt64 := UInt64.ofNat z.toNat
theorem wi_word {z : Int} (h : (decide (0 ≤ z) && decide (z < 18446744073709551616)) = true) : wi (word64 z) = z := by
  simp only [Bool.and_eq_true, decide_eq_true_eq] at h
  unfold wi word64
  rw [UInt64.toNat_ofNat', Nat.mod_eq_of_lt (show z.toNat < 2 ^ 64 by omega)]
  omega
noncomputable def K80 : List UInt64 := zs80.map word64
noncomputable def s5 : S8 := ⟨word64 (zs5.getD 0 0), word64 (zs5.getD 1 0), word64 (zs5.getD 2 0), word64 (zs5.getD 3 0), word64 (zs5.getD 4 0), word64 (zs5.getD 5 0), word64 (zs5.getD 6 0), word64 (zs5.getD 7 0)⟩
noncomputable def s3 : S8 := ⟨word64 (zs3.getD 0 0), word64 (zs3.getD 1 0), word64 (zs3.getD 2 0), word64 (zs3.getD 3 0), word64 (zs3.getD 4 0), word64 (zs3.getD 5 0), word64 (zs3.getD 6 0), word64 (zs3.getD 7 0)⟩
theorem len80 : zs80.length = 80 := by kernel_rfl
theorem len5 : zs5.length = 8 := by kernel_rfl
theorem len3 : zs3.length = 8 := by kernel_rfl
theorem K80l : K80.length = 80 := (List.length_map _).trans len80
theorem s5l : s5.l = zs5.map word64 := by kernel_rfl
theorem s3l : s3.l = zs3.map word64 := by kernel_rfl
theorem ok80 : (zs80.all fun z => decide (0 ≤ z) && decide (z < 18446744073709551616)) = true := by kernel_rfl
theorem ok5 : (zs5.all fun z => decide (0 ≤ z) && decide (z < 18446744073709551616)) = true := by kernel_rfl
theorem ok3 : (zs3.all fun z => decide (0 ≤ z) && decide (z < 18446744073709551616)) = true := by kernel_rfl
theorem g0 : Tryd.prog.globalNamed "escutcheon/api.Start512" = some 0 := by kernel_rfl
theorem g1 : Tryd.prog.globalNamed "escutcheon/api.Start384" = some 1 := by kernel_rfl
theorem g2 : Tryd.prog.globalNamed "escutcheon/api.Rounds80" = some 2 := by kernel_rfl
theorem g0t : (Tryd.prog.globals[0]?).map (·.type) = some 60 := by kernel_rfl
theorem g1t : (Tryd.prog.globals[1]?).map (·.type) = some 60 := by kernel_rfl
theorem g2t : (Tryd.prog.globals[2]?).map (·.type) = some 74 := by kernel_rfl
theorem cells59 : Tryd.prog.cellsOf 59 = 1 := by kernel_rfl
theorem cells60 : Tryd.prog.cellsOf 60 = 8 := by kernel_rfl
theorem cells74 : Tryd.prog.cellsOf 74 = 80 := by kernel_rfl
theorem glob_of_tab {W : World} {name : String} {zs : List Int} {g : Nat} (h : Lib.TabIs Tryd.prog W name .u64 zs) (hg : Tryd.prog.globalNamed name = some g) (h0 : 0 < zs.length)
    (hok : (zs.all fun z => decide (0 ≤ z) && decide (z < 18446744073709551616)) = true) : Glob W g (zs.map word64) := by
  refine ⟨?_, fun i hi => ?_⟩
  · have := h.cell hg 0 h0
    rcases Nat.lt_or_ge g W.heap.size with hlt | hge
    · exact hlt
    · simp [World.cell?, Array.getElem?_eq_none hge] at this
  · rw [List.length_map] at hi
    rw [h.cell hg i hi]
    have hm : zs.getD i 0 ∈ zs := by rw [List.getD_eq_getElem?_getD, List.getElem?_eq_getElem hi]; exact List.getElem_mem hi
    have := List.all_eq_true.1 hok _ hm
    have e : (zs.map word64).getD i 0 = word64 (zs.getD i 0) := by
      rw [List.getD_eq_getElem?_getD, List.getD_eq_getElem?_getD, List.getElem?_map, List.getElem?_eq_getElem hi]
      rfl
    rw [e, wi_word this]
/-- WHAT THE ROW's LIST GIVES. -/
theorem globs {W : World} (h : laidMetH Tryd.prog [("escutcheon/api.Rounds80", Rows.laid_escutcheon_api_Rounds80), ("escutcheon/api.Start512", Rows.laid_escutcheon_api_Start512), ("escutcheon/api.Start384", Rows.laid_escutcheon_api_Start384)] W) :
    Glob W 2 K80 ∧ Glob W 0 s5.l ∧ Glob W 1 s3.l := by
  have h : laidMet Tryd.prog [("escutcheon/api.Rounds80", Rows.laid_escutcheon_api_Rounds80), ("escutcheon/api.Start512", Rows.laid_escutcheon_api_Start512), ("escutcheon/api.Start384", Rows.laid_escutcheon_api_Start384)] W := h
  rw [is80, is5, is3] at h
  refine ⟨glob_of_tab (Lib.tabIs_of_head g2 g2t Tryd.underlying74 Tryd.underlying59 cells59 cells74 h) g2 (by rw [len80]; decide) ok80, ?_, ?_⟩
  · rw [s5l]
    exact glob_of_tab (Lib.tabIs_of_head g0 g0t Tryd.underlying60 Tryd.underlying59 cells59 cells60 h.tail) g0 (by rw [len5]; decide) ok5
  · rw [s3l]
    exact glob_of_tab (Lib.tabIs_of_head g1 g1t Tryd.underlying60 Tryd.underlying59 cells59 cells60 h.tail.tail) g1 (by rw [len3]; decide) ok3
section
variable {H : Type} {enc : TypeId × Value → H} {P : Program}
theorem post_of_below {f : Func} {s : ChangeSpec} {apart fresh handsOn again : Bool} {W W' : World} {args : Array Value} {v : Value} {ds gs : List (DataW H)} {before pa pv : List MemPlace}
    (hW : DataW.Whole enc P f.params.toList s.vars apart W args.toList ds gs before)
    (hres : ∀ (b : Nat) (sp : Nat → Bool) (hd : Bool), DataW.TrodAll enc P W' b sp hd f.resultTypes.toList (v.resultList f.resultTypes.size) (s.fn H (ds ++ gs)).results [])
    (hargs : ∀ sp : Nat → Bool, (∀ p ∈ before, sp p.block = true) → DataW.TrodAll enc P W' 0 sp true f.params.toList args.toList (s.fn H (ds ++ gs)).args pa)
    (hvars : ∀ sp : Nat → Bool, (∀ p ∈ before, sp p.block = true) → DataW.TrodVars enc P W' sp s.vars (s.fn H (ds ++ gs)).vars pv)
    (hps : before = pa ++ pv) (hb : Below W.heap.size W W')
    (hok : ∀ (j : Nat) (t : TypeId) (r : Value), f.resultTypes[j]? = some t → (v.resultList f.resultTypes.size)[j]? = some r → Value.okWide P W' .any 0 t r) :
    s.post enc P f apart fresh handsOn again W args v W' := by
  have hlt : ∀ p ∈ before, p.block < W.heap.size := fun p hp => hW.lt p hp
  have hold : ∀ p ∈ before, (fun b => decide (b < W.heap.size)) p.block = true := fun p hp => by simpa using hlt p hp
  refine ⟨ds, gs, before, [], pa, pv, hW, hres _ _ _, hargs _ hold, hvars _ hold, World.keptBut_mono (fun p hp => ⟨hp, ?_⟩) (hb.frame (· ∈ before)), fun _ => ?_⟩
  · rw [hps, List.mem_append] at hp
    exact Or.inr hp
  · obtain ⟨_, _, _, _, _, hz, hn⟩ := hW
    refine ⟨hok, _, _, ([] ++ pa) ++ pv, ⟨[] ++ pa, pv, trodAll_append (hargs _ (fun _ _ => rfl)) (hres _ _ _), hvars _ (fun _ _ => rfl), rfl, ?_, ?_⟩, ?_⟩
    · intro b off hp
      have hin : MemPlace.cell b off ∈ before := by rw [hps]; simpa using hp
      rw [hb.frozen (hlt _ hin)]
      exact hz b off hin
    · intro ha
      have := hn ha
      rw [hps] at this
      simpa using this
    · intro p hp _
      rw [hps]
      simpa using hp
end
def lay (zs : List Int) : Obj → Obj
  | .cells _ t frozen => .cells (zs.map fun z => Value.int .u64 z).toArray t frozen
  | o => o
/-- A WORLD FOR A WITNESS: the settled one, the rows of words holding what their initialisers lay. -/
noncomputable def laidWorld (os : Os) : World :=
  { World.holding Tryd.prog os ⟨#[], #[], []⟩ with heap := (((World.holding Tryd.prog os ⟨#[], #[], []⟩).heap.modify 0 (lay zs5)).modify 1 (lay zs3)).modify 2 (lay zs80) }
theorem laid_met (os : Os) (args : Array Value) : laidMet Tryd.prog [("escutcheon/api.Rounds80", Rows.laid_escutcheon_api_Rounds80), ("escutcheon/api.Start512", Rows.laid_escutcheon_api_Start512), ("escutcheon/api.Start384", Rows.laid_escutcheon_api_Start384)] ((laidWorld os).forCall (fun _ _ => 0) ⟨#[], args, []⟩).memory :=
  laidMet_of_run' 8 (by kernel_rfl) (by kernel_rfl)
end Go.Proofs.YtnaiifidcpdamaaDoor
