import Derived.Test.YtnaiifidcpdamaaDoorPShaLongsx1
import Derived.Test.YtnaiifidcpdamaaDoorOg
import Derived.Test.YtnaiifidcpdamaaDoorUb
import Derived.WalkSpells
import Derived.WalkLawsBesides
import Derived.Outline
import Derived.RowKit3
import Derived.KernelRfl
import Derived.Lib.Hide
import Derived.Deep.LoopGhost
set_option linter.unusedVariables false
set_option linter.unusedSimpArgs false
namespace Go.Proofs.YtnaiifidcpdamaaDoor
open Go.RowKit Go.Og Go.Ub

/-- A word turned right. -/
def rotr (x : UInt64) (n : Nat) : UInt64 := x <<< (64 - n).toUInt64 ||| x >>> n.toUInt64
attribute [local go_sem high] Ub.xor64 Ub.and64 Ub.or64 Ub.add64 Ub.not64 Ub.shl64v Ub.shr64v
set_option maxRecDepth 100000 in
set_option maxHeartbeats 1000000 in
theorem rotl_any (x : UInt64) (n : Nat) (h0 : 0 < n) (h1 : n < 64) (w : World) : Calls Tryd.prog 55 #[.int .u64 (wi x), .int .i64 (-(n : Int))] w fun e w' => e = .returned (.int .u64 (wi (rotr x n))) ∧ w = w' := by
  have e1 : bits BinOp.and IntKind.u64 (IntKind.u64.wrap (-(n : Int))) 63 = ((64 - n : Nat) : Int) := by
    have e : IntKind.u64.wrap (-(n : Int)) = ((18446744073709551616 - n : Nat) : Int) := by rw [Ub.w64]; omega
    rw [e, show (63 : Int) = ((63 : Nat) : Int) from rfl, u64_and_nat _ _ (by omega) (by omega), nat_mask6]
    congr 1
    omega
  have e2 : IntKind.u64.wrap (64 - ((64 - n : Nat) : Int)) = (n : Int) := by rw [Ub.w64]; omega
  have s1 : 64 - n < 64 := by omega
  go_enter Tryd.func55, Tryd.ntmps55
  go_wp2
  go_ret
  exact ⟨rfl, rfl⟩
/-- The words together, each turned right. -/
def turn (x : UInt64) (ns : List Nat) : UInt64 := ns.foldl (fun a n => a ^^^ rotr x n) 0
theorem turn_snoc (x : UInt64) (ns : List Nat) (n : Nat) : turn x (ns ++ [n]) = turn x ns ^^^ rotr x n := by simp [turn]
/-- A slice that holds whole numbers. -/
def IAt (w : World) (v : Value) (ns : List Nat) : Prop := ∃ g c, v = .slice (some ⟨g, 0, none⟩) ns.length c ∧ g < w.heap.size ∧ ∀ (j n : Nat), ns[j]? = some n → w.cell? ⟨g, j, none⟩ = some (.int .i64 (n : Int))
set_option maxRecDepth 100000 in
set_option maxHeartbeats 1000000 in
theorem turned_any (x : UInt64) (ns : List Nat) (hn : ∀ n ∈ ns, 0 < n ∧ n < 64) (hl : ns.length ≤ 10) (v : Value) (w : World) (hv : IAt w v ns) : Calls Tryd.prog 47 #[.int .u64 (wi x), v] w fun e w' => e = .returned (.int .u64 (wi (turn x ns))) ∧ w = w' := by
  obtain ⟨g, c, rfl, hg, hc⟩ := hv
  have hc' := Lib.hid hc
  have hn' := Lib.hid hn
  clear hc hn
  go_enter Tryd.func47, Tryd.ntmps47
  go_wp2
  go_loop [5, 10] (fun a i => ∃ k : Nat, k ≤ ns.length ∧ i = .int .i64 k ∧ a = .int .u64 (wi (turn x (ns.take k)))) (fun _ i => ns.length - (intOf i).toNat)
  case atStart => exact ⟨0, by omega, rfl, rfl⟩
  case round =>
    obtain ⟨k, hk, rfl, rfl⟩ := hrel
    by_cases hlt : k < ns.length
    · have c0 := hc'.out k ns[k] (by simp [hlt])
      have hr := hn'.out ns[k] (by simp)
      have hs := Lib.hid (turn_snoc x (ns.take k) ns[k])
      have ht := Lib.hid (List.take_succ_eq_append_getElem hlt)
      have hcall := Lib.hid (fun w => rotl_any x ns[k] hr.1 hr.2 w)
      have hb0 := hr.1
      have hb1 := hr.2
      clear hr
      generalize ns[k] = n at *
      go_wp2_with (go_at_call 55; refine (hcall.out _).mono ?_; rintro e w' ⟨rfl, rfl⟩)
      go_round
      case rel => exact ⟨k + 1, by omega, by go_num, by rw [ht.out, hs.out]⟩
      case measure => simp [intOf]; omega
    · go_wp2
      go_ret
      have : k = ns.length := by omega
      subst this
      rw [List.take_length]
      exact ⟨rfl, rfl⟩
end Go.Proofs.YtnaiifidcpdamaaDoor
