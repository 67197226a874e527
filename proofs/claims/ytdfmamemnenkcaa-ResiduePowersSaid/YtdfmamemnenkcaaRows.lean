/-
  No cell of these rows narrows 'for every input' (looked for: loops, veiled, ifaces, maps, wideKeys, modest, calm, conditions, laid).
  DERIVED. THE GIVEN ROWS OF THIS SEAT. 7 by the template 'for every input the law returns true; each argument reads behind the call as it read before'; 0 by the template 'total and deterministic' (their statements: YtdfmamemnenkcaaTotals.lean).
  GIVEN WITH THE SEED: the statements are not yours to turn. If you find one false, say at which input.
  Laid BY PROGRAM, IN A SANDBOX (cutbox-rows.mjs): the forced cells as the released guide's own fill.sh prints them over the translation 5503bf09af80b8d7… (all of the seat's roots in one cut). By AI agents, Wed Nov 11 2026. No macro, syntax, notation, axiom, sorry.
-/
import Derived.Test.YtdfmamemnenkcaaChecked
import GoSem.Claim
import GoSem.ClaimJoined
import GoSem.ClaimMapViews
import Derived.JoinedTies
import Derived.KernelRfl
namespace Go.Proofs.Ytdfmamemnenkcaa
/- THE CELL 'sum', in the pinned program and in every row, IS THE sha256 OF THE DUMP (.gsa) THAT YtdfmamemnenkcaaProg.lean LOADS. Nothing in Lean hashes anything: it is a label: what it is worth is what the hold of that sum in a sandbox is worth. -/
noncomputable def Try.pinned : Pinned := { name := "ytdfmamemnenkcaa", sum := "5503bf09af80b8d7f652eae268877451532fd4c86200f9a129c5b5892353f3e5", checked := Try.checked }
namespace Rows
def none {H : Type} : Left H := { results := [], args := [] }

/-- 'escutcheonlaw08.ResidueAdds': WHATEVER THE INPUT: true; the input reads as it did. -/
def residueAddsSpec : ChangeSpec := { name := "residueAdds", fn := fun _ => fun
  | [d1, d2, d3] => { results := [.lit (.bool true)], args := [d1, d2, d3] }
  | _ => none }
def residueAddsRow : OpenClaim := { program := "ytdfmamemnenkcaa", sum := "5503bf09af80b8d7f652eae268877451532fd4c86200f9a129c5b5892353f3e5", func := "escutcheon/escutcheonlaw08.ResidueAdds", spec := "residueAdds", inPlace := ["math/bits.Sub64", "math/bits.Add64"], apart := false }
def ResidueAddsSaid : Prop := residueAddsRow.holds Try.pinned (OpenSpec.ofChange residueAddsSpec)

/-- ITS FALSE NEIGHBOUR: 'it returns false'. Refute it at one input. -/
def residueAddsWrong : ChangeSpec := { name := "residueAdds", fn := fun _ => fun
  | [d1, d2, d3] => { results := [.lit (.bool false)], args := [d1, d2, d3] }
  | _ => none }
def ResidueAddsWrongFalsely : Prop := residueAddsRow.holds Try.pinned (OpenSpec.ofChange residueAddsWrong)

/-- 'escutcheonlaw08.ResiduePowers': WHATEVER THE INPUT: true; the input reads as it did. -/
def residuePowersSpec : ChangeSpec := { name := "residuePowers", fn := fun _ => fun
  | [d1, d2] => { results := [.lit (.bool true)], args := [d1, d2] }
  | _ => none }
def residuePowersRow : OpenClaim := { program := "ytdfmamemnenkcaa", sum := "5503bf09af80b8d7f652eae268877451532fd4c86200f9a129c5b5892353f3e5", func := "escutcheon/escutcheonlaw08.ResiduePowers", spec := "residuePowers", inPlace := ["math/bits.Sub64", "math/bits.Add64"], apart := false }
def ResiduePowersSaid : Prop := residuePowersRow.holds Try.pinned (OpenSpec.ofChange residuePowersSpec)

/-- ITS FALSE NEIGHBOUR: 'it returns false'. Refute it at one input. -/
def residuePowersWrong : ChangeSpec := { name := "residuePowers", fn := fun _ => fun
  | [d1, d2] => { results := [.lit (.bool false)], args := [d1, d2] }
  | _ => none }
def ResiduePowersWrongFalsely : Prop := residuePowersRow.holds Try.pinned (OpenSpec.ofChange residuePowersWrong)

/-- 'escutcheonlaw11.DialShares': WHATEVER THE INPUT: true; the input reads as it did. -/
def dialSharesSpec : ChangeSpec := { name := "dialShares", fn := fun _ => fun
  | [d1, d2] => { results := [.lit (.bool true)], args := [d1, d2] }
  | _ => none }
def dialSharesRow : OpenClaim := { program := "ytdfmamemnenkcaa", sum := "5503bf09af80b8d7f652eae268877451532fd4c86200f9a129c5b5892353f3e5", func := "escutcheon/escutcheonlaw11.DialShares", spec := "dialShares", inPlace := ["math/bits.Sub64", "math/bits.Add64"], apart := false }
def DialSharesSaid : Prop := dialSharesRow.holds Try.pinned (OpenSpec.ofChange dialSharesSpec)

/-- ITS FALSE NEIGHBOUR: 'it returns false'. Refute it at one input. -/
def dialSharesWrong : ChangeSpec := { name := "dialShares", fn := fun _ => fun
  | [d1, d2] => { results := [.lit (.bool false)], args := [d1, d2] }
  | _ => none }
def DialSharesWrongFalsely : Prop := dialSharesRow.holds Try.pinned (OpenSpec.ofChange dialSharesWrong)

/-- 'escutcheonlaw11.DialBoth': WHATEVER THE INPUT: true; the input reads as it did. -/
def dialBothSpec : ChangeSpec := { name := "dialBoth", fn := fun _ => fun
  | [d1, d2] => { results := [.lit (.bool true)], args := [d1, d2] }
  | _ => none }
def dialBothRow : OpenClaim := { program := "ytdfmamemnenkcaa", sum := "5503bf09af80b8d7f652eae268877451532fd4c86200f9a129c5b5892353f3e5", func := "escutcheon/escutcheonlaw11.DialBoth", spec := "dialBoth", inPlace := ["math/bits.Sub64", "math/bits.Add64"], apart := false }
def DialBothSaid : Prop := dialBothRow.holds Try.pinned (OpenSpec.ofChange dialBothSpec)

/-- ITS FALSE NEIGHBOUR: 'it returns false'. Refute it at one input. -/
def dialBothWrong : ChangeSpec := { name := "dialBoth", fn := fun _ => fun
  | [d1, d2] => { results := [.lit (.bool false)], args := [d1, d2] }
  | _ => none }
def DialBothWrongFalsely : Prop := dialBothRow.holds Try.pinned (OpenSpec.ofChange dialBothWrong)

/-- 'escutcheonlaw11.DialMasks': WHATEVER THE INPUT: true; the input reads as it did. -/
def dialMasksSpec : ChangeSpec := { name := "dialMasks", fn := fun _ => fun
  | [d1, d2, d3] => { results := [.lit (.bool true)], args := [d1, d2, d3] }
  | _ => none }
def dialMasksRow : OpenClaim := { program := "ytdfmamemnenkcaa", sum := "5503bf09af80b8d7f652eae268877451532fd4c86200f9a129c5b5892353f3e5", func := "escutcheon/escutcheonlaw11.DialMasks", spec := "dialMasks", inPlace := ["math/bits.Sub64", "math/bits.Add64"], apart := false }
def DialMasksSaid : Prop := dialMasksRow.holds Try.pinned (OpenSpec.ofChange dialMasksSpec)

/-- ITS FALSE NEIGHBOUR: 'it returns false'. Refute it at one input. -/
def dialMasksWrong : ChangeSpec := { name := "dialMasks", fn := fun _ => fun
  | [d1, d2, d3] => { results := [.lit (.bool false)], args := [d1, d2, d3] }
  | _ => none }
def DialMasksWrongFalsely : Prop := dialMasksRow.holds Try.pinned (OpenSpec.ofChange dialMasksWrong)

/-- 'escutcheonlaw11.DialNines': WHATEVER THE INPUT: true; the input reads as it did. -/
def dialNinesSpec : ChangeSpec := { name := "dialNines", fn := fun _ => fun
  | [d] => { results := [.lit (.bool true)], args := [d] }
  | _ => none }
def dialNinesRow : OpenClaim := { program := "ytdfmamemnenkcaa", sum := "5503bf09af80b8d7f652eae268877451532fd4c86200f9a129c5b5892353f3e5", func := "escutcheon/escutcheonlaw11.DialNines", spec := "dialNines", inPlace := ["math/bits.Sub64", "math/bits.Add64"], apart := false }
def DialNinesSaid : Prop := dialNinesRow.holds Try.pinned (OpenSpec.ofChange dialNinesSpec)

/-- ITS FALSE NEIGHBOUR: 'it returns false'. Refute it at one input. -/
def dialNinesWrong : ChangeSpec := { name := "dialNines", fn := fun _ => fun
  | [d] => { results := [.lit (.bool false)], args := [d] }
  | _ => none }
def DialNinesWrongFalsely : Prop := dialNinesRow.holds Try.pinned (OpenSpec.ofChange dialNinesWrong)

/-- 'escutcheonlaw11.DialThree': WHATEVER THE INPUT: true; the input reads as it did. -/
def dialThreeSpec : ChangeSpec := { name := "dialThree", fn := fun _ => fun
  | [d1, d2, d3] => { results := [.lit (.bool true)], args := [d1, d2, d3] }
  | _ => none }
def dialThreeRow : OpenClaim := { program := "ytdfmamemnenkcaa", sum := "5503bf09af80b8d7f652eae268877451532fd4c86200f9a129c5b5892353f3e5", func := "escutcheon/escutcheonlaw11.DialThree", spec := "dialThree", inPlace := ["math/bits.Sub64", "math/bits.Add64"], apart := false }
def DialThreeSaid : Prop := dialThreeRow.holds Try.pinned (OpenSpec.ofChange dialThreeSpec)

/-- ITS FALSE NEIGHBOUR: 'it returns false'. Refute it at one input. -/
def dialThreeWrong : ChangeSpec := { name := "dialThree", fn := fun _ => fun
  | [d1, d2, d3] => { results := [.lit (.bool false)], args := [d1, d2, d3] }
  | _ => none }
def DialThreeWrongFalsely : Prop := dialThreeRow.holds Try.pinned (OpenSpec.ofChange dialThreeWrong)

/- THE SECOND FORM. 'bulk': how many values and letters a reading holds, each counted each time it is reached (what is shared counts as often as it is met; a slice's spare places count too). A statement '..UptoSaid' is the law's where the arguments, and the package variables that the reading takes, are together of bulk at most 1048576: NARROWER than '..Said'. Prove '..Said' where nothing that the law and all that it calls make is longer than what came in: it says more and counts as full. Else prove '..UptoSaid'. A law counts once. -/
mutual
def uptoBulk {H : Type} : DataW H → Nat
  | .lit (.string bytes) => bytes.length + 1
  | .lit _ => 1
  | .nil => 1
  | .ptr d => uptoBulk d + 1
  | .slice elems spare => uptoBulkAll elems + uptoBulkAll spare + 1
  | .agg parts => uptoBulkAll parts + 1
  | .iface _ d => uptoBulk d + 1
  | .map entries => uptoBulkEntries entries + 1
  | .held _ => 1
def uptoBulkAll {H : Type} : List (DataW H) → Nat
  | [] => 0
  | d :: r => uptoBulk d + uptoBulkAll r
def uptoBulkEntries {H : Type} : List (Lit × DataW H) → Nat
  | [] => 0
  | x :: r => uptoBulkEntry x + uptoBulkEntries r
def uptoBulkEntry {H : Type} : Lit × DataW H → Nat
  | (.string bytes, d) => bytes.length + uptoBulk d + 1
  | (_, d) => uptoBulk d + 1
 end
def uptoSmall : (H : Type) → List (DataW H) → Bool := fun _ ds => decide (uptoBulkAll ds ≤ 1048576)
def OpenSpec.upto (s : _root_.Go.ChangeSpec) : _root_.Go.OpenSpec := { _root_.Go.OpenSpec.ofChange s with cond := some uptoSmall }

/-- 'escutcheonlaw08.ResidueAdds', WHERE WHAT IT READS IS OF BULK AT MOST 1048576: true; the input reads as it did. -/
def residueAddsUptoRow : OpenClaim := { program := "ytdfmamemnenkcaa", sum := "5503bf09af80b8d7f652eae268877451532fd4c86200f9a129c5b5892353f3e5", func := "escutcheon/escutcheonlaw08.ResidueAdds", spec := "residueAdds", inPlace := ["math/bits.Sub64", "math/bits.Add64"], apart := false, narrowed := true }
def ResidueAddsUptoSaid : Prop := residueAddsUptoRow.holds Try.pinned (OpenSpec.upto residueAddsSpec)

/-- 'escutcheonlaw08.ResiduePowers', WHERE WHAT IT READS IS OF BULK AT MOST 1048576: true; the input reads as it did. -/
def residuePowersUptoRow : OpenClaim := { program := "ytdfmamemnenkcaa", sum := "5503bf09af80b8d7f652eae268877451532fd4c86200f9a129c5b5892353f3e5", func := "escutcheon/escutcheonlaw08.ResiduePowers", spec := "residuePowers", inPlace := ["math/bits.Sub64", "math/bits.Add64"], apart := false, narrowed := true }
def ResiduePowersUptoSaid : Prop := residuePowersUptoRow.holds Try.pinned (OpenSpec.upto residuePowersSpec)

/-- 'escutcheonlaw11.DialShares', WHERE WHAT IT READS IS OF BULK AT MOST 1048576: true; the input reads as it did. -/
def dialSharesUptoRow : OpenClaim := { program := "ytdfmamemnenkcaa", sum := "5503bf09af80b8d7f652eae268877451532fd4c86200f9a129c5b5892353f3e5", func := "escutcheon/escutcheonlaw11.DialShares", spec := "dialShares", inPlace := ["math/bits.Sub64", "math/bits.Add64"], apart := false, narrowed := true }
def DialSharesUptoSaid : Prop := dialSharesUptoRow.holds Try.pinned (OpenSpec.upto dialSharesSpec)

/-- 'escutcheonlaw11.DialBoth', WHERE WHAT IT READS IS OF BULK AT MOST 1048576: true; the input reads as it did. -/
def dialBothUptoRow : OpenClaim := { program := "ytdfmamemnenkcaa", sum := "5503bf09af80b8d7f652eae268877451532fd4c86200f9a129c5b5892353f3e5", func := "escutcheon/escutcheonlaw11.DialBoth", spec := "dialBoth", inPlace := ["math/bits.Sub64", "math/bits.Add64"], apart := false, narrowed := true }
def DialBothUptoSaid : Prop := dialBothUptoRow.holds Try.pinned (OpenSpec.upto dialBothSpec)

/-- 'escutcheonlaw11.DialMasks', WHERE WHAT IT READS IS OF BULK AT MOST 1048576: true; the input reads as it did. -/
def dialMasksUptoRow : OpenClaim := { program := "ytdfmamemnenkcaa", sum := "5503bf09af80b8d7f652eae268877451532fd4c86200f9a129c5b5892353f3e5", func := "escutcheon/escutcheonlaw11.DialMasks", spec := "dialMasks", inPlace := ["math/bits.Sub64", "math/bits.Add64"], apart := false, narrowed := true }
def DialMasksUptoSaid : Prop := dialMasksUptoRow.holds Try.pinned (OpenSpec.upto dialMasksSpec)

/-- 'escutcheonlaw11.DialNines', WHERE WHAT IT READS IS OF BULK AT MOST 1048576: true; the input reads as it did. -/
def dialNinesUptoRow : OpenClaim := { program := "ytdfmamemnenkcaa", sum := "5503bf09af80b8d7f652eae268877451532fd4c86200f9a129c5b5892353f3e5", func := "escutcheon/escutcheonlaw11.DialNines", spec := "dialNines", inPlace := ["math/bits.Sub64", "math/bits.Add64"], apart := false, narrowed := true }
def DialNinesUptoSaid : Prop := dialNinesUptoRow.holds Try.pinned (OpenSpec.upto dialNinesSpec)

/-- 'escutcheonlaw11.DialThree', WHERE WHAT IT READS IS OF BULK AT MOST 1048576: true; the input reads as it did. -/
def dialThreeUptoRow : OpenClaim := { program := "ytdfmamemnenkcaa", sum := "5503bf09af80b8d7f652eae268877451532fd4c86200f9a129c5b5892353f3e5", func := "escutcheon/escutcheonlaw11.DialThree", spec := "dialThree", inPlace := ["math/bits.Sub64", "math/bits.Add64"], apart := false, narrowed := true }
def DialThreeUptoSaid : Prop := dialThreeUptoRow.holds Try.pinned (OpenSpec.upto dialThreeSpec)

end Rows
end Go.Proofs.Ytdfmamemnenkcaa
