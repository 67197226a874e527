import Derived.Test.YtdfmamemnenkcaaLb
set_option linter.unusedVariables false
set_option linter.unusedSimpArgs false
namespace Go.Proofs.Ytdfmamemnenkcaa.PResidueAdds
open Go.Dg Go.RowKit Go.Og Go.Nm Go.Proofs.Ytdfmamemnenkcaa Go.Proofs.YtdfmamemnenkcaaW.PrintWords Go.Proofs.YtdfmamemnenkcaaW.PrintLast Go.Proofs.YtdfmamemnenkcaaW.PrintMore
theorem prime_lt : P25519 < W ^ 4 := by decide
/-- A slice that an operation has just built: its numbers lie in a row. -/
theorem numsAt_words {w : World} {g : Nat} {ns : List Nat} {t : TypeId} (cs : Array Value) (hg : w.heap[g]? = some (.cells cs t (0, 0)))
    (hcs : ∀ j x, ns[j]? = some x → ∀ i, i < 4 → cs[j * 4 + i]? = some (.int .u64 (wd x i : Nat))) : NumsAt w g ns := by
  refine ⟨?_, fun j x hj i hi => ?_⟩
  · rcases Nat.lt_or_ge g w.heap.size with h | h
    · exact h
    · rw [Array.getElem?_eq_none h] at hg; cases hg
  · have := hcs j x hj i hi
    simpa [World.cell?, hg] using this
set_option maxRecDepth 100000 in
set_option maxHeartbeats 1000000 in
theorem awake08 (w : World) : Calls Try.prog 10 #[] w fun e w' => e = .returned (.bool true) ∧ Below w.heap.size w w' := by
  have hp := prime_any
  have hs := sub_any P25519 1 prime_lt (by decide)
  have ha := fun g c => adds_any [(P25519 % P25519 + (P25519 - 1 % P25519) % P25519) % P25519, 2] g c (by decide) (by decide)
  have hz := zero_any P25519 prime_lt
  have e1 : (P25519 % P25519 + (P25519 - 1 % P25519) % P25519) % P25519 = P25519 - 1 := by decide
  have e2 : List.foldl (fun s x => (s + x) % P25519) 0 [P25519 - 1, 2] = 1 := by decide
  have e3 : decide (P25519 = 0) = false := by decide
  rw [e1] at hs
  simp only [e1, e2] at ha
  rw [e3] at hz
  unfold num at *
  have hp' := Lib.hid hp
  have hs' := Lib.hid hs
  have ha' := Lib.hid ha
  have hz' := Lib.hid hz
  clear hp hs ha hz e1 e2 e3
  rw [show ((wd 1 0 : Nat) : Int) = 1 from rfl, show ((wd 1 1 : Nat) : Int) = 0 from rfl, show ((wd 1 2 : Nat) : Int) = 0 from rfl, show ((wd 1 3 : Nat) : Int) = 0 from rfl] at hs' ha'
  go_enter Try.func10, Try.ntmps10
  go_wp2_with fail
  refine (hp'.out _).mono ?_
  rintro e w1 ⟨rfl, hb1⟩
  have hb1' := Lib.hid hb1
  clear hb1
  have hB1 : Below w.heap.size w (w1.alloc (.cells #[.int .u64 ((wd P25519 0 : Nat) : Int), .int .u64 ((wd P25519 1 : Nat) : Int), .int .u64 ((wd P25519 2 : Nat) : Int), .int .u64 ((wd P25519 3 : Nat) : Int)] 24)) := hb1'.out.alloc hb1'.out.size _
  obtain ⟨hc1, hf1⟩ := bcell (Below.refl w.heap.size w)
  go_wp2_with fail
  refine (hs'.out _).mono ?_
  rintro e w2 ⟨rfl, hb2⟩
  have hb2' := Lib.hid hb2
  have hB2 := Lib.hid (hB1.trans (hb2.mono hB1.size))
  have hx0 : w1.heap.size < (w1.alloc (.cells #[.int .u64 ((wd P25519 0 : Nat) : Int), .int .u64 ((wd P25519 1 : Nat) : Int), .int .u64 ((wd P25519 2 : Nat) : Int), .int .u64 ((wd P25519 3 : Nat) : Int)] 24)).heap.size := by simp
  have hblk : Blk w2 w1.heap.size 24 (words P25519) := (Blk.new (w := w1) w1.heap.size 24 (words P25519) rfl).below hb2 hx0
  have hblk' := Lib.hid hblk
  clear hb2 hblk hB1
  have he : ∀ w, (Op.equalIn 10000 24 (.agg #[.int .u64 1, .int .u64 0, .int .u64 0, .int .u64 0]) (.agg #[.int .u64 1, .int .u64 0, .int .u64 0, .int .u64 0])).run Try.prog w = .ok true w := fun w => eq24 1 0 0 0 1 0 0 0 w
  have he' := Lib.hid he
  clear he
  go_wp2_with fail
  refine (ha'.out w2.heap.size 2 _ (numsAt_words _ (Blk.new (w := w2) w2.heap.size 24 _ rfl) ?ns)).mono ?_
  case ns =>
    intro j x hj i hi
    have hj2 : j = 0 ∨ j = 1 := by
      rcases j with _ | _ | j
      · exact .inl rfl
      · exact .inr rfl
      · simp at hj
    have hi4 : i = 0 ∨ i = 1 ∨ i = 2 ∨ i = 3 := by omega
    rcases hj2 with rfl | rfl
    · obtain rfl : P25519 - 1 = x := by simpa using hj
      rcases hi4 with rfl | rfl | rfl | rfl <;> rfl
    · obtain rfl : 2 = x := by simpa using hj
      rcases hi4 with rfl | rfl | rfl | rfl <;> rfl
  rintro e w3 ⟨rfl, hb3⟩
  have hb3' := Lib.hid hb3
  have hB3 := Lib.hid ((hB2.out.alloc hB2.out.size (.cells #[Value.int IntKind.u64 ↑(wd (P25519 - 1) 0), Value.int IntKind.u64 ↑(wd (P25519 - 1) 1),
          Value.int IntKind.u64 ↑(wd (P25519 - 1) 2), Value.int IntKind.u64 ↑(wd (P25519 - 1) 3),
          Value.int IntKind.u64 2, Value.int IntKind.u64 0, Value.int IntKind.u64 0, Value.int IntKind.u64 0] 24)).trans (hb3.mono (by have := hB2.out.size; simp; omega)))
  have hblk3 : Blk w3 w1.heap.size 24 (words P25519) := (hblk'.out.alloc _).below hb3 (by have := hblk'.out.lt; simp; omega)
  obtain ⟨p0, p1, p2, p3⟩ := hblk3.words4
  have hz1 := hblk3.lt
  have hblk3' := Lib.hid hblk3
  have hez := he'.out
  clear hb3 hblk3
  go_wp2_with fail
  refine (hz'.out _).mono ?_
  rintro e w4 ⟨rfl, hb4⟩
  have hB4 := Lib.hid (hB3.out.trans (hb4.mono hB3.out.size))
  clear hb4
  go_wp2
  go_ret
  exact ⟨rfl, hB4.out⟩
end Go.Proofs.Ytdfmamemnenkcaa.PResidueAdds
