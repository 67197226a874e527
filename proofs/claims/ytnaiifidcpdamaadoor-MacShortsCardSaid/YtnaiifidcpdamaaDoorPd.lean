/-
  Sum and Check of package mac; Same of package coin.
-/
import Derived.Test.YtnaiifidcpdamaaDoorPc
set_option linter.unusedVariables false
set_option linter.unusedSimpArgs false
namespace Go.Proofs.YtnaiifidcpdamaaDoor
open Go.RowKit Go.Og Go.Ub Go.Proofs.YtnaiifidcpdamaaDoorW.PrintWords
/-- The sum of bytes under a key. -/
def macs (K : List UInt64) (s : S8) (l m : List UInt8) : List UInt8 := (sha K s (padb K s l 92 ++ (sha K s (padb K s l 54 ++ m)).take 48)).take 48
theorem macs_length (K : List UInt64) (s : S8) (l m : List UInt8) : (macs K s l m).length = 48 := by
  unfold macs
  rw [List.length_take, sha_length]
  rfl
set_option maxRecDepth 100000 in
set_option maxHeartbeats 4000000 in
theorem macsum_any (K : List UInt64) (hKl : K.length = 80) (s : S8) (l : List UInt8) (hl : l.length ≤ 1000000) (ps : List (List UInt8)) (hps : ps.flatten.length ≤ 80000000) (v pv : Value) (w : World) (hv : BAt w v l) (hp : PAt w pv ps) (hK : Glob w 2 K) (hS : Glob w 1 s.l) :
    Calls Tryd.prog 30 #[v, pv] w fun e w' => ∃ u, e = .returned u ∧ BAt w' u (macs K s l ps.flatten) ∧ Below w.heap.size w w' := by
  have hS1 := hS.lt
  have hbg := Aside0.mk (begin_any K hKl s l hl ps (by omega) v pv w hv hp hK hS)
  have htg := Aside0.mk (fun (g : Nat) (u : Value) (wx : World) (hr : Run K s 48 g w wx (padb K s l 54 ++ ps.flatten)) (hu : BAt wx u (padb K s l 92)) =>
    tag_any K s g w wx _ _ u (by rw [List.length_append, padb_length]; omega) (by rw [padb_length]; decide) hr hu (hS.below hr.far hS1))
  obtain ⟨A, c, rfl, -⟩ := hv
  obtain ⟨A2, c2, rfl, -⟩ := hp
  clear hK hS hl hps
  go_enter Tryd.func30, Tryd.ntmps30
  go_wp2_with (first
    | (go_at_call 41; ((with_reducible refine hbg.out.mono ?_); rintro e w1 ⟨g, u, rfl, hr, hu⟩; have hr' := Aside0.mk hr; have hu' := Aside0.mk hu; clear hr hu))
    | (go_at_call 42; ((with_reducible refine (htg.out _ _ _ hr'.out hu'.out).mono ?_); rintro e w2 ⟨v2, rfl, hB2, hb2⟩; have hB2' := Aside0.mk hB2; have hb2' := Aside0.mk (hr'.out.far.trans (hb2.mono hr'.out.far.size)); clear hB2 hb2)))
  go_ret
  exact ⟨_, rfl, hB2'.out, hb2'.out⟩
theorem or8 (t : TypeId) (x y : UInt8) : binOp .or t (.int .u8 (bi x)) (.int .u8 (bi y)) = pure (.int .u8 (bi (x ||| y))) := by
  show Op.intBits .or .u8 _ _ = _
  unfold Op.intBits bi
  simp only [IntKind.bits, bv8, back8]; rfl
/-- What the bytes so far differ in. -/
def odd (a b : List UInt8) : Nat → UInt8
  | 0 => 0
  | k + 1 => odd a b k ||| (a.getD k 0 ^^^ b.getD k 0)
theorem or_zero8 (x y : UInt8) : x ||| y = 0 ↔ x = 0 ∧ y = 0 := by
  constructor
  · intro h
    have h1 : x.toBitVec ||| y.toBitVec = 0#8 := by
      have := congrArg UInt8.toBitVec h
      simpa using this
    have h2 : x.toBitVec = 0#8 ∧ y.toBitVec = 0#8 := by
      revert h1
      generalize x.toBitVec = p
      generalize y.toBitVec = q
      intro h1
      constructor
      · ext i hi
        have := congrArg (fun z => z.getLsbD i) h1
        simp at this
        simp [BitVec.getElem_eq_testBit_toNat]
        have h3 := this.1
        simp [BitVec.getLsbD] at h3
        exact h3
      · ext i hi
        have := congrArg (fun z => z.getLsbD i) h1
        simp at this
        simp [BitVec.getElem_eq_testBit_toNat]
        have h3 := this.2
        simp [BitVec.getLsbD] at h3
        exact h3
    exact ⟨UInt8.toBitVec_inj.1 h2.1, UInt8.toBitVec_inj.1 h2.2⟩
  · rintro ⟨rfl, rfl⟩; rfl
theorem xor_zero8 (x y : UInt8) : x ^^^ y = 0 ↔ x = y := by
  constructor
  · intro h
    have h1 : (x ^^^ y) ^^^ y = 0 ^^^ y := by rw [h]
    rw [UInt8.xor_assoc, UInt8.xor_self, UInt8.xor_zero, UInt8.zero_xor] at h1
    exact h1
  · rintro rfl; exact UInt8.xor_self
theorem odd_zero (a b : List UInt8) : ∀ k, odd a b k = 0 ↔ ∀ j, j < k → a.getD j 0 = b.getD j 0
  | 0 => ⟨fun _ j h => absurd h (by omega), fun _ => rfl⟩
  | k + 1 => by
    have ih := odd_zero a b k
    show odd a b k ||| _ = 0 ↔ _
    rw [or_zero8, xor_zero8, ih]
    constructor
    · rintro ⟨h1, h2⟩ j hj
      rcases Nat.lt_or_ge j k with h | h
      · exact h1 j h
      · obtain rfl : j = k := by omega
        exact h2
    · intro h
      exact ⟨fun j hj => h j (by omega), h k (by omega)⟩
theorem odd_eq (a b : List UInt8) (h : a.length = b.length) : odd a b a.length = 0 ↔ a = b := by
  rw [odd_zero]
  constructor
  · intro hh
    apply List.ext_getElem h
    intro j h1 h2
    have := hh j h1
    rwa [List.getD_eq_getElem?_getD, List.getD_eq_getElem?_getD, List.getElem?_eq_getElem h1, List.getElem?_eq_getElem h2] at this
  · rintro rfl j _; rfl
theorem bi_zero (x : UInt8) : bi x = 0 ↔ x = 0 := by
  unfold bi
  constructor
  · intro h
    have : x.toNat = 0 := by omega
    exact UInt8.toNat_inj.1 (by rw [this]; rfl)
  · rintro rfl; rfl
attribute [local go_sem high] Ub.xor8 or8
set_option maxRecDepth 100000 in
set_option maxHeartbeats 4000000 in
theorem same_any (a b : List UInt8) (hla : a.length ≤ 1000000000) (v u : Value) (w : World) (hv : BAt w v a) (hu : BAt w u b) :
    Calls Tryd.prog 43 #[v, u] w fun e w' => e = .returned (.bool (decide (a = b))) ∧ Below w.heap.size w w' := by
  by_cases hlen : a.length = b.length
  · obtain ⟨A, c, rfl, hc, hC⟩ := hv
    obtain ⟨A2, c2, rfl, hc2, hC2⟩ := hu
    have hd : decide ((a.length : Int) = (b.length : Int)) = true := decide_eq_true (by omega)
    have hC' := Aside0.mk hC
    have hC2' := Aside0.mk hC2
    have hodd := Aside0.mk (odd_eq a b hlen)
    have hlen' := Aside0.mk hlen
    clear hC hC2
    rw [← hlen] at hc2 hC2' hd ⊢
    obtain ⟨N, hN⟩ : ∃ N, N = a.length := ⟨_, rfl⟩
    rw [← hN] at hc hc2 hC' hC2' hd hodd hla ⊢
    have hN' := Aside0.mk hN
    clear hlen hd hN
    have hNN : decide ((N : Int) = (N : Int)) = true := decide_eq_true rfl
    go_enter Tryd.func43, Tryd.ntmps43
    go_wp2
    go_loopw [5, 14] (fun o i wr => ∃ k : Nat, k ≤ N ∧ i = .int .i64 k ∧ o = .int .u8 (bi (odd a b k)) ∧ Below w.heap.size w wr) (fun _ i _ => N - (intOf i).toNat)
    case atStart => exact ⟨0, by omega, rfl, rfl, Below.refl _ _⟩
    case round =>
      obtain ⟨k, hk, rfl, rfl, hb⟩ := hrel
      have hb' := Aside0.mk hb
      by_cases hlk : k < N
      · have d1 : decide ((k : Int) < (N : Int)) = true := decide_eq_true (by omega)
        obtain ⟨ad, rfl, hca⟩ := C_cell (A := A) (w := w) (l := a) (by rw [← hN'.out]; exact hC'.out) k (by have := hN'.out; omega)
        obtain ⟨ad2, rfl, hcb⟩ := C_cell (A := A2) (w := w) (l := b) (by rw [← hlen'.out, ← hN'.out]; exact hC2'.out) k (by have := hlen'.out; have := hN'.out; omega)
        have hca' := Aside0.mk ((hb.cell (World.block_lt_of_cell? w _ hca)).trans hca)
        have hcb' := Aside0.mk ((hb.cell (World.block_lt_of_cell? w _ hcb)).trans hcb)
        obtain ⟨xa, hxa⟩ : ∃ x, x = a.getD k 0 := ⟨_, rfl⟩
        obtain ⟨xb, hxb⟩ : ∃ x, x = b.getD k 0 := ⟨_, rfl⟩
        rw [← hxa] at hca'
        rw [← hxb] at hcb'
        have hod : odd a b (k + 1) = odd a b k ||| (xa ^^^ xb) := by rw [hxa, hxb]; rfl
        have hod' := Aside0.mk hod
        generalize odd a b k = ok at *
        clear hb hca hcb hxa hxb hod
        go_wp2_with fail
        refine' wp_region_og_lit 12 [none, none, none, none, none, none, none, none, none, none, none, none] [.is _, .is _, .is _, .is _, .is _, .is _, .is _, .is _, .is _, .is _, .is _, .is _]
          (fun c wx => wx = wr.drew) (fun _ _ => True) (by kernel_rfl) (by kernel_rfl) ?h0a ?hwa
        case h0a => rfl
        case hwa =>
          iterate 12 (
            apply walk_is
            · rfl
            · rfl
            · intro c hc wx hS hE Kq hKq
              have hS' := Aside0.mk hS
              clear hE hc
              obtain rfl := hS
              have c1 : wr.drew.cell? (ad.add k) = _ := hca'.out
              have c2 : wr.drew.cell? (ad2.add k) = _ := hcb'.out
              all_goals
               go_wp2_with (fail)
               exact Told.mk (by first | (simp only [Act.put, List.setIfInBounds_toArray, List.set_cons_succ, List.set_cons_zero]; done) | (simp only [Act.put, List.setIfInBounds_toArray, List.set_cons_succ, List.set_cons_zero]; rfl)) (by first | exact hS'.out | rfl) (by first | trivial)
            simp only [Act.put, List.setIfInBounds_toArray, List.set_cons_succ, List.set_cons_zero])
          refine walk_end ?_
          intro wa hSa hEa
          go_wp2
          refine ⟨⟨k + 1, by omega, by simp, by rw [hod'.out], ?_⟩, by simp [intOf]; omega⟩
          exact drew_below hb'.out
      · obtain rfl : k = N := by omega
        clear hN'
        clear hb
        by_cases hab : a = b
        · have h0 : odd a b k = 0 := hodd.out.2 hab
          have e0 : bi (0 : UInt8) = 0 := rfl
          rw [h0]
          go_wp2
          go_ret
          exact ⟨by rw [decide_eq_true hab]; rfl, hb'.out⟩
        · have h0 : odd a b k ≠ 0 := fun h => hab (hodd.out.1 h)
          have e0 : (bi (odd a b k) == 0) = false := beq_eq_false_iff_ne.2 (fun h => h0 ((bi_zero _).1 h))
          go_wp2
          go_ret
          exact ⟨by rw [decide_eq_false hab]; rfl, hb'.out⟩
  · obtain ⟨A, c, rfl, -⟩ := hv
    obtain ⟨A2, c2, rfl, -⟩ := hu
    have hd : decide ((a.length : Int) = (b.length : Int)) = false := decide_eq_false (by omega)
    have hne : a ≠ b := fun h => hlen (by rw [h])
    rw [decide_eq_false hne]
    go_enter Tryd.func43, Tryd.ntmps43
    go_wp2
    go_ret
    exact ⟨rfl, Below.refl _ _⟩
end Go.Proofs.YtnaiifidcpdamaaDoor
