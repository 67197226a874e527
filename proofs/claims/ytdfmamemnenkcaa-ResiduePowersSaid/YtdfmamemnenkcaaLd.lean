import Derived.Test.YtdfmamemnenkcaaLc
set_option linter.unusedVariables false
set_option linter.unusedSimpArgs false
namespace Go.Proofs.Ytdfmamemnenkcaa.PResidueAdds
open Go.Dg Go.RowKit Go.Og Go.Nm Go.Proofs.Ytdfmamemnenkcaa Go.Proofs.YtdfmamemnenkcaaW.PrintWords Go.Proofs.YtdfmamemnenkcaaW.PrintLast Go.Proofs.YtdfmamemnenkcaaW.PrintMore
/-- Three numbers' blocks, kept. -/
structure St (w0 : World) (a b c : Nat) (w : World) : Prop where
  bel : Below w0.heap.size w0 w
  ba : Blk w w0.heap.size 24 (words a)
  bb : Blk w (w0.heap.size + 1) 24 (words b)
  bc : Blk w (w0.heap.size + 1 + 1) 24 (words c)
theorem St.below {w0 w w' : World} {a b c : Nat} (h : St w0 a b c w) (hb : Below w.heap.size w w') : St w0 a b c w' :=
  ⟨h.bel.trans (hb.mono h.bel.size), h.ba.below hb h.ba.lt, h.bb.below hb h.bb.lt, h.bc.below hb h.bc.lt⟩
theorem St.alloc {w0 w : World} {a b c : Nat} (h : St w0 a b c w) (o : Obj) : St w0 a b c (w.alloc o) :=
  ⟨h.bel.alloc h.bel.size _, h.ba.alloc _, h.bb.alloc _, h.bc.alloc _⟩
theorem DAt.alloc {w : World} {v : Value} {n : Nat} (h : DAt w v n) (o : Obj) : DAt (w.alloc o) v n := DAt.below h ((Below.refl _ _).alloc (Nat.le_refl _) _)
theorem nums3 (a b c g : Nat) (w : World) (h : w.heap.size = g) : NumsAt (w.alloc (.cells #[.int .u64 (wd a 0 : Nat), .int .u64 (wd a 1 : Nat), .int .u64 (wd a 2 : Nat), .int .u64 (wd a 3 : Nat), .int .u64 (wd b 0 : Nat), .int .u64 (wd b 1 : Nat), .int .u64 (wd b 2 : Nat), .int .u64 (wd b 3 : Nat), .int .u64 (wd c 0 : Nat), .int .u64 (wd c 1 : Nat), .int .u64 (wd c 2 : Nat), .int .u64 (wd c 3 : Nat)] 24)) g [a, b, c] := by
  refine numsAt_words _ (Blk.new _ _ _ h) ?_
  intro j x hj i hi
  have hi4 : i = 0 ∨ i = 1 ∨ i = 2 ∨ i = 3 := by omega
  rcases j with _ | _ | _ | j
  · obtain rfl : a = x := by simpa using hj
    rcases hi4 with rfl | rfl | rfl | rfl <;> rfl
  · obtain rfl : b = x := by simpa using hj
    rcases hi4 with rfl | rfl | rfl | rfl <;> rfl
  · obtain rfl : c = x := by simpa using hj
    rcases hi4 with rfl | rfl | rfl | rfl <;> rfl
  · simp at hj
theorem pp_P : P25519 = pp := by unfold pp P25519; rfl
theorem is_same (s : Nat) (hs : s < W ^ 4) (v : Value) (w : World) (hv : DAt w v s) : Calls Try.prog 15 #[num s, v] w fun e w' => e = .returned (.bool true) ∧ Below w.heap.size w w' := by
  have := is_any s s hs (by have := len4 s hs; omega) v w hv
  rw [decide_eq_true rfl] at this
  exact this
set_option maxRecDepth 100000 in
set_option maxHeartbeats 4000000 in
theorem residueAdds_any (a b c : Nat) (ha : a < W ^ 4) (hb : b < W ^ 4) (hc : c < W ^ 4) (w : World) : Calls Try.prog 3 #[num a, num b, num c] w fun e w' => e = .returned (.bool true) ∧ Below w.heap.size w w' := by
  have hP := pp_P
  have hpl : pp < W ^ 4 := by rw [← pp_P]; exact prime_lt
  obtain ⟨s, hs⟩ : ∃ s : Nat, s = [a, b, c].foldl (fun s x => (s + x) % P25519) 0 := ⟨_, rfl⟩
  obtain ⟨m, hm⟩ : ∃ m : Nat, m = [a, b, c].foldl (fun s x => s * x % P25519) 1 := ⟨_, rfl⟩
  obtain ⟨d, hd⟩ : ∃ d : Nat, d = (a % P25519 + (P25519 - b % P25519) % P25519) % P25519 := ⟨_, rfl⟩
  have hsl : s < W ^ 4 := by rw [hs]; exact Nat.lt_trans (sums_lt _) prime_lt
  have hml : m < W ^ 4 := by rw [hm]; exact Nat.lt_trans (Nat.mod_lt _ P_pos) prime_lt
  have hdl : d < W ^ 4 := by rw [hd]; exact Nat.lt_trans (Nat.mod_lt _ P_pos) prime_lt
  have hs2 : ((a % pp + b % pp) % pp + c % pp) % pp = s := by rw [hs, hP]; simp [List.foldl]
  have hm2 : (a % pp * (b % pp) % pp) * (c % pp) % pp = m := by rw [hm, hP]; simp [List.foldl, Nat.mul_mod]
  have hd2 : (a % pp % pp + (pp - b % pp % pp)) % pp = d := by rw [hd, hP]; simp
  have hadd := add_d
  have hmul := mul_d
  have hsub := sub_d
  have h16 := fun g k => adds_any [a, b, c] g k (by intro x hx; simp at hx; rcases hx with rfl | rfl | rfl <;> assumption) (by simp)
  have h17 := fun g k => muls_any [a, b, c] g k (by intro x hx; simp at hx; rcases hx with rfl | rfl | rfl <;> assumption) (by simp)
  have h18 := sub_any a b ha hb
  rw [← hs] at h16
  rw [← hm] at h17
  rw [← hd] at h18
  have his := is_same s hsl
  have him := is_same m hml
  have hid_ := is_same d hdl
  have hip := is_same P25519 prime_lt
  have hio := is_same L25519 (by decide)
  have hpr := prime_any
  have hor := order_any
  have hpd := prime_d
  rw [← pp_P] at hpd
  have hod := order_d
  have han := adds_none
  have hmn := muls_none
  have hzz := zero_any 0 (by decide)
  rw [decide_eq_true rfl] at hzz
  have he : ∀ w, (Op.equalIn 10000 24 (.agg #[.int .u64 1, .int .u64 0, .int .u64 0, .int .u64 0]) (.agg #[.int .u64 1, .int .u64 0, .int .u64 0, .int .u64 0])).run Try.prog w = .ok true w := fun w => eq24 1 0 0 0 1 0 0 0 w
  have la : ∀ n : Nat, (dig (n % pp)).length ≤ 20000 := fun n => by have := small_len _ (Nat.mod_lt n pp_pos); omega
  rw [show num 1 = .agg #[.int .u64 1, .int .u64 0, .int .u64 0, .int .u64 0] from rfl] at hmn
  rw [show num 0 = .agg #[.int .u64 0, .int .u64 0, .int .u64 0, .int .u64 0] from rfl] at han hzz
  have haw := awake08
  have hr := ref_d
  have hf := fold_d
  unfold num at *
  have hs' := Lib.hid hs
  have hm' := Lib.hid hm
  have hd' := Lib.hid hd
  have hs2' := Lib.hid hs2
  have hm2' := Lib.hid hm2
  have hd2' := Lib.hid hd2
  have hadd' := Lib.hid hadd
  have hmul' := Lib.hid hmul
  have hsub' := Lib.hid hsub
  have h16' := Lib.hid h16
  have h17' := Lib.hid h17
  have h18' := Lib.hid h18
  have his' := Lib.hid his
  have him' := Lib.hid him
  have hid_' := Lib.hid hid_
  have hip' := Lib.hid hip
  have hio' := Lib.hid hio
  have hpr' := Lib.hid hpr
  have hor' := Lib.hid hor
  have hpd' := Lib.hid hpd
  have hod' := Lib.hid hod
  have han' := Lib.hid han
  have hmn' := Lib.hid hmn
  have hzz' := Lib.hid hzz
  have he' := Lib.hid he
  clear hs hm hd hs2 hm2 hd2 hadd hmul hsub h16 h17 h18 his him hid_ hip hio hpr hor hpd hod han hmn hzz he hP hpl
  have haw' := Lib.hid haw
  have hr' := Lib.hid hr
  have hf' := Lib.hid hf
  clear haw hr hf
  go_enter Try.func3, Try.ntmps3
  go_wp2_with fail
  have hBa : Blk (((w.alloc (.cells (words a) 24)).alloc (.cells (words b) 24)).alloc (.cells (words c) 24)) w.heap.size 24 (words a) := ((Blk.new _ _ _ rfl).alloc _).alloc _
  have hBb : Blk (((w.alloc (.cells (words a) 24)).alloc (.cells (words b) 24)).alloc (.cells (words c) 24)) (w.heap.size + 1) 24 (words b) := (Blk.new _ _ _ (by simp)).alloc _
  have hBc : Blk (((w.alloc (.cells (words a) 24)).alloc (.cells (words b) 24)).alloc (.cells (words c) 24)) (w.heap.size + 1 + 1) 24 (words c) := Blk.new _ _ _ (by simp)
  have hB0 : Below w.heap.size w (((w.alloc (.cells (words a) 24)).alloc (.cells (words b) 24)).alloc (.cells (words c) 24)) := (((Below.refl _ _).alloc (Nat.le_refl _) _).alloc (by simp) _).alloc (by simp; omega) _
  unfold words at hBa hBb hBc hB0
  generalize (((w.alloc (.cells #[.int .u64 (wd a 0 : Nat), .int .u64 (wd a 1 : Nat), .int .u64 (wd a 2 : Nat), .int .u64 (wd a 3 : Nat)] 24)).alloc (.cells #[.int .u64 (wd b 0 : Nat), .int .u64 (wd b 1 : Nat), .int .u64 (wd b 2 : Nat), .int .u64 (wd b 3 : Nat)] 24)).alloc (.cells #[.int .u64 (wd c 0 : Nat), .int .u64 (wd c 1 : Nat), .int .u64 (wd c 2 : Nat), .int .u64 (wd c 3 : Nat)] 24)) = wa at *
  refine (haw'.out _).mono ?_
  rintro e w1 ⟨rfl, hb1⟩
  have hBa1 := Lib.hid (hBa.below hb1 hBa.lt)
  have hBb1 := Lib.hid (hBb.below hb1 hBb.lt)
  have hBc1 := Lib.hid (hBc.below hb1 hBc.lt)
  have hB1 := Lib.hid (hB0.trans (hb1.mono hB0.size))
  clear hBa hBb hBc hB0 hb1
  go_wp2
  refine' wp_region_og_lit 12 [none, none, none, none, none, none, none, none, none, none, none, none] [.is (.agg #[.int .u64 (wd a 0 : Nat), .int .u64 (wd a 1 : Nat), .int .u64 (wd a 2 : Nat), .int .u64 (wd a 3 : Nat)]), .such (fun v wx => DAt wx v a), .such (fun v wx => DAt wx v (a % pp)), .is (.agg #[.int .u64 (wd b 0 : Nat), .int .u64 (wd b 1 : Nat), .int .u64 (wd b 2 : Nat), .int .u64 (wd b 3 : Nat)]), .such (fun v wx => DAt wx v b), .such (fun v wx => DAt wx v (b % pp)), .is (.agg #[.int .u64 (wd c 0 : Nat), .int .u64 (wd c 1 : Nat), .int .u64 (wd c 2 : Nat), .int .u64 (wd c 3 : Nat)]), .such (fun v wx => DAt wx v c), .such (fun v wx => DAt wx v (c % pp)), .such (fun v wx => DAt wx v (a % pp)), .such (fun v wx => DAt wx v (b % pp)), .such (fun v wx => DAt wx v (c % pp))]
    (fun _ wx => Below w.heap.size w wx ∧ Blk wx w.heap.size 24 #[.int .u64 (wd a 0 : Nat), .int .u64 (wd a 1 : Nat), .int .u64 (wd a 2 : Nat), .int .u64 (wd a 3 : Nat)] ∧ Blk wx (w.heap.size + 1) 24 #[.int .u64 (wd b 0 : Nat), .int .u64 (wd b 1 : Nat), .int .u64 (wd b 2 : Nat), .int .u64 (wd b 3 : Nat)] ∧ Blk wx (w.heap.size + 1 + 1) 24 #[.int .u64 (wd c 0 : Nat), .int .u64 (wd c 1 : Nat), .int .u64 (wd c 2 : Nat), .int .u64 (wd c 3 : Nat)]) (fun u u' => Below u.heap.size u u') (by kernel_rfl) (by kernel_rfl) ?h0r ?hwr
  case h0r => exact ⟨below_drew1 hB1.out, hBa1.out, hBb1.out, hBc1.out⟩
  case hwr =>
    apply walk_is
    · rfl
    · rfl
    · intro b0 hb0 wx hS hE K hK
      clear hE hb0
      have hS' := Lib.hid hS
      obtain ⟨hX, hA, hB, hC⟩ := hS
      obtain ⟨p0, p1, p2, p3⟩ := Blk.words4 (n := a) hA
      have hl := hA.lt
      clear hX hA hB hC
      go_wp2
      exact Told.mk (by simp only [Act.put, List.setIfInBounds_toArray, List.set_cons_succ, List.set_cons_zero]) hS'.out (Below.refl _ _)
    simp only [Act.put, List.setIfInBounds_toArray, List.set_cons_succ, List.set_cons_zero]
    refine walk_such (R := _) rfl rfl (fun v u u' h hr => h.below hr) ?_ ?_
    · intro b0 hb0 wx hS hE K hK
      clear hE hb0
      obtain ⟨hX, hA, hB, hC⟩ := hS
      go_wp2_with (go_at_call 12; refine (hr'.out a ha _).mono ?_; rintro e w3 ⟨v3, rfl, hv3, hb3⟩)
      exact Held.mk ⟨_, by simp only [Act.put, List.setIfInBounds_toArray, List.set_cons_succ, List.set_cons_zero], hv3⟩ ⟨hX.trans (hb3.mono hX.size), hA.below hb3 hA.lt, hB.below hb3 hB.lt, hC.below hb3 hC.lt⟩ hb3
    intro ra
    simp only [Act.put, List.setIfInBounds_toArray, List.set_cons_succ, List.set_cons_zero]
    refine walk_such (R := _) rfl rfl (fun v u u' h hr => h.below hr) ?_ ?_
    · intro b0 hb0 wx hS hE K hK
      have hd : DAt wx ra a := hE (1, fun wx => DAt wx ra a) (by simp) (by dsimp only; decide)
      clear hE hb0
      obtain ⟨hX, hA, hB, hC⟩ := hS
      go_wp2_with (go_at_call 11; refine (hf'.out a (by have := len4 a ha; omega) ra _ hd).mono ?_; rintro e w3 ⟨v3, rfl, hv3, hb3⟩)
      exact Held.mk ⟨_, by simp only [Act.put, List.setIfInBounds_toArray, List.set_cons_succ, List.set_cons_zero], hv3⟩ ⟨hX.trans (hb3.mono hX.size), hA.below hb3 hA.lt, hB.below hb3 hB.lt, hC.below hb3 hC.lt⟩ hb3
    intro fa
    simp only [Act.put, List.setIfInBounds_toArray, List.set_cons_succ, List.set_cons_zero]
    apply walk_is
    · rfl
    · rfl
    · intro b0 hb0 wx hS hE K hK
      clear hE hb0
      have hS' := Lib.hid hS
      obtain ⟨hX, hA, hB, hC⟩ := hS
      obtain ⟨p0, p1, p2, p3⟩ := Blk.words4 (n := b) hB
      have hl := hB.lt
      clear hX hA hB hC
      go_wp2
      exact Told.mk (by simp only [Act.put, List.setIfInBounds_toArray, List.set_cons_succ, List.set_cons_zero]) hS'.out (Below.refl _ _)
    simp only [Act.put, List.setIfInBounds_toArray, List.set_cons_succ, List.set_cons_zero]
    refine walk_such (R := _) rfl rfl (fun v u u' h hr => h.below hr) ?_ ?_
    · intro b0 hb0 wx hS hE K hK
      clear hE hb0
      obtain ⟨hX, hA, hB, hC⟩ := hS
      go_wp2_with (go_at_call 12; refine (hr'.out b hb _).mono ?_; rintro e w3 ⟨v3, rfl, hv3, hb3⟩)
      exact Held.mk ⟨_, by simp only [Act.put, List.setIfInBounds_toArray, List.set_cons_succ, List.set_cons_zero], hv3⟩ ⟨hX.trans (hb3.mono hX.size), hA.below hb3 hA.lt, hB.below hb3 hB.lt, hC.below hb3 hC.lt⟩ hb3
    intro rb
    simp only [Act.put, List.setIfInBounds_toArray, List.set_cons_succ, List.set_cons_zero]
    refine walk_such (R := _) rfl rfl (fun v u u' h hr => h.below hr) ?_ ?_
    · intro b0 hb0 wx hS hE K hK
      have hd : DAt wx rb b := hE (4, fun wx => DAt wx rb b) (by simp) (by dsimp only; decide)
      clear hE hb0
      obtain ⟨hX, hA, hB, hC⟩ := hS
      go_wp2_with (go_at_call 11; refine (hf'.out b (by have := len4 b hb; omega) rb _ hd).mono ?_; rintro e w3 ⟨v3, rfl, hv3, hb3⟩)
      exact Held.mk ⟨_, by simp only [Act.put, List.setIfInBounds_toArray, List.set_cons_succ, List.set_cons_zero], hv3⟩ ⟨hX.trans (hb3.mono hX.size), hA.below hb3 hA.lt, hB.below hb3 hB.lt, hC.below hb3 hC.lt⟩ hb3
    intro fb
    simp only [Act.put, List.setIfInBounds_toArray, List.set_cons_succ, List.set_cons_zero]
    apply walk_is
    · rfl
    · rfl
    · intro b0 hb0 wx hS hE K hK
      clear hE hb0
      have hS' := Lib.hid hS
      obtain ⟨hX, hA, hB, hC⟩ := hS
      obtain ⟨p0, p1, p2, p3⟩ := Blk.words4 (n := c) hC
      have hl := hC.lt
      clear hX hA hB hC
      go_wp2
      exact Told.mk (by simp only [Act.put, List.setIfInBounds_toArray, List.set_cons_succ, List.set_cons_zero]) hS'.out (Below.refl _ _)
    simp only [Act.put, List.setIfInBounds_toArray, List.set_cons_succ, List.set_cons_zero]
    refine walk_such (R := _) rfl rfl (fun v u u' h hr => h.below hr) ?_ ?_
    · intro b0 hb0 wx hS hE K hK
      clear hE hb0
      obtain ⟨hX, hA, hB, hC⟩ := hS
      go_wp2_with (go_at_call 12; refine (hr'.out c hc _).mono ?_; rintro e w3 ⟨v3, rfl, hv3, hb3⟩)
      exact Held.mk ⟨_, by simp only [Act.put, List.setIfInBounds_toArray, List.set_cons_succ, List.set_cons_zero], hv3⟩ ⟨hX.trans (hb3.mono hX.size), hA.below hb3 hA.lt, hB.below hb3 hB.lt, hC.below hb3 hC.lt⟩ hb3
    intro rc
    simp only [Act.put, List.setIfInBounds_toArray, List.set_cons_succ, List.set_cons_zero]
    refine walk_such (R := _) rfl rfl (fun v u u' h hr => h.below hr) ?_ ?_
    · intro b0 hb0 wx hS hE K hK
      have hd : DAt wx rc c := hE (7, fun wx => DAt wx rc c) (by simp) (by dsimp only; decide)
      clear hE hb0
      obtain ⟨hX, hA, hB, hC⟩ := hS
      go_wp2_with (go_at_call 11; refine (hf'.out c (by have := len4 c hc; omega) rc _ hd).mono ?_; rintro e w3 ⟨v3, rfl, hv3, hb3⟩)
      exact Held.mk ⟨_, by simp only [Act.put, List.setIfInBounds_toArray, List.set_cons_succ, List.set_cons_zero], hv3⟩ ⟨hX.trans (hb3.mono hX.size), hA.below hb3 hA.lt, hB.below hb3 hB.lt, hC.below hb3 hC.lt⟩ hb3
    intro fc
    simp only [Act.put, List.setIfInBounds_toArray, List.set_cons_succ, List.set_cons_zero]
    refine walk_such (R := _) rfl rfl (fun v u u' h hr => h.below hr) ?_ ?_
    · intro b0 hb0 wx hS hE K hK
      have hd : DAt wx fa (a % pp) := hE (2, fun wx => DAt wx fa (a % pp)) (by simp) (by dsimp only; decide)
      clear hE hb0
      go_wp2
      exact Held.mk ⟨_, by simp only [Act.put, List.setIfInBounds_toArray, List.set_cons_succ, List.set_cons_zero], hd⟩ hS (Below.refl _ _)
    intro ga
    simp only [Act.put, List.setIfInBounds_toArray, List.set_cons_succ, List.set_cons_zero]
    refine walk_such (R := _) rfl rfl (fun v u u' h hr => h.below hr) ?_ ?_
    · intro b0 hb0 wx hS hE K hK
      have hd : DAt wx fb (b % pp) := hE (5, fun wx => DAt wx fb (b % pp)) (by simp) (by dsimp only; decide)
      clear hE hb0
      go_wp2
      exact Held.mk ⟨_, by simp only [Act.put, List.setIfInBounds_toArray, List.set_cons_succ, List.set_cons_zero], hd⟩ hS (Below.refl _ _)
    intro gb
    simp only [Act.put, List.setIfInBounds_toArray, List.set_cons_succ, List.set_cons_zero]
    refine walk_such (R := _) rfl rfl (fun v u u' h hr => h.below hr) ?_ ?_
    · intro b0 hb0 wx hS hE K hK
      have hd : DAt wx fc (c % pp) := hE (8, fun wx => DAt wx fc (c % pp)) (by simp) (by dsimp only; decide)
      clear hE hb0
      go_wp2
      exact Held.mk ⟨_, by simp only [Act.put, List.setIfInBounds_toArray, List.set_cons_succ, List.set_cons_zero], hd⟩ hS (Below.refl _ _)
    intro gc
    simp only [Act.put, List.setIfInBounds_toArray, List.set_cons_succ, List.set_cons_zero]
    refine walk_end ?_
    rintro w2 ⟨hX, hA, hB, hC⟩ hE
    have hda : DAt w2 ga (a % pp) := hE (9, fun wx => DAt wx ga (a % pp)) (by simp)
    have hdb : DAt w2 gb (b % pp) := hE (10, fun wx => DAt wx gb (b % pp)) (by simp)
    have hdc : DAt w2 gc (c % pp) := hE (11, fun wx => DAt wx gc (c % pp)) (by simp)
    clear hE
    have hda' := Lib.hid hda
    have hdb' := Lib.hid hdb
    have hdc' := Lib.hid hdc
    have hS : St w a b c w2 := ⟨hX, hA, hB, hC⟩
    have hS' := Lib.hid hS
    clear hda hdb hdc hX hA hB hC hS
    go_wp2_with fail
    refine (hadd'.out _ _ (la a) (la b) ga gb _ hda'.out hdb'.out).mono ?_
    rintro e w3 ⟨v3, rfl, hq, hbN⟩
    have hSn := Lib.hid (hS'.out.below hbN)
    clear hS'
    have hS' := hSn
    clear hSn
    have hn_ := Lib.hid (hda'.out.below hbN)
    clear hda'
    have hda' := hn_
    clear hn_
    have hn_ := Lib.hid (hdb'.out.below hbN)
    clear hdb'
    have hdb' := hn_
    clear hn_
    have hn_ := Lib.hid (hdc'.out.below hbN)
    clear hdc'
    have hdc' := hn_
    clear hn_
    have hq' := Lib.hid hq
    clear hq
    clear hbN
    go_wp2_with fail
    refine (hadd'.out _ _ (la _) (la c) v3 gc _ hq'.out hdc'.out).mono ?_
    rintro e w4 ⟨v4, rfl, hsum, hbN⟩
    have hSn := Lib.hid (hS'.out.below hbN)
    clear hS'
    have hS' := hSn
    clear hSn
    have hn_ := Lib.hid (hda'.out.below hbN)
    clear hda'
    have hda' := hn_
    clear hn_
    have hn_ := Lib.hid (hdb'.out.below hbN)
    clear hdb'
    have hdb' := hn_
    clear hn_
    have hn_ := Lib.hid (hdc'.out.below hbN)
    clear hdc'
    have hdc' := hn_
    clear hn_
    have hn_ := Lib.hid (hq'.out.below hbN)
    clear hq'
    have hq' := hn_
    clear hn_
    rw [hs2'.out] at hsum
    have hsum' := Lib.hid hsum
    clear hsum
    clear hbN
    clear hq'
    go_wp2_with fail
    refine (hmul'.out _ _ (la a) (la b) ga gb _ hda'.out hdb'.out).mono ?_
    rintro e w5 ⟨v5, rfl, hq, hbN⟩
    have hSn := Lib.hid (hS'.out.below hbN)
    clear hS'
    have hS' := hSn
    clear hSn
    have hn_ := Lib.hid (hda'.out.below hbN)
    clear hda'
    have hda' := hn_
    clear hn_
    have hn_ := Lib.hid (hdb'.out.below hbN)
    clear hdb'
    have hdb' := hn_
    clear hn_
    have hn_ := Lib.hid (hdc'.out.below hbN)
    clear hdc'
    have hdc' := hn_
    clear hn_
    have hn_ := Lib.hid (hsum'.out.below hbN)
    clear hsum'
    have hsum' := hn_
    clear hn_
    have hq' := Lib.hid hq
    clear hq
    clear hbN
    go_wp2_with fail
    refine (hmul'.out _ _ (la _) (la c) v5 gc _ hq'.out hdc'.out).mono ?_
    rintro e w6 ⟨v6, rfl, hprod, hbN⟩
    have hSn := Lib.hid (hS'.out.below hbN)
    clear hS'
    have hS' := hSn
    clear hSn
    have hn_ := Lib.hid (hda'.out.below hbN)
    clear hda'
    have hda' := hn_
    clear hn_
    have hn_ := Lib.hid (hdb'.out.below hbN)
    clear hdb'
    have hdb' := hn_
    clear hn_
    have hn_ := Lib.hid (hdc'.out.below hbN)
    clear hdc'
    have hdc' := hn_
    clear hn_
    have hn_ := Lib.hid (hsum'.out.below hbN)
    clear hsum'
    have hsum' := hn_
    clear hn_
    have hn_ := Lib.hid (hq'.out.below hbN)
    clear hq'
    have hq' := hn_
    clear hn_
    rw [hm2'.out] at hprod
    have hprod' := Lib.hid hprod
    clear hprod
    clear hbN
    clear hq'
    clear hdc'
    obtain ⟨p0, p1, p2, p3⟩ := hS'.out.ba.words4
    obtain ⟨p4, p5, p6, p7⟩ := hS'.out.bb.words4
    obtain ⟨p8, p9, p10, p11⟩ := hS'.out.bc.words4
    have l0 := hS'.out.ba.lt
    have l1 := hS'.out.bb.lt
    have l2 := hS'.out.bc.lt
    go_wp2_with fail
    refine (h16'.out w6.heap.size 3 _ (nums3 a b c _ _ rfl)).mono ?_
    rintro e w7 ⟨rfl, hbN⟩
    have hSn := Lib.hid ((hS'.out.alloc _).below hbN)
    clear hS'
    have hS' := hSn
    clear hSn
    have hn_ := Lib.hid (DAt.below (hda'.out.alloc _) hbN)
    clear hda'
    have hda' := hn_
    clear hn_
    have hn_ := Lib.hid (DAt.below (hdb'.out.alloc _) hbN)
    clear hdb'
    have hdb' := hn_
    clear hn_
    have hn_ := Lib.hid (DAt.below (hsum'.out.alloc _) hbN)
    clear hsum'
    have hsum' := hn_
    clear hn_
    have hn_ := Lib.hid (DAt.below (hprod'.out.alloc _) hbN)
    clear hprod'
    have hprod' := hn_
    clear hn_
    clear hbN
    clear p0 p1 p2 p3 p4 p5 p6 p7 p8 p9 p10 p11 l0 l1 l2
    go_wp2_with fail
    refine (his'.out v4 _ hsum'.out).mono ?_
    rintro e w8 ⟨rfl, hbN⟩
    have hSn := Lib.hid (hS'.out.below hbN)
    clear hS'
    have hS' := hSn
    clear hSn
    have hn_ := Lib.hid (hda'.out.below hbN)
    clear hda'
    have hda' := hn_
    clear hn_
    have hn_ := Lib.hid (hdb'.out.below hbN)
    clear hdb'
    have hdb' := hn_
    clear hn_
    have hn_ := Lib.hid (hsum'.out.below hbN)
    clear hsum'
    have hsum' := hn_
    clear hn_
    have hn_ := Lib.hid (hprod'.out.below hbN)
    clear hprod'
    have hprod' := hn_
    clear hn_
    clear hbN
    clear hsum'
    obtain ⟨p0, p1, p2, p3⟩ := hS'.out.ba.words4
    obtain ⟨p4, p5, p6, p7⟩ := hS'.out.bb.words4
    obtain ⟨p8, p9, p10, p11⟩ := hS'.out.bc.words4
    have l0 := hS'.out.ba.lt
    have l1 := hS'.out.bb.lt
    have l2 := hS'.out.bc.lt
    go_wp2_with fail
    refine (h17'.out w8.heap.size 3 _ (nums3 a b c _ _ rfl)).mono ?_
    rintro e w9 ⟨rfl, hbN⟩
    have hSn := Lib.hid ((hS'.out.alloc _).below hbN)
    clear hS'
    have hS' := hSn
    clear hSn
    have hn_ := Lib.hid (DAt.below (hda'.out.alloc _) hbN)
    clear hda'
    have hda' := hn_
    clear hn_
    have hn_ := Lib.hid (DAt.below (hdb'.out.alloc _) hbN)
    clear hdb'
    have hdb' := hn_
    clear hn_
    have hn_ := Lib.hid (DAt.below (hprod'.out.alloc _) hbN)
    clear hprod'
    have hprod' := hn_
    clear hn_
    clear hbN
    clear p0 p1 p2 p3 p4 p5 p6 p7 p8 p9 p10 p11 l0 l1 l2
    go_wp2_with fail
    refine (him'.out v6 _ hprod'.out).mono ?_
    rintro e w10 ⟨rfl, hbN⟩
    have hSn := Lib.hid (hS'.out.below hbN)
    clear hS'
    have hS' := hSn
    clear hSn
    have hn_ := Lib.hid (hda'.out.below hbN)
    clear hda'
    have hda' := hn_
    clear hn_
    have hn_ := Lib.hid (hdb'.out.below hbN)
    clear hdb'
    have hdb' := hn_
    clear hn_
    have hn_ := Lib.hid (hprod'.out.below hbN)
    clear hprod'
    have hprod' := hn_
    clear hn_
    clear hbN
    clear hprod'
    obtain ⟨p0, p1, p2, p3⟩ := hS'.out.ba.words4
    obtain ⟨p4, p5, p6, p7⟩ := hS'.out.bb.words4
    obtain ⟨p8, p9, p10, p11⟩ := hS'.out.bc.words4
    have l0 := hS'.out.ba.lt
    have l1 := hS'.out.bb.lt
    have l2 := hS'.out.bc.lt
    go_wp2_with fail
    refine (h18'.out _).mono ?_
    rintro e w11 ⟨rfl, hbN⟩
    have hSn := Lib.hid (hS'.out.below hbN)
    clear hS'
    have hS' := hSn
    clear hSn
    have hn_ := Lib.hid (hda'.out.below hbN)
    clear hda'
    have hda' := hn_
    clear hn_
    have hn_ := Lib.hid (hdb'.out.below hbN)
    clear hdb'
    have hdb' := hn_
    clear hn_
    clear hbN
    clear p0 p1 p2 p3 p4 p5 p6 p7 p8 p9 p10 p11 l0 l1 l2
    go_wp2_with fail
    refine (hsub'.out _ _ (la a) (la b) ga gb _ hda'.out hdb'.out).mono ?_
    rintro e w12 ⟨v12, rfl, hq, hbN⟩
    have hSn := Lib.hid (hS'.out.below hbN)
    clear hS'
    have hS' := hSn
    clear hSn
    have hn_ := Lib.hid (hda'.out.below hbN)
    clear hda'
    have hda' := hn_
    clear hn_
    have hn_ := Lib.hid (hdb'.out.below hbN)
    clear hdb'
    have hdb' := hn_
    clear hn_
    rw [hd2'.out] at hq
    have hq' := Lib.hid hq
    clear hq
    clear hbN
    go_wp2_with fail
    refine (hid_'.out v12 _ hq'.out).mono ?_
    rintro e w13 ⟨rfl, hbN⟩
    have hSn := Lib.hid (hS'.out.below hbN)
    clear hS'
    have hS' := hSn
    clear hSn
    have hn_ := Lib.hid (hda'.out.below hbN)
    clear hda'
    have hda' := hn_
    clear hn_
    have hn_ := Lib.hid (hdb'.out.below hbN)
    clear hdb'
    have hdb' := hn_
    clear hn_
    have hn_ := Lib.hid (hq'.out.below hbN)
    clear hq'
    have hq' := hn_
    clear hn_
    clear hbN
    clear hq'
    clear hda'
    clear hdb'
    go_wp2_with fail
    refine (han'.out _).mono ?_
    rintro e w14 ⟨rfl, hbN⟩
    have hSn := Lib.hid (hS'.out.below hbN)
    clear hS'
    have hS' := hSn
    clear hSn
    clear hbN
    go_wp2_with fail
    refine (hzz'.out _).mono ?_
    rintro e w15 ⟨rfl, hbN⟩
    have hSn := Lib.hid (hS'.out.below hbN)
    clear hS'
    have hS' := hSn
    clear hSn
    clear hbN
    go_wp2_with fail
    refine (hmn'.out _).mono ?_
    rintro e w16 ⟨rfl, hbN⟩
    have hSn := Lib.hid (hS'.out.below hbN)
    clear hS'
    have hS' := hSn
    clear hSn
    clear hbN
    have he := he'.out
    go_wp2_with fail
    refine (hpr'.out _).mono ?_
    rintro e w17 ⟨rfl, hbN⟩
    have hSn := Lib.hid (hS'.out.below hbN)
    clear hS'
    have hS' := hSn
    clear hSn
    clear hbN
    go_wp2_with fail
    refine (hpd'.out _).mono ?_
    rintro e w18 ⟨v18, rfl, hq, hbN⟩
    have hSn := Lib.hid (hS'.out.below hbN)
    clear hS'
    have hS' := hSn
    clear hSn
    have hq' := Lib.hid hq
    clear hq
    clear hbN
    go_wp2_with fail
    refine (hip'.out v18 _ hq'.out).mono ?_
    rintro e w19 ⟨rfl, hbN⟩
    have hSn := Lib.hid (hS'.out.below hbN)
    clear hS'
    have hS' := hSn
    clear hSn
    have hn_ := Lib.hid (hq'.out.below hbN)
    clear hq'
    have hq' := hn_
    clear hn_
    clear hbN
    clear hq'
    go_wp2_with fail
    refine (hor'.out _).mono ?_
    rintro e w20 ⟨rfl, hbN⟩
    have hSn := Lib.hid (hS'.out.below hbN)
    clear hS'
    have hS' := hSn
    clear hSn
    clear hbN
    go_wp2_with fail
    refine (hod'.out _).mono ?_
    rintro e w21 ⟨v21, rfl, hq, hbN⟩
    have hSn := Lib.hid (hS'.out.below hbN)
    clear hS'
    have hS' := hSn
    clear hSn
    have hq' := Lib.hid hq
    clear hq
    clear hbN
    go_wp2_with fail
    refine (hio'.out v21 _ hq'.out).mono ?_
    rintro e w22 ⟨rfl, hbN⟩
    have hSn := Lib.hid (hS'.out.below hbN)
    clear hS'
    have hS' := hSn
    clear hSn
    have hn_ := Lib.hid (hq'.out.below hbN)
    clear hq'
    have hq' := hn_
    clear hn_
    clear hbN
    go_wp2
    go_ret
    exact ⟨rfl, hS'.out.bel⟩
end Go.Proofs.Ytdfmamemnenkcaa.PResidueAdds
