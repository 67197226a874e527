import Derived.Test.YtdfmamemnenkcaaRg
set_option linter.unusedVariables false
set_option linter.unusedSimpArgs false
namespace Go.Proofs.Ytdfmamemnenkcaa
open Go.RowKit Go.Og Go.Nm
theorem num_sub (m p : Nat) (h : p ≤ m) : num (m + W ^ 4 - p) = num (m - p) := by
  have := words_sub m p h
  unfold num words at *
  rw [this]
set_option maxRecDepth 100000 in
set_option maxHeartbeats 1000000 in
theorem inverse_any (a : Nat) (ha : a < W ^ 4) (w : World) : Calls Try.prog 25 #[num a] w fun e w' => e = .returned (num (a ^ (P25519 - 2) % P25519)) ∧ Below w.heap.size w w' := by
  have hp := prime_any
  have hm := minus_any P25519 2 (by decide)
  rw [num_sub P25519 2 (by decide)] at hm
  have hq := power_any a (P25519 - 2) ha (by decide)
  unfold num at *
  rw [show ((wd 2 0 : Nat) : Int) = 2 from rfl, show ((wd 2 1 : Nat) : Int) = 0 from rfl, show ((wd 2 2 : Nat) : Int) = 0 from rfl, show ((wd 2 3 : Nat) : Int) = 0 from rfl] at hm
  have hp' := Lib.hid hp
  have hm' := Lib.hid hm
  have hq' := Lib.hid hq
  clear hp hm hq
  go_enter Try.func25, Try.ntmps25
  go_wp2_with fail
  refine (hp'.out _).mono ?_
  rintro e w1 ⟨rfl, hb1⟩
  have hs1 := hb1.size
  simp at hs1
  go_wp2_with fail
  refine (hm'.out _).mono ?_
  rintro e w2 ⟨rfl, hb2⟩
  have hs2 := hb2.size
  obtain ⟨hc1, hf1⟩ := bcell hb1
  obtain ⟨hc2, hf2⟩ := bcell hb2
  have hl1 : w.heap.size < w1.heap.size := by omega
  have hl2 : w.heap.size < w2.heap.size := by omega
  have hl3 : w.heap.size + 1 < w1.heap.size := by omega
  have hl4 : w.heap.size + 1 < w2.heap.size := by omega
  have hB2 : Below w.heap.size w w2 := ((((Below.refl _ _).alloc (Nat.le_refl _) _).alloc (by simp) _).trans (hb1.mono (by first | omega | (simp; done) | (simp; omega)))).trans (hb2.mono (by omega))
  go_wp2_with fail
  refine (hq'.out _).mono ?_
  rintro e w3 ⟨rfl, hb3⟩
  obtain ⟨hc3, hf3⟩ := bcell hb3
  have hs3 := hb3.size
  simp at hs3
  have hl5 : w.heap.size + 1 < w2.heap.size + 1 := by omega
  have hl6 : w.heap.size + 1 < w3.heap.size := by omega
  go_wp2
  refine bodyPost_ret (v := num (a ^ (P25519 - 2) % P25519)) (by simp [results, Try.results25, go_sem, hc1, hc2, hc3, hl1, hl2, hl3, hl4, hl5, hl6, num]) rfl ⟨rfl, ?_⟩
  exact Below.set4 ((hB2.alloc (by omega) _).trans (hb3.mono (by simp; omega))) (by omega) _ _ _ _
/-- Numbers in a row, one behind the other. -/
def NumsAt (w : World) (g : Nat) (ns : List Nat) : Prop := g < w.heap.size ∧ ∀ j x, ns[j]? = some x → ∀ i, i < 4 → w.cell? ⟨g, j * 4 + i, none⟩ = some (.int .u64 (wd x i : Nat))
theorem NumsAt.below {w w' : World} {g B : Nat} {ns : List Nat} (h : NumsAt w g ns) (hb : Below B w w') (hg : g < B) : NumsAt w' g ns :=
  ⟨Nat.lt_of_lt_of_le h.1 hb.size, fun j x hj i hi => (hb.cell (p := ⟨g, j * 4 + i, none⟩) hg).trans (h.2 j x hj i hi)⟩
theorem take_succ_fold (ns : List Nat) (f : Nat → Nat → Nat) (s k x : Nat) (hx : ns[k]? = some x) : (ns.take (k + 1)).foldl f s = f ((ns.take k).foldl f s) x := by
  rw [List.take_add_one, hx, List.foldl_append]; rfl
theorem sums_lt (ns : List Nat) : ns.foldl (fun s x => (s + x) % P25519) 0 < P25519 := by
  rcases List.eq_nil_or_concat ns with rfl | ⟨l, x, rfl⟩
  · exact P_pos
  · rw [List.concat_eq_append, List.foldl_append]; exact Nat.mod_lt _ P_pos
set_option maxRecDepth 100000 in
set_option maxHeartbeats 1000000 in
theorem adds_any (ns : List Nat) (g c : Nat) (hns : ∀ x ∈ ns, x < W ^ 4) (hl : ns.length ≤ 16) (w : World) (hA : NumsAt w g ns) : Calls Try.prog 16 #[.slice (some ⟨g, 0, none⟩) ns.length c] w fun e w' => e = .returned (num (ns.foldl (fun s x => (s + x) % P25519) 0)) ∧ Below w.heap.size w w' := by
  have hsm := fun (x : Nat) (hx : x < W ^ 4) => small_any x hx
  have had := fun (x y : Nat) (hx : x + y < W ^ 4) => add_any x y hx
  unfold num at *
  have hsm' := Lib.hid hsm
  have had' := Lib.hid had
  clear hsm had
  go_enter Try.func16, Try.ntmps16
  go_wp2
  go_loopw [8] (fun i wr => ∃ k : Nat, k ≤ ns.length ∧ i = .int .i64 k ∧ Below w.heap.size w wr ∧ Blk wr w.heap.size 24 (words 0) ∧ Blk wr (w.heap.size + 1) 24 (words ((ns.take k).foldl (fun s x => (s + x) % P25519) 0))) (fun i _ => ns.length - (intOf i).toNat)
  case atStart =>
    refine ⟨0, Nat.zero_le _, rfl, ((Below.refl _ _).alloc (Nat.le_refl _) _).alloc (by simp) _, ?_, ?_⟩
    · rw [words_zero]; exact (Blk.new _ _ _ rfl).alloc _
    · rw [List.take_zero, List.foldl_nil, words_zero]; exact Blk.new _ _ _ (by simp)
  case round =>
    obtain ⟨k, hk, rfl, hb, h0, h1⟩ := hrel
    by_cases hlt : k < ns.length
    · obtain ⟨x, hx⟩ : ∃ x, ns[k]? = some x := ⟨ns[k], List.getElem?_eq_getElem hlt⟩
      have hxl : x < W ^ 4 := hns x (List.mem_of_getElem? hx)
      obtain ⟨s, hs⟩ : ∃ s : Nat, s = (ns.take k).foldl (fun s x => (s + x) % P25519) 0 := ⟨_, rfl⟩
      have hsl : s < P25519 := by rw [hs]; exact sums_lt _
      have hnext : (ns.take (k + 1)).foldl (fun s x => (s + x) % P25519) 0 = (s + x % P25519) % P25519 := by
        rw [take_succ_fold ns _ 0 k x hx, ← hs, Nat.add_mod_mod]
      rw [← hs] at h1
      have hnext' := Lib.hid hnext
      have hc := (hA.below hb hA.1).2 k x hx
      have x0 := hc 0 (by decide)
      have x1 := hc 1 (by decide)
      have x2 := hc 2 (by decide)
      have x3 := hc 3 (by decide)
      rw [Nat.add_zero] at x0
      have hz := h1.lt
      have h0' := Lib.hid h0
      have h1' := Lib.hid h1
      have hb' := Lib.hid hb
      have hA' := Lib.hid hA
      have hns' := Lib.hid hns
      clear hnext hs hc h0 h1 hb hA hns hx
      go_wp2
      clear x0 x1 x2 x3
      refine' wp_region_og_lit 4 [some false, some false, some false, some false, some false] [.is _, .is _, .is _, .is _, .is undef]
        (fun c w' => Ext (· = w.heap.size + 1) (wr.alloc (.cells (words x) 24)) w' ∧ Blk w' (w.heap.size + 1) 24 (words (if c then (s + x % P25519) % P25519 else s)) ∧ Blk w' wr.heap.size 24 (words x)) (Ext (· = w.heap.size + 1)) (by kernel_rfl) (by kernel_rfl) ?h0a ?hwa
      case h0a => exact ⟨(Ext.refl _ _).drew, h1'.out.alloc _, Blk.new _ _ _ rfl⟩
      case hwa =>
        iterate 5 (
          apply walk_is
          · rfl
          · rfl
          · intro c hc wx hS hE K hK
            obtain ⟨hx, hB, hC⟩ := hS
            obtain ⟨p0, p1, p2, p3⟩ := hB.words4
            obtain ⟨q0, q1, q2, q3⟩ := hC.words4
            have f0 := hB.frozen
            have hne : w.heap.size + 1 ≠ wr.heap.size := by omega
            (first | (obtain rfl := hc _ rfl) | cases c)
            all_goals (
              clear hE hc
              simp only [if_true, Bool.false_eq_true, if_false] at hB p0 p1 p2 p3
              go_wp2_with (first | (go_at_call 40; refine (hsm'.out x hxl _).mono ?_; rintro e w3 ⟨rfl, hb3⟩) | (go_at_call 39; refine (had'.out s (x % P25519) (by have := Nat.mod_lt x P_pos; have := P_lt; unfold P25519 W at *; omega) _).mono ?_; rintro e w3 ⟨rfl, hb3⟩))
              apply Told.mk
              · first
                | (simp only [Act.put, List.setIfInBounds_toArray, List.set_cons_succ, List.set_cons_zero]; done)
                | (simp only [Act.put, List.setIfInBounds_toArray, List.set_cons_succ, List.set_cons_zero]; rfl)
              · first
                | exact ⟨hx, hB, hC⟩
                | exact ⟨hx.trans (Ext.of_below hb3), hB.below hb3 hB.lt, hC.below hb3 hC.lt⟩
                | exact ⟨hx.trans (Ext.set4 _ _ _ _ _ _), Blk.set4 hB, hC.far4 (by omega) _ _ _ _⟩
              · first
                | exact Ext.refl _ _
                | exact Ext.of_below hb3
                | exact Ext.set4 _ _ _ _ _ _)
          simp only [Act.put, List.setIfInBounds_toArray, List.set_cons_succ, List.set_cons_zero])
        refine walk_end ?_
        rintro w2a hS -
        obtain ⟨hx, hB, hC⟩ := hS
        simp only [List.length_cons, List.length_nil, Nat.reduceAdd, Nat.reduceLT, decide_true, if_true] at hB
        go_wp2
        go_roundw
        case rel =>
          refine ⟨k + 1, by omega, by go_num, (hb'.out.alloc hb'.out.size _).trans (hx.below (by simp; have := hb'.out.size; omega) (by intro j hj; omega)), (h0'.out.alloc _).ext hx (by omega), ?_⟩
          rw [hnext'.out]; exact hB
        case measure => simp [intOf]; omega
    · obtain rfl : k = ns.length := by omega
      rw [List.take_length] at h1
      obtain ⟨p0, p1, p2, p3⟩ := h1.words4
      obtain ⟨q0, q1, q2, q3⟩ := h0.words4
      have f2 := h0.frozen
      have hz := h1.lt
      have hb' := Lib.hid hb
      clear hb h0 h1 hA
      go_wp2
      refine bodyPost_ret (v := num (ns.foldl (fun s x => (s + x) % P25519) 0)) (by simp [results, Try.results16, go_sem, q0, q1, q2, q3, num]) rfl (And.intro rfl ?_)
      exact Below.set4 hb'.out (by omega) _ _ _ _
end Go.Proofs.Ytdfmamemnenkcaa
