import Derived.Test.YtdfmamemnenkcaaRh
import Derived.Test.YtdfmamemnenkcaaOh
set_option linter.unusedVariables false
set_option linter.unusedSimpArgs false
namespace Go.Proofs.Ytdfmamemnenkcaa
open Go.RowKit Go.Og Go.Nm
set_option maxRecDepth 100000 in
set_option maxHeartbeats 2000000 in
theorem sub_any (a b : Nat) (ha : a < W ^ 4) (hb : b < W ^ 4) (w : World) : Calls Try.prog 18 #[num a, num b] w fun e w' => e = .returned (num ((a % P25519 + (P25519 - b % P25519) % P25519) % P25519)) ∧ Below w.heap.size w w' := by
  obtain ⟨r, hr⟩ : ∃ r : Nat, r = b % P25519 := ⟨_, rfl⟩
  have hrl : r < P25519 := by rw [hr]; exact Nat.mod_lt _ P_pos
  have hp := prime_any
  have hs := fun (x : Nat) (hx : x < W ^ 4) => small_any x hx
  have hsb := hs b hb
  rw [← hr] at hsb
  have hsa := hs a ha
  have hsr := hs (P25519 - r) (by have := P_lt; omega)
  have hm := minus_any P25519 r (by have := P_lt; omega)
  rw [num_sub P25519 r (by omega)] at hm
  have had := add_any (a % P25519) ((P25519 - r) % P25519) (by have := Nat.mod_lt a P_pos; have := Nat.mod_lt (P25519 - r) P_pos; have := P_lt; unfold P25519 W at *; omega)
  rw [← hr]
  obtain ⟨res, hres⟩ : ∃ res : Nat, res = (a % P25519 + (P25519 - r) % P25519) % P25519 := ⟨_, rfl⟩
  rw [← hres]
  rw [← hres] at had
  have hres' := Lib.hid hres
  clear hres
  unfold num at *
  have hp' := Lib.hid hp
  have hsa' := Lib.hid hsa
  have hsb' := Lib.hid hsb
  have hsr' := Lib.hid hsr
  have hm' := Lib.hid hm
  have had' := Lib.hid had
  have hr' := Lib.hid hr
  clear hp hs hsa hsb hsr hm had hr
  go_enter Try.func18, Try.ntmps18
  go_wp2
  obtain ⟨wr, hwr⟩ : ∃ wr : World, wr = ((w.alloc (.cells #[.int .u64 (wd a 0 : Nat), .int .u64 (wd a 1 : Nat), .int .u64 (wd a 2 : Nat), .int .u64 (wd a 3 : Nat)] 24)).alloc (.cells #[.int .u64 (wd b 0 : Nat), .int .u64 (wd b 1 : Nat), .int .u64 (wd b 2 : Nat), .int .u64 (wd b 3 : Nat)] 24)).alloc (.cells #[.int .u64 0, .int .u64 0, .int .u64 0, .int .u64 0] 24) := ⟨_, rfl⟩
  rw [← hwr]
  have h0 : Blk wr w.heap.size 24 (words a) := by rw [hwr]; exact ((Blk.new _ _ _ rfl).alloc _).alloc _
  have h1 : Blk wr (w.heap.size + 1) 24 (words b) := by rw [hwr]; exact (Blk.new _ _ _ (by simp)).alloc _
  have h2 : Blk wr (w.heap.size + 2) 24 (words 0) := by rw [hwr, words_zero]; exact Blk.new _ _ _ (by simp)
  have hB : Below w.heap.size w wr := by rw [hwr]; exact (((Below.refl _ _).alloc (Nat.le_refl _) _).alloc (by simp) _).alloc (by first | omega | (simp; done) | (simp; omega)) _
  clear hwr
  have hz := h2.lt
  have h0' := Lib.hid h0
  have h1' := Lib.hid h1
  have h2' := Lib.hid h2
  have hB' := Lib.hid hB
  clear h0 h1 h2 hB
  refine' Oh.wp_region_oh_lit 10 [] [.is, .is, .is, .is, .is, .is, .is, .fresh, .init 7, .is] [.is _, .is _, .is _, .is _, .is _, .is _, .is _, .fresh (fun g => .pointer (some ⟨g, 0, none⟩)) 24 #[.int .u64 0, .int .u64 0, .int .u64 0, .int .u64 0] (words (P25519 - r)), .init 7, .is _] (wr.heap.size)
    (fun c w' => Ext (fun _ => False) wr w') (fun _ => False) (by kernel_rfl) (by kernel_rfl) (by kernel_rfl) (by rfl) (fun _ h => h.elim) ?hfa (Nat.le_refl _) ?h0a ?hwa
  case hfa => exact fun b w1 w2 h1 h2 => ⟨h2.os.trans h1.os, h2.tape.trans h1.tape, h2.output.trans h1.output, Nat.le_trans h1.size h2.size, fun k hk hx => (h2.block k (Nat.lt_of_lt_of_le hk h1.size) (by omega)).trans (h1.block k hk hx)⟩
  case h0a => exact (Ext.refl _ _).drew
  case hwa =>
    iterate 7 (
      apply Oh.walk_is
      · rfl
      · rfl
      · intro c hc wx hS hE K hK
        obtain ⟨p0, p1, p2, p3⟩ := (h1'.out.ext hS (by simp)).words4
        clear hE hc
        all_goals (
          go_wp2_with (first | (go_at_call 21; refine (hp'.out _).mono ?_; rintro e w3 ⟨rfl, hb3⟩) | (go_at_call 40; refine (hsb'.out _).mono ?_; rintro e w3 ⟨rfl, hb3⟩) | (go_at_call 42; refine (hm'.out _).mono ?_; rintro e w3 ⟨rfl, hb3⟩))
          apply Oh.Told.mk
          · first | (simp only [Act.put, List.setIfInBounds_toArray, List.set_cons_succ, List.set_cons_zero]; done) | (simp only [Act.put, List.setIfInBounds_toArray, List.set_cons_succ, List.set_cons_zero]; rfl)
          · first
            | exact hS
            | exact hS.trans (Ext.of_below hb3)
            | exact hS.alloc _
            | exact Blk.set4v (m := 0) (by rw [words_zero]; exact hgC) _ _ _ _
          · first
            | exact Ext.refl _ _
            | exact Ext.of_below hb3
            | exact Ext.set4 _ _ _ _ _ _)
      simp only [Act.put, List.setIfInBounds_toArray, List.set_cons_succ, List.set_cons_zero])
    (
      apply Oh.walk_fresh
      · rfl
      · rfl
      · intro c hc wx hS hE K hK
        obtain ⟨p0, p1, p2, p3⟩ := (h1'.out.ext hS (by simp)).words4
        clear hE hc
        all_goals (
          go_wp2_with (first | (go_at_call 21; refine (hp'.out _).mono ?_; rintro e w3 ⟨rfl, hb3⟩) | (go_at_call 40; refine (hsb'.out _).mono ?_; rintro e w3 ⟨rfl, hb3⟩) | (go_at_call 42; refine (hm'.out _).mono ?_; rintro e w3 ⟨rfl, hb3⟩))
          apply Oh.Laid.mk
          · exact ⟨_, by first | (simp only [Act.put, List.setIfInBounds_toArray, List.set_cons_succ, List.set_cons_zero]; done) | (simp only [Act.put, List.setIfInBounds_toArray, List.set_cons_succ, List.set_cons_zero]; rfl), Nat.le_refl _, MapKept.heap_alloc _ _ |>.1⟩
          · first
            | exact hS
            | exact hS.trans (Ext.of_below hb3)
            | exact hS.alloc _
            | exact Blk.set4v (m := 0) (by rw [words_zero]; exact hgC) _ _ _ _
          · exact (Ext.refl _ _).alloc _)
      intro ga7
      simp only [Act.put, List.setIfInBounds_toArray, List.set_cons_succ, List.set_cons_zero])
    (
      apply Oh.walk_init (g := ga7)
      · rfl
      · rfl
      · simp
      · rfl
      · intro c hc wx hS hE hgB hgC K hK
        obtain ⟨p0, p1, p2, p3⟩ := (h1'.out.ext hS (by simp)).words4
        have fg := (show Blk wx ga7 24 _ from hgC).frozen
        have cg := (show Blk wx ga7 24 _ from hgC).cell
        clear hE hc
        all_goals (
          go_wp2_with (first | (go_at_call 21; refine (hp'.out _).mono ?_; rintro e w3 ⟨rfl, hb3⟩) | (go_at_call 40; refine (hsb'.out _).mono ?_; rintro e w3 ⟨rfl, hb3⟩) | (go_at_call 42; refine (hm'.out _).mono ?_; rintro e w3 ⟨rfl, hb3⟩))
          apply Oh.Filled.mk
          · first | (simp only [Act.put, List.setIfInBounds_toArray, List.set_cons_succ, List.set_cons_zero]; done) | (simp only [Act.put, List.setIfInBounds_toArray, List.set_cons_succ, List.set_cons_zero]; rfl)
          · first
            | exact Ext.of_below hb3
            | exact Ext.set4 _ _ _ _ _ _
          · first
            | exact hS
            | exact hS.trans (Ext.of_below hb3)
            | exact hS.alloc _
            | exact Blk.set4v (m := 0) (by rw [words_zero]; exact hgC) _ _ _ _)
      simp only [Act.put, List.setIfInBounds_toArray, List.set_cons_succ, List.set_cons_zero])
    (
      apply Oh.walk_is
      · rfl
      · rfl
      · intro c hc wx hS hE K hK
        obtain ⟨p0, p1, p2, p3⟩ := (h1'.out.ext hS (by simp)).words4
        clear hE hc
        all_goals (
          go_wp2_with (first | (go_at_call 21; refine (hp'.out _).mono ?_; rintro e w3 ⟨rfl, hb3⟩) | (go_at_call 40; refine (hsb'.out _).mono ?_; rintro e w3 ⟨rfl, hb3⟩) | (go_at_call 42; refine (hm'.out _).mono ?_; rintro e w3 ⟨rfl, hb3⟩))
          apply Oh.Told.mk
          · first | (simp only [Act.put, List.setIfInBounds_toArray, List.set_cons_succ, List.set_cons_zero]; done) | (simp only [Act.put, List.setIfInBounds_toArray, List.set_cons_succ, List.set_cons_zero]; rfl)
          · first
            | exact hS
            | exact hS.trans (Ext.of_below hb3)
            | exact hS.alloc _
            | exact Blk.set4v (m := 0) (by rw [words_zero]; exact hgC) _ _ _ _
          · first
            | exact Ext.refl _ _
            | exact Ext.of_below hb3
            | exact Ext.set4 _ _ _ _ _ _)
      simp only [Act.put, List.setIfInBounds_toArray, List.set_cons_succ, List.set_cons_zero])
    refine Oh.walk_end ?_
    intro w2a hS hroom hfull hdist
    have h5 : Blk w2a ga7 24 (words (P25519 - r)) := (hfull (7, ga7) (by simp)).2
    have hg5 : wr.heap.size ≤ ga7 := (hfull (7, ga7) (by simp)).1
    have h0 := h0'.out.ext hS (by simp)
    have h2 := h2'.out.ext hS (by simp)
    have hB := hB'.out.trans (hS.below hB'.out.size (by simp))
    clear hfull hdist hS hroom
    have hz2 := h5.lt
    have h0' := Lib.hid h0
    have h5' := Lib.hid h5
    have h2' := Lib.hid h2
    have hB' := Lib.hid hB
    clear h0 h2 h5 hB
    go_wp2
    refine' wp_region_og_lit 5 [some false, some false, some false, some false, some false, some false] [.is _, .is _, .is _, .is _, .is _, .is undef]
      (fun c w' => Ext (· = w.heap.size + 2) w2a w' ∧ Blk w' (w.heap.size + 2) 24 (words (if c then res else 0))) (Ext (· = w.heap.size + 2)) (by kernel_rfl) (by kernel_rfl) ?h0b ?hwb
    case h0b => exact ⟨(Ext.refl _ _).drew, h2'.out⟩
    case hwb =>
      iterate 6 (
        apply walk_is
        · rfl
        · rfl
        · intro c hc wx hS hE K hK
          obtain ⟨hx, hB⟩ := hS
          obtain ⟨p0, p1, p2, p3⟩ := (h0'.out.ext hx (by omega)).words4
          obtain ⟨q0, q1, q2, q3⟩ := (h5'.out.ext hx (by omega)).words4
          obtain ⟨r0, r1, r2, r3⟩ := hB.words4
          have f0 := hB.frozen
          (first | (obtain rfl := hc _ rfl) | cases c)
          all_goals (
            clear hE hc
            simp only [if_true, Bool.false_eq_true, if_false] at hB r0 r1 r2 r3
            go_wp2_with (first | (go_at_call 40; (first | (with_reducible refine (hsa'.out _).mono ?_) | (with_reducible refine (hsr'.out _).mono ?_)); rintro e w3 ⟨rfl, hb3⟩) | (go_at_call 39; refine (had'.out _).mono ?_; rintro e w3 ⟨rfl, hb3⟩))
            apply Told.mk
            · first
              | (simp only [Act.put, List.setIfInBounds_toArray, List.set_cons_succ, List.set_cons_zero]; done)
              | (simp only [Act.put, List.setIfInBounds_toArray, List.set_cons_succ, List.set_cons_zero]; rfl)
            · first
              | exact ⟨hx, hB⟩
              | exact ⟨hx.trans (Ext.of_below hb3), hB.below hb3 hB.lt⟩
              | exact ⟨hx.trans (Ext.set4 _ _ _ _ _ _), Blk.set4 hB⟩
            · first
              | exact Ext.refl _ _
              | exact Ext.of_below hb3
              | exact Ext.set4 _ _ _ _ _ _)
        simp only [Act.put, List.setIfInBounds_toArray, List.set_cons_succ, List.set_cons_zero])
      refine walk_end ?_
      rintro w2b hS -
      obtain ⟨hx, hB⟩ := hS
      simp only [List.length_cons, List.length_nil, Nat.reduceAdd, Nat.reduceLT, decide_true, if_true] at hB
      obtain ⟨q0, q1, q2, q3⟩ := hB.words4
      go_wp2
      refine bodyPost_ret (v := num res) (by simp [results, Try.results18, go_sem, q0, q1, q2, q3, num]) rfl (And.intro rfl ?_)
      exact hB'.out.trans (hx.below hB'.out.size (by intro j hj; omega))
theorem prods_lt (ns : List Nat) : ns.foldl (fun s x => s * x % P25519) 1 < P25519 := by
  rcases List.eq_nil_or_concat ns with rfl | ⟨l, x, rfl⟩
  · decide
  · rw [List.concat_eq_append, List.foldl_append]; exact Nat.mod_lt _ P_pos
set_option maxRecDepth 100000 in
set_option maxHeartbeats 1000000 in
theorem muls_any (ns : List Nat) (g c : Nat) (hns : ∀ x ∈ ns, x < W ^ 4) (hl : ns.length ≤ 16) (w : World) (hA : NumsAt w g ns) : Calls Try.prog 17 #[.slice (some ⟨g, 0, none⟩) ns.length c] w fun e w' => e = .returned (num (ns.foldl (fun s x => s * x % P25519) 1)) ∧ Below w.heap.size w w' := by
  have had := fun (x y : Nat) (hx : x < W ^ 4) (hy : y < W ^ 4) => mul_any x y hx hy
  unfold num at *
  have had' := Lib.hid had
  clear had
  go_enter Try.func17, Try.ntmps17
  go_wp2
  go_loopw [9] (fun i wr => ∃ k : Nat, k ≤ ns.length ∧ i = .int .i64 k ∧ Below w.heap.size w wr ∧ Blk wr w.heap.size 24 (words 0) ∧ Blk wr (w.heap.size + 1) 24 (words ((ns.take k).foldl (fun s x => s * x % P25519) 1))) (fun i _ => ns.length - (intOf i).toNat)
  case atStart =>
    refine ⟨0, Nat.zero_le _, rfl, ((Below.refl _ _).alloc (Nat.le_refl _) _).alloc (by simp) _, ?_, ?_⟩
    · rw [words_zero]; exact (Blk.new _ _ _ rfl).alloc _
    · rw [List.take_zero, List.foldl_nil, words_one]; exact Blk.new _ _ _ (by simp)
  case round =>
    obtain ⟨k, hk, rfl, hb, h0, h1⟩ := hrel
    by_cases hlt : k < ns.length
    · obtain ⟨x, hx⟩ : ∃ x, ns[k]? = some x := ⟨ns[k], List.getElem?_eq_getElem hlt⟩
      have hxl : x < W ^ 4 := hns x (List.mem_of_getElem? hx)
      obtain ⟨s, hs⟩ : ∃ s : Nat, s = (ns.take k).foldl (fun s x => s * x % P25519) 1 := ⟨_, rfl⟩
      have hsl : s < P25519 := by rw [hs]; exact prods_lt _
      have hnext : (ns.take (k + 1)).foldl (fun s x => s * x % P25519) 1 = s * x % P25519 := by
        rw [take_succ_fold ns _ 1 k x hx, ← hs]
      rw [← hs] at h1
      obtain ⟨r, hr⟩ : ∃ r : Nat, r = s * x % P25519 := ⟨_, rfl⟩
      rw [← hr] at hnext
      have hcall := had'.out s x (Nat.lt_trans hsl P_lt) hxl
      rw [← hr] at hcall
      have hcall' := Lib.hid hcall
      have hnext' := Lib.hid hnext
      have hc := (hA.below hb hA.1).2 k x hx
      have x0 := hc 0 (by decide)
      have x1 := hc 1 (by decide)
      have x2 := hc 2 (by decide)
      have x3 := hc 3 (by decide)
      rw [Nat.add_zero] at x0
      obtain ⟨p0, p1, p2, p3⟩ := h1.words4
      have f1 := h1.frozen
      have hz := h1.lt
      have h0' := Lib.hid h0
      have h1' := Lib.hid h1
      have hb' := Lib.hid hb
      have hA' := Lib.hid hA
      have hns' := Lib.hid hns
      have hr' := Lib.hid hr
      clear hnext hs hc h0 h1 hb hA hns hx hr hcall
      have hne : w.heap.size + 1 ≠ wr.heap.size := by omega
      go_wp2_with fail
      refine (hcall'.out _).mono ?_
      rintro e w3 ⟨rfl, hb3⟩
      have h0a := (h0'.out.alloc (.cells (words x) 24)).below hb3 (h0'.out.alloc _).lt
      have h1a := (h1'.out.alloc (.cells (words x) 24)).below hb3 (h1'.out.alloc _).lt
      obtain ⟨pa0, pa1, pa2, pa3⟩ := h1a.words4
      have fa := h1a.frozen
      have hBa := (hb'.out.alloc hb'.out.size (.cells (words x) 24)).trans (hb3.mono (by have := hb'.out.size; simp; omega))
      have h0a' := Lib.hid h0a
      have h1a' := Lib.hid h1a
      have hBa' := Lib.hid hBa
      clear h0a h1a hBa
      go_wp2
      go_roundw
      case rel =>
        refine ⟨k + 1, by omega, by go_num, Below.set4 hBa'.out (by omega) _ _ _ _, h0a'.out.far4 (by omega) _ _ _ _, ?_⟩
        rw [hnext'.out]; exact Blk.set4 h1a'.out
      case measure => simp [intOf]; omega
    · obtain rfl : k = ns.length := by omega
      rw [List.take_length] at h1
      obtain ⟨p0, p1, p2, p3⟩ := h1.words4
      obtain ⟨q0, q1, q2, q3⟩ := h0.words4
      have f2 := h0.frozen
      have hz := h1.lt
      have hb' := Lib.hid hb
      clear hb h0 h1 hA
      go_wp2
      refine bodyPost_ret (v := num (ns.foldl (fun s x => s * x % P25519) 1)) (by simp [results, Try.results17, go_sem, q0, q1, q2, q3, num]) rfl (And.intro rfl ?_)
      exact Below.set4 hb'.out (by omega) _ _ _ _
theorem adds_none (w : World) : Calls Try.prog 16 #[.slice none 0 0] w fun e w' => e = .returned (num 0) ∧ Below w.heap.size w w' := by
  go_enter Try.func16, Try.ntmps16
  go_wp2
  refine wp_loop_rounds 1 ?_
  rw [rounds_succ]
  go_wp2
  refine bodyPost_ret (v := num 0) (by simp [results, Try.results16, go_sem, num, wd]) rfl (And.intro rfl ?_)
  exact ((Below.refl _ _).alloc (Nat.le_refl _) _).alloc (by simp) _
theorem muls_none (w : World) : Calls Try.prog 17 #[.slice none 0 0] w fun e w' => e = .returned (num 1) ∧ Below w.heap.size w w' := by
  go_enter Try.func17, Try.ntmps17
  go_wp2
  refine wp_loop_rounds 1 ?_
  rw [rounds_succ]
  go_wp2
  refine bodyPost_ret (v := .agg #[.int .u64 1, .int .u64 0, .int .u64 0, .int .u64 0]) (by simp [results, Try.results17, go_sem]) rfl (And.intro rfl ?_)
  exact ((Below.refl _ _).alloc (Nat.le_refl _) _).alloc (by simp) _
end Go.Proofs.Ytdfmamemnenkcaa
