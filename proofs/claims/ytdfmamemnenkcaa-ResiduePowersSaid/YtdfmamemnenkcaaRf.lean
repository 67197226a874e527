import Derived.Test.YtdfmamemnenkcaaRe
import Derived.RegionTactic
import Derived.ChangeAlike
import Derived.BigRegion
import Derived.Deep.DeepFit
set_option linter.unusedVariables false
set_option linter.unusedSimpArgs false
namespace Go.Proofs.Ytdfmamemnenkcaa
open Go.RowKit Go.Og Go.Nm
theorem Blk.far4 {w : World} {g g' : Nat} {t : TypeId} {cs : Array Value} (h : Blk w g t cs) (hne : g ≠ g') (a b c d : Value) : Blk ((((w.setCell ⟨g', 0, none⟩ a).setCell ⟨g', 1, none⟩ b).setCell ⟨g', 2, none⟩ c).setCell ⟨g', 3, none⟩ d) g t cs :=
  (((h.far hne _).far hne _).far hne _).far hne _
theorem Blk.set4v {g m : Nat} {w : World} (h : Blk w g 24 (words m)) (a b c d : Value) : Blk ((((w.setCell ⟨g, 0, none⟩ a).setCell ⟨g, 1, none⟩ b).setCell ⟨g, 2, none⟩ c).setCell ⟨g, 3, none⟩ d) g 24 #[a, b, c, d] :=
  (((h.set 0 _).set 1 _).set 2 _).set 3 _
theorem arrayAt24 (b o c : Nat) (w : World) : (Instr.arrayAt 24 (.slice (some ⟨b, o, none⟩) 4 c)).run Try.prog w = .ok (.pointer (some ⟨b, o, none⟩)) w := by kernel_rfl
theorem words_of_small (v : Nat) (hv : v < W) : words v = #[.int .u64 (v : Nat), .int .u64 0, .int .u64 0, .int .u64 0] := by
  have e : ∀ j, 0 < j → wd v j = 0 := fun j hj => wd_big v j 1 (by rw [Nat.pow_one]; exact hv) hj
  have e0 : wd v 0 = v := by unfold wd; rw [Nat.pow_zero, Nat.div_one, Nat.mod_eq_of_lt hv]
  unfold words
  rw [e 1 (by decide), e 2 (by decide), e 3 (by decide), e0]
  rfl
theorem words_mod (n : Nat) : words (n % W ^ 4) = words n := by
  unfold words
  rw [wd_mod4 n _ (show 0 < 4 by decide), wd_mod4 n _ (show 1 < 4 by decide), wd_mod4 n _ (show 2 < 4 by decide), wd_mod4 n _ (show 3 < 4 by decide)]
theorem fold_high (l h : Nat) (hl : l < W ^ 4) (hh : h < W ^ 4) : mc h 38 4 + cy l (h * 38) 4 = (l + h * 38) / W ^ 4 := by
  unfold mc cy
  rw [Nat.mod_eq_of_lt hh, Nat.mod_eq_of_lt hl]
  conv => rhs; rw [← Nat.div_add_mod (h * 38) (W ^ 4), Nat.add_left_comm, Nat.mul_add_div (Wk_pos 4)]
theorem fold_mod (l h : Nat) : (l + W ^ 4 * h) % P25519 = (l + h * 38) % P25519 := by
  have e : l + W ^ 4 * h = l + h * 38 + P25519 * (2 * h) := by unfold W P25519; omega
  rw [e, Nat.add_mul_mod_self_left]
theorem fold_high_lt (l h : Nat) (hl : l < W ^ 4) (hh : h < W ^ 4) : (l + h * 38) / W ^ 4 < W := by
  refine Nat.div_lt_of_lt_mul ?_
  unfold W at *
  omega
theorem fold_less (l h : Nat) (h0 : h ≠ 0) : l + h * 38 < l + W ^ 4 * h := by unfold W; omega
theorem eight_split (x : Nat) (j : Nat) : wd x (4 + j) = wd (x / W ^ 4) j := by
  unfold wd
  rw [Nat.pow_add, Nat.div_div_eq_div_mul]
set_option maxRecDepth 100000 in
set_option maxHeartbeats 4000000 in
theorem folded_any (x : Nat) (hx : x < W ^ 8) (w : World) : Calls Try.prog 54 #[num8 x] w fun e w' => e = .returned (num (x % P25519)) ∧ Below w.heap.size w w' := by
  unfold num8 words8
  have hzero := fun (m : Nat) (hm : m < W ^ 4) => zero_any m hm
  have hsmall := fun (m : Nat) (hm : m < W ^ 4) => small_any m hm
  have htimes := fun (m : Nat) => times_any m 38 (by decide)
  have hplus := plus_any
  unfold num at *
  have hzero' := Lib.hid hzero
  have hsmall' := Lib.hid hsmall
  have htimes' := Lib.hid htimes
  have hplus' := Lib.hid hplus
  clear hzero hsmall htimes hplus
  have hat := arrayAt24
  have hxl : x % W ^ 4 + W ^ 4 * (x / W ^ 4) = x := Nat.mod_add_div x (W ^ 4)
  have hxh : x / W ^ 4 < W ^ 4 := Nat.div_lt_of_lt_mul (by rw [← Nat.pow_add]; exact hx)
  have hxl' := Lib.hid hxl
  clear hxl
  go_enter Try.func54, Try.ntmps54
  go_wp2
  go_region
  · go_wp2
    go_loopg [15] x (fun g _ wr => ∃ l h : Nat, l < W ^ 4 ∧ h < W ^ 4 ∧ (l + W ^ 4 * h) % P25519 = x % P25519 ∧ l + W ^ 4 * h ≤ g ∧ Below w.heap.size w wr ∧ Blk wr (w.heap.size + 1) 24 (words 0) ∧ Blk wr (w.heap.size + 2) 24 (words l) ∧ Blk wr (w.heap.size + 3) 24 (words h))
    case atStart =>
      refine ⟨x % W ^ 4, x / W ^ 4, Nat.mod_lt _ (Wk_pos 4), hxh, by rw [hxl'.out], Nat.le_of_eq hxl'.out, ?_, ?_, ?_, ?_⟩
      · exact (((((Below.refl _ _).alloc (Nat.le_refl _) _).alloc (by simp) _).alloc (by simp; omega) _).alloc (by simp; omega) _).drew
      · rw [words_zero]; exact (((Blk.new _ _ _ (by simp)).alloc _).alloc _)
      · rw [words_mod]; exact ((Blk.new _ _ _ (by simp)).alloc _)
      · rw [show words (x / W ^ 4) = #[.int .u64 (wd x 4 : Nat), .int .u64 (wd x 5 : Nat), .int .u64 (wd x 6 : Nat), .int .u64 (wd x 7 : Nat)] by simp only [words, ← eight_split]]; exact ((Blk.new _ _ _ (by simp)))
    case round =>
      obtain ⟨l, h, hl, hh, hmod, hg, hb, h1, h3, h4⟩ := hrel
      have hz3 := h3.lt
      have hz4 := h4.lt
      obtain ⟨p0, p1, p2, p3⟩ := h3.words4
      obtain ⟨q0, q1, q2, q3⟩ := h4.words4
      have h1' := Lib.hid h1
      have h3' := Lib.hid h3
      have h4' := Lib.hid h4
      have hb' := Lib.hid hb
      clear h1 h3 h4 hb
      by_cases hz : h = 0
      · have hd : decide (h = 0) = true := decide_eq_true hz
        have hz' := Lib.hid hz
        clear hz
        go_wp2_with (go_at_call 20; refine (hzero'.out h hh _).mono ?_; rintro e w1 ⟨rfl, hb1⟩; have h3a := h3'.out.below hb1 h3'.out.lt; have h1a := h1'.out.below hb1 h1'.out.lt; obtain ⟨pa0, pa1, pa2, pa3⟩ := h3a.words4)
        refine (hsmall'.out l hl _).mono ?_
        rintro e w2 ⟨rfl, hb2⟩
        have h1b := h1a.below hb2 h1a.lt
        obtain ⟨s0, s1, s2, s3⟩ := h1b.words4
        have f1 := h1b.frozen
        go_wp2
        have hval : l % P25519 = x % P25519 := by rw [← hmod, hz'.out, Nat.mul_zero, Nat.add_zero]
        refine bodyPost_ret (v := num (l % P25519)) (by simp [results, Try.results54, go_sem, s0, s1, s2, s3, num]) rfl (And.intro (by rw [hval]; rfl) ?_)
        exact Below.set4 ((hb'.out.trans (hb1.mono hb'.out.size)).trans (hb2.mono (Nat.le_trans hb'.out.size hb1.size))) (by omega) _ _ _ _
      · have hd : decide (h = 0) = false := decide_eq_false hz
        have hhigh := fold_high l h hl hh
        have hlt := fold_high_lt l h hl hh
        have hle : mc h 38 4 + cy l (h * 38) 4 ≤ 18446744073709551615 := by rw [hhigh]; exact Nat.le_of_lt_succ hlt
        have hlt' := Lib.hid hlt
        have hhigh' := Lib.hid hhigh
        clear hlt hhigh
        go_wp2_with (first | (go_at_call 20; refine (hzero'.out h hh _).mono ?_; rintro e w1 ⟨rfl, hb1⟩; have h3a := h3'.out.below hb1 h3'.out.lt; have h4a := h4'.out.below hb1 h4'.out.lt; have h1a := h1'.out.below hb1 h1'.out.lt; obtain ⟨pa0, pa1, pa2, pa3⟩ := h4a.words4) | (go_at_call 60; refine (htimes'.out h _).mono ?_; rintro e w2 ⟨rfl, hb2⟩; have h3b := h3a.below hb2 h3a.lt; have h4b := h4a.below hb2 h4a.lt; have h1b := h1a.below hb2 h1a.lt; have hlb := h1b.lt; have hlc := h3b.lt; obtain ⟨pb0, pb1, pb2, pb3⟩ := h3b.words4) | (go_at_call 52; refine (hplus'.out l (h * 38) _).mono ?_; rintro e w3 ⟨rfl, hb3⟩; have h3c := (h3b.alloc _).below hb3 (h3b.alloc _).lt; have h4c := (h4b.alloc _).below hb3 (h4b.alloc _).lt; have h1c := (h1b.alloc _).below hb3 (h1b.alloc _).lt; have hlb := h1c.lt; have hlc := h3c.lt; have hld := h4c.lt; obtain ⟨pc0, pc1, pc2, pc3⟩ := h3c.words4; obtain ⟨qc0, qc1, qc2, qc3⟩ := h4c.words4; have fc := h3c.frozen; have fd := h4c.frozen))
        have hval : ((mc h 38 4 : Nat) : Int) + ((cy l (h * 38) 4 : Nat) : Int) = (((l + h * 38) / W ^ 4 : Nat) : Int) := by rw [← Int.natCast_add, hhigh'.out]
        rw [hval]
        have hB3 : Below w.heap.size w w3 := ((((hb'.out.trans (hb1.mono hb'.out.size)).trans (hb2.mono (Nat.le_trans hb'.out.size hb1.size))).alloc (Nat.le_trans (Nat.le_trans hb'.out.size hb1.size) hb2.size) _).trans (hb3.mono (Nat.le_trans (Nat.le_trans (Nat.le_trans hb'.out.size hb1.size) hb2.size) (by simp))))
        go_roundg (l + h * 38)
        case measure => exact Nat.lt_of_lt_of_le (fold_less l h hz) hg
        case rel =>
          refine ⟨(l + h * 38) % W ^ 4, (l + h * 38) / W ^ 4, Nat.mod_lt _ (Wk_pos 4), Nat.lt_of_lt_of_le hlt'.out (Nat.le_self_pow (by decide) W), ?_, Nat.le_of_eq (Nat.mod_add_div _ _), ?_, ?_, ?_, ?_⟩
          · rw [Nat.mod_add_div, ← fold_mod]; exact hmod
          · exact (Below.set4 (Below.set4 hB3 (by omega) _ _ _ _) (by omega) _ _ _ _).alloc (by simp [World.setCell]; omega) _
          · exact ((h1c.far4 (by omega) _ _ _ _).far4 (by omega) _ _ _ _).alloc _
          · rw [words_mod]; exact ((Blk.set4 h3c).far4 (by omega) _ _ _ _).alloc _
          · rw [words_of_small _ hlt'.out]; exact (Blk.set4v (h4c.far4 (by omega) _ _ _ _) _ _ _ _).alloc _
  · go_wp2
    go_loopg [15] x (fun g _ wr => ∃ l h : Nat, l < W ^ 4 ∧ h < W ^ 4 ∧ (l + W ^ 4 * h) % P25519 = x % P25519 ∧ l + W ^ 4 * h ≤ g ∧ Below w.heap.size w wr ∧ Blk wr (w.heap.size + 1) 24 (words 0) ∧ Blk wr (w.heap.size + 3) 24 (words l) ∧ Blk wr (w.heap.size + 2) 24 (words h))
    case atStart =>
      refine ⟨x % W ^ 4, x / W ^ 4, Nat.mod_lt _ (Wk_pos 4), hxh, by rw [hxl'.out], Nat.le_of_eq hxl'.out, ?_, ?_, ?_, ?_⟩
      · exact (((((Below.refl _ _).alloc (Nat.le_refl _) _).alloc (by simp) _).alloc (by simp; omega) _).alloc (by simp; omega) _).drew
      · rw [words_zero]; exact (((Blk.new _ _ _ (by simp)).alloc _).alloc _)
      · rw [words_mod]; exact ((Blk.new _ _ _ (by simp)))
      · rw [show words (x / W ^ 4) = #[.int .u64 (wd x 4 : Nat), .int .u64 (wd x 5 : Nat), .int .u64 (wd x 6 : Nat), .int .u64 (wd x 7 : Nat)] by simp only [words, ← eight_split]]; exact ((Blk.new _ _ _ (by simp)).alloc _)
    case round =>
      obtain ⟨l, h, hl, hh, hmod, hg, hb, h1, h3, h4⟩ := hrel
      have hz3 := h3.lt
      have hz4 := h4.lt
      obtain ⟨p0, p1, p2, p3⟩ := h3.words4
      obtain ⟨q0, q1, q2, q3⟩ := h4.words4
      have h1' := Lib.hid h1
      have h3' := Lib.hid h3
      have h4' := Lib.hid h4
      have hb' := Lib.hid hb
      clear h1 h3 h4 hb
      by_cases hz : h = 0
      · have hd : decide (h = 0) = true := decide_eq_true hz
        have hz' := Lib.hid hz
        clear hz
        go_wp2_with (go_at_call 20; refine (hzero'.out h hh _).mono ?_; rintro e w1 ⟨rfl, hb1⟩; have h3a := h3'.out.below hb1 h3'.out.lt; have h1a := h1'.out.below hb1 h1'.out.lt; obtain ⟨pa0, pa1, pa2, pa3⟩ := h3a.words4)
        refine (hsmall'.out l hl _).mono ?_
        rintro e w2 ⟨rfl, hb2⟩
        have h1b := h1a.below hb2 h1a.lt
        obtain ⟨s0, s1, s2, s3⟩ := h1b.words4
        have f1 := h1b.frozen
        go_wp2
        have hval : l % P25519 = x % P25519 := by rw [← hmod, hz'.out, Nat.mul_zero, Nat.add_zero]
        refine bodyPost_ret (v := num (l % P25519)) (by simp [results, Try.results54, go_sem, s0, s1, s2, s3, num]) rfl (And.intro (by rw [hval]; rfl) ?_)
        exact Below.set4 ((hb'.out.trans (hb1.mono hb'.out.size)).trans (hb2.mono (Nat.le_trans hb'.out.size hb1.size))) (by omega) _ _ _ _
      · have hd : decide (h = 0) = false := decide_eq_false hz
        have hhigh := fold_high l h hl hh
        have hlt := fold_high_lt l h hl hh
        have hle : mc h 38 4 + cy l (h * 38) 4 ≤ 18446744073709551615 := by rw [hhigh]; exact Nat.le_of_lt_succ hlt
        have hlt' := Lib.hid hlt
        have hhigh' := Lib.hid hhigh
        clear hlt hhigh
        go_wp2_with (first | (go_at_call 20; refine (hzero'.out h hh _).mono ?_; rintro e w1 ⟨rfl, hb1⟩; have h3a := h3'.out.below hb1 h3'.out.lt; have h4a := h4'.out.below hb1 h4'.out.lt; have h1a := h1'.out.below hb1 h1'.out.lt; obtain ⟨pa0, pa1, pa2, pa3⟩ := h4a.words4) | (go_at_call 60; refine (htimes'.out h _).mono ?_; rintro e w2 ⟨rfl, hb2⟩; have h3b := h3a.below hb2 h3a.lt; have h4b := h4a.below hb2 h4a.lt; have h1b := h1a.below hb2 h1a.lt; have hlb := h1b.lt; have hlc := h3b.lt; obtain ⟨pb0, pb1, pb2, pb3⟩ := h3b.words4) | (go_at_call 52; refine (hplus'.out l (h * 38) _).mono ?_; rintro e w3 ⟨rfl, hb3⟩; have h3c := (h3b.alloc _).below hb3 (h3b.alloc _).lt; have h4c := (h4b.alloc _).below hb3 (h4b.alloc _).lt; have h1c := (h1b.alloc _).below hb3 (h1b.alloc _).lt; have hlb := h1c.lt; have hlc := h3c.lt; have hld := h4c.lt; obtain ⟨pc0, pc1, pc2, pc3⟩ := h3c.words4; obtain ⟨qc0, qc1, qc2, qc3⟩ := h4c.words4; have fc := h3c.frozen; have fd := h4c.frozen))
        have hval : ((mc h 38 4 : Nat) : Int) + ((cy l (h * 38) 4 : Nat) : Int) = (((l + h * 38) / W ^ 4 : Nat) : Int) := by rw [← Int.natCast_add, hhigh'.out]
        rw [hval]
        have hB3 : Below w.heap.size w w3 := ((((hb'.out.trans (hb1.mono hb'.out.size)).trans (hb2.mono (Nat.le_trans hb'.out.size hb1.size))).alloc (Nat.le_trans (Nat.le_trans hb'.out.size hb1.size) hb2.size) _).trans (hb3.mono (Nat.le_trans (Nat.le_trans (Nat.le_trans hb'.out.size hb1.size) hb2.size) (by simp))))
        go_roundg (l + h * 38)
        case measure => exact Nat.lt_of_lt_of_le (fold_less l h hz) hg
        case rel =>
          refine ⟨(l + h * 38) % W ^ 4, (l + h * 38) / W ^ 4, Nat.mod_lt _ (Wk_pos 4), Nat.lt_of_lt_of_le hlt'.out (Nat.le_self_pow (by decide) W), ?_, Nat.le_of_eq (Nat.mod_add_div _ _), ?_, ?_, ?_, ?_⟩
          · rw [Nat.mod_add_div, ← fold_mod]; exact hmod
          · exact (Below.set4 (Below.set4 hB3 (by omega) _ _ _ _) (by omega) _ _ _ _).alloc (by simp [World.setCell]; omega) _
          · exact ((h1c.far4 (by omega) _ _ _ _).far4 (by omega) _ _ _ _).alloc _
          · rw [words_mod]; exact ((Blk.set4 h3c).far4 (by omega) _ _ _ _).alloc _
          · rw [words_of_small _ hlt'.out]; exact (Blk.set4v (h4c.far4 (by omega) _ _ _ _) _ _ _ _).alloc _
end Go.Proofs.Ytdfmamemnenkcaa
