import Derived.Test.YtdfmamemnenkcaaRb
import Derived.Deep.QuietTactic
import Derived.BigQuiet
import Derived.Deep.LoopGhost
import Derived.Lib.Hide
import Derived.Outline
set_option linter.unusedVariables false
set_option linter.unusedSimpArgs false
namespace Go.Proofs.Ytdfmamemnenkcaa
open Go.RowKit Go.Og Go.Nm

theorem Ext.set4 (g : Nat) (w : World) (a b c d : Value) : Ext (· = g) w ((((w.setCell ⟨g, 0, none⟩ a).setCell ⟨g, 1, none⟩ b).setCell ⟨g, 2, none⟩ c).setCell ⟨g, 3, none⟩ d) :=
  Ext.setCell (X := (· = g)) (Ext.setCell (X := (· = g)) (Ext.setCell (X := (· = g)) (Ext.set1 g 0 w a) (.inl rfl) b) (.inl rfl) c) (.inl rfl) d
theorem Blk.set4 {g m n : Nat} {w : World} (h : Blk w g 24 (words m)) : Blk ((((w.setCell ⟨g, 0, none⟩ (.int .u64 (wd n 0 : Nat))).setCell ⟨g, 1, none⟩ (.int .u64 (wd n 1 : Nat))).setCell ⟨g, 2, none⟩ (.int .u64 (wd n 2 : Nat))).setCell ⟨g, 3, none⟩ (.int .u64 (wd n 3 : Nat))) g 24 (words n) :=
  (((h.set 0 _).set 1 _).set 2 _).set 3 _
theorem Below.set4 {B g : Nat} {w0 w : World} (h : Below B w0 w) (hg : B ≤ g) (a b c d : Value) : Below B w0 ((((w.setCell ⟨g, 0, none⟩ a).setCell ⟨g, 1, none⟩ b).setCell ⟨g, 2, none⟩ c).setCell ⟨g, 3, none⟩ d) :=
  (((h.setCell hg _).setCell hg _).setCell hg _).setCell hg _
theorem words_sub (m p : Nat) (h : p ≤ m) : words (m + W ^ 4 - p) = words (m - p) := by
  rw [show m + W ^ 4 - p = (m - p) + W ^ 4 * 1 by omega]
  unfold words
  rw [wd_add_mul _ _ _ _ (show 0 < 4 by decide), wd_add_mul _ _ _ _ (show 1 < 4 by decide), wd_add_mul _ _ _ _ (show 2 < 4 by decide), wd_add_mul _ _ _ _ (show 3 < 4 by decide)]

set_option maxRecDepth 100000 in
set_option maxHeartbeats 2000000 in
theorem small_any (n : Nat) (hn : n < W ^ 4) (w : World) : Calls Try.prog 40 #[num n] w fun e w' => e = .returned (num (n % P25519)) ∧ Below w.heap.size w w' := by
  have hprime0 := prime_any
  unfold num at hprime0
  have hprime := Lib.hid hprime0
  clear hprime0
  have hless := fun (m : Nat) (hm : m < W ^ 4) => less_any m P25519 hm (by decide)
  unfold num at hless
  have hless' := Lib.hid hless
  clear hless
  have hminus := fun (m : Nat) (hm : P25519 ≤ m) => minus_any m P25519 (by unfold P25519 W; omega)
  unfold num at hminus
  have hminus' := Lib.hid hminus
  clear hminus
  unfold num
  go_enter Try.func40, Try.ntmps40
  go_wp2
  go_loopg [3] n (fun g _ wr => ∃ m : Nat, m ≤ g ∧ m % P25519 = n % P25519 ∧ m < W ^ 4 ∧ Below w.heap.size w wr ∧ Blk wr w.heap.size 24 (words m) ∧ Blk wr (w.heap.size + 1) 24 (words 0))
  case atStart =>
    refine ⟨n, Nat.le_refl _, rfl, hn, ((Below.refl _ _).alloc (Nat.le_refl _) _).alloc (by simp) _, (Blk.new _ _ _ rfl).alloc _, ?_⟩
    rw [words_zero]; exact Blk.new _ _ _ (by simp)
  case round =>
    obtain ⟨m, hg, hmod, hm, hb, h0, h1⟩ := hrel
    have hz := h1.lt
    by_cases hd : m < P25519
    · have hd' : decide (m < P25519) = true := decide_eq_true hd
      go_wp2
      refine' wp_region_og_lit 4 [] [.is _, .is _, .is _, .is _]
        (fun c w' => Ext (fun _ => False) wr w') (Ext (fun _ => False)) (by kernel_rfl) (by kernel_rfl) ?h0a ?hwa
      case h0a => exact (Ext.refl _ _).drew
      case hwa =>
        iterate 4 (
          apply walk_is
          · rfl
          · rfl
          · intro c hc wx hS hE K hK
            obtain ⟨p0, p1, p2, p3⟩ := (h0.ext hS (by simp)).words4
            clear hE hc
            all_goals (
              go_wp2_with (first | (go_at_call 21; refine (hprime.out _).mono ?_; rintro e w3 ⟨rfl, hb3⟩) | (go_at_call 27; refine (hless'.out m hm _).mono ?_; rintro e w3 ⟨rfl, hb3⟩))
              apply Told.mk
              · first
                | (simp only [Act.put, List.setIfInBounds_toArray, List.set_cons_succ, List.set_cons_zero]; done)
                | (simp only [Act.put, List.setIfInBounds_toArray, List.set_cons_succ, List.set_cons_zero]; rfl)
              · first
                | exact hS
                | exact hS.trans (Ext.of_below hb3)
              · first
                | exact Ext.refl _ _
                | exact Ext.of_below hb3)
          simp only [Act.put, List.setIfInBounds_toArray, List.set_cons_succ, List.set_cons_zero])
        refine walk_end ?_
        rintro w2a hS -
        have h0 := h0.ext hS (by simp)
        have h1 := h1.ext hS (by simp)
        have hb := hb.trans (hS.below hb.size (by simp))
        have hz := h1.lt
        clear hS
        obtain ⟨p0, p1, p2, p3⟩ := h0.words4
        obtain ⟨q0, q1, q2, q3⟩ := h1.words4
        have f1 := h1.frozen
        have hb' := Lib.hid hb
        clear hb h0 h1
        go_wp2
        have hnm : n % P25519 = m := by rw [← hmod, Nat.mod_eq_of_lt hd]
        refine bodyPost_ret (v := num m) (by simp [results, Try.results40, go_sem, q0, q1, q2, q3, num]) rfl (And.intro (by rw [hnm]; rfl) ?_)
        exact Below.set4 hb'.out (by omega) _ _ _ _
    · have hd' : decide (m < P25519) = false := decide_eq_false hd
      go_wp2
      refine' wp_region_og_lit 4 [] [.is _, .is _, .is _, .is _]
        (fun c w' => Ext (fun _ => False) wr w') (Ext (fun _ => False)) (by kernel_rfl) (by kernel_rfl) ?h0b ?hwb
      case h0b => exact (Ext.refl _ _).drew
      case hwb =>
        iterate 4 (
          apply walk_is
          · rfl
          · rfl
          · intro c hc wx hS hE K hK
            obtain ⟨p0, p1, p2, p3⟩ := (h0.ext hS (by simp)).words4
            clear hE hc
            all_goals (
              go_wp2_with (first | (go_at_call 21; refine (hprime.out _).mono ?_; rintro e w3 ⟨rfl, hb3⟩) | (go_at_call 27; refine (hless'.out m hm _).mono ?_; rintro e w3 ⟨rfl, hb3⟩))
              apply Told.mk
              · first
                | (simp only [Act.put, List.setIfInBounds_toArray, List.set_cons_succ, List.set_cons_zero]; done)
                | (simp only [Act.put, List.setIfInBounds_toArray, List.set_cons_succ, List.set_cons_zero]; rfl)
              · first
                | exact hS
                | exact hS.trans (Ext.of_below hb3)
              · first
                | exact Ext.refl _ _
                | exact Ext.of_below hb3)
          simp only [Act.put, List.setIfInBounds_toArray, List.set_cons_succ, List.set_cons_zero])
        refine walk_end ?_
        rintro w2b hS -
        have h0 := h0.ext hS (by simp)
        have h1 := h1.ext hS (by simp)
        have hb := hb.trans (hS.below hb.size (by simp))
        have hz := h1.lt
        clear hS
        go_wp2
        refine' wp_region_og_lit 6 [some false, some false, some false, none, none, none, some false] [.is _, .is _, .is _, .is _, .is _, .is _, .is undef]
          (fun c w' => Ext (· = w.heap.size) w2b w' ∧ Blk w' w.heap.size 24 (words (if c then m + W ^ 4 - P25519 else m))) (Ext (· = w.heap.size)) (by kernel_rfl) (by kernel_rfl) ?h0c ?hwc
        case h0c => exact ⟨(Ext.refl _ _).drew, by assumption⟩
        case hwc =>
          iterate 7 (
            apply walk_is
            · rfl
            · rfl
            · intro c hc wx hS hE K hK
              obtain ⟨hx, hB⟩ := hS
              obtain ⟨p0, p1, p2, p3⟩ := hB.words4
              have f0 := hB.frozen
              (first | (obtain rfl := hc _ rfl) | cases c)
              all_goals (
                clear hE hc
                simp only [if_true, Bool.false_eq_true, if_false] at hB p0 p1 p2 p3
                go_wp2_with (first | (go_at_call 21; refine (hprime.out _).mono ?_; rintro e w3 ⟨rfl, hb3⟩) | (go_at_call 42; refine (hminus'.out m (by omega) _).mono ?_; rintro e w3 ⟨rfl, hb3⟩))
                apply Told.mk
                · first
                  | (simp only [Act.put, List.setIfInBounds_toArray, List.set_cons_succ, List.set_cons_zero]; done)
                  | (simp only [Act.put, List.setIfInBounds_toArray, List.set_cons_succ, List.set_cons_zero]; rfl)
                · first
                  | exact ⟨hx, hB⟩
                  | exact ⟨hx.trans (Ext.of_below hb3), hB.below hb3 hB.lt⟩
                  | exact ⟨hx.trans (Ext.set4 _ _ _ _ _ _), Blk.set4 hB⟩
                · first
                  | exact Ext.refl _ _
                  | exact Ext.of_below hb3
                  | exact Ext.set4 _ _ _ _ _ _)
            simp only [Act.put, List.setIfInBounds_toArray, List.set_cons_succ, List.set_cons_zero])
          refine walk_end ?_
          rintro w2c hS -
          obtain ⟨hx, hB⟩ := hS
          go_wp2
          simp only [List.length_cons, List.length_nil, Nat.reduceAdd, Nat.reduceLT, decide_true, if_true] at hB
          rw [words_sub m P25519 (by omega)] at hB
          go_roundg (m - P25519)
          case measure => have : 0 < P25519 := by decide
                          omega
          case rel =>
            exact ⟨m - P25519, Nat.le_refl _, by rw [← hmod, ← Nat.mod_eq_sub_mod (by omega)], by omega, hb.trans (hx.below hb.size (by intro j hj; omega)), hB, h1.ext hx (by omega)⟩
end Go.Proofs.Ytdfmamemnenkcaa
