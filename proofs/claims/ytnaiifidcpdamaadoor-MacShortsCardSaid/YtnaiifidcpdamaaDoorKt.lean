/-
  The document's sum: what the reference's Sum computes.
-/
import Derived.Test.YtnaiifidcpdamaaDoorKs
set_option linter.unusedVariables false
set_option linter.unusedSimpArgs false
namespace Go.Proofs.YtnaiifidcpdamaaDoor
open Go.RowKit Go.Og Go.Ub Go.Proofs.YtnaiifidcpdamaaDoorW.PrintWords
attribute [local go_sem high] Ub.xor64 Ub.and64 Ub.or64 Ub.add64 Ub.not64 Ub.rem256 Ub.wrap64to8
def wnextR (ws : List UInt64) (t : Nat) : UInt64 :=
  (rotr (ws.getD (t - 2) 0) 19 ^^^ rotr (ws.getD (t - 2) 0) 61 ^^^ ws.getD (t - 2) 0 >>> 6) + ws.getD (t - 7) 0 + (rotr (ws.getD (t - 15) 0) 1 ^^^ rotr (ws.getD (t - 15) 0) 8 ^^^ ws.getD (t - 15) 0 >>> 7) + ws.getD (t - 16) 0
theorem wnextR_eq (ws : List UInt64) (t : Nat) : wnextR ws t = wnext ws t := by
  unfold wnextR wnext turn
  simp
def t1R (v : S8) (k x : UInt64) : UInt64 := v.h + (rotr v.e 14 ^^^ rotr v.e 18 ^^^ rotr v.e 41) + (v.e &&& v.f ^^^ ~~~v.e &&& v.g) + k + x
def t2R (v : S8) : UInt64 := (rotr v.a 28 ^^^ rotr v.a 34 ^^^ rotr v.a 39) + (v.a &&& v.b ^^^ v.a &&& v.c ^^^ v.b &&& v.c)
theorem t1R_eq (v : S8) (k x : UInt64) : t1R v k x = t1of v k x := by
  unfold t1R t1of turn
  simp
theorem t2R_eq (v : S8) : t2R v = t2of v := by
  unfold t2R t2of turn
  simp
theorem rndR_eq (v : S8) (k x : UInt64) : rnd v k x = ⟨t1R v k x + t2R v, v.a, v.b, v.c, v.d + t1R v k x, v.e, v.f, v.g⟩ := by
  unfold rnd
  rw [t1R_eq, t2R_eq]
theorem filled_length (b : List UInt8) : (filled b).length = 128 * ((filled b).length / 128) ∧ 128 ≤ (filled b).length := by
  have h1 : (filled b).length = b.length + (zc b.length + 17) := by unfold filled; rw [List.length_append, tailb_length]
  have h2 := zc_mod b.length
  omega
theorem BAt.cut {w : World} {ad : Addr} {n c : Nat} {l : List UInt8} (h : BAt w (.slice (some ad) n c) l) (i j : Nat) (hij : i + j ≤ l.length) : BAt w (.slice (some (ad.add i)) j (c - i)) ((l.drop i).take j) := by
  obtain ⟨A, c', e, hc, hC⟩ := h
  injection e with e1 e2 e3
  subst e1 e3
  have hl : ((l.drop i).take j).length = j := by rw [List.length_take, List.length_drop]; omega
  have := BAt.mk_ (w := w) (A := some (ad.add i)) (l := (l.drop i).take j) (c := c - i) (by omega) (by have := hC.2.1; omega) (fun h0 => by
    rw [hl] at h0
    obtain ⟨ad', e, hcell⟩ := C_addr hC (by omega)
    injection e with e
    subst e
    refine ⟨_, rfl, fun k hk => ?_⟩
    rw [hl] at hk
    rw [add_add, hcell _ (by omega)]
    simp [List.getD_eq_getElem?_getD, List.getElem?_take, List.getElem?_drop, hk])
  rw [hl] at this
  exact this
theorem wbytes_get (x : UInt64) (n j : Nat) (h : j < n) : (wbytes x n).getD j 0 = (x >>> UInt64.ofNat (8 * (7 - j))).toUInt8 := by
  induction n with
  | zero => omega
  | succ n ih =>
    simp only [wbytes, List.getD_eq_getElem?_getD] at ih ⊢
    rcases Nat.lt_or_ge j n with h1 | h1
    · rw [List.getElem?_append_left (by rw [wbytes_length]; exact h1)]
      exact ih h1
    · obtain rfl : j = n := by omega
      rw [List.getElem?_append_right (by rw [wbytes_length]; omega), wbytes_length]
      simp
theorem lbytes_get (l : List UInt64) (k a b : Nat) (ha : a < k) (hb : b < 8) : (lbytes l k).getD (8 * a + b) 0 = (l.getD a 0 >>> UInt64.ofNat (8 * (7 - b))).toUInt8 := by
  induction k with
  | zero => omega
  | succ k ih =>
    simp only [lbytes, List.getD_eq_getElem?_getD] at ih ⊢
    rcases Nat.lt_or_ge a k with h1 | h1
    · rw [List.getElem?_append_left (by rw [lbytes_length]; omega)]
      exact ih h1
    · obtain rfl : a = k := by omega
      rw [List.getElem?_append_right (by rw [lbytes_length]; omega), lbytes_length, show 8 * a + b - 8 * a = b by omega]
      have := wbytes_get (l.getD a 0) 8 b hb
      simp only [List.getD_eq_getElem?_getD] at this
      exact this
theorem take_next (l : List UInt8) (i : Nat) (h : i < l.length) : l.take (i + 1) = l.take i ++ [l.getD i 0] := by
  rw [List.take_succ_eq_append_getElem h, List.getD_eq_getElem?_getD, List.getElem?_eq_getElem h, Option.getD_some]
theorem mod256 (x : UInt64) : (x % 256).toUInt8 = x.toUInt8 := by
  apply UInt8.toNat.inj
  simp
theorem turni_any (x : UInt64) (i : Int) (h : 0 ≤ i ∧ i < 64) (w : World) : Calls Tryd.prog 50 #[.int .u64 (wi x), .int .i64 i] w fun e w' => e = .returned (.int .u64 (wi (rotr x i.toNat))) ∧ Drawn0 w w' := by
  have := turnr_any x i.toNat (by omega) w
  rw [Int.toNat_of_nonneg h.1] at this
  exact this
theorem downi_any (x : UInt64) (i : Int) (h : 0 ≤ i ∧ i < 64) (w : World) : Calls Tryd.prog 51 #[.int .u64 (wi x), .int .i64 i] w fun e w' => e = .returned (.int .u64 (wi (x >>> UInt64.ofNat i.toNat))) ∧ Drawn0 w w' := by
  have := down_any x i.toNat (by omega) w
  rw [Int.toNat_of_nonneg h.1] at this
  exact this
theorem OAt.drewN {w : World} {base : Nat} {v : Value} {l : List UInt8} (h : OAt w base v l) (n : Nat) : OAt (w.drewN n) base v l := h
/-- A word, divided by its own size, as the code asks it. -/
theorem s8_at (s : S8) {w : World} {g : Nat} {t : TypeId} (h : WBlk w g t s.l) : w.cell? ⟨g, 0, none⟩ = some (.int .u64 (wi s.a)) ∧ w.cell? ⟨g, 1, none⟩ = some (.int .u64 (wi s.b)) ∧ w.cell? ⟨g, 2, none⟩ = some (.int .u64 (wi s.c)) ∧ w.cell? ⟨g, 3, none⟩ = some (.int .u64 (wi s.d)) ∧
    w.cell? ⟨g, 4, none⟩ = some (.int .u64 (wi s.e)) ∧ w.cell? ⟨g, 5, none⟩ = some (.int .u64 (wi s.f)) ∧ w.cell? ⟨g, 6, none⟩ = some (.int .u64 (wi s.g)) ∧ w.cell? ⟨g, 7, none⟩ = some (.int .u64 (wi s.h)) :=
  ⟨Blk.cell h 0, Blk.cell h 1, Blk.cell h 2, Blk.cell h 3, Blk.cell h 4, Blk.cell h 5, Blk.cell h 6, Blk.cell h 7⟩

set_option maxRecDepth 100000 in
set_option maxHeartbeats 16000000 in
theorem refsum_any (K : List UInt64) (hKl : K.length = 80) (s : S8) (size : Nat) (hsz : size ≤ 64) (b : List UInt8) (hbl : b.length ≤ 99000000) (v : Value) (w : World) (hv : BAt w v b) (hK : Glob w 2 K) :
    Calls Tryd.prog 40 #[v, .agg #[.int .u64 (wi s.a), .int .u64 (wi s.b), .int .u64 (wi s.c), .int .u64 (wi s.d), .int .u64 (wi s.e), .int .u64 (wi s.f), .int .u64 (wi s.g), .int .u64 (wi s.h)], .int .i64 size] w fun e w' =>
      ∃ v, e = .returned v ∧ BAt w' v ((sha K s b).take size) ∧ Below w.heap.size w w' := by
  have hK2 := hK.lt
  have hKc := Aside0.mk (fun t (ht : t < 80) => hK.cell t (by omega))
  have hfa := Aside0.mk (filled_any b (by omega) v)
  obtain ⟨hF1, hF2⟩ := filled_length b
  have hF3 : (filled b).length ≤ 100000000 := by unfold filled; rw [List.length_append, tailb_length]; unfold zc; omega
  have hsha : (sha K s b).take size = (lbytes (runN K s (filled b) ((filled b).length / 128)).l 8).take size := rfl
  have hsha' := Aside0.mk hsha
  obtain ⟨F, hF⟩ : ∃ F, F = filled b := ⟨_, rfl⟩
  obtain ⟨N, hN⟩ : ∃ N, N = F.length / 128 := ⟨_, rfl⟩
  have hFe := Aside0.mk hF
  rw [← hF] at hF1 hF2 hF3 hfa hsha'
  rw [← hN] at hF1 hsha'
  have hv' := Aside0.mk hv
  have hF1' := Aside0.mk hF1
  clear hv hK hF hN hsha hF1 hKl
  go_enter Tryd.func40, Tryd.ntmps40
  go_wp2_with fail
  have hA4 : Below w.heap.size w (w.alloc (.cells (wcs s.l) 60)) := (Below.refl _ _).alloc (Nat.le_refl _) _
  have hB4 : WBlk (w.alloc (.cells (wcs s.l) 60)) w.heap.size 60 s.l := Blk.new _ _ _ rfl
  refine (hfa.out (w.alloc (.cells (wcs s.l) 60)) (hv'.out.below hA4)).mono ?_
  rintro e w1 ⟨v1, rfl, hBF, hb1⟩
  have hB41 := hB4.below hb1 hB4.lt
  have hb01 := hA4.trans (hb1.mono hA4.size)
  obtain ⟨cF, adF, hv1, hcF⟩ : ∃ cF adF, v1 = .slice (some adF) F.length cF ∧ F.length ≤ cF := by
    obtain ⟨A, c, e, hc, hC⟩ := hBF
    obtain ⟨ad, hA, _⟩ := C_addr hC (by omega)
    subst hA
    exact ⟨c, ad, e, hc⟩
  subst hv1
  obtain ⟨p0, p1, p2, p3, p4, p5, p6, p7⟩ := s8_at s hB41
  have hz1w : w.heap.size < w1.heap.size := hB41.lt
  have hBF' := Aside0.mk hBF
  have hb01' := Aside0.mk hb01
  clear hBF hb01 hb1 hB41 hA4 hB4
  go_wp2
  clear p0 p1 p2 p3 p4 p5 p6 p7
  obtain ⟨g8, hg8⟩ : ∃ g8, g8 = w1.heap.size := ⟨_, rfl⟩
  have hs8 : WBlk (w1.alloc (.cells (wcs s.l) 60)) w1.heap.size 60 s.l := Blk.new _ _ _ rfl
  have hs8b : Below w.heap.size w (w1.alloc (.cells (wcs s.l) 60)) := hb01'.out.alloc hb01'.out.size _
  have hs8' := Aside0.mk hs8
  have hs8b' := Aside0.mk hs8b
  clear hs8 hs8b hg8
  go_loopw [9] (fun i wr => ∃ n : Nat, n ≤ N ∧ i = .int .i64 ((128 * n : Nat) : Int) ∧ Below w.heap.size w wr ∧ Below w1.heap.size w1 wr ∧ WBlk wr w1.heap.size 60 (runN K s F n).l) (fun i _ => 128 * N - (intOf i).toNat)
  case atStart => exact ⟨0, by omega, rfl, hs8b'.out, (Below.refl _ _).alloc (Nat.le_refl _) _, hs8'.out⟩
  case round =>
    obtain ⟨n, hn, rfl, hb, hbF, hS⟩ := hrel
    obtain ⟨wo, hwo⟩ : ∃ wo : World, wo = wr := ⟨_, rfl⟩
    subst hwo
    have hb' := Aside0.mk hb
    have hbF' := Aside0.mk hbF
    have hS' := Aside0.mk hS
    have hzo := hS.lt
    clear hb hbF hS hs8' hs8b'
    by_cases hlt : n < N
    · obtain ⟨q, hq⟩ : ∃ q, q = 128 * n := ⟨_, rfl⟩
      rw [← hq]
      have hql : q + 128 ≤ F.length := by have := hF1'.out; omega
      have hq' := Aside0.mk hq
      obtain ⟨zw, hzw⟩ : ∃ zw : List UInt64, zw = List.replicate 80 0 := ⟨_, rfl⟩
      have hz74 := zero74
      rw [← hzw] at hz74
      have hzl : zw.length = 80 := by rw [hzw]; simp
      have hzw' := Aside0.mk hzw
      have hzl' := Aside0.mk hzl
      clear hzw hzl
      obtain ⟨S, hSe⟩ : ∃ S, S = runN K s F n := ⟨_, rfl⟩
      rw [← hSe] at hS'
      have hSe' := Aside0.mk hSe
      obtain ⟨bb, hbb⟩ : ∃ bb, bb = (F.drop q).take 128 := ⟨_, rfl⟩
      have hcomp : runN K s F (n + 1) = comp K S bb := by rw [hbb, hq, hSe]; rfl
      have hcomp' := Aside0.mk hcomp
      have hbb' := Aside0.mk hbb
      have d0 : decide ((q : Int) < (F.length : Int)) = true := decide_eq_true (by omega)
      clear hq hSe hcomp hbb
      go_wp2_with (refine wpList_store_row rfl 74 (.tmp 10) (.tmp 30) rfl wo.heap.size (wcs zw) rfl rfl 74 (wcs zw) (Blk.new (w := wo) _ _ _ rfl) (by rw [wcs_size, hzl'.out]; kernel_rfl) rfl (wcs_one _) ?_)
      clear hz74
      have hB10 : WBlk ((wo.alloc (.cells (wcs zw) 74)).setRow wo.heap.size (wcs zw)) wo.heap.size 74 (sched bb 0) := by
        have : WBlk ((wo.alloc (.cells (wcs zw) 74)).setRow wo.heap.size (wcs zw)) wo.heap.size 74 zw := setRow_blk (Blk.new (w := wo) wo.heap.size 74 (wcs zw) rfl)
        rw [hzw'.out] at this
        rw [hzw'.out]
        exact this
      have hbo : Below wo.heap.size wo ((wo.alloc (.cells (wcs zw) 74)).setRow wo.heap.size (wcs zw)) := below_setRow ((Below.refl _ _).alloc (Nat.le_refl _) _) (Nat.le_refl _) _
      have hB10' := Aside0.mk hB10
      have hbo' := Aside0.mk hbo
      clear hB10 hbo
      go_loopw [11] (fun i wr => ∃ t : Nat, t ≤ 80 ∧ i = .int .i64 t ∧ Below wo.heap.size wo wr ∧ WBlk wr wo.heap.size 74 (sched bb t)) (fun i _ => 80 - (intOf i).toNat)
      case atStart => exact ⟨0, by omega, rfl, hbo'.out, hB10'.out⟩
      case round =>
        obtain ⟨t, ht, rfl, hbt, hW⟩ := hrel
        obtain ⟨w2, hw2⟩ : ∃ w2 : World, w2 = wr := ⟨_, rfl⟩
        subst hw2
        have hWl := sched_length bb t
        have hbt' := Aside0.mk hbt
        have hW' := Aside0.mk hW
        have hWl' := Aside0.mk hWl
        have hz2 := hW.lt
        clear hbt hW hB10' hbo' hWl
        by_cases ht16 : t < 16
        · have ht80 : t < 80 := by omega
          have hin : q + 8 * t + 8 ≤ F.length := by omega
          have hcut := (hBF'.out).cut (q + 8 * t) 8 (by omega)
          have hcs : (F.drop (q + 8 * t)).take 8 = (bb.drop (8 * t)).take 8 := by
            rw [hbb'.out, List.drop_take, List.drop_drop, List.take_take, Nat.min_eq_left (by omega)]
          rw [hcs] at hcut
          have hlen8 : ((bb.drop (8 * t)).take 8).length = 8 := by rw [← hcs, List.length_take, List.length_drop]; omega
          have hcut2 := hcut.below (hbF'.out.trans (hbt'.out.mono (by have := hbF'.out.size; omega)))
          have hwd := Aside0.mk (word_any _ hlen8 _ w2 hcut2)
          have cW := hW'.out.cell t (by rw [hWl'.out]; exact ht80)
          have fW := Blk.frozen hW'.out t
          have hnx : sched bb (t + 1) = (sched bb t).set t (be ((bb.drop (8 * t)).take 8)) := by
            show sstep bb (sched bb t) t = _
            unfold sstep
            rw [if_pos ht16]
          have hnx' := Aside0.mk hnx
          have d1 : decide ((t : Int) < 80) = true := decide_eq_true (by omega)
          have d2 : decide ((t : Int) < 16) = true := decide_eq_true (by omega)
          have hcz : ¬ cF = q + 8 * t := by omega
          have hql2 : q + 8 * t + 8 - (q + 8 * t) = 8 := by omega
          clear hcut hcut2 hcs hlen8 hnx
          go_wp2_with (go_at_call 49; ((with_reducible refine hwd.out.mono ?_); rintro e w3 ⟨rfl, ⟨⟨nd, rfl⟩⟩⟩))
          refine ⟨⟨t + 1, by omega, by simp, (pw_below_drewN hbt'.out nd).setCell (Nat.le_refl _) _, ?_⟩, by simp [intOf]; omega⟩
          rw [hnx'.out]
          exact WBlk.set (Blk.drewN hW'.out nd) t _
        · by_cases ht80 : t < 80
          · obtain ⟨u, hu⟩ : ∃ u, t = u + 16 := ⟨t - 16, by omega⟩
            subst hu
            obtain ⟨W, hWe⟩ : ∃ W, W = sched bb (u + 16) := ⟨_, rfl⟩
            have hnx : sched bb (u + 16 + 1) = W.set (u + 16) (wnextR W (u + 16)) := by
              show sstep bb (sched bb (u + 16)) (u + 16) = _
              unfold sstep
              rw [if_neg (by omega), ← hWe, wnextR_eq]
            have hnx' := Aside0.mk hnx
            rw [← hWe] at hW' hWl'
            clear hWe hnx
            have d1 : decide ((u : Int) + 16 < 80) = true := decide_eq_true (by omega)
            have d2 : decide ((u : Int) + 16 < 16) = false := decide_eq_false (by omega)
            simp only [Int.natCast_add, Int.cast_ofNat_Int]
            go_wp2_with fail
            refine' wp_region_og_lit 10 [none, none, none, none, none, none, none, none, none, none] [.is _, .is _, .is _, .is _, .is _, .is _, .is _, .is _, .is _, .is _]
              (fun c wx => Below wo.heap.size wo wx ∧ WBlk wx wo.heap.size 74 W) (fun u u' => True) (by kernel_rfl) (by kernel_rfl) ?h0a ?hwa
            case h0a => exact ⟨drew_below hbt'.out, hW'.out.drew⟩
            case hwa =>
              iterate 10 (
                apply walk_is
                · rfl
                · rfl
                · intro c hc wx hS hE Kq hKq
                  have hS' := Aside0.mk hS
                  obtain ⟨sb, s1⟩ := hS
                  clear hE hc
                  have c1 := s1.cell (u + 1) (by rw [hWl'.out]; omega)
                  have c14 := s1.cell (u + 14) (by rw [hWl'.out]; omega)
                  have hz1 := s1.lt
                  clear s1 sb
                  all_goals
                   go_wp2_with (fail)
                   exact Told.mk (by first | (simp only [Act.put, List.setIfInBounds_toArray, List.set_cons_succ, List.set_cons_zero]; done) | (simp only [Act.put, List.setIfInBounds_toArray, List.set_cons_succ, List.set_cons_zero]; rfl)) (by first | exact hS'.out) (by first | exact trivial)
                simp only [Act.put, List.setIfInBounds_toArray, List.set_cons_succ, List.set_cons_zero])
              refine walk_end ?_
              intro wa hSa hEa
              have hSa' := Aside0.mk hSa
              clear hSa hEa hbt' hW'
              go_wp2_with fail
              refine' wp_region_og_lit 29 [some false, some false, some false, some false, some false, some false, some false, some false, some false, some false, some false, some false, some false, some false, some false, some false, some false, some false, some false, some false, some false, some false, some false, some false, some false, some false, some false, some false, some false, some false] [.is _, .is _, .is _, .is _, .is _, .is _, .is _, .is _, .is _, .is _, .is _, .is _, .is _, .is _, .is _, .is _, .is _, .is _, .is _, .is _, .is _, .is _, .is _, .is _, .is _, .is _, .is _, .is _, .is _, .is (undef)]
                (fun c wx => Below wo.heap.size wo wx ∧ WBlk wx wo.heap.size 74 (if c then W.set (u + 16) (wnextR W (u + 16)) else W)) (fun u u' => True) (by kernel_rfl) (by kernel_rfl) ?h0b ?hwb
              case h0b => exact ⟨drew_below hSa'.out.1, hSa'.out.2.drew⟩
              case hwb =>
                iterate 30 (
                  apply walk_is
                  · rfl
                  · rfl
                  · intro c hc wx hS hE Kq hKq
                    have hS' := Aside0.mk hS
                    obtain ⟨sb, s1⟩ := hS
                    clear hE; (first | (obtain rfl := hc _ rfl) | cases c)
                    have s1 : WBlk wx wo.heap.size 74 W := s1
                    have c9 := s1.cell (u + 9) (by rw [hWl'.out]; omega)
                    have c0 := s1.cell u (by rw [hWl'.out]; omega)
                    have c16 := s1.cell (u + 16) (by rw [hWl'.out]; omega)
                    have f16 := Blk.frozen s1 (u + 16)
                    have hz1 := Blk.lt s1
                    clear s1 sb
                    all_goals
                     go_wp2_with (first | (go_at_call 50; ((with_reducible refine (turni_any _ _ (by decide) _).mono ?_); rintro e w' ⟨rfl, ⟨⟨nq, rfl⟩⟩⟩)) | (go_at_call 51; ((with_reducible refine (downi_any _ _ (by decide) _).mono ?_); rintro e w' ⟨rfl, ⟨⟨nq, rfl⟩⟩⟩)))
                     exact Told.mk (by first | (simp only [Act.put, List.setIfInBounds_toArray, List.set_cons_succ, List.set_cons_zero]; done) | (simp only [Act.put, List.setIfInBounds_toArray, List.set_cons_succ, List.set_cons_zero]; rfl)) (by first | exact hS'.out | exact ⟨pw_below_drewN hS'.out.1 _, Blk.drewN hS'.out.2 _⟩ | exact ⟨hS'.out.1.setCell (Nat.le_refl _) _, hS'.out.2.set _ _⟩) (by first | exact trivial)
                  simp only [Act.put, List.setIfInBounds_toArray, List.set_cons_succ, List.set_cons_zero])
                refine walk_end ?_
                intro wb hSb hEb
                have hSb2 : Below wo.heap.size wo wb ∧ WBlk wb wo.heap.size 74 (W.set (u + 16) (wnextR W (u + 16))) := hSb
                rw [← hnx'.out] at hSb2
                have hSb' := Aside0.mk hSb2
                clear hSb hEb hSa' hSb2
                go_wp2
                exact ⟨⟨u + 16 + 1, by omega, by simp, hSb'.out.1, hSb'.out.2⟩, by simp [intOf]; omega⟩
          · obtain rfl : t = 80 := by omega
            obtain ⟨W, hWe⟩ : ∃ W, W = sched bb 80 := ⟨_, rfl⟩
            rw [← hWe] at hW' hWl'
            have hWe' := Aside0.mk hWe
            have hS2 : WBlk w2 w1.heap.size 60 S.l := hS'.out.below hbt'.out hzo
            obtain ⟨p0, p1, p2, p3, p4, p5, p6, p7⟩ := s8_at S hS2
            have hB2w : Below w.heap.size w w2 := hb'.out.trans (hbt'.out.mono hb'.out.size)
            have hB2F : Below w1.heap.size w1 w2 := hbF'.out.trans (hbt'.out.mono hbF'.out.size)
            have hz8 : w1.heap.size < w2.heap.size := Blk.lt hS2
            have hS2' := Aside0.mk hS2
            have hB2w' := Aside0.mk hB2w
            have hB2F' := Aside0.mk hB2F
            clear hWe hS2 hB2w hB2F
            go_wp2
            simp only [Int.cast_ofNat_Int]
            clear p0 p1 p2 p3 p4 p5 p6 p7
            have hV0 : WBlk (w2.alloc (.cells (wcs S.l) 60)) w2.heap.size 60 S.l := Blk.new _ _ _ rfl
            have hV0b : Below w2.heap.size w2 (w2.alloc (.cells (wcs S.l) 60)) := (Below.refl _ _).alloc (Nat.le_refl _) _
            have hV0' := Aside0.mk hV0
            have hV0b' := Aside0.mk hV0b
            clear hV0 hV0b
            go_loopw [15] (fun i wr => ∃ t : Nat, t ≤ 80 ∧ i = .int .i64 t ∧ Below w2.heap.size w2 wr ∧ WBlk wr w2.heap.size 60 (rounds8 K W S t).l) (fun i _ => 80 - (intOf i).toNat)
            case atStart => exact ⟨0, by omega, rfl, hV0b'.out, hV0'.out⟩
            case round =>
              obtain ⟨t, ht, rfl, hb3, hV⟩ := hrel
              obtain ⟨w3, hw3⟩ : ∃ w3 : World, w3 = wr := ⟨_, rfl⟩
              subst hw3
              have hb3' := Aside0.mk hb3
              have hz3 := Blk.lt hV
              clear hV0' hV0b' hb3
              by_cases hlt3 : t < 80
              · have hnx := rndR_eq (rounds8 K W S t) (K.getD t 0) (W.getD t 0)
                have hnx2 : rounds8 K W S (t + 1) = rnd (rounds8 K W S t) (K.getD t 0) (W.getD t 0) := rfl
                rw [hnx] at hnx2
                generalize rounds8 K W S t = V at hV hnx2
                have hnx' := Aside0.mk hnx2
                have hV' := Aside0.mk hV
                clear hnx hnx2 hV
                have ck : w2.cell? ⟨2, t, none⟩ = some (.int .u64 (wi (K.getD t 0))) := (hB2w'.out.cell (p := ⟨2, t, none⟩) hK2).trans (hKc.out t hlt3)
                have cw : w2.cell? ⟨wo.heap.size, t, none⟩ = some (.int .u64 (wi (W.getD t 0))) := hW'.out.cell t (by rw [hWl'.out]; exact hlt3)
                have ck' := Aside0.mk ck
                have cw' := Aside0.mk cw
                have d3 : decide ((t : Int) < 80) = true := decide_eq_true (by omega)
                have hz22 : 2 < w2.heap.size := by have := hB2w'.out.size; omega
                clear ck cw
                go_wp2_with fail
                refine' wp_region_og_lit 31 [none, none, none, none, none, none, none, none, none, none, none, none, none, none, none, none, none, none, none, none, none, none, none, none, none, none, none, none, none, none, none] [.is _, .is _, .is _, .is _, .is _, .is _, .is _, .is _, .is _, .is _, .is _, .is _, .is _, .is _, .is _, .is _, .is _, .is _, .is _, .is _, .is _, .is _, .is _, .is _, .is _, .is _, .is _, .is _, .is _, .is _, .is _]
                  (fun c wx => Below w2.heap.size w2 wx ∧ WBlk wx w2.heap.size 60 V.l) (fun u u' => True) (by kernel_rfl) (by kernel_rfl) ?h0c ?hwc
                case h0c => exact ⟨drew_below hb3'.out, hV'.out.drew⟩
                case hwc =>
                  iterate 31 (
                    apply walk_is
                    · rfl
                    · rfl
                    · intro c hc wx hS hE Kq hKq
                      have hS' := Aside0.mk hS
                      obtain ⟨sb, s1⟩ := hS
                      clear hE hc
                      obtain ⟨q0, q1, q2, q3, q4, q5, q6, q7⟩ := s8_at V s1
                      have ck := (sb.cell (p := ⟨2, t, none⟩) hz22).trans ck'.out
                      have cw := (sb.cell (p := ⟨wo.heap.size, t, none⟩) hz2).trans cw'.out
                      have hz1 := s1.lt
                      clear s1 sb
                      all_goals
                       go_wp2_with (first | (go_at_call 50; ((with_reducible refine (turni_any _ _ (by decide) _).mono ?_); rintro e w' ⟨rfl, ⟨⟨nq, rfl⟩⟩⟩)) | (go_at_call 51; ((with_reducible refine (downi_any _ _ (by decide) _).mono ?_); rintro e w' ⟨rfl, ⟨⟨nq, rfl⟩⟩⟩)) | (go_at_call 52; ((with_reducible refine (choose_any _ _ _ _).mono ?_); rintro e w' ⟨rfl, ⟨⟨nq, rfl⟩⟩⟩)) | (go_at_call 53; ((with_reducible refine (major_any _ _ _ _).mono ?_); rintro e w' ⟨rfl, ⟨⟨nq, rfl⟩⟩⟩)))
                       exact Told.mk (by first | (simp only [Act.put, List.setIfInBounds_toArray, List.set_cons_succ, List.set_cons_zero]; done) | (simp only [Act.put, List.setIfInBounds_toArray, List.set_cons_succ, List.set_cons_zero]; rfl)) (by first | exact hS'.out | exact ⟨pw_below_drewN hS'.out.1 _, Blk.drewN hS'.out.2 _⟩) (by first | exact trivial)
                    simp only [Act.put, List.setIfInBounds_toArray, List.set_cons_succ, List.set_cons_zero])
                  refine walk_end ?_
                  intro wc hSc hEc
                  have hSc' := Aside0.mk hSc
                  clear hSc hEc hb3' hV'
                  go_wp2_with fail
                  refine' wp_region_og_lit 20 [none, none, none, none, none, none, none, none, none, none, none, none, none, none, none, none, none, none, none, none] [.is _, .is _, .is _, .is _, .is _, .is _, .is _, .is _, .is _, .is _, .is _, .is _, .is _, .is _, .is _, .is _, .is _, .is _, .is _, .is _]
                    (fun c wx => Below w2.heap.size w2 wx ∧ WBlk wx w2.heap.size 60 V.l) (fun u u' => True) (by kernel_rfl) (by kernel_rfl) ?h0d ?hwd
                  case h0d => exact ⟨drew_below hSc'.out.1, hSc'.out.2.drew⟩
                  case hwd =>
                    iterate 20 (
                      apply walk_is
                      · rfl
                      · rfl
                      · intro c hc wx hS hE Kq hKq
                        have hS' := Aside0.mk hS
                        obtain ⟨sb, s1⟩ := hS
                        clear hE hc
                        obtain ⟨q0, q1, q2, q3, q4, q5, q6, q7⟩ := s8_at V s1
                        have ck := (sb.cell (p := ⟨2, t, none⟩) hz22).trans ck'.out
                        have cw := (sb.cell (p := ⟨wo.heap.size, t, none⟩) hz2).trans cw'.out
                        have hz1 := s1.lt
                        clear s1 sb
                        all_goals
                         go_wp2_with (first | (go_at_call 50; ((with_reducible refine (turni_any _ _ (by decide) _).mono ?_); rintro e w' ⟨rfl, ⟨⟨nq, rfl⟩⟩⟩)) | (go_at_call 51; ((with_reducible refine (downi_any _ _ (by decide) _).mono ?_); rintro e w' ⟨rfl, ⟨⟨nq, rfl⟩⟩⟩)) | (go_at_call 52; ((with_reducible refine (choose_any _ _ _ _).mono ?_); rintro e w' ⟨rfl, ⟨⟨nq, rfl⟩⟩⟩)) | (go_at_call 53; ((with_reducible refine (major_any _ _ _ _).mono ?_); rintro e w' ⟨rfl, ⟨⟨nq, rfl⟩⟩⟩)))
                         exact Told.mk (by first | (simp only [Act.put, List.setIfInBounds_toArray, List.set_cons_succ, List.set_cons_zero]; done) | (simp only [Act.put, List.setIfInBounds_toArray, List.set_cons_succ, List.set_cons_zero]; rfl)) (by first | exact hS'.out | exact ⟨pw_below_drewN hS'.out.1 _, Blk.drewN hS'.out.2 _⟩) (by first | exact trivial)
                      simp only [Act.put, List.setIfInBounds_toArray, List.set_cons_succ, List.set_cons_zero])
                    refine walk_end ?_
                    intro wd hSd hEd
                    have hSd' := Aside0.mk hSd
                    obtain ⟨q0, q1, q2, q3, q4, q5, q6, q7⟩ := s8_at V hSd.2
                    clear hSd hEd
                    go_wp2_with (refine wpList_store_row rfl 60 (.tmp 14) (.tmp 161) rfl w2.heap.size _ rfl rfl 60 _ hSd'.out.2 (by kernel_rfl) rfl (wcs_one [t1R V (K.getD t 0) (W.getD t 0) + t2R V, V.a, V.b, V.c, V.d + t1R V (K.getD t 0) (W.getD t 0), V.e, V.f, V.g]) ?_)
                    refine ⟨⟨t + 1, by omega, by simp, below_setRow hSd'.out.1 (Nat.le_refl _) _, ?_⟩, by simp [intOf]; omega⟩
                    rw [hnx'.out]
                    exact setRow_blk hSd'.out.2
              · obtain rfl : t = 80 := by omega
                obtain ⟨V, hVe⟩ : ∃ V, V = rounds8 K W S 80 := ⟨_, rfl⟩
                rw [← hVe] at hV
                have hVe' := Aside0.mk hVe
                have hV' := Aside0.mk hV
                have hS3' := Aside0.mk (hS2'.out.below hb3'.out hz8)
                have hB3w' := Aside0.mk (hB2w'.out.trans (hb3'.out.mono hB2w'.out.size))
                have hB3F' := Aside0.mk (hB2F'.out.trans (hb3'.out.mono hB2F'.out.size))
                clear hV hVe
                go_wp2
                simp only [Int.cast_ofNat_Int]
                go_loopw [18] (fun i wr => ∃ k : Nat, k ≤ 8 ∧ i = .int .i64 k ∧ Below w.heap.size w wr ∧ Below w1.heap.size w1 wr ∧ WBlk wr w1.heap.size 60 (adds S V k) ∧ WBlk wr w2.heap.size 60 V.l) (fun i _ => 8 - (intOf i).toNat)
                case atStart => exact ⟨0, by omega, rfl, hB3w'.out, hB3F'.out, hS3'.out, hV'.out⟩
                case round =>
                  obtain ⟨k, hk, rfl, hb4, hbF4, hA4, hV4⟩ := hrel
                  have hal := Aside0.mk (adds_length S V k)
                  have hb4' := Aside0.mk hb4
                  have hbF4' := Aside0.mk hbF4
                  have hA4' := Aside0.mk hA4
                  have hV4' := Aside0.mk hV4
                  have hzA := Blk.lt hA4
                  have hzV := Blk.lt hV4
                  clear hb4 hbF4 hA4 hV4 hS3' hB3w' hB3F' hV'
                  by_cases hlk : k < 8
                  · have d1 : decide ((k : Int) < 8) = true := decide_eq_true (by omega)
                    go_wp2_with fail
                    refine' wp_region_og_lit 9 [some false, some false, some false, some false, some false, some false, some false, some false, some false, some false] [.is _, .is _, .is _, .is _, .is _, .is _, .is _, .is _, .is _, .is (undef)]
                      (fun c wx => Below w.heap.size w wx ∧ Below w1.heap.size w1 wx ∧ WBlk wx w1.heap.size 60 (adds S V (if c then k + 1 else k)) ∧ WBlk wx w2.heap.size 60 V.l) (fun u u' => True) (by kernel_rfl) (by kernel_rfl) ?h0e ?hwe
                    case h0e => exact ⟨drew_below hb4'.out, drew_below hbF4'.out, hA4'.out.drew, hV4'.out.drew⟩
                    case hwe =>
                      iterate 10 (
                        apply walk_is
                        · rfl
                        · rfl
                        · intro c hc wx hS hE Kq hKq
                          have hS' := Aside0.mk hS
                          obtain ⟨sb, sf, sa, sv⟩ := hS
                          clear hE; (first | (obtain rfl := hc _ rfl) | cases c)
                          have sa : WBlk wx w1.heap.size 60 (adds S V k) := sa
                          have ca := sa.cell k (by rw [hal.out]; exact hlk)
                          have cv := sv.cell k hlk
                          have fa := Blk.frozen sa k
                          have hz1 := Blk.lt sa
                          have hz5 := Blk.lt sv
                          clear sa sv sb sf
                          all_goals
                           go_wp2_with (fail)
                           exact Told.mk (by first | (simp only [Act.put, List.setIfInBounds_toArray, List.set_cons_succ, List.set_cons_zero]; done) | (simp only [Act.put, List.setIfInBounds_toArray, List.set_cons_succ, List.set_cons_zero]; rfl)) (by first | exact hS'.out | exact ⟨hS'.out.1.setCell (Nat.le_of_lt hz1w) _, hS'.out.2.1.setCell (Nat.le_refl _) _, hS'.out.2.2.1.set _ _, hS'.out.2.2.2.far (Nat.ne_of_gt hz8) _⟩) (by first | exact trivial)
                        simp only [Act.put, List.setIfInBounds_toArray, List.set_cons_succ, List.set_cons_zero])
                      refine walk_end ?_
                      intro we hSe hEe
                      have hSe2 : Below w.heap.size w we ∧ Below w1.heap.size w1 we ∧ WBlk we w1.heap.size 60 (adds S V (k + 1)) ∧ WBlk we w2.heap.size 60 V.l := hSe
                      have hSe3 := Aside0.mk hSe2
                      clear hSe hEe hSe2
                      go_wp2
                      exact ⟨⟨k + 1, by omega, by simp, hSe3.out⟩, by simp [intOf]; omega⟩
                  · obtain rfl : k = 8 := by omega
                    have hfin := hA4'.out
                    rw [adds_8, hVe'.out, hWe'.out] at hfin
                    have hfin2 : WBlk wr w1.heap.size 60 (runN K s F (n + 1)).l := by rw [hcomp'.out]; exact hfin
                    have hfin' := Aside0.mk hfin2
                    clear hfin hfin2
                    go_wp2
                    refine ⟨⟨n + 1, by omega, ?_, hb4'.out, hbF4'.out, hfin'.out⟩, ?_⟩
                    · have := hq'.out
                      congr 1
                      omega
                    · have := hq'.out
                      simp [intOf]
                      omega
    · obtain rfl : n = N := by omega
      obtain ⟨q, hq⟩ : ∃ q, q = 128 * n := ⟨_, rfl⟩
      have d0 : decide ((q : Int) < (F.length : Int)) = false := decide_eq_false (by have := hF1'.out; omega)
      rw [← hq]
      obtain ⟨R, hR⟩ : ∃ R, R = runN K s F n := ⟨_, rfl⟩
      rw [← hR] at hS' hsha'
      have hql : ¬ q < F.length := by have := hF1'.out; omega
      clear hq hR
      go_wp2
      go_loopw [19, 20] (fun v i wr => ∃ k : Nat, k ≤ size ∧ i = .int .i64 k ∧ OAt wr wo.heap.size v ((lbytes R.l 8).take k) ∧ Below wo.heap.size wo wr) (fun _ i _ => size - (intOf i).toNat)
      case atStart => exact ⟨0, by omega, rfl, OAt.nil _ _, Below.refl _ _⟩
      case round =>
        obtain ⟨k, hk, rfl, hO, hb5⟩ := hrel
        have hO' := Aside0.mk hO
        have hb5' := Aside0.mk hb5
        have hz5 := hb5.size
        clear hO hb5
        by_cases hlk : k < size
        · obtain ⟨a, ha⟩ : ∃ a, a = k / 8 := ⟨_, rfl⟩
          obtain ⟨c, hc⟩ : ∃ c, c = k % 8 := ⟨_, rfl⟩
          have ha8 : a < 8 := by omega
          have hc8 : c < 8 := by omega
          have hkac : k = 8 * a + c := by omega
          have hdiv : (k : Int) / 8 = (a : Int) := by omega
          have hmod : (k : Int) % 8 = (c : Int) := by omega
          have h56 : (56 : Int) - 8 * (c : Int) = ((8 * (7 - c) : Nat) : Int) := by omega
          have h64 : 8 * (7 - c) < 64 := by omega
          have hnx : (lbytes R.l 8).take (k + 1) = (lbytes R.l 8).take k ++ [((R.l.getD a 0 >>> UInt64.ofNat (8 * (7 - c))) % 256).toUInt8] := by
            rw [take_next _ _ (by rw [lbytes_length]; omega), mod256, hkac, lbytes_get _ _ _ _ ha8 hc8]
          have hnx' := Aside0.mk hnx
          have ca : wo.cell? ⟨w1.heap.size, a, none⟩ = some (.int .u64 (wi (R.l.getD a 0))) := hS'.out.cell a ha8
          have ca2 : wr.cell? ⟨w1.heap.size, a, none⟩ = some (.int .u64 (wi (R.l.getD a 0))) := (hb5'.out.cell (p := ⟨w1.heap.size, a, none⟩) hzo).trans ca
          have hlt : ((lbytes R.l 8).take k).length ≤ 64 := by rw [List.length_take]; omega
          have hlt' := Aside0.mk hlt
          generalize R.l.getD a 0 = x at *
          generalize 8 * (7 - c) = sh at *
          have hdn := Aside0.mk (down_any x sh h64)
          clear hnx ca hkac ha hc hlt
          go_wp2_with (first
            | (go_at_call 51; ((with_reducible refine (hdn.out _).mono ?_); rintro e w6 ⟨rfl, ⟨⟨nd, rfl⟩⟩⟩))
            | (at_builtin; go_loud (refine wpList_app (w0 := wo) (base := wo.heap.size) rfl (.tmp 180) (.tmp 192) rfl _ _ rfl (OAt.alloc (OAt.drewN hO'.out nd) _) _ [((x >>> UInt64.ofNat sh) % 256).toUInt8] rfl (BAt.one _ _) (by have := hlt'.out; simp only [List.length_cons, List.length_nil]; omega) (by simp; omega) ((pw_below_drewN hb5'.out nd).alloc (by simp; omega) _) ?_); intro v' w' hO2 hb2; have hO2' := Aside0.mk hO2; have hb2' := Aside0.mk hb2; clear hO2 hb2))
          exact ⟨⟨k + 1, by omega, by simp, by rw [hnx'.out]; exact hO2'.out, hb2'.out⟩, by simp [intOf]; omega⟩
        · obtain rfl : k = size := by omega
          go_wp2
          go_ret
          exact ⟨_, rfl, by rw [hsha'.out]; exact hO'.out.bat, hb'.out.trans (hb5'.out.mono hb'.out.size)⟩
end Go.Proofs.YtnaiifidcpdamaaDoor
