/-
  Add: a running sum takes parts.
-/
import Derived.Test.YtnaiifidcpdamaaDoorKg
set_option linter.unusedVariables false
set_option linter.unusedSimpArgs false
namespace Go.Proofs.YtnaiifidcpdamaaDoor
open Go.RowKit Go.Og Go.Ub Go.Proofs.YtnaiifidcpdamaaDoorW.PrintWords
theorem hcells_set8 (s : S8) (r1 r2 r3 u : Value) : (hcells s.l r1 r2 r3).setIfInBounds 8 u = hcells s.l u r2 r3 := by
  obtain ⟨a, b, c, d, e, f, g, h⟩ := s
  rfl
theorem hcells_set9 (s : S8) (r1 r2 r3 u : Value) : (hcells s.l r1 r2 r3).setIfInBounds 9 u = hcells s.l r1 u r3 := by
  obtain ⟨a, b, c, d, e, f, g, h⟩ := s
  rfl
theorem take_drop (M : List UInt8) (n : Nat) : (M.drop (128 * n)).drop 128 = M.drop (128 * (n + 1)) := by
  rw [List.drop_drop, Nat.mul_add, Nat.mul_one]
/-- From where on what is left lies: as ever, if nothing was taken. -/
def bk (n B W : Nat) : Nat := if n = 0 then B else W
theorem bk_le (n B W g : Nat) (h1 : g < B) (h2 : B ≤ W) : g < bk n B W := by unfold bk; split <;> omega
/-- How long a slice is. -/
def slen : Value → Nat
  | .slice _ n _ => n
  | _ => 0
theorem Ext.set1 (g o : Nat) (w : World) (u : Value) : Ext (· = g) w (w.setCell ⟨g, o, none⟩ u) := Ext.setCell (X := (· = g)) (Ext.refl _ _) (.inl rfl) _
theorem size_set (w : World) (p : Addr) (u : Value) : (w.setCell p u).heap.size = w.heap.size := by simp [World.setCell]
theorem Loc.sub {B n c n' c' : Nat} {A : Option Addr} {v : Value} (h : Loc B (.slice A n c)) (hv : v = .slice A n' c') : Loc B v := by
  subst hv
  intro ad n c e
  injection e with e1
  subst e1
  exact h ad _ _ rfl
theorem Loc.add {B n c n' c' k : Nat} {a : Addr} (h : Loc B (.slice (some a) n c)) : Loc B (.slice (some (a.add k)) n' c') := by
  intro ad n c e
  injection e with e1
  injection e1 with e1
  subst e1
  have := h a _ _ rfl
  have e : (a.add k).block = a.block := by unfold Addr.add; split <;> rfl
  omega
theorem Ext.of_blk {g B : Nat} {w w' : World} (h : Below w.heap.size w w') : Ext (· = g) w w' := Ext.of_below h
set_option maxRecDepth 100000 in
set_option maxHeartbeats 8000000 in
theorem add_any (K : List UInt64) (hKl : K.length = 80) (s : S8) (size g B : Nat) (m : List UInt8) (ps : List (List UInt8)) (hml : m.length + ps.flatten.length ≤ 100000000) (v : Value) (w : World) (hg : g < B) (hB : B ≤ w.heap.size) (hg2 : g ≠ 2)
    (hH : HAt w g B K s size m) (hK : Glob w 2 K) (hp : PAt w v ps) (hv : 0 < ps.length → ∀ ad n c, v = .slice (some ad) n c → ad.block ≠ g) :
    Calls Tryd.prog 19 #[.pointer (some ⟨g, 0, none⟩), v] w fun e w' => e = .returned (.tuple #[]) ∧ HAt w' g (bk ps.length B w.heap.size) K s size (m ++ ps.flatten) ∧ Ext (· = g) w w' := by
  have hK2 := hK.lt
  have hp' := Lib.hid hp
  obtain ⟨A, c, rfl, hc, _⟩ := hp.addr
  have hm63 : ps.length ≤ 9223372036854775807 := by obtain ⟨_, _, _, _, h, _⟩ := hp; exact h
  have hH' := Lib.hid hH
  have hK' := Lib.hid hK
  have hml' := Lib.hid hml
  have hv' := Lib.hid hv
  clear hp hH hK hml hv
  go_enter Tryd.func19, Tryd.ntmps19
  go_wp2
  go_loopw [9] (fun i wr => ∃ k : Nat, k ≤ ps.length ∧ i = .int .i64 k ∧ HAt wr g (bk k B w.heap.size) K s size (m ++ (ps.take k).flatten) ∧ Ext (· = g) w wr) (fun i _ => ps.length - (intOf i).toNat)
  case atStart => exact ⟨0, by omega, rfl, by rw [List.take_zero, List.flatten_nil, List.append_nil]; exact hH'.out, Ext.refl _ _⟩
  case round =>
    obtain ⟨k, hk, rfl, hH1, hx1⟩ := hrel
    obtain ⟨wo, hwo⟩ : ∃ wo : World, wo = wr := ⟨_, rfl⟩
    subst hwo
    by_cases hlt : k < ps.length
    · -- the sum as it is
      have hsz : w.heap.size ≤ wo.heap.size := hx1.size
      obtain ⟨A0, c0, hblk, hleft, hloc⟩ := hH1
      have hblk0 : ∃ A1 c1, Blk w g 63 (hcells (st K s m).l (.slice A1 (left m).length c1) (.int .i64 (m.length : Nat)) (.int .i64 (size : Nat))) := by
        obtain ⟨A1, c1, h1, _⟩ := hH'.out
        exact ⟨A1, c1, h1⟩
      obtain ⟨A1, c1, hblk0⟩ := hblk0
      have hpo := hp'.out.ext_g hblk0 hx1 hv'.out
      obtain ⟨A2, c2, hveq, _, hcell⟩ := hpo.addr
      obtain ⟨ad, u, hA, hu, hBu⟩ := hcell k hlt
      obtain ⟨rfl, rfl⟩ : A = A2 ∧ c = c2 := by injection hveq with e1 _ e3; exact ⟨e1, e3⟩
      subst hA
      obtain ⟨Au, cu, rfl, hcu⟩ := hBu.slice
      have hfl := flat_succ ps k hlt
      have hle := flat_le ps (k + 1)
      have hml := hml'.out
      rw [hfl, List.length_append] at hle
      have hMe : m ++ (ps.take (k + 1)).flatten = (m ++ (ps.take k).flatten) ++ ps.getD k [] := by rw [hfl, List.append_assoc]
      have hMl : (m ++ (ps.take k).flatten).length + (ps.getD k []).length ≤ 100000000 := by rw [List.length_append]; omega
      clear hveq hcell hfl hle hml hblk0 hpo
      obtain ⟨p, hpe⟩ : ∃ p, p = ps.getD k [] := ⟨_, rfl⟩
      obtain ⟨M0, hM0⟩ : ∃ M0, M0 = m ++ (ps.take k).flatten := ⟨_, rfl⟩
      rw [← hpe] at hBu hMe hMl hu
      rw [← hM0] at hblk hleft hloc hMe hMl
      have hMe' := Lib.hid hMe
      have d1 : decide ((k : Int) < (ps.length : Int)) = true := decide_eq_true (by omega)
      have p8 : wo.cell? ⟨g, 8, none⟩ = some (.slice A0 (left M0).length c0) := hblk.cell 8
      have p9 : wo.cell? ⟨g, 9, none⟩ = some (.int .i64 (M0.length : Nat)) := hblk.cell 9
      have f9 := hblk.frozen 9
      have hx9 : Ext (· = g) wo (wo.setCell ⟨g, 9, none⟩ (.int .i64 ((M0.length : Int) + (p.length : Int)))) := Ext.set1 _ _ _ _
      have hblk9 := hblk.set 9 (.int .i64 ((M0.length : Int) + (p.length : Int)))
      rw [hcells_set9] at hblk9
      have hleft9 := hleft.ext_g hblk hx9
      have hBu9 := hBu.ext_g hblk hx9
      have hP2 := PAt.two hleft9 hBu9
      rw [size_set] at hP2
      have hll : (left M0).length ≤ M0.length := by unfold left; rw [List.length_drop]; omega
      have hcc := concat_any [left M0, p] (by simp; omega) _ _ hP2
      have hcc' := Lib.hid hcc
      have hblk9' := Lib.hid hblk9
      have hx1' := Lib.hid hx1
      have hx9' := Lib.hid hx9
      clear hcc hP2 hleft9 hBu9 hblk9 hx9 hBu hleft hblk hMe hpe hM0 hll hx1
      go_wp2_with (go_at_call 35; ((with_reducible refine hcc'.out.mono ?_); rintro e w5 ⟨v1, rfl, hO5, hb5⟩))
      have hsz5 : wo.heap.size + 1 ≤ w5.heap.size := by have := hb5.size; simp at this; omega
      have hgo : g < wo.heap.size := by have := hblk9'.out.lt; simpa using this
      have hblk5 : Blk w5 g 63 (hcells (st K s M0).l (.slice A0 (left M0).length c0) (.int .i64 ((M0.length : Int) + (p.length : Int))) (.int .i64 (size : Nat))) := (hblk9'.out.alloc _).below hb5 (by simp; omega)
      have hx5 : Ext (· = g) w w5 := (hx1'.out.trans (hx9'.out.alloc _)).trans (Ext.of_below hb5)
      have hloc5 : Loc w.heap.size v1 := hO5.loc.mono (by simp; omega)
      have hB5 := hO5.bat
      have hfl2 : [left M0, p].flatten = left M0 ++ p := by simp
      rw [hfl2] at hB5 hO5
      obtain ⟨A5, c5, rfl⟩ := hO5.slice
      obtain ⟨M, hM⟩ : ∃ M, M = M0 ++ p := ⟨_, rfl⟩
      have hla : left M0 ++ p = M.drop (128 * (M0.length / 128)) := by rw [hM]; exact left_append M0 p
      have hst : st K s M0 = runN K s M (M0.length / 128) := by rw [hM, runN_append _ _ _ _ _ (by omega)]; rfl
      have hMlen : M.length = M0.length + p.length := by rw [hM, List.length_append]
      have hNi : ((M0.length : Int) + (p.length : Int)) = ((M.length : Nat) : Int) := by rw [hMlen]; simp
      rw [hst, hNi] at hblk5
      rw [hla] at hB5 hO5 ⊢
      rw [hNi]
      have hq : 128 * (M0.length / 128) ≤ M.length := by omega
      have hM63 : M.length ≤ 100000000 := by omega
      rw [← hM] at hMe'
      have hblk5' := Lib.hid hblk5
      have hx5' := Lib.hid hx5
      have hloc5' := Lib.hid hloc5
      have hB5' := Lib.hid hB5
      have hM' := Lib.hid hM
      rw [hla] at hloc5'
      clear hblk5 hx5 hloc5 hB5 hO5 hla hst hMlen hNi hM hfl2 hb5 p8 p9 f9
      go_wp2
      go_loopw [6] (fun a wr => ∃ n L A c, L = M.drop (128 * n) ∧ 128 * n ≤ M.length ∧ a = .slice A L.length c ∧ BAt wr a L ∧ Loc w.heap.size a ∧ Blk wr g 63 (hcells (runN K s M n).l (.slice A0 (left M0).length c0) (.int .i64 (M.length : Nat)) (.int .i64 (size : Nat))) ∧ Ext (· = g) w wr) (fun a _ => slen a)
      case atStart => exact ⟨M0.length / 128, _, A5, c5, rfl, hq, rfl, hB5'.out, hloc5'.out, hblk5'.out, hx5'.out⟩
      case round =>
        obtain ⟨n, L, A6, c6, hL, hn, rfl, hB6, hloc6, hblk6, hx6⟩ := hrel
        have hc6 : L.length ≤ c6 := by obtain ⟨_, _, e⟩ := hB6.slice; injection e.1 with _ _ e3; rw [e3]; exact e.2
        have hLlen : L.length = M.length - 128 * n := by rw [hL, List.length_drop]
        have hL' := Lib.hid hL
        have hB6' := Lib.hid hB6
        have hloc6' := Lib.hid hloc6
        have hblk6' := Lib.hid hblk6
        have hx6' := Lib.hid hx6
        have hgr := hblk6.lt
        have hszr : w.heap.size ≤ wr.heap.size := hx6.size
        have hn1 : 128 ≤ L.length → 128 * (n + 1) ≤ M.length := by omega
        have hn2 : ¬ 128 ≤ L.length → n = M.length / 128 := by omega
        have hn1' := Lib.hid hn1
        have hn2' := Lib.hid hn2
        have hLlen' := Lib.hid hLlen
        clear hL hB6 hloc6 hblk6 hx6 hLlen hn1 hn2
        by_cases h128 : 128 ≤ L.length
        · have hge : decide ((128 : Int) ≤ (L.length : Int)) = true := decide_eq_true (by omega)
          have hbk := Lib.hid (fun (wx : World) (h1 : BAt wx (.slice A6 128 c6) (L.take 128)) (h2 : Glob wx 2 K) (h3 : Blk wx g 63 (hcells (runN K s M n).l (.slice A0 (left M0).length c0) (.int .i64 (M.length : Nat)) (.int .i64 (size : Nat)))) => block_any K hKl (runN K s M n) _ _ _ (L.take 128) (by rw [List.length_take]; omega) (.slice A6 128 c6) g wx h1 h2 h3)
          have hsome : ∃ a6, A6 = some a6 := by
            obtain ⟨A', c', e, _, hC⟩ := hB6'.out
            obtain ⟨a6, h6, _⟩ := C_addr hC (by omega)
            injection e with e1
            exact ⟨a6, e1.trans h6⟩
          obtain ⟨a6, rfl⟩ := hsome
          go_wp2_with fail
          refine' wp_region_og_lit 5 [none, none, none, none, none, some false] [.is _, .is _, .is _, .is _, .is _, .is _]
            (fun c wx => Ext (· = g) w wx ∧ Blk wx g 63 (hcells (runN K s M (if c then n + 1 else n)).l (.slice A0 (left M0).length c0) (.int .i64 (M.length : Nat)) (.int .i64 (size : Nat))) ∧ BAt wx (.slice (some a6) L.length c6) L) (fun u u' => True) (by kernel_rfl) (by kernel_rfl) ?h0a ?hwa
          case h0a => exact ⟨hx6'.out.drew, hblk6'.out.drew, hB6'.out.drew⟩
          case hwa =>
            iterate 1 (
              apply walk_is
              · rfl
              · rfl
              · intro c hc wx hS hE Kq hKq
                have hS' := Aside0.mk hS
                obtain ⟨sx, sb, sB⟩ := hS
                clear hE hc
                clear sx sb sB
                cases c
                all_goals
                 go_wp2_with ((go_at_call 36; ((with_reducible refine hcall'.out.mono ?_); rintro e w7 ⟨rfl, hb7, hx7⟩)))
                 exact Told.mk (by first | (simp only [Act.put, List.setIfInBounds_toArray, List.set_cons_succ, List.set_cons_zero]; done) | (simp only [Act.put, List.setIfInBounds_toArray, List.set_cons_succ, List.set_cons_zero]; rfl)) (by first | exact hS'.out | exact ⟨hS'.out.1.trans hx7, by have hb7 := hb7; rw [hL'.out] at hb7; exact hb7, hS'.out.2.2.ext_g sb'.out hx7⟩) (by first | exact trivial)
              simp only [Act.put, List.setIfInBounds_toArray, List.set_cons_succ, List.set_cons_zero])
            iterate 1 (
              apply walk_is
              · rfl
              · rfl
              · intro c hc wx hS hE Kq hKq
                have hS' := Aside0.mk hS
                obtain ⟨sx, sb, sB⟩ := hS
                clear hE hc
                clear sx sb sB
                cases c
                all_goals
                 go_wp2_with ((go_at_call 36; ((with_reducible refine hcall'.out.mono ?_); rintro e w7 ⟨rfl, hb7, hx7⟩)))
                 exact Told.mk (by first | (simp only [Act.put, List.setIfInBounds_toArray, List.set_cons_succ, List.set_cons_zero]; done) | (simp only [Act.put, List.setIfInBounds_toArray, List.set_cons_succ, List.set_cons_zero]; rfl)) (by first | exact hS'.out | exact ⟨hS'.out.1.trans hx7, by have hb7 := hb7; rw [hL'.out] at hb7; exact hb7, hS'.out.2.2.ext_g sb'.out hx7⟩) (by first | exact trivial)
              simp only [Act.put, List.setIfInBounds_toArray, List.set_cons_succ, List.set_cons_zero])
            iterate 1 (
              apply walk_is
              · rfl
              · rfl
              · intro c hc wx hS hE Kq hKq
                have hS' := Aside0.mk hS
                obtain ⟨sx, sb, sB⟩ := hS
                clear hE hc
                clear sx sb sB
                cases c
                all_goals
                 go_wp2_with ((go_at_call 36; ((with_reducible refine hcall'.out.mono ?_); rintro e w7 ⟨rfl, hb7, hx7⟩)))
                 exact Told.mk (by first | (simp only [Act.put, List.setIfInBounds_toArray, List.set_cons_succ, List.set_cons_zero]; done) | (simp only [Act.put, List.setIfInBounds_toArray, List.set_cons_succ, List.set_cons_zero]; rfl)) (by first | exact hS'.out | exact ⟨hS'.out.1.trans hx7, by have hb7 := hb7; rw [hL'.out] at hb7; exact hb7, hS'.out.2.2.ext_g sb'.out hx7⟩) (by first | exact trivial)
              simp only [Act.put, List.setIfInBounds_toArray, List.set_cons_succ, List.set_cons_zero])
            iterate 1 (
              apply walk_is
              · rfl
              · rfl
              · intro c hc wx hS hE Kq hKq
                have hS' := Aside0.mk hS
                obtain ⟨sx, sb, sB⟩ := hS
                clear hE hc
                clear sx sb sB
                cases c
                all_goals
                 go_wp2_with ((go_at_call 36; ((with_reducible refine hcall'.out.mono ?_); rintro e w7 ⟨rfl, hb7, hx7⟩)))
                 exact Told.mk (by first | (simp only [Act.put, List.setIfInBounds_toArray, List.set_cons_succ, List.set_cons_zero]; done) | (simp only [Act.put, List.setIfInBounds_toArray, List.set_cons_succ, List.set_cons_zero]; rfl)) (by first | exact hS'.out | exact ⟨hS'.out.1.trans hx7, by have hb7 := hb7; rw [hL'.out] at hb7; exact hb7, hS'.out.2.2.ext_g sb'.out hx7⟩) (by first | exact trivial)
              simp only [Act.put, List.setIfInBounds_toArray, List.set_cons_succ, List.set_cons_zero])
            iterate 1 (
              apply walk_is
              · rfl
              · rfl
              · intro c hc wx hS hE Kq hKq
                have hS' := Aside0.mk hS
                obtain ⟨sx, sb, sB⟩ := hS
                clear hE hc
                clear sx sb sB
                cases c
                all_goals
                 go_wp2_with ((go_at_call 36; ((with_reducible refine hcall'.out.mono ?_); rintro e w7 ⟨rfl, hb7, hx7⟩)))
                 exact Told.mk (by first | (simp only [Act.put, List.setIfInBounds_toArray, List.set_cons_succ, List.set_cons_zero]; done) | (simp only [Act.put, List.setIfInBounds_toArray, List.set_cons_succ, List.set_cons_zero]; rfl)) (by first | exact hS'.out | exact ⟨hS'.out.1.trans hx7, by have hb7 := hb7; rw [hL'.out] at hb7; exact hb7, hS'.out.2.2.ext_g sb'.out hx7⟩) (by first | exact trivial)
              simp only [Act.put, List.setIfInBounds_toArray, List.set_cons_succ, List.set_cons_zero])
            iterate 1 (
              apply walk_is
              · rfl
              · rfl
              · intro c hc wx hS hE Kq hKq
                have hS' := Aside0.mk hS
                obtain ⟨sx, sb, sB⟩ := hS
                clear hE; (first | (obtain rfl := hc _ rfl) | cases c)
                have sb : Blk wx g 63 (hcells (runN K s M n).l (.slice A0 (left M0).length c0) (.int .i64 (M.length : Nat)) (.int .i64 (size : Nat))) := sb
                have hcall := hbk.out wx (C_take1 sB h128) (Glob.ext hK'.out sx (fun e => hg2 e.symm)) sb
                have hcall' := Lib.hid hcall
                have sb' := Lib.hid sb
                clear sx sb sB hcall
                all_goals
                 go_wp2_with ((go_at_call 36; ((with_reducible refine hcall'.out.mono ?_); rintro e w7 ⟨rfl, hb7, hx7⟩)))
                 exact Told.mk (by first | (simp only [Act.put, List.setIfInBounds_toArray, List.set_cons_succ, List.set_cons_zero]; done) | (simp only [Act.put, List.setIfInBounds_toArray, List.set_cons_succ, List.set_cons_zero]; rfl)) (by first | exact hS'.out | exact ⟨hS'.out.1.trans hx7, by have hb7 := hb7; rw [hL'.out] at hb7; exact hb7, hS'.out.2.2.ext_g sb'.out hx7⟩) (by first | exact trivial)
              simp only [Act.put, List.setIfInBounds_toArray, List.set_cons_succ, List.set_cons_zero])
            refine walk_end ?_
            intro wa hSa hEa
            have hSa2 : Ext (· = g) w wa ∧ Blk wa g 63 (hcells (runN K s M (n + 1)).l (.slice A0 (left M0).length c0) (.int .i64 (M.length : Nat)) (.int .i64 (size : Nat))) ∧ BAt wa (.slice (some a6) L.length c6) L := hSa
            have hSa' := Lib.hid hSa2
            clear hSa hSa2 hEa hx6' hblk6' hB6' hge
            have hdr := C_drop1 hSa'.out.2.2 h128
            have hdr' := Lib.hid hdr
            clear hdr
            by_cases hck : c6 = 128
            · subst hck
              go_wp2
              refine ⟨⟨n + 1, L.drop 128, _, _, by rw [hL'.out, take_drop], hn1'.out h128, by rw [List.length_drop, show L.length - 128 = 0 by omega], ?_, hloc6'.out.sub rfl, hSa'.out.2.1, hSa'.out.1⟩, by simp [slen]; omega⟩
              have := hdr'.out
              rw [if_pos rfl, show L.length - 128 = 0 by omega] at this
              exact this
            · go_wp2
              refine ⟨⟨n + 1, L.drop 128, _, _, by rw [hL'.out, take_drop], hn1'.out h128, by rw [List.length_drop], ?_, (show Loc _ (.slice (some (a6.add 128)) _ _) from hloc6'.out.add), hSa'.out.2.1, hSa'.out.1⟩, by simp [slen]; omega⟩
              have := hdr'.out
              rw [if_neg hck] at this
              exact this
        · have hge : decide ((128 : Int) ≤ (L.length : Int)) = false := decide_eq_false (by omega)
          have p8r : wr.cell? ⟨g, 8, none⟩ = some (.slice A0 (left M0).length c0) := hblk6'.out.cell 8
          have f8 := hblk6'.out.frozen 8
          have hs8 := hblk6'.out.set 8 (.slice A6 L.length c6)
          rw [hcells_set8] at hs8
          have hs8' := Lib.hid hs8
          clear hs8
          go_wp2
          refine ⟨⟨k + 1, by omega, by simp, ?_, hx6'.out.trans (Ext.set1 _ _ _ _)⟩, by simp [intOf]; omega⟩
          have hnn := hn2'.out h128
          rw [hMe'.out]
          have hbb := hB6'.out.ext_g hblk6'.out (Ext.set1 g 8 wr (.slice A6 L.length c6))
          have hLL : L = left M := by rw [hL'.out, hnn]; rfl
          have hrr : runN K s M n = st K s M := by rw [hnn]; rfl
          have hs9 := hs8'.out
          have hlo := hloc6'.out
          rw [hrr] at hs9
          rw [hLL] at hs9 hbb hlo ⊢
          exact ⟨A6, c6, hs9, hbb, hlo⟩
    · obtain rfl : k = ps.length := by omega
      have hH1' := Lib.hid hH1
      have hx1' := Lib.hid hx1
      clear hH1 hx1
      go_wp2
      go_end0
      refine ⟨rfl, ?_, hx1'.out⟩
      have := hH1'.out
      rw [List.take_length] at this
      exact this
end Go.Proofs.YtnaiifidcpdamaaDoor
