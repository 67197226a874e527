/-
  The document's sums of 64 and of 48 bytes; bytes as a string; make.
-/
import Derived.Test.YtnaiifidcpdamaaDoorKt
import Derived.Laws.MakeOwn
set_option linter.unusedVariables false
set_option linter.unusedSimpArgs false
namespace Go.Proofs.YtnaiifidcpdamaaDoor
open Go.RowKit Go.Og Go.Ub Go.Proofs.YtnaiifidcpdamaaDoorW.PrintWords
theorem s8_glob (s : S8) {w : World} {g : Nat} (h : Glob w g s.l) : w.cell? ⟨g, 0, none⟩ = some (.int .u64 (wi s.a)) ∧ w.cell? ⟨g, 1, none⟩ = some (.int .u64 (wi s.b)) ∧ w.cell? ⟨g, 2, none⟩ = some (.int .u64 (wi s.c)) ∧ w.cell? ⟨g, 3, none⟩ = some (.int .u64 (wi s.d)) ∧
    w.cell? ⟨g, 4, none⟩ = some (.int .u64 (wi s.e)) ∧ w.cell? ⟨g, 5, none⟩ = some (.int .u64 (wi s.f)) ∧ w.cell? ⟨g, 6, none⟩ = some (.int .u64 (wi s.g)) ∧ w.cell? ⟨g, 7, none⟩ = some (.int .u64 (wi s.h)) :=
  ⟨h.cell 0 (by decide : 0 < 8), h.cell 1 (by decide : 1 < 8), h.cell 2 (by decide : 2 < 8), h.cell 3 (by decide : 3 < 8), h.cell 4 (by decide : 4 < 8), h.cell 5 (by decide : 5 < 8), h.cell 6 (by decide : 6 < 8), h.cell 7 (by decide : 7 < 8)⟩
set_option maxRecDepth 100000 in
set_option maxHeartbeats 4000000 in
theorem long_any (K : List UInt64) (hKl : K.length = 80) (s : S8) (b : List UInt8) (hbl : b.length ≤ 99000000) (v : Value) (w : World) (hv : BAt w v b) (hK : Glob w 2 K) (hS : Glob w 0 s.l) :
    Calls Tryd.prog 21 #[v] w fun e w' => ∃ v, e = .returned v ∧ BAt w' v ((sha K s b).take 64) ∧ Below w.heap.size w w' := by
  obtain ⟨p0, p1, p2, p3, p4, p5, p6, p7⟩ := s8_glob s hS
  have hr := Aside0.mk (refsum_any K hKl s 64 (by decide) b hbl v w hv hK)
  clear hv hK hS
  go_enter Tryd.func21, Tryd.ntmps21
  go_wp2_with (go_at_call 40; (refine hr.out.mono ?_; rintro e w1 ⟨v1, rfl, hB, hb⟩; have hB' := Aside0.mk hB; have hb' := Aside0.mk hb; clear hB hb))
  go_ret
  exact ⟨_, rfl, hB'.out, hb'.out⟩
set_option maxRecDepth 100000 in
set_option maxHeartbeats 4000000 in
theorem short_any (K : List UInt64) (hKl : K.length = 80) (s : S8) (b : List UInt8) (hbl : b.length ≤ 99000000) (v : Value) (w : World) (hv : BAt w v b) (hK : Glob w 2 K) (hS : Glob w 1 s.l) :
    Calls Tryd.prog 22 #[v] w fun e w' => ∃ v, e = .returned v ∧ BAt w' v ((sha K s b).take 48) ∧ Below w.heap.size w w' := by
  obtain ⟨p0, p1, p2, p3, p4, p5, p6, p7⟩ := s8_glob s hS
  have hr := Aside0.mk (refsum_any K hKl s 48 (by decide) b hbl v w hv hK)
  clear hv hK hS
  go_enter Tryd.func22, Tryd.ntmps22
  go_wp2_with (go_at_call 40; (refine hr.out.mono ?_; rintro e w1 ⟨v1, rfl, hB, hb⟩; have hB' := Aside0.mk hB; have hb' := Aside0.mk hb; clear hB hb))
  go_ret
  exact ⟨_, rfl, hB'.out, hb'.out⟩
/-- Bytes as a string. -/
def bstr (l : List UInt8) : ByteArray := ⟨l.toArray⟩
theorem bstr_inj (l m : List UInt8) : bstr l = bstr m ↔ l = m := by
  unfold bstr
  constructor
  · intro h
    injection h with h
    simpa using h
  · rintro rfl; rfl
theorem fold_push (l : List UInt8) : ∀ acc : List UInt8, (l.map bi).foldl (fun r n => r.push (UInt8.ofNat n.toNat)) (bstr acc) = bstr (acc ++ l) := by
  induction l with
  | nil => intro acc; simp
  | cons a l ih =>
    intro acc
    simp only [List.map_cons, List.foldl_cons]
    have : (bstr acc).push (UInt8.ofNat (bi a).toNat) = bstr (acc ++ [a]) := by
      unfold bstr bi
      simp [ByteArray.push]
    rw [this, ih]
    simp
theorem conv_run {w : World} {v : Value} {l : List UInt8} (h : BAt w v l) : (convert 27 9 v).run Tryd.prog w = .ok (.string (bstr l)) w := by
  obtain ⟨A, c, rfl, hc, hC⟩ := h
  rw [run_convert_bytes_string w 27 9 5 A l.length c Tryd.underlying27 Tryd.underlying5 Tryd.underlying9]
  have e0 : ByteArray.empty = bstr [] := rfl
  rcases A with _ | ad
  · have h0 : l.length = 0 := by
      rcases Nat.eq_zero_or_pos l.length with h | h
      · exact h
      · obtain ⟨ad, h1, _⟩ := C_addr hC h
        cases h1
    obtain rfl : l = [] := List.eq_nil_of_length_eq_zero h0
    rfl
  · have hl : (loadCells ad l.length).run Tryd.prog w = .ok ((l.map bi).map (Value.int .u8)).toArray w := by
      have := run_loadCells_list (P := Tryd.prog) w ad (bcs l) (fun j u hu => by
        have hj : j < l.length := by have := (List.getElem?_eq_some_iff.1 hu).1; rwa [bcs_length] at this
        obtain ⟨ad', e, hcell⟩ := C_addr hC (by omega)
        injection e with e
        subst e
        rw [hcell j hj, ← hu, bcs_get l j hj])
      rw [bcs_length] at this
      rw [this]
      simp [bcs]
    rw [run_bytesToString w ad l.length c (l.map bi) hl, e0, fold_push]
    simp
theorem make_run (n : Nat) (hn : n ≤ 1000000000) (w : World) : (Instr.makeSlice 27 (.int .i64 (n : Int)) (.int .i64 (n : Int))).run Tryd.prog w = .ok (.slice (some ⟨w.heap.size, 0, none⟩) n n) (w.alloc (.cells (zb n) 5)) := by
  obtain ⟨i, hi, hz, hsz, hy⟩ := info_parts info5
  have hr := run_make (P := Tryd.prog) w 27 5 i _ Tryd.underlying27 hi hz .i64 .i64 (n : Int) (n : Int) (by omega) (by omega) (by rw [hy]; omega) (by omega)
  have hc : madeCells (Value.int .u8 0).cells (n * i.size) = zb n := by
    rw [hsz, Nat.mul_one]
    unfold zb madeCells
    apply Array.ext'
    simp [bcs, Value.cells]
    refine List.eq_replicate_iff.2 ⟨by simp, fun b hb => ?_⟩
    simp at hb
    obtain ⟨i, _, rfl⟩ := hb
    rw [Nat.mod_one]
    rfl
  simp only [Int.toNat_natCast] at hr
  rw [hc] at hr
  exact hr
theorem make_bat (n : Nat) (hn : n ≤ 1000000000) (w : World) : BAt (w.alloc (.cells (zb n) 5)) (.slice (some ⟨w.heap.size, 0, none⟩) n n) (List.replicate n 0) := by
  have := BAt.new w (List.replicate n 0) (by simp; omega)
  rw [List.length_replicate] at this
  exact this
end Go.Proofs.YtnaiifidcpdamaaDoor
