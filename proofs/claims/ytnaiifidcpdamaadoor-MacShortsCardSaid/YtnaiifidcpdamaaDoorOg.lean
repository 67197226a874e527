/-
  A law of my own on regions that draw their order: each operation is shown once, from the facts that its own predecessors left; whatever order is drawn, the region ends in a frame and a world of which all facts hold. Conditions: a check over the region's text, met by the kernel.
-/
import Derived.Below
import Derived.StillTail
import Derived.WalkKit
import Derived.KernelRfl
set_option linter.unusedVariables false
set_option linter.unusedSimpArgs false
namespace Go.Og
open Go.RowKit

/-- The edges whose facts an operation may lean on: what it reads, and what guards it. -/
def leans (e : Edge) : Bool := match e.ground with
  | .data => true
  | .guard => true
  | _ => false
def fpreds (o : Oper) : List Nat := (o.after.toList.filter leans).map (·.on)
def dstOf (ops : Array Oper) (j : Nat) : Option Tmp := (ops[j]?).bind (·.dst)

/-- What is known of an operation's value: which it is, or what holds of it. -/
inductive Fact where
  | is (c : Value)
  | such (R : Value → World → Prop)
def Fact.holds : Fact → Value → World → Prop
  | .is c, v, _ => v = c
  | .such R, v, w => R v w
def Fact.stable (Rel : World → World → Prop) : Fact → Prop
  | .is _ => True
  | .such R => ∀ v w w', R v w → Rel w w' → R v w'
theorem Fact.stable_use {Rel : World → World → Prop} {f : Fact} (h : f.stable Rel) {v : Value} {w w' : World} (hv : f.holds v w) (hr : Rel w w') : f.holds v w' := by
  cases f with
  | is c => exact hv
  | such R => exact h v w w' hv hr
def factAt (F : List Fact) (i : Nat) : Fact := F.getD i (.such fun _ _ => True)

def noExit : Exit → Act → World → Prop := fun _ _ _ => False

/-- The facts of those values that are not told: an operation may lean on its predecessors' alone. -/
def leansOn (env : List (Nat × (World → Prop))) (ps : List Nat) (w : World) : Prop := ∀ e ∈ env, e.1 ∈ ps → e.2 w

/-- What one operation must do. -/
def does (P : Program) (ops : Array Oper) (f : Fact) (Rel : World → World → Prop) (S' : World → Prop) (o : Oper) (w : World) (a : Act) : Prop :=
  if Region.wanted o (yielded ops a.tmps) then
    ∀ K : Act → World → Prop, (∀ a' w', (∃ v, a' = a.put o.dst v ∧ S' w' ∧ Rel w w' ∧ f.holds v w') → K a' w') → o.wp P a w K noExit
  else S' w ∧ Rel w w ∧ f.holds undef w

/-- The operations in the text's order, each with the frame that those ahead of it leave. -/
def walk (P : Program) (ops : Array Oper) (t : Nat) (m : List (Option Bool)) (F : List Fact) (S : Bool → World → Prop) (Rel : World → World → Prop) (fin : List (Nat × (World → Prop)) → Act → Prop) :
    Nat → List (Nat × (World → Prop)) → Act → List Oper → Prop
  | _, env, a, [] => fin env a
  | i, env, a, o :: rest =>
    (factAt F i).stable Rel ∧
    (∀ b, (∀ c, m.getD i none = some c → b = c) → ∀ w, S b w → leansOn env (fpreds o) w → does P ops (factAt F i) Rel (S (b || i == t)) o w a) ∧
    match factAt F i with
    | .is c => walk P ops t m F S Rel fin (i + 1) env (a.put o.dst c) rest
    | .such R => ∀ v, walk P ops t m F S Rel fin (i + 1) (env ++ [(i, R v)]) (a.put o.dst v) rest

/-- The check over the region's text. -/
def readsOf (ops : Array Oper) (o : Oper) : List Tmp := o.looksAt ops
def okPair (ops : Array Oper) (i : Nat) (o : Oper) (j : Nat) (p : Oper) : Bool :=
  i == j ||
  ((match p.dst with
    | some d => !(readsOf ops o).contains d || (fpreds o).contains j || (Region.waitsFor .any ops j i && decide (i < j))
    | none => true) &&
   (match o.dst with
    | some d => p.dst != some d
    | none => true))
def okMode (ops : Array Oper) (t : Nat) (m : List (Option Bool)) (i : Nat) : Bool :=
  match m.getD i none with
  | none => i != t
  | some false => i == t || Region.waitsFor .any ops t i
  | some true => Region.waitsFor .any ops i t
def ogB (ops : Array Oper) (t : Nat) (m : List (Option Bool)) : Bool :=
  Region.noSelect ops &&
  (List.range ops.size).all (fun i => okMode ops t m i && match ops[i]? with
    | some o => (o.after.all fun e => (!leans e || Region.binds .any e) && (!Region.binds .any e || decide (e.on < i))) && (List.range ops.size).all fun j => match ops[j]? with
      | some p => okPair ops i o j p
      | none => true
    | none => true)

/-- The frame holds the listed operations' values, and else what it held. -/
structure Agree (ops : Array Oper) (a0 : Act) (L : Nat → Prop) (u : Nat → Value) (a : Act) : Prop where
  defers : a.defers = a0.defers
  size : a.tmps.size = a0.tmps.size
  new : ∀ j d, L j → dstOf ops j = some d → d < a0.tmps.size → a.tmps[d]? = some (u j)
  old : ∀ s, (∀ j, L j → dstOf ops j ≠ some s) → a.tmps[s]? = a0.tmps[s]?

theorem Agree.nil (ops : Array Oper) (a0 : Act) (u : Nat → Value) : Agree ops a0 (fun _ => False) u a0 :=
  ⟨rfl, rfl, fun _ _ h => h.elim, fun _ _ => rfl⟩

theorem put_slot (a : Act) (d : Nat) (v : Value) (s : Nat) : (a.put (some d) v).tmps[s]? = if d = s then (if d < a.tmps.size then some v else none) else a.tmps[s]? := by
  simp only [Act.put, Array.getElem?_setIfInBounds]

theorem Agree.put {ops : Array Oper} {a0 a : Act} {L : Nat → Prop} {u u' : Nat → Value} (h : Agree ops a0 L u a) (i : Nat) (v : Value)
    (huniq : ∀ j d, L j → dstOf ops j = some d → dstOf ops i = some d → j = i) (hu : ∀ j, L j → j ≠ i → u' j = u j) (hi : u' i = v) :
    Agree ops a0 (fun j => L j ∨ j = i) u' (a.put (dstOf ops i) v) := by
  cases hd : dstOf ops i with
  | none =>
    refine ⟨h.defers, h.size, ?_, ?_⟩
    · rintro j d (hj | rfl) hjd hlt
      · by_cases hji : j = i
        · subst hji; rw [hd] at hjd; cases hjd
        · rw [hu j hj hji]; exact h.new j d hj hjd hlt
      · rw [hd] at hjd; cases hjd
    · intro s hs
      exact h.old s fun j hj => hs j (.inl hj)
  | some d =>
    refine ⟨h.defers, by simp [Act.put, h.size], ?_, ?_⟩
    · rintro j e hj hje hlt
      rw [put_slot]
      by_cases hde : d = e
      · subst hde
        have hji : j = i := by
          rcases hj with hj | rfl
          · exact huniq j d hj hje hd
          · rfl
        subst hji
        rw [if_pos rfl, if_pos (by rw [h.size]; exact hlt), hi]
      · rw [if_neg hde]
        rcases hj with hj | rfl
        · have hji : j ≠ i := by rintro rfl; rw [hd] at hje; injection hje with hje; exact hde hje
          rw [hu j hj hji]; exact h.new j e hj hje hlt
        · rw [hd] at hje; injection hje with hje; exact (hde hje).elim
    · intro s hs
      have hds : d ≠ s := by rintro rfl; exact hs i (.inr rfl) hd
      rw [put_slot, if_neg hds]
      exact h.old s fun j hj => hs j (.inl hj)

theorem okPair_of {ops : Array Oper} {t : Nat} {m : List (Option Bool)} (hB : ogB ops t m = true) {i j : Nat} {o p : Oper} (hi : ops[i]? = some o) (hj : ops[j]? = some p) : okPair ops i o j p = true := by
  simp only [ogB, Bool.and_eq_true, List.all_eq_true, List.mem_range] at hB
  have hil : i < ops.size := (Array.getElem?_eq_some_iff.1 hi).1
  have hjl : j < ops.size := (Array.getElem?_eq_some_iff.1 hj).1
  have h1 := (hB.2 i hil).2
  rw [hi] at h1
  simp only [Bool.and_eq_true, List.all_eq_true, List.mem_range] at h1
  have h2 := h1.2 j hjl
  rw [hj] at h2
  exact h2

theorem okMode_of {ops : Array Oper} {t : Nat} {m : List (Option Bool)} (hB : ogB ops t m = true) {i : Nat} {o : Oper} (hi : ops[i]? = some o) : okMode ops t m i = true := by
  simp only [ogB, Bool.and_eq_true, List.all_eq_true, List.mem_range] at hB
  exact (hB.2 i (Array.getElem?_eq_some_iff.1 hi).1).1

theorem edges_of {ops : Array Oper} {t : Nat} {m : List (Option Bool)} (hB : ogB ops t m = true) {i : Nat} {o : Oper} (hi : ops[i]? = some o) : ∀ e ∈ o.after, (leans e = true → Region.binds .any e = true) ∧ (Region.binds .any e = true → e.on < i) := by
  simp only [ogB, Bool.and_eq_true, List.all_eq_true, List.mem_range] at hB
  have h1 := (hB.2 i (Array.getElem?_eq_some_iff.1 hi).1).2
  rw [hi] at h1
  simp only [Bool.and_eq_true] at h1
  intro e he
  have h2 := Array.all_eq_true'.1 h1.1 e he
  simp only [Bool.and_eq_true, Bool.or_eq_true, Bool.not_eq_true', decide_eq_true_eq] at h2
  exact ⟨fun h => h2.1.resolve_left (by rw [h]; exact Bool.noConfusion), fun h => h2.2.resolve_left (by rw [h]; exact Bool.noConfusion)⟩
theorem leans_binds {ops : Array Oper} {t : Nat} {m : List (Option Bool)} (hB : ogB ops t m = true) {i : Nat} {o : Oper} (hi : ops[i]? = some o) : ∀ e ∈ o.after, leans e = true → Region.binds .any e = true :=
  fun e he => (edges_of hB hi e he).1
theorem earlier_of {ops : Array Oper} {t : Nat} {m : List (Option Bool)} (hB : ogB ops t m = true) {i : Nat} {o : Oper} (hi : ops[i]? = some o) : ∀ e ∈ o.after, Region.binds .any e = true → e.on < i :=
  fun e he => (edges_of hB hi e he).2
theorem early_of {ops : Array Oper} {t : Nat} {m : List (Option Bool)} (hB : ogB ops t m = true) {i : Nat} {o : Oper} (hi : ops[i]? = some o) : ∀ j ∈ fpreds o, j < i := by
  intro j hj
  simp only [fpreds, List.mem_map, List.mem_filter] at hj
  obtain ⟨e, ⟨he, hle⟩, rfl⟩ := hj
  exact earlier_of hB hi e (by simpa using he) (leans_binds hB hi e (by simpa using he) hle)

theorem uniq_of {ops : Array Oper} {t : Nat} {m : List (Option Bool)} (hB : ogB ops t m = true) : ∀ j j' d, dstOf ops j = some d → dstOf ops j' = some d → j = j' := by
  intro j j' d h h'
  unfold dstOf at h h'
  cases ho : ops[j]? with
  | none => rw [ho] at h; cases h
  | some o =>
    cases ho' : ops[j']? with
    | none => rw [ho'] at h'; cases h'
    | some o' =>
      rw [ho] at h; rw [ho'] at h'
      simp only [Option.bind_some] at h h'
      have := okPair_of hB ho ho'
      simp only [okPair, Bool.or_eq_true, Bool.and_eq_true, beq_iff_eq] at this
      rcases this with this | ⟨_, this⟩
      · exact this
      · rw [h] at this
        simp [h'] at this

theorem agree_eval {ops : Array Oper} {a0 a a' : Act} {L L' : Nat → Prop} {u : Nat → Value} (h : Agree ops a0 L u a) (h' : Agree ops a0 L' u a') (s : Nat)
    (hs : ∀ j, dstOf ops j = some s → (L j ↔ L' j)) : a.tmps[s]? = a'.tmps[s]? := by
  by_cases hex : ∃ j, L j ∧ dstOf ops j = some s
  · obtain ⟨j, hj, hd⟩ := hex
    have hj' := (hs j hd).1 hj
    by_cases hlt : s < a0.tmps.size
    · rw [h.new j s hj hd hlt, h'.new j s hj' hd hlt]
    · rw [Array.getElem?_eq_none (by rw [h.size]; omega), Array.getElem?_eq_none (by rw [h'.size]; omega)]
  · rw [h.old s fun j hj hd => hex ⟨j, hj, hd⟩, h'.old s fun j hj hd => hex ⟨j, (hs j hd).2 hj, hd⟩]

theorem wanted_congr {ops : Array Oper} (o : Oper) {a a' : Act} (h : ∀ d ∈ o.looksAt ops, a.tmps[d]? = a'.tmps[d]?) :
    Region.wanted o (yielded ops a.tmps) = Region.wanted o (yielded ops a'.tmps) := by
  unfold Region.wanted
  cases hg : o.guard with
  | none => rfl
  | some gw =>
    obtain ⟨g, want⟩ := gw
    have hy : yielded ops a.tmps g = yielded ops a'.tmps g := by
      unfold yielded
      cases ht : (ops[g]?).bind (·.dst) with
      | none => rfl
      | some d =>
        have := h d (by simp [Oper.looksAt, hg, ht])
        simp only [Option.bind_some, this]
    simp only [hy]

theorem exec_congr {ops : Array Oper} (o : Oper) (hs : ∀ cs b, o.op ≠ .select cs b) {a a' : Act} (h : ∀ d ∈ o.looksAt ops, a.tmps[d]? = a'.tmps[d]?) :
    execOp a.eval o = execOp a'.eval o :=
  execOp_congr o hs fun x hx => by
    cases x with
    | tmp t =>
      have := h t (List.mem_append_left _ (List.mem_filterMap.2 ⟨.tmp t, by simpa using hx, rfl⟩))
      simp only [Act.eval, Array.getD_eq_getD_getElem?, this]
    | _ => rfl

theorem put_eq_transfer {a b : Act} {dst : Option Tmp} {v v0 : Value} (hsz : b.tmps.size = a.tmps.size) (h : a.put dst v0 = a.put dst v) : b.put dst v0 = b.put dst v := by
  cases dst with
  | none => rfl
  | some d =>
    by_cases hlt : d < a.tmps.size
    · have h1 := congrArg (fun x : Act => x.tmps[d]?) h
      simp only [put_slot, if_pos, if_pos hlt] at h1
      injection h1 with h1
      rw [h1]
    · have hle : b.tmps.size ≤ d := by rw [hsz]; exact Nat.le_of_not_lt hlt
      simp only [Act.put]
      rw [Array.setIfInBounds_eq_of_size_le hle, Array.setIfInBounds_eq_of_size_le hle]

theorem Agree.congr {ops : Array Oper} {a0 a : Act} {L L' : Nat → Prop} {u : Nat → Value} (h : Agree ops a0 L u a) (hl : ∀ j, L j ↔ L' j) : Agree ops a0 L' u a :=
  ⟨h.defers, h.size, fun j d hj => h.new j d ((hl j).2 hj), fun s hs => h.old s fun j hj => hs j ((hl j).1 hj)⟩

/-- What the walk shows of operation number k + i. -/
theorem walk_get {P : Program} {ops : Array Oper} {t : Nat} {m : List (Option Bool)} {F : List Fact} {S : Bool → World → Prop} {Rel : World → World → Prop} {fin : List (Nat × (World → Prop)) → Act → Prop} {a0 : Act} {u : Nat → Value}
    (huniq : ∀ j j' d, dstOf ops j = some d → dstOf ops j' = some d → j = j') (hu : ∀ i c, factAt F i = .is c → u i = c) :
    ∀ (l : List Oper) (k : Nat) (env : List (Nat × (World → Prop))) (a : Act), (∀ j, l[j]? = ops[k + j]?) → Agree ops a0 (fun j => j < k) u a →
      (∀ e ∈ env, e.1 < k ∧ ∃ R, factAt F e.1 = .such R ∧ e.2 = R (u e.1)) →
      walk P ops t m F S Rel fin k env a l →
      (∀ i o, l[i]? = some o → (factAt F (k + i)).stable Rel ∧ ∃ env' a', Agree ops a0 (fun j => j < k + i) u a' ∧ (∀ e ∈ env', e.1 < k + i ∧ ∃ R, factAt F e.1 = .such R ∧ e.2 = R (u e.1)) ∧
        ∀ b, (∀ c, m.getD (k + i) none = some c → b = c) → ∀ w, S b w → leansOn env' (fpreds o) w → does P ops (factAt F (k + i)) Rel (S (b || (k + i) == t)) o w a') ∧
      ∃ env' a', Agree ops a0 (fun j => j < k + l.length) u a' ∧ (∀ e ∈ env', e.1 < k + l.length ∧ ∃ R, factAt F e.1 = .such R ∧ e.2 = R (u e.1)) ∧ fin env' a'
  | [], k, env, a, _, hA, hE, h => ⟨fun i o hi => by simp at hi, env, a, by simpa using hA, by simpa using hE, h⟩
  | o :: l, k, env, a, hl, hA, hE, h => by
    obtain ⟨hs, h1, h2⟩ := h
    have h0 : ops[k]? = some o := by simpa using (hl 0).symm
    have hd : o.dst = dstOf ops k := by simp [dstOf, h0]
    have hA' : Agree ops a0 (fun j => j < k + 1) u (a.put o.dst (u k)) := by
      rw [hd]
      refine (hA.put (u' := u) k (u k) (fun j d _ h1 h2 => huniq j k d h1 h2) (fun _ _ _ => rfl) rfl).congr fun j => ?_
      omega
    have hrest : ∃ env1, (∀ e ∈ env1, e.1 < k + 1 ∧ ∃ R, factAt F e.1 = .such R ∧ e.2 = R (u e.1)) ∧ walk P ops t m F S Rel fin (k + 1) env1 (a.put o.dst (u k)) l := by
      cases hf : factAt F k with
      | is c =>
        rw [hf] at h2
        refine ⟨env, fun e he => ⟨by have := (hE e he).1; omega, (hE e he).2⟩, ?_⟩
        rw [hu k c hf]; exact h2
      | such R =>
        rw [hf] at h2
        refine ⟨_, fun e he => ?_, h2 (u k)⟩
        rcases List.mem_append.1 he with he | he
        · exact ⟨by have := (hE e he).1; omega, (hE e he).2⟩
        · simp only [List.mem_singleton] at he
          subst he
          exact ⟨by simp, R, hf, rfl⟩
    obtain ⟨env1, hE1, hw1⟩ := hrest
    have ih := walk_get huniq hu l (k + 1) env1 _ (fun j => by have := hl (j + 1); simpa [Nat.add_assoc, Nat.add_comm 1 j] using this) hA' hE1 hw1
    refine ⟨fun i o' hi => ?_, ?_⟩
    · cases i with
      | zero =>
        simp at hi; subst hi
        exact ⟨hs, env, a, hA, hE, h1⟩
      | succ i =>
        have := ih.1 i o' (by simpa using hi)
        rwa [show k + 1 + i = k + (i + 1) by omega] at this
    · have := ih.2
      rwa [show k + 1 + l.length = k + (o :: l).length by simp; omega] at this

/-- Whatever an operation's wp says over a frame that agrees with ours where it looks holds over ours. -/
theorem wp_transfer {P : Program} {o : Oper} {a b : Act} {w : World} {Post : Value → World → Prop} {K : Act → World → Prop} {Q : Exit → Act → World → Prop}
    (he : execOp b.eval o = execOp a.eval o) (hsz : b.tmps.size = a.tmps.size)
    (h : o.wp P a w (fun a' w' => ∃ v, a' = a.put o.dst v ∧ Post v w') noExit) (hK : ∀ v w', Post v w' → K (b.put o.dst v) w') : o.wp P b w K Q := by
  unfold Oper.wp at *
  rw [he]
  generalize (execOp a.eval o).run P w = r at *
  have fin : ∀ v0 w', (∃ v, a.put o.dst v0 = a.put o.dst v ∧ Post v w') → K (b.put o.dst v0) w' := fun v0 w' ⟨v, h1, h2⟩ => by
    rw [put_eq_transfer hsz h1]; exact hK v w' h2
  cases r with
  | ok n w' =>
    cases n <;> simp only [Oper.upon] at h ⊢
    case value v0 => exact fin v0 w' h
    case skip => exact fin _ w' h
    case enter f args =>
      exact h.mono fun e w'' he => by
        cases e with
        | returned v0 => exact fin v0 w'' he
        | panicked c => exact he.elim
        | outgrown => obtain ⟨_, _, h⟩ := he; exact h.elim
    case row row args => exact h.mono fun v0 w'' he => fin v0 w'' he
    case defer d =>
      obtain ⟨v, h1, h2⟩ := h
      exfalso
      have := congrArg Act.defers h1
      have e1 : (({ a with defers := d :: a.defers } : Act).put o.dst undef).defers = d :: a.defers := by cases o.dst <;> rfl
      have e2 : (a.put o.dst v).defers = a.defers := by cases o.dst <;> rfl
      rw [e1, e2] at this
      have := congrArg List.length this
      simp at this
    all_goals exact h.elim
  | halt x w' =>
    cases x <;> simp only [Oper.upon] at h ⊢
    all_goals first | exact h.elim | exact h

/-- The invariant. -/
structure Inv (ops : Array Oper) (a0 : Act) (t : Nat) (F : List Fact) (S : Bool → World → Prop) (listed : Array Bool) (a : Act) (w : World) : Prop where
  lsize : listed.size = ops.size
  closed : ∀ j o, ops[j]? = some o → listed.getD j false = true → ∀ e ∈ o.after, Region.binds .any e = true → listed.getD e.on false = true
  hS : S (listed.getD t false) w
  ex : ∃ u, (∀ i c, factAt F i = .is c → u i = c) ∧ Agree ops a0 (fun j => listed.getD j false = true) u a ∧ ∀ j, listed.getD j false = true → (factAt F j).holds (u j) w

theorem wpAny_og {P : Program} {ops : Array Oper} {Q : Exit → Act → World → Prop} {a0 : Act} {t : Nat} {m : List (Option Bool)} {F : List Fact} {S : Bool → World → Prop} {Rel : World → World → Prop} {fin : List (Nat × (World → Prop)) → Act → Prop}
    (hB : ogB ops t m = true) (hob : walk P ops t m F S Rel fin 0 [] a0 ops.toList)
    (hfin : ∀ listed a w, Inv ops a0 t F S listed a w → Region.ready .any ops listed = [] → Q .normal a w) :
    ∀ (fuel : Nat) (listed : Array Bool) (a : Act) (w : World), Inv ops a0 t F S listed a w → (List.range ops.size).countP (fun i => !listed.getD i false) ≤ fuel → wpAny P .any ops Q fuel listed a w := by
  intro fuel
  have hsel : ∀ (j : Nat) (o : Oper) cs b, ops[j]? = some o → o.op ≠ .select cs b := by
    simp only [ogB, Bool.and_eq_true] at hB
    exact Region.noSelect_spec hB.1
  induction fuel with
  | zero =>
    intro listed a w inv hc
    have hnil : Region.ready .any ops listed = [] := by
      rw [List.eq_nil_iff_forall_not_mem]
      intro i hi
      obtain ⟨h0, o, ho, _⟩ := mem_ready.1 hi
      have hil : i < ops.size := (Array.getElem?_eq_some_iff.1 ho).1
      have h1 := List.countP_eq_zero.1 (Nat.le_zero.1 hc) i (List.mem_range.2 hil)
      simp only [getD_both h0, Bool.not_false, not_true_eq_false] at h1
    exact ⟨hnil, hfin _ _ _ inv hnil⟩
  | succ fuel ih =>
    intro listed a w inv hc
    refine ⟨fun hnil => hfin _ _ _ inv hnil, fun i hi => ?_⟩
    obtain ⟨h0, o, ho, hall⟩ := mem_ready.1 hi
    have hil : i < ops.size := (Array.getElem?_eq_some_iff.1 ho).1
    have hi0 : listed.getD i false = false := getD_both h0
    obtain ⟨u, hu, hA, hR⟩ := inv.ex
    obtain ⟨hget0, -⟩ := walk_get (uniq_of hB) hu ops.toList 0 [] a0 (by simp) ((Agree.nil ops a0 u).congr fun j => by simp) (by simp) hob
    have hget1 : (factAt F i).stable Rel ∧ ∃ env' a', Agree ops a0 (fun j => j < i) u a' ∧ (∀ e ∈ env', e.1 < i ∧ ∃ R, factAt F e.1 = .such R ∧ e.2 = R (u e.1)) ∧
        ∀ b, (∀ c, m.getD i none = some c → b = c) → ∀ w, S b w → leansOn env' (fpreds o) w → does P ops (factAt F i) Rel (S (b || i == t)) o w a' := by
      have := hget0 i o (by simpa using ho)
      simpa using this
    obtain ⟨hstab, env', ap, hAp, hE, hW0⟩ := hget1
    have hmode := okMode_of hB ho
    have hb : ∀ c, m.getD i none = some c → listed.getD t false = c := by
      intro c hc'
      unfold okMode at hmode
      rw [hc'] at hmode
      cases c with
      | false =>
        simp only [Bool.or_eq_true, beq_iff_eq] at hmode
        rcases hmode with rfl | hw
        · exact hi0
        · obtain ⟨ot, hot, e, he, heb, hon⟩ := Region.waitsFor_spec hw
          cases hl : listed.getD t false with
          | false => rfl
          | true => have := inv.closed t ot hot hl e he heb; rw [hon, hi0] at this; cases this
      | true =>
        simp only at hmode
        obtain ⟨oi, hoi, e, he, heb, hon⟩ := Region.waitsFor_spec hmode
        have : oi = o := Option.some.inj (hoi.symm.trans ho)
        subst this
        rw [← hon]; exact hall e he heb
    have hpl : ∀ j ∈ fpreds o, listed.getD j false = true := by
      intro j hj
      simp only [fpreds, List.mem_map, List.mem_filter] at hj
      obtain ⟨e, ⟨he, hle⟩, rfl⟩ := hj
      exact hall e (by simpa using he) (leans_binds hB ho e (by simpa using he) hle)
    have hdo := hW0 _ hb w inv.hS (fun e he hep => by
      obtain ⟨_, R, hf, h2⟩ := hE e he
      rw [h2]
      have := hR e.1 (hpl _ hep)
      rwa [hf] at this)
    -- predecessors come earlier in the text
    have hearly : ∀ j ∈ fpreds o, j < i := by
      intro j hj
      have := early_of hB ho j hj
      exact this
    have hlook : ∀ d ∈ o.looksAt ops, a.tmps[d]? = ap.tmps[d]? := by
      intro d hd
      refine agree_eval hA hAp d fun j hjd => ?_
      unfold dstOf at hjd
      cases hp : ops[j]? with
      | none => rw [hp] at hjd; cases hjd
      | some p =>
        rw [hp] at hjd
        simp only [Option.bind_some] at hjd
        have hok := okPair_of hB ho hp
        simp only [okPair, Bool.or_eq_true, Bool.and_eq_true, beq_iff_eq] at hok
        rcases hok with rfl | ⟨hok, _⟩
        · exact ⟨fun hj => (by rw [hi0] at hj; exact Bool.noConfusion hj), fun hj => absurd hj (Nat.lt_irrefl _)⟩
        · rw [hjd] at hok
          simp only [Bool.or_eq_true, Bool.not_eq_true', Bool.and_eq_true, decide_eq_true_eq] at hok
          rcases hok with (hok | hok) | ⟨hok, hij⟩
          · rw [List.contains_eq_mem] at hok
            simp only [decide_eq_false_iff_not] at hok
            exact absurd hd hok
          · have hjp : j ∈ fpreds o := List.contains_iff_mem.1 hok
            exact ⟨fun _ => hearly j hjp, fun _ => hpl j hjp⟩
          · obtain ⟨oj, hoj, e, he, heb, hon⟩ := Region.waitsFor_spec hok
            refine ⟨fun hj => ?_, fun hj => by omega⟩
            have := inv.closed j oj hoj hj e he heb
            rw [hon, hi0] at this; cases this
    have hwant := wanted_congr o hlook
    have hexec := exec_congr o (fun cs b => hsel i o cs b ho) hlook
    have hsz : a.tmps.size = ap.tmps.size := by rw [hA.size, hAp.size]
    -- the step of the invariant
    have hstep : ∀ v w', S (listed.getD t false || i == t) w' → Rel w w' → (factAt F i).holds v w' → wpAny P .any ops Q fuel (listed.setIfInBounds i true) (a.put o.dst v) w' := by
      intro v w' hS' hrel hRi
      have hget : ∀ j, (listed.setIfInBounds i true).getD j false = (listed.getD j false || i == j) := by
        intro j
        by_cases hij : i = j
        · subst hij
          simp [inv.lsize, hil]
        · rw [getD_set_ne false hij]; simp [hij]
      refine ih _ _ _ ⟨by simp [inv.lsize], ?_, ?_, ?_⟩ ?_
      · intro j oj hoj hl e he heb
        rw [hget] at hl ⊢
        simp only [Bool.or_eq_true, beq_iff_eq] at hl ⊢
        rcases hl with hl | rfl
        · exact .inl (inv.closed j oj hoj hl e he heb)
        · have : oj = o := Option.some.inj (hoj.symm.trans ho)
          subst this
          exact .inl (hall e he heb)
      · rw [hget]; exact hS'
      · refine ⟨fun j => if j = i then v else u j, ?_, ?_, ?_⟩
        · intro j c hf
          by_cases hji : j = i
          · subst hji
            rw [hf] at hRi
            simp only [if_pos]
            exact hRi
          · simp only [if_neg hji]; exact hu j c hf
        · have hd : o.dst = dstOf ops i := by simp [dstOf, ho]
          rw [hd]
          refine (hA.put (u' := fun j => if j = i then v else u j) i v (fun j d hj h1 h2 => uniq_of hB j i d h1 h2) (fun j _ hji => by simp [hji]) (by simp)).congr fun j => ?_
          rw [hget]
          simp only [Bool.or_eq_true, beq_iff_eq]
          exact ⟨fun h => Or.imp id Eq.symm h, fun h => Or.imp id Eq.symm h⟩
        · intro j hj
          rw [hget] at hj
          simp only [Bool.or_eq_true, beq_iff_eq] at hj
          by_cases hji : j = i
          · subst hji; simpa using hRi
          · simp only [if_neg hji]
            have hjl := hj.resolve_right (Ne.symm hji)
            have hjs : j < ops.size := by
              rcases Nat.lt_or_ge j listed.size with h | h
              · rw [← inv.lsize]; exact h
              · simp [Array.getD_eq_getD_getElem?, Array.getElem?_eq_none h] at hjl
            have hst := (hget0 j ops[j] (by simp [hjs])).1
            rw [Nat.zero_add] at hst
            exact Fact.stable_use hst (hR j hjl) hrel
      · -- one less is unlisted
        have hlt : (List.range ops.size).countP (fun k => !(listed.setIfInBounds i true).getD k false) + 1 ≤ (List.range ops.size).countP (fun k => !listed.getD k false) := by
          have key : ∀ (l : List Nat), l.Nodup → i ∈ l → l.countP (fun k => !(listed.setIfInBounds i true).getD k false) + 1 = l.countP (fun k => !listed.getD k false) := by
            intro l
            induction l with
            | nil => intro _ h; cases h
            | cons x l ihl =>
              intro hnd hm
              simp only [List.nodup_cons] at hnd
              by_cases hxi : x = i
              · subst hxi
                have hsame : l.countP (fun k => !(listed.setIfInBounds x true).getD k false) = l.countP (fun k => !listed.getD k false) := by
                  refine List.countP_congr fun k hk => ?_
                  have hkx : x ≠ k := by rintro rfl; exact hnd.1 hk
                  rw [getD_set_ne false hkx]
                rw [List.countP_cons, List.countP_cons, hsame, hget x, hi0]
                simp
              · have hil' : i ∈ l := by
                  rcases List.mem_cons.1 hm with h | h
                  · exact (hxi h.symm).elim
                  · exact h
                have h1 := ihl hnd.2 hil'
                rw [List.countP_cons, List.countP_cons, getD_set_ne false (Ne.symm hxi)]
                omega
          exact Nat.le_of_eq (key _ List.nodup_range (List.mem_range.2 hil))
        omega
    unfold wpOp
    rw [ho]
    simp only
    unfold does at hdo
    rw [← hwant] at hdo
    by_cases hw : Region.wanted o (yielded ops a.tmps) = true
    · rw [if_pos hw] at hdo ⊢
      refine .inl (wp_transfer hexec hsz (hdo _ fun a' w' h => h) ?_)
      rintro v w' ⟨h1, h2, h3⟩
      exact hstep v w' h1 h2 h3
    · rw [if_neg hw] at hdo ⊢
      exact hstep undef w hdo.1 hdo.2.1 hdo.2.2

/-- **The law.** -/
theorem wp_region_og {P : Program} {ops : Array Oper} {id : Nat} {Q : Exit → Act → World → Prop} {a0 : Act} {w0 : World} (t : Nat) (m : List (Option Bool)) (F : List Fact) (S : Bool → World → Prop) (Rel : World → World → Prop)
    (hm : P.follows .mixedOrders = true) (hB : ogB ops t m = true) (h0 : S false w0.drew)
    (hob : walk P ops t m F S Rel (fun env a => ∀ w, S (decide (t < ops.size)) w → (∀ e ∈ env, e.2 w) → Q .normal a w) 0 [] a0 ops.toList) : (Code.region id ops true).wp P Q a0 w0 := by
  refine wp_region_any hm (wpAny_og hB hob ?_ ops.size _ a0 _ ⟨by simp, ?_, ?_, ⟨fun i => match factAt F i with | .is c => c | .such _ => undef, ?_, ?_, ?_⟩⟩ ?_)
  · intro listed a w inv hnil
    -- all are listed
    have hfull : ∀ n, n ≤ ops.size → ∀ i, i < n → listed.getD i false = true := by
      intro n
      induction n with
      | zero => intro _ i hi; omega
      | succ n ih =>
        intro hn i hi
        rcases Nat.lt_or_ge i n with h | h
        · exact ih (by omega) i h
        · have hin : i = n := by omega
          subst hin
          cases hl : listed.getD i false with
          | true => rfl
          | false =>
            exfalso
            have hmem : i ∈ Region.ready .any ops listed := by
              rw [mem_ready]
              refine ⟨getD_in (by rw [inv.lsize]; omega) hl, ops[i], Array.getElem?_eq_getElem (by omega), fun e he heb => ?_⟩
              exact ih (by omega) e.on (earlier_of hB (Array.getElem?_eq_getElem (by omega)) e he heb)
            rw [hnil] at hmem; cases hmem
    have hlist : ∀ i, i < ops.size → listed.getD i false = true := hfull _ (Nat.le_refl _)
    obtain ⟨u, hu, hA, hR⟩ := inv.ex
    have hS : S (decide (t < ops.size)) w := by
      have := inv.hS
      by_cases ht : t < ops.size
      · rw [hlist t ht] at this; simpa [ht] using this
      · have h1 : listed.getD t false = false := by
          simp [Array.getD_eq_getD_getElem?, Array.getElem?_eq_none (xs := listed) (i := t) (by rw [inv.lsize]; omega)]
        rw [h1] at this; simpa [ht] using this
    obtain ⟨hg, env', a', hA', hE', hQ⟩ := walk_get (uniq_of hB) hu ops.toList 0 [] a0 (by simp) ((Agree.nil ops a0 u).congr fun j => by simp) (by simp) hob
    have : a = a' := by
      have ht : a.tmps = a'.tmps := by
        refine Array.ext_getElem? fun s => agree_eval hA hA' s fun j hjd => ?_
        have hjl : j < ops.size := by
          unfold dstOf at hjd
          cases hp : ops[j]? with
          | none => rw [hp] at hjd; cases hjd
          | some p => exact (Array.getElem?_eq_some_iff.1 hp).1
        exact ⟨fun _ => by simpa using hjl, fun _ => hlist j hjl⟩
      have hd : a.defers = a'.defers := by rw [hA.defers, hA'.defers]
      cases a; cases a'
      simp only at ht hd
      rw [ht, hd]
    rw [this]
    refine hQ w hS fun e he => ?_
    obtain ⟨hlt, R, hf, h2⟩ := hE' e he
    rw [h2]
    have := hR e.1 (hlist _ (by simpa using hlt))
    rwa [hf] at this
  · intro j o _ h
    rw [getD_replicate_false] at h; cases h
  · rw [getD_replicate_false]; exact h0
  · intro i c hf; simp only [hf]
  · refine ⟨rfl, rfl, fun j d hj => ?_, fun _ _ => rfl⟩
    rw [getD_replicate_false] at hj; cases hj
  · intro j hj
    rw [getD_replicate_false] at hj; cases hj
  · exact Nat.le_trans List.countP_le_length (by simp)

/-! ### The steps of a walk. -/
/-- An operation's end, its value told. (A name, so that the walk's simp leaves it alone.) -/
structure Told (a : Act) (d : Option Tmp) (c : Value) (S' : World → Prop) (Rel : World → World → Prop) (w : World) (a' : Act) (w' : World) : Prop where
  act : a' = a.put d c
  inv : S' w'
  rel : Rel w w'
/-- An operation's end, a predicate of its value known. -/
structure Held (a : Act) (d : Option Tmp) (R : Value → World → Prop) (S' : World → Prop) (Rel : World → World → Prop) (w : World) (a' : Act) (w' : World) : Prop where
  act : ∃ v, a' = a.put d v ∧ R v w'
  inv : S' w'
  rel : Rel w w'
section
variable {P : Program} {ops : Array Oper} {t : Nat} {m : List (Option Bool)} {F : List Fact} {S : Bool → World → Prop} {Rel : World → World → Prop} {fin : List (Nat × (World → Prop)) → Act → Prop}
  {i : Nat} {env : List (Nat × (World → Prop))} {a : Act} {o : Oper} {rest : List Oper}
/-- An operation whose value is told. -/
theorem walk_is {c : Value} (hF : factAt F i = .is c) (hw : Region.wanted o (yielded ops a.tmps) = true)
    (h1 : ∀ b, (∀ c, m.getD i none = some c → b = c) → ∀ w, S b w → leansOn env (fpreds o) w →
      ∀ K : Act → World → Prop, (∀ a' w', Told a o.dst c (S (b || i == t)) Rel w a' w' → K a' w') → o.wp P a w K noExit)
    (h2 : walk P ops t m F S Rel fin (i + 1) env (a.put o.dst c) rest) : walk P ops t m F S Rel fin i env a (o :: rest) := by
  refine ⟨by rw [hF]; trivial, fun b hb w hS hE => ?_, by rw [hF]; exact h2⟩
  unfold does
  rw [if_pos hw, hF]
  intro K hK
  exact h1 b hb w hS hE K fun a' w' h => hK a' w' ⟨c, h.act, h.inv, h.rel, rfl⟩
/-- An operation that its guard strikes. -/
theorem walk_skip (hF : factAt F i = .is undef) (hw : Region.wanted o (yielded ops a.tmps) = false) (hrel : ∀ w, Rel w w) (hit : (i == t) = false)
    (h2 : walk P ops t m F S Rel fin (i + 1) env (a.put o.dst undef) rest) : walk P ops t m F S Rel fin i env a (o :: rest) := by
  refine ⟨by rw [hF]; trivial, fun b hb w hS hE => ?_, by rw [hF]; exact h2⟩
  unfold does
  rw [if_neg (by rw [hw]; exact Bool.false_ne_true), hF, hit, Bool.or_false]
  exact ⟨hS, hrel w, rfl⟩
/-- An operation of whose value a predicate alone is known. -/
theorem walk_such {R : Value → World → Prop} (hF : factAt F i = .such R) (hw : Region.wanted o (yielded ops a.tmps) = true) (hst : ∀ v w w', R v w → Rel w w' → R v w')
    (h1 : ∀ b, (∀ c, m.getD i none = some c → b = c) → ∀ w, S b w → leansOn env (fpreds o) w →
      ∀ K : Act → World → Prop, (∀ a' w', Held a o.dst R (S (b || i == t)) Rel w a' w' → K a' w') → o.wp P a w K noExit)
    (h2 : ∀ v, walk P ops t m F S Rel fin (i + 1) (env ++ [(i, R v)]) (a.put o.dst v) rest) : walk P ops t m F S Rel fin i env a (o :: rest) := by
  refine ⟨by rw [hF]; exact hst, fun b hb w hS hE => ?_, by rw [hF]; exact h2⟩
  unfold does
  rw [if_pos hw, hF]
  intro K hK
  exact h1 b hb w hS hE K fun a' w' h => hK a' w' (let ⟨v, e, hr⟩ := h.act; ⟨v, e, h.inv, h.rel, hr⟩)
/-- An operation that looks at no world. -/
theorem walk_pure {c : Value} (hF : factAt F i = .is c) (hw : Region.wanted o (yielded ops a.tmps) = true) (hit : (i == t) = false) (hrel : ∀ w, Rel w w)
    (h1 : ∀ w, (execOp a.eval o).run P w = .ok (.value c) w)
    (h2 : walk P ops t m F S Rel fin (i + 1) env (a.put o.dst c) rest) : walk P ops t m F S Rel fin i env a (o :: rest) := by
  refine walk_is hF hw (fun b hb w hS hE K hK => ?_) h2
  unfold Oper.wp
  rw [h1 w]
  exact hK _ _ ⟨rfl, by rw [hit, Bool.or_false]; exact hS, hrel w⟩
theorem walk_move {x : Operand} (ho : o.op = .move x) (hF : factAt F i = .is (a.eval x)) (hw : Region.wanted o (yielded ops a.tmps) = true) (hit : (i == t) = false) (hrel : ∀ w, Rel w w)
    (h2 : walk P ops t m F S Rel fin (i + 1) env (a.put o.dst (a.eval x)) rest) : walk P ops t m F S Rel fin i env a (o :: rest) :=
  walk_pure hF hw hit hrel (fun w => by simp [execOp, ho]) h2
theorem walk_assign {x : Operand} (ho : o.op = .assign x) (hF : factAt F i = .is (a.eval x)) (hw : Region.wanted o (yielded ops a.tmps) = true) (hit : (i == t) = false) (hrel : ∀ w, Rel w w)
    (h2 : walk P ops t m F S Rel fin (i + 1) env (a.put o.dst (a.eval x)) rest) : walk P ops t m F S Rel fin i env a (o :: rest) :=
  walk_pure hF hw hit hrel (fun w => by simp [execOp, ho]) h2
theorem walk_end (h : fin env a) : walk P ops t m F S Rel fin i env a [] := h
end

/-- The world has grown, and blocks of X may have been written; else it is as it was. -/
structure Ext (X : Nat → Prop) (w w' : World) : Prop where
  os : w'.os = w.os
  tape : w'.tape = w.tape
  output : w'.output = w.output
  size : w.heap.size ≤ w'.heap.size
  block : ∀ k, k < w.heap.size → ¬X k → w'.heap[k]? = w.heap[k]?
theorem Ext.refl (X : Nat → Prop) (w : World) : Ext X w w := ⟨rfl, rfl, rfl, Nat.le_refl _, fun _ _ _ => rfl⟩
theorem Ext.trans {X : Nat → Prop} {a b c : World} (h : Ext X a b) (k : Ext X b c) : Ext X a c :=
  ⟨k.os.trans h.os, k.tape.trans h.tape, k.output.trans h.output, Nat.le_trans h.size k.size, fun i hi hx => (k.block i (Nat.lt_of_lt_of_le hi h.size) hx).trans (h.block i hi hx)⟩
theorem Ext.mono {X Y : Nat → Prop} {w w' : World} (h : Ext X w w') (hxy : ∀ k, X k → Y k) : Ext Y w w' := ⟨h.os, h.tape, h.output, h.size, fun k hk hx => h.block k hk fun hx' => hx (hxy k hx')⟩
theorem Ext.drew {X : Nat → Prop} {a w : World} (h : Ext X a w) : Ext X a w.drew := ⟨h.os, h.tape, h.output, h.size, h.block⟩
theorem Ext.alloc {X : Nat → Prop} {a w : World} (h : Ext X a w) (o : Obj) : Ext X a (w.alloc o) :=
  h.trans ⟨rfl, rfl, rfl, by simp, fun k hk _ => Below.heap_alloc _ _ _ hk⟩
theorem Ext.setCell {X : Nat → Prop} {a w : World} (h : Ext X a w) {p : Addr} (hp : X p.block ∨ a.heap.size ≤ p.block) (u : Value) : Ext X a (w.setCell p u) :=
  ⟨h.os, h.tape, h.output, by simpa [World.setCell] using h.size, fun k hk hx => by
    rw [Below.heap_setCell _ _ _ _ (by rintro rfl; rcases hp with hp | hp; exact hx hp; omega)]; exact h.block k hk hx⟩
theorem Ext.of_below {X : Nat → Prop} {w w' : World} (h : Below w.heap.size w w') : Ext X w w' := ⟨h.os, h.tape, h.output, h.size, fun k hk _ => h.block k hk⟩
theorem Ext.below {X : Nat → Prop} {B : Nat} {w w' : World} (h : Ext X w w') (hB : B ≤ w.heap.size) (hX : ∀ k, k < B → ¬X k) : Below B w w' := ⟨h.os, h.tape, h.output, h.size, fun k hk => h.block k (by omega) (hX k hk)⟩
theorem Ext.cells {X : Nat → Prop} {w w' : World} (h : Ext X w w') : ∀ b o, b < w.heap.size → ¬X b → w'.cell? ⟨b, o, none⟩ = w.cell? ⟨b, o, none⟩ :=
  fun b o hb hx => World.cell?_of_block (w := w) (h.block b hb hx)
theorem Ext.frozens {X : Nat → Prop} {w w' : World} (h : Ext X w w') : ∀ b o, b < w.heap.size → ¬X b → w'.frozen? ⟨b, o, none⟩ = w.frozen? ⟨b, o, none⟩ :=
  fun b o hb hx => World.frozen?_of_block (w := w) (h.block b hb hx)

/-- The law at a region whose operations are written out. -/
theorem wp_region_og_lit {P : Program} {l : List Oper} {id : Nat} {Q : Exit → Act → World → Prop} {a0 : Act} {w0 : World} (t : Nat) (m : List (Option Bool)) (F : List Fact) (S : Bool → World → Prop) (Rel : World → World → Prop)
    (hm : P.follows .mixedOrders = true) (hB : ogB l.toArray t m = true) (h0 : S false w0.drew)
    (hob : walk P l.toArray t m F S Rel (fun env a => ∀ w, S (decide (t < l.length)) w → (∀ e ∈ env, e.2 w) → Q .normal a w) 0 [] a0 l) : (Code.region id l.toArray true).wp P Q a0 w0 :=
  wp_region_og t m F S Rel hm hB h0 (by simpa using hob)

#print axioms wp_region_og_lit
end Go.Og
