/-
  The law on regions that draw their order, with new blocks: an operation may lay a block (a new variable, a slice's array), and one other operation may fill it. Where the block lies hangs on the order that is drawn; what it holds does not.
-/
import Derived.Test.YtdfmamemnenkcaaOg
set_option linter.unusedVariables false
set_option linter.unusedSimpArgs false
namespace Go.Oh
open Go.RowKit Go.Og

/-- A block of cells, whole, none frozen. -/
def Cells (w : World) (g : Nat) (t : TypeId) (cs : Array Value) : Prop := w.heap[g]? = some (.cells cs t (0, 0))
theorem Cells.lt {w : World} {g : Nat} {t : TypeId} {cs : Array Value} (h : Cells w g t cs) : g < w.heap.size := by
  rcases Nat.lt_or_ge g w.heap.size with hlt | hge
  · exact hlt
  · unfold Cells at h; rw [Array.getElem?_eq_none hge] at h; cases h
theorem Cells.ext {w w' : World} {g : Nat} {t : TypeId} {cs : Array Value} {X : Nat → Prop} (h : Cells w g t cs) (hx : Ext X w w') (hg : ¬X g) : Cells w' g t cs := (hx.block g h.lt hg).trans h

/-- What is known of an operation: its value; that it lays a block; that it fills the block that operation i laid. -/
inductive Fact where
  | is (c : Value)
  | fresh (mk : Nat → Value) (ty : TypeId) (old new : Array Value)
  | init (i : Nat)
def factAt (F : List Fact) (i : Nat) : Fact := F.getD i (.is undef)
def hasInit (F : List Fact) (i : Nat) : Bool := F.any fun f => match f with
  | .init j => j == i
  | _ => false
def isFresh (F : List Fact) (i : Nat) (g : Nat) (w : World) : Prop := match factAt F i with
  | .fresh _ ty old _ => Cells w g ty old
  | _ => True
/-- What operation i's block holds in the end. -/
def isFull (F : List Fact) (i : Nat) (g : Nat) (w : World) : Prop := match factAt F i with
  | .fresh _ ty old new => Cells w g ty (if hasInit F i then new else old)
  | _ => True
/-- The blocks of the predecessors that nobody fills. -/
def leansOn (F : List Fact) (B : Nat) (env : List (Nat × Nat)) (ps : List Nat) (w : World) : Prop := ∀ e ∈ env, e.1 ∈ ps → hasInit F e.1 = false → B ≤ e.2 ∧ isFresh F e.1 e.2 w

structure Told (a : Act) (d : Option Tmp) (c : Value) (S' : World → Prop) (X : Nat → Prop) (w : World) (a' : Act) (w' : World) : Prop where
  act : a' = a.put d c
  inv : S' w'
  ext : Ext X w w'
structure Laid (a : Act) (d : Option Tmp) (mk : Nat → Value) (ty : TypeId) (old : Array Value) (S' : World → Prop) (X : Nat → Prop) (w : World) (a' : Act) (w' : World) : Prop where
  act : ∃ g, a' = a.put d (mk g) ∧ w.heap.size ≤ g ∧ Cells w' g ty old
  inv : S' w'
  ext : Ext X w w'
structure Filled (a : Act) (d : Option Tmp) (g : Nat) (ty : TypeId) (new : Array Value) (w : World) (a' : Act) (w' : World) : Prop where
  act : a' = a.put d undef
  ext : Ext (· = g) w w'
  cells : Cells w' g ty new

/-- What one operation must do. -/
def step (P : Program) (ops : Array Oper) (F : List Fact) (B : Nat) (X : Nat → Prop) (S' : World → Prop) (env : List (Nat × Nat)) (o : Oper) (w : World) (a : Act) : Fact → Prop
  | .is c => if Region.wanted o (yielded ops a.tmps) then ∀ K : Act → World → Prop, (∀ a' w', Told a o.dst c S' X w a' w' → K a' w') → o.wp P a w K noExit else S' w ∧ c = undef
  | .fresh mk ty old _ => Region.wanted o (yielded ops a.tmps) = true ∧ ∀ K : Act → World → Prop, (∀ a' w', Laid a o.dst mk ty old S' X w a' w' → K a' w') → o.wp P a w K noExit
  | .init i => Region.wanted o (yielded ops a.tmps) = true ∧ ∀ g, (i, g) ∈ env → B ≤ g → ∀ mk ty old new, factAt F i = .fresh mk ty old new → Cells w g ty old →
      ∀ K : Act → World → Prop, (∀ a' w', Filled a o.dst g ty new w a' w' → K a' w') → o.wp P a w K noExit

def walk (P : Program) (ops : Array Oper) (t : Nat) (m : List (Option Bool)) (F : List Fact) (B : Nat) (S : Bool → World → Prop) (X : Nat → Prop) (fin : List (Nat × Nat) → Act → Prop) :
    Nat → List (Nat × Nat) → Act → List Oper → Prop
  | _, env, a, [] => fin env a
  | i, env, a, o :: rest =>
    (∀ b, (∀ c, m.getD i none = some c → b = c) → ∀ w, S b w → leansOn F B env (fpreds o) w → step P ops F B X (S (b || i == t)) env o w a (factAt F i)) ∧
    match factAt F i with
    | .is c => walk P ops t m F B S X fin (i + 1) env (a.put o.dst c) rest
    | .fresh mk _ _ _ => ∀ g, walk P ops t m F B S X fin (i + 1) (env ++ [(i, g)]) (a.put o.dst (mk g)) rest
    | .init _ => walk P ops t m F B S X fin (i + 1) env (a.put o.dst undef) rest

/-- The values go with the facts. -/
def goes (F : List Fact) (u : Nat → Value) (γ : Nat → Nat) (i : Nat) : Prop := match factAt F i with
  | .is c => u i = c
  | .fresh mk _ _ _ => u i = mk (γ i)
  | .init _ => u i = undef
def isFreshAt (F : List Fact) (i : Nat) : Prop := match factAt F i with
  | .fresh _ _ _ _ => True
  | _ => False

theorem Agree.congr {ops : Array Oper} {a0 a : Act} {L L' : Nat → Prop} {u : Nat → Value} (h : Agree ops a0 L u a) (hl : ∀ j, L j ↔ L' j) : Agree ops a0 L' u a :=
  ⟨h.defers, h.size, fun j d hj => h.new j d ((hl j).2 hj), fun s hs => h.old s fun j hj => hs j ((hl j).1 hj)⟩

theorem walk_get {P : Program} {ops : Array Oper} {t : Nat} {m : List (Option Bool)} {F : List Fact} {B : Nat} {S : Bool → World → Prop} {X : Nat → Prop} {fin : List (Nat × Nat) → Act → Prop} {a0 : Act} {u : Nat → Value} {γ : Nat → Nat}
    (huniq : ∀ j j' d, dstOf ops j = some d → dstOf ops j' = some d → j = j') (hu : ∀ i, goes F u γ i) :
    ∀ (l : List Oper) (k : Nat) (env : List (Nat × Nat)) (a : Act), (∀ j, l[j]? = ops[k + j]?) → Agree ops a0 (fun j => j < k) u a →
      (∀ e, e ∈ env ↔ e.1 < k ∧ isFreshAt F e.1 ∧ e.2 = γ e.1) →
      walk P ops t m F B S X fin k env a l →
      (∀ i o, l[i]? = some o → ∃ env' a', Agree ops a0 (fun j => j < k + i) u a' ∧ (∀ e, e ∈ env' ↔ e.1 < k + i ∧ isFreshAt F e.1 ∧ e.2 = γ e.1) ∧
        ∀ b, (∀ c, m.getD (k + i) none = some c → b = c) → ∀ w, S b w → leansOn F B env' (fpreds o) w → step P ops F B X (S (b || (k + i) == t)) env' o w a' (factAt F (k + i))) ∧
      ∃ env' a', Agree ops a0 (fun j => j < k + l.length) u a' ∧ (∀ e, e ∈ env' ↔ e.1 < k + l.length ∧ isFreshAt F e.1 ∧ e.2 = γ e.1) ∧ fin env' a'
  | [], k, env, a, _, hA, hE, h => ⟨fun i o hi => by simp at hi, env, a, by simpa using hA, by simpa using hE, h⟩
  | o :: l, k, env, a, hl, hA, hE, h => by
    obtain ⟨h1, h2⟩ := h
    have h0 : ops[k]? = some o := by simpa using (hl 0).symm
    have hd : o.dst = dstOf ops k := by simp [dstOf, h0]
    have hA' : Agree ops a0 (fun j => j < k + 1) u (a.put o.dst (u k)) := by
      rw [hd]
      refine Agree.congr (hA.put (u' := u) k (u k) (fun j d _ h1 h2 => huniq j k d h1 h2) (fun _ _ _ => rfl) rfl) fun j => ?_
      omega
    have hrest : ∃ env1, (∀ e, e ∈ env1 ↔ e.1 < k + 1 ∧ isFreshAt F e.1 ∧ e.2 = γ e.1) ∧ walk P ops t m F B S X fin (k + 1) env1 (a.put o.dst (u k)) l := by
      have huk := hu k
      unfold goes at huk
      have hkeep : ¬isFreshAt F k → ∀ e, e ∈ env ↔ e.1 < k + 1 ∧ isFreshAt F e.1 ∧ e.2 = γ e.1 := fun hn e => by
        rw [hE e]
        constructor
        · rintro ⟨h1, h2⟩; exact ⟨by omega, h2⟩
        · rintro ⟨h1, h2, h3⟩
          refine ⟨?_, h2, h3⟩
          by_cases hek : e.1 = k
          · rw [hek] at h2; exact (hn h2).elim
          · omega
      cases hf : factAt F k with
      | is c =>
        rw [hf] at h2 huk
        refine ⟨env, hkeep (by unfold isFreshAt; rw [hf]; exact id), ?_⟩
        simp only at huk
        rw [huk]; exact h2
      | fresh mk ty old new =>
        rw [hf] at h2 huk
        simp only at huk
        refine ⟨_, fun e => ?_, by rw [huk]; exact h2 (γ k)⟩
        rw [List.mem_append, hE e, List.mem_singleton]
        constructor
        · rintro (⟨h1, h2⟩ | rfl)
          · exact ⟨by omega, h2⟩
          · exact ⟨by simp, by unfold isFreshAt; rw [hf]; trivial, rfl⟩
        · rintro ⟨h1, h2, h3⟩
          by_cases hek : e.1 = k
          · right
            obtain ⟨e1, e2⟩ := e
            simp only at hek h3
            subst hek; rw [h3]
          · left; exact ⟨by omega, h2, h3⟩
      | init j =>
        rw [hf] at h2 huk
        refine ⟨env, hkeep (by unfold isFreshAt; rw [hf]; exact id), ?_⟩
        simp only at huk
        rw [huk]; exact h2
    obtain ⟨env1, hE1, hw1⟩ := hrest
    have ih := walk_get huniq hu l (k + 1) env1 _ (fun j => by have := hl (j + 1); simpa [Nat.add_assoc, Nat.add_comm 1 j] using this) hA' hE1 hw1
    refine ⟨fun i o' hi => ?_, ?_⟩
    · cases i with
      | zero =>
        simp at hi; subst hi
        exact ⟨env, a, hA, hE, h1⟩
      | succ i =>
        have := ih.1 i o' (by simpa using hi)
        rwa [show k + 1 + i = k + (i + 1) by omega] at this
    · have := ih.2
      rwa [show k + 1 + l.length = k + (o :: l).length by simp; omega] at this

/-- An operation's wp over a frame that agrees with ours where it looks. -/
theorem wp_over {P : Program} {o : Oper} {a b : Act} {w : World} {Post : Act → World → Prop} {K : Act → World → Prop} {Q : Exit → Act → World → Prop}
    (he : execOp b.eval o = execOp a.eval o) (hd : b.tmps.size = a.tmps.size)
    (h : o.wp P a w Post noExit) (hDef : ∀ a' w', Post a' w' → a'.defers = a.defers) (hK : ∀ v w', Post (a.put o.dst v) w' → K (b.put o.dst v) w') : o.wp P b w K Q := by
  unfold Oper.wp at *
  rw [he]
  generalize (execOp a.eval o).run P w = r at *
  cases r with
  | ok n w' =>
    cases n <;> simp only [Oper.upon] at h ⊢
    case value v0 => exact hK v0 w' h
    case skip => exact hK _ w' h
    case enter f args =>
      exact h.mono fun e w'' he => by
        cases e with
        | returned v0 => exact hK v0 w'' he
        | panicked c => exact he.elim
        | outgrown => obtain ⟨_, _, h⟩ := he; exact h.elim
    case row row args => exact h.mono fun v0 w'' he => hK v0 w'' he
    case defer d =>
      exfalso
      have e1 : (({ a with defers := d :: a.defers } : Act).put o.dst undef).defers = d :: a.defers := by cases o.dst <;> rfl
      have := hDef _ _ h
      rw [e1] at this
      have := congrArg List.length this
      simp at this
    all_goals exact h.elim
  | halt x w' =>
    cases x <;> simp only [Oper.upon] at h ⊢
    all_goals first | exact h.elim | exact h

theorem put_defers_eq (a : Act) (d : Option Tmp) (v : Value) : (a.put d v).defers = a.defers := by cases d <;> rfl

/-- Has operation i's block been filled? -/
def full (F : List Fact) (listed : Array Bool) (i : Nat) : Bool := (List.range listed.size).any fun s => listed.getD s false && match factAt F s with
  | .init j => j == i
  | _ => false
def holdsNow (F : List Fact) (listed : Array Bool) (i g : Nat) (w : World) : Prop := match factAt F i with
  | .fresh _ ty old new => Cells w g ty (if full F listed i then new else old)
  | _ => True

/-- The invariant. -/
structure Inv (ops : Array Oper) (a0 : Act) (t : Nat) (F : List Fact) (B : Nat) (S : Bool → World → Prop) (listed : Array Bool) (a : Act) (w : World) : Prop where
  lsize : listed.size = ops.size
  closed : ∀ j o, ops[j]? = some o → listed.getD j false = true → ∀ e ∈ o.after, Region.binds .any e = true → listed.getD e.on false = true
  hS : S (listed.getD t false) w
  room : B ≤ w.heap.size
  ex : ∃ (u : Nat → Value) (γ : Nat → Nat), (∀ i, goes F u γ i) ∧ Agree ops a0 (fun j => listed.getD j false = true) u a ∧
    (∀ j, listed.getD j false = true → isFreshAt F j → B ≤ γ j ∧ holdsNow F listed j (γ j) w) ∧
    (∀ i j, listed.getD i false = true → listed.getD j false = true → isFreshAt F i → isFreshAt F j → i ≠ j → γ i ≠ γ j)

/-- The kinds of facts. -/
inductive Kind where
  | is
  | fresh
  | init (i : Nat)
def kindOf : Fact → Kind
  | .is _ => .is
  | .fresh _ _ _ _ => .fresh
  | .init i => .init i
/-- The check on the facts' kinds: who fills a block comes once, and waits for who laid it. -/
def initB (ops : Array Oper) (t : Nat) (ks : List Kind) : Bool :=
  ks.length == ops.size && (List.range ops.size).all fun s => match ks.getD s .is with
    | .init i => s != t && (match ops[s]? with | some o => (fpreds o).contains i | none => false) && (match ks.getD i .is with | .fresh => true | _ => false) &&
        (List.range ops.size).all fun s' => s == s' || match ks.getD s' .is with | .init i' => i' != i | _ => true
    | _ => true

theorem getD_lt {listed : Array Bool} {j : Nat} (h : listed.getD j false = true) : j < listed.size := by
  rcases Nat.lt_or_ge j listed.size with h' | h'
  · exact h'
  · simp [Array.getD_eq_getD_getElem?, Array.getElem?_eq_none h'] at h

theorem full_set {F : List Fact} {listed : Array Bool} {i k : Nat} (hk : k < listed.size) :
    full F (listed.setIfInBounds k true) i = (full F listed i || match factAt F k with | .init j => j == i | _ => false) := by
  have hget : ∀ j, (listed.setIfInBounds k true).getD j false = (listed.getD j false || k == j) := by
    intro j
    by_cases hkj : k = j
    · subst hkj; simp [hk]
    · rw [getD_set_ne false hkj]; simp [hkj]
  rw [Bool.eq_iff_iff]
  simp only [full, List.any_eq_true, List.mem_range, Bool.and_eq_true, Bool.or_eq_true, Array.size_setIfInBounds, hget, beq_iff_eq]
  constructor
  · rintro ⟨s, hs, h1 | rfl, h2⟩
    · exact .inl ⟨s, hs, h1, h2⟩
    · exact .inr h2
  · rintro (⟨s, hs, h1, h2⟩ | h)
    · exact ⟨s, hs, .inl h1, h2⟩
    · exact ⟨k, hk, .inr rfl, h⟩

theorem full_hasInit {F : List Fact} {listed : Array Bool} {i : Nat} (h : full F listed i = true) : hasInit F i = true := by
  simp only [full, List.any_eq_true, List.mem_range, Bool.and_eq_true] at h
  obtain ⟨s, _, _, h2⟩ := h
  simp only [hasInit, List.any_eq_true]
  unfold factAt at h2
  rcases Nat.lt_or_ge s F.length with hs | hs
  · refine ⟨F[s], List.getElem_mem hs, ?_⟩
    rw [List.getD_eq_getElem?_getD, List.getElem?_eq_getElem hs] at h2
    exact h2
  · rw [List.getD_eq_getElem?_getD, List.getElem?_eq_none hs] at h2
    cases h2

theorem kindAt {F : List Fact} {ks : List Kind} (hk : F.map kindOf = ks) (i : Nat) : ks.getD i .is = kindOf (factAt F i) := by
  subst hk
  unfold factAt
  rw [List.getD_eq_getElem?_getD, List.getD_eq_getElem?_getD, List.getElem?_map]
  cases F[i]? <;> rfl

theorem init_spec {ops : Array Oper} {t : Nat} {F : List Fact} {ks : List Kind} (hk : F.map kindOf = ks) (hI : initB ops t ks = true) {s i : Nat} (h : factAt F s = .init i) (hs : s < ops.size) :
    s ≠ t ∧ (∃ o, ops[s]? = some o ∧ i ∈ fpreds o) ∧ isFreshAt F i ∧ ∀ s', s' < ops.size → factAt F s' = .init i → s' = s := by
  simp only [initB, Bool.and_eq_true, List.all_eq_true, List.mem_range] at hI
  have h1 := hI.2 s hs
  rw [kindAt hk, h] at h1
  simp only [kindOf, Bool.and_eq_true, List.all_eq_true, List.mem_range, bne_iff_ne] at h1
  obtain ⟨⟨⟨h1, h2⟩, h3⟩, h4⟩ := h1
  refine ⟨h1, ?_, ?_, fun s' hs' h' => ?_⟩
  · cases ho : ops[s]? with
    | none => rw [ho] at h2; cases h2
    | some o => rw [ho] at h2; exact ⟨o, rfl, List.contains_iff_mem.1 h2⟩
  · rw [kindAt hk] at h3
    unfold isFreshAt
    cases hf : factAt F i <;> rw [hf] at h3 <;> simp [kindOf] at h3 ⊢
  · have h5 := h4 s' hs'
    rw [kindAt hk, h'] at h5
    simp only [kindOf, Bool.or_eq_true, beq_iff_eq, bne_self_eq_false, Bool.false_eq_true, or_false] at h5
    exact h5.symm

theorem one_less {listed : Array Bool} {n i fuel : Nat} (hil : i < n) (hi0 : listed.getD i false = false) (hls : listed.size = n) (hc : (List.range n).countP (fun k => !listed.getD k false) ≤ fuel + 1) :
    (List.range n).countP (fun k => !(listed.setIfInBounds i true).getD k false) ≤ fuel := by
  have key : ∀ (l : List Nat), l.Nodup → i ∈ l → l.countP (fun k => !(listed.setIfInBounds i true).getD k false) + 1 = l.countP (fun k => !listed.getD k false) := by
    intro l
    induction l with
    | nil => intro _ h; cases h
    | cons x l ihl =>
      intro hnd hm
      simp only [List.nodup_cons] at hnd
      by_cases hxi : x = i
      · subst hxi
        have hsame : l.countP (fun k => !(listed.setIfInBounds x true).getD k false) = l.countP (fun k => !listed.getD k false) := by
          refine List.countP_congr fun k hk => ?_
          have hkx : x ≠ k := by rintro rfl; exact hnd.1 hk
          rw [getD_set_ne false hkx]
        rw [List.countP_cons, List.countP_cons, hsame, hi0]
        have : (listed.setIfInBounds x true).getD x false = true := by simp [hls, hil]
        rw [this]
        simp
      · have hil' : i ∈ l := by
          rcases List.mem_cons.1 hm with h | h
          · exact (hxi h.symm).elim
          · exact h
        have h1 := ihl hnd.2 hil'
        rw [List.countP_cons, List.countP_cons, getD_set_ne false (Ne.symm hxi)]
        omega
  have := key _ List.nodup_range (List.mem_range.2 hil)
  omega

theorem wpAny_oh {P : Program} {ops : Array Oper} {Q : Exit → Act → World → Prop} {a0 : Act} {t : Nat} {m : List (Option Bool)} {F : List Fact} {ks : List Kind} {B : Nat} {S : Bool → World → Prop} {X : Nat → Prop} {fin : List (Nat × Nat) → Act → Prop}
    (hB : ogB ops t m = true) (hk : F.map kindOf = ks) (hI : initB ops t ks = true) (hX : ∀ k, X k → k < B) (hSf : ∀ b w w', S b w → Ext (fun k => B ≤ k) w w' → S b w')
    (hob : walk P ops t m F B S X fin 0 [] a0 ops.toList)
    (hfin : ∀ listed a w, Inv ops a0 t F B S listed a w → Region.ready .any ops listed = [] → Q .normal a w) :
    ∀ (fuel : Nat) (listed : Array Bool) (a : Act) (w : World), Inv ops a0 t F B S listed a w → (List.range ops.size).countP (fun i => !listed.getD i false) ≤ fuel → wpAny P .any ops Q fuel listed a w := by
  intro fuel
  have hsel : ∀ (j : Nat) (o : Oper) cs b, ops[j]? = some o → o.op ≠ .select cs b := by
    simp only [ogB, Bool.and_eq_true] at hB
    exact Region.noSelect_spec hB.1
  induction fuel with
  | zero =>
    intro listed a w inv hc
    have hnil : Region.ready .any ops listed = [] := by
      rw [List.eq_nil_iff_forall_not_mem]
      intro i hi
      obtain ⟨h0, o, ho, _⟩ := mem_ready.1 hi
      have hil : i < ops.size := (Array.getElem?_eq_some_iff.1 ho).1
      have h1 := List.countP_eq_zero.1 (Nat.le_zero.1 hc) i (List.mem_range.2 hil)
      simp only [getD_both h0, Bool.not_false, not_true_eq_false] at h1
    exact ⟨hnil, hfin _ _ _ inv hnil⟩
  | succ fuel ih =>
    intro listed a w inv hc
    refine ⟨fun hnil => hfin _ _ _ inv hnil, fun i hi => ?_⟩
    obtain ⟨h0, o, ho, hall⟩ := mem_ready.1 hi
    have hil : i < ops.size := (Array.getElem?_eq_some_iff.1 ho).1
    have hi0 : listed.getD i false = false := getD_both h0
    obtain ⟨u, γ, hu, hA, hR, hne⟩ := inv.ex
    obtain ⟨hget0, -⟩ := walk_get (uniq_of hB) hu ops.toList 0 [] a0 (by simp) (Agree.congr (Agree.nil ops a0 u) fun j => by simp) (by simp) hob
    obtain ⟨env', ap, hAp, hE, hW0⟩ := hget0 i o (by simpa using ho)
    rw [Nat.zero_add] at hAp hE hW0
    have hmode := okMode_of hB ho
    have hb : ∀ c, m.getD i none = some c → listed.getD t false = c := by
      intro c hc'
      unfold okMode at hmode
      rw [hc'] at hmode
      cases c with
      | false =>
        simp only [Bool.or_eq_true, beq_iff_eq] at hmode
        rcases hmode with rfl | hw
        · exact hi0
        · obtain ⟨ot, hot, e, he, heb, hon⟩ := Region.waitsFor_spec hw
          cases hl : listed.getD t false with
          | false => rfl
          | true => have := inv.closed t ot hot hl e he heb; rw [hon, hi0] at this; cases this
      | true =>
        simp only at hmode
        obtain ⟨oi, hoi, e, he, heb, hon⟩ := Region.waitsFor_spec hmode
        have : oi = o := Option.some.inj (hoi.symm.trans ho)
        subst this
        rw [← hon]; exact hall e he heb
    have hpl : ∀ j ∈ fpreds o, listed.getD j false = true := by
      intro j hj
      simp only [fpreds, List.mem_map, List.mem_filter] at hj
      obtain ⟨e, ⟨he, hle⟩, rfl⟩ := hj
      exact hall e (by simpa using he) (leans_binds hB ho e (by simpa using he) hle)
    have hdo := hW0 _ hb w inv.hS (fun e he hep hni => by
      obtain ⟨_, hfr, h2⟩ := (hE e).1 he
      obtain ⟨h3, h4⟩ := hR e.1 (hpl _ hep) hfr
      rw [h2]
      refine ⟨h3, ?_⟩
      unfold isFresh
      unfold holdsNow at h4
      cases hf : factAt F e.1 with
      | fresh mk ty old new =>
        rw [hf] at h4
        simp only at h4 ⊢
        have hfu : full F listed e.1 = false := by
          cases hx : full F listed e.1 with
          | false => rfl
          | true => rw [full_hasInit hx] at hni; cases hni
        rwa [hfu] at h4
      | _ => trivial)
    have hearly : ∀ j ∈ fpreds o, j < i := early_of hB ho
    have hlook : ∀ d ∈ o.looksAt ops, a.tmps[d]? = ap.tmps[d]? := by
      intro d hd
      refine agree_eval hA hAp d fun j hjd => ?_
      unfold dstOf at hjd
      cases hp : ops[j]? with
      | none => rw [hp] at hjd; cases hjd
      | some p =>
        rw [hp] at hjd
        simp only [Option.bind_some] at hjd
        have hok := okPair_of hB ho hp
        simp only [okPair, Bool.or_eq_true, Bool.and_eq_true, beq_iff_eq] at hok
        rcases hok with rfl | ⟨hok, _⟩
        · exact ⟨fun hj => (by rw [hi0] at hj; exact Bool.noConfusion hj), fun hj => absurd hj (Nat.lt_irrefl _)⟩
        · rw [hjd] at hok
          simp only [Bool.or_eq_true, Bool.not_eq_true', Bool.and_eq_true, decide_eq_true_eq] at hok
          rcases hok with (hok | hok) | ⟨hok, hij⟩
          · rw [List.contains_eq_mem] at hok
            simp only [decide_eq_false_iff_not] at hok
            exact absurd hd hok
          · have hjp : j ∈ fpreds o := List.contains_iff_mem.1 hok
            exact ⟨fun _ => hearly j hjp, fun _ => hpl j hjp⟩
          · obtain ⟨oj, hoj, e, he, heb, hon⟩ := Region.waitsFor_spec hok
            refine ⟨fun hj => ?_, fun hj => by omega⟩
            have := inv.closed j oj hoj hj e he heb
            rw [hon, hi0] at this; cases this
    have hwant := wanted_congr o hlook
    have hexec := exec_congr o (fun cs b => hsel i o cs b ho) hlook
    have hsz : a.tmps.size = ap.tmps.size := by rw [hA.size, hAp.size]
    have hget : ∀ j, (listed.setIfInBounds i true).getD j false = (listed.getD j false || i == j) := by
      intro j
      by_cases hij : i = j
      · subst hij; simp [inv.lsize, hil]
      · rw [getD_set_ne false hij]; simp [hij]
    have hnew : ∀ j, (listed.setIfInBounds i true).getD j false = true → j ≠ i → listed.getD j false = true := by
      intro j hj hji
      rw [hget] at hj
      simp only [Bool.or_eq_true, beq_iff_eq] at hj
      exact hj.resolve_right (Ne.symm hji)
    -- the step of the invariant
    have hstep : ∀ (u' : Nat → Value) (γ' : Nat → Nat) v w', (∀ j, goes F u' γ' j) → (∀ j, j ≠ i → u' j = u j ∧ γ' j = γ j) → u' i = v → S (listed.getD t false || i == t) w' → B ≤ w'.heap.size →
        (∀ j, (listed.setIfInBounds i true).getD j false = true → isFreshAt F j → B ≤ γ' j ∧ holdsNow F (listed.setIfInBounds i true) j (γ' j) w') →
        (∀ j, listed.getD j false = true → isFreshAt F j → isFreshAt F i → γ' j ≠ γ' i) →
        wpAny P .any ops Q fuel (listed.setIfInBounds i true) (a.put o.dst v) w' := by
      intro u' γ' v w' hu' hsame hv hS' hroom hR' hne'
      refine ih _ _ _ ⟨by simp [inv.lsize], ?_, ?_, hroom, u', γ', hu', ?_, hR', ?_⟩ (one_less hil hi0 inv.lsize hc)
      · intro j oj hoj hl e he heb
        rw [hget] at hl ⊢
        simp only [Bool.or_eq_true, beq_iff_eq] at hl ⊢
        rcases hl with hl | rfl
        · exact .inl (inv.closed j oj hoj hl e he heb)
        · have : oj = o := Option.some.inj (hoj.symm.trans ho)
          subst this
          exact .inl (hall e he heb)
      · rw [hget]; exact hS'
      · have hd : o.dst = dstOf ops i := by simp [dstOf, ho]
        rw [hd]
        refine Agree.congr (hA.put (u' := u') i v (fun j d hj h1 h2 => uniq_of hB j i d h1 h2) (fun j _ hji => (hsame j hji).1) hv) fun j => ?_
        rw [hget]
        simp only [Bool.or_eq_true, beq_iff_eq]
        exact ⟨fun h => Or.imp id Eq.symm h, fun h => Or.imp id Eq.symm h⟩
      · intro j j' hj hj' hfj hfj' hjj
        by_cases hji : j = i
        · subst hji
          have hj'i : j' ≠ j := fun h => hjj h.symm
          exact (hne' j' (hnew j' hj' hj'i) hfj' hfj).symm
        · by_cases hj'i : j' = i
          · subst hj'i
            exact hne' j (hnew j hj hji) hfj hfj'
          · rw [(hsame j hji).2, (hsame j' hj'i).2]
            exact hne j j' (hnew j hj hji) (hnew j' hj' hj'i) hfj hfj' hjj
    have hnotfull : ∀ j, (∀ jj, factAt F i = .init jj → jj ≠ j) → full F (listed.setIfInBounds i true) j = full F listed j := by
      intro j hj
      rw [full_set (by rw [inv.lsize]; exact hil)]
      cases hf : factAt F i with
      | init jj => simp [hj jj hf]
      | _ => simp
    have hkeep : ∀ j w' (Y : Nat → Prop), Ext Y w w' → ¬Y (γ j) → (∀ jj, factAt F i = .init jj → jj ≠ j) → holdsNow F listed j (γ j) w → holdsNow F (listed.setIfInBounds i true) j (γ j) w' := by
      intro j w' Y hy hnY hj h
      unfold holdsNow at h ⊢
      rw [hnotfull j hj]
      cases hf : factAt F j with
      | fresh mk ty old new => rw [hf] at h; exact Cells.ext h hy hnY
      | _ => trivial
    have hnX : ∀ j, B ≤ γ j → ¬X (γ j) := fun j hj hx => by have := hX _ hx; omega
    unfold wpOp
    rw [ho]
    simp only
    cases hf : factAt F i with
    | is c =>
      rw [hf] at hdo
      unfold step at hdo
      have hni : ∀ jj, factAt F i = .init jj → ∀ j, jj ≠ j := fun jj h => by rw [hf] at h; cases h
      have hnf : ¬isFreshAt F i := by unfold isFreshAt; rw [hf]; exact id
      have hui : u i = c := by have := hu i; unfold goes at this; rw [hf] at this; exact this
      simp only at hdo
      rw [← hwant] at hdo
      by_cases hw : Region.wanted o (yielded ops a.tmps) = true
      · rw [if_pos hw] at hdo ⊢
        refine .inl (wp_over hexec hsz (hdo _ fun a' w' h => h) (fun a' w' h => by rw [h.act, put_defers_eq]) ?_)
        intro v w' h
        rw [put_eq_transfer hsz h.act]
        refine hstep u γ c w' hu (fun _ _ => ⟨rfl, rfl⟩) hui h.inv (Nat.le_trans inv.room h.ext.size) (fun j hj hfj => ?_) (fun _ _ _ hfi => (hnf hfi).elim)
        have hji : j ≠ i := by rintro rfl; exact hnf hfj
        obtain ⟨h3, h4⟩ := hR j (hnew j hj hji) hfj
        exact ⟨h3, hkeep j w' X h.ext (hnX j h3) (fun jj hjj => hni jj hjj j) h4⟩
      · rw [if_neg hw] at hdo ⊢
        obtain ⟨h1, rfl⟩ := hdo
        refine hstep u γ undef w hu (fun _ _ => ⟨rfl, rfl⟩) hui h1 inv.room (fun j hj hfj => ?_) (fun _ _ _ hfi => (hnf hfi).elim)
        have hji : j ≠ i := by rintro rfl; exact hnf hfj
        obtain ⟨h3, h4⟩ := hR j (hnew j hj hji) hfj
        exact ⟨h3, hkeep j w X (Ext.refl _ _) (hnX j h3) (fun jj hjj => hni jj hjj j) h4⟩
    | fresh mk ty old new =>
      rw [hf] at hdo
      unfold step at hdo
      simp only at hdo
      obtain ⟨hw, hdo⟩ := hdo
      rw [← hwant] at hw
      rw [if_pos hw]
      have hni : ∀ jj, factAt F i = .init jj → ∀ j, jj ≠ j := fun jj h => by rw [hf] at h; cases h
      refine .inl (wp_over hexec hsz (hdo _ fun a' w' h => h) (fun a' w' h => by obtain ⟨g, e, _⟩ := h.act; rw [e, put_defers_eq]) ?_)
      intro v w' h
      obtain ⟨g, hact, hg, hcells⟩ := h.act
      rw [put_eq_transfer hsz hact]
      have hfulli : full F listed i = false := by
        cases hx : full F listed i with
        | false => rfl
        | true =>
          exfalso
          simp only [full, List.any_eq_true, List.mem_range, Bool.and_eq_true] at hx
          obtain ⟨s, hs, hsl, hsi⟩ := hx
          cases hfs : factAt F s with
          | init j =>
            rw [hfs] at hsi
            simp only [beq_iff_eq] at hsi
            subst hsi
            have hss : s < ops.size := by rw [← inv.lsize]; exact hs
            obtain ⟨_, ⟨os, hos, hmem⟩, _⟩ := init_spec hk hI hfs hss
            simp only [fpreds, List.mem_map, List.mem_filter] at hmem
            obtain ⟨e, ⟨he, hle⟩, hon⟩ := hmem
            have := inv.closed s os hos hsl e (by simpa using he) (leans_binds hB hos e (by simpa using he) hle)
            rw [hon, hi0] at this; cases this
          | _ => rw [hfs] at hsi; cases hsi
      refine hstep (fun j => if j = i then mk g else u j) (fun j => if j = i then g else γ j) (mk g) w' ?_ ?_ (by simp) h.inv (Nat.le_trans inv.room h.ext.size) ?_ ?_
      · intro j
        by_cases hji : j = i
        · subst hji
          unfold goes
          rw [hf]
          simp
        · have := hu j
          unfold goes at this ⊢
          cases hfj : factAt F j <;> rw [hfj] at this <;> simp only [if_neg hji] <;> exact this
      · intro j hji; simp [hji]
      · intro j hj hfj
        by_cases hji : j = i
        · subst hji
          simp only [if_pos]
          refine ⟨Nat.le_trans inv.room hg, ?_⟩
          unfold holdsNow
          rw [hnotfull j (fun jj hjj => hni jj hjj j), hf, hfulli]
          exact hcells
        · simp only [if_neg hji]
          obtain ⟨h3, h4⟩ := hR j (hnew j hj hji) hfj
          exact ⟨h3, hkeep j w' X h.ext (hnX j h3) (fun jj hjj => hni jj hjj j) h4⟩
      · intro j hj hfj _
        have hji : j ≠ i := by rintro rfl; rw [hi0] at hj; cases hj
        simp only [if_neg hji, if_pos]
        obtain ⟨h3, h4⟩ := hR j hj hfj
        have hlt : γ j < w.heap.size := by
          unfold holdsNow at h4
          unfold isFreshAt at hfj
          cases hfj2 : factAt F j <;> rw [hfj2] at h4 hfj
          case fresh => exact Cells.lt h4
          all_goals exact hfj.elim
        omega
    | init j =>
      rw [hf] at hdo
      unfold step at hdo
      simp only at hdo
      obtain ⟨hw, hdo⟩ := hdo
      rw [← hwant] at hw
      rw [if_pos hw]
      obtain ⟨hit, ⟨o', ho', hmem⟩, hfrj, huni⟩ := init_spec hk hI hf hil
      have : o' = o := Option.some.inj (ho'.symm.trans ho)
      subst this
      have hji : j ≠ i := by have := hearly j hmem; omega
      have hnf : ¬isFreshAt F i := by unfold isFreshAt; rw [hf]; exact id
      obtain ⟨h3, h4⟩ := hR j (hpl j hmem) hfrj
      cases hfj : factAt F j with
      | is c => unfold isFreshAt at hfrj; rw [hfj] at hfrj; exact hfrj.elim
      | init _ => unfold isFreshAt at hfrj; rw [hfj] at hfrj; exact hfrj.elim
      | fresh mk ty old new =>
        have hfullj : full F listed j = false := by
          cases hx : full F listed j with
          | false => rfl
          | true =>
            exfalso
            simp only [full, List.any_eq_true, List.mem_range, Bool.and_eq_true] at hx
            obtain ⟨s, hs, hsl, hsi⟩ := hx
            cases hfs : factAt F s with
            | init j' =>
              rw [hfs] at hsi
              simp only [beq_iff_eq] at hsi
              subst hsi
              have := huni s (by rw [← inv.lsize]; exact hs) hfs
              subst this
              rw [hi0] at hsl; cases hsl
            | _ => rw [hfs] at hsi; cases hsi
        have hcells : Cells w (γ j) ty old := by
          unfold holdsNow at h4
          rw [hfj, hfullj] at h4
          exact h4
        have hin : (j, γ j) ∈ env' := (hE (j, γ j)).2 ⟨hearly j hmem, hfrj, rfl⟩
        refine .inl (wp_over hexec hsz (hdo (γ j) hin h3 mk ty old new hfj hcells _ fun a' w' h => h) (fun a' w' h => by rw [h.act, put_defers_eq]) ?_)
        intro v w' h
        rw [put_eq_transfer hsz h.act]
        have hui : u i = undef := by have := hu i; unfold goes at this; rw [hf] at this; exact this
        refine hstep u γ undef w' hu (fun _ _ => ⟨rfl, rfl⟩) hui ?_ (Nat.le_trans inv.room h.ext.size) (fun k hk' hfk => ?_) (fun _ _ _ hfi => (hnf hfi).elim)
        · have hbt : (i == t) = false := by simpa using hit
          rw [hbt, Bool.or_false]
          exact hSf _ w w' inv.hS (h.ext.mono fun k hk => by subst hk; exact h3)
        · have hki : k ≠ i := by rintro rfl; exact hnf hfk
          have hkl := hnew k hk' hki
          obtain ⟨h5, h6⟩ := hR k hkl hfk
          refine ⟨h5, ?_⟩
          by_cases hkj : k = j
          · subst hkj
            unfold holdsNow
            rw [hfj]
            have : full F (listed.setIfInBounds i true) k = true := by
              rw [full_set (by rw [inv.lsize]; exact hil), hf]; simp
            rw [this]
            exact h.cells
          · exact hkeep k w' (· = γ j) h.ext (hne k j hkl (hpl j hmem) hfk hfrj hkj) (fun jj hjj => by rw [hf] at hjj; cases hjj; exact fun h => hkj h.symm) h6

/-- **The law.** -/
theorem wp_region_oh {P : Program} {ops : Array Oper} {id : Nat} {Q : Exit → Act → World → Prop} {a0 : Act} {w0 : World} (t : Nat) (m : List (Option Bool)) (ks : List Kind) (F : List Fact) (B : Nat) (S : Bool → World → Prop) (X : Nat → Prop)
    (hm : P.follows .mixedOrders = true) (hB : ogB ops t m = true) (hI : initB ops t ks = true) (hk : F.map kindOf = ks) (hX : ∀ k, X k → k < B) (hSf : ∀ b w w', S b w → Ext (fun k => B ≤ k) w w' → S b w')
    (hroom : B ≤ w0.heap.size) (h0 : S false w0.drew)
    (hob : walk P ops t m F B S X (fun env a => ∀ w, S (decide (t < ops.size)) w → B ≤ w.heap.size → (∀ e ∈ env, B ≤ e.2 ∧ isFull F e.1 e.2 w) → (∀ e ∈ env, ∀ e' ∈ env, e.1 ≠ e'.1 → e.2 ≠ e'.2) → Q .normal a w) 0 [] a0 ops.toList) : (Code.region id ops true).wp P Q a0 w0 := by
  refine wp_region_any hm (wpAny_oh hB hk hI hX hSf hob ?_ ops.size _ a0 _ ⟨by simp, ?_, ?_, hroom, ⟨fun i => match factAt F i with | .is c => c | .fresh mk _ _ _ => mk 0 | .init _ => undef, fun _ => 0, ?_, ?_, ?_, ?_⟩⟩ ?_)
  · intro listed a w inv hnil
    have hfull : ∀ n, n ≤ ops.size → ∀ i, i < n → listed.getD i false = true := by
      intro n
      induction n with
      | zero => intro _ i hi; omega
      | succ n ih =>
        intro hn i hi
        rcases Nat.lt_or_ge i n with h | h
        · exact ih (by omega) i h
        · have hin : i = n := by omega
          subst hin
          cases hl : listed.getD i false with
          | true => rfl
          | false =>
            exfalso
            have hmem : i ∈ Region.ready .any ops listed := by
              rw [mem_ready]
              refine ⟨getD_in (by rw [inv.lsize]; omega) hl, ops[i], Array.getElem?_eq_getElem (by omega), fun e he heb => ?_⟩
              exact ih (by omega) e.on (earlier_of hB (Array.getElem?_eq_getElem (by omega)) e he heb)
            rw [hnil] at hmem; cases hmem
    have hlist : ∀ i, i < ops.size → listed.getD i false = true := hfull _ (Nat.le_refl _)
    obtain ⟨u, γ, hu, hA, hR, hne⟩ := inv.ex
    have hS : S (decide (t < ops.size)) w := by
      have := inv.hS
      by_cases ht : t < ops.size
      · rw [hlist t ht] at this; simpa [ht] using this
      · have h1 : listed.getD t false = false := by
          simp [Array.getD_eq_getD_getElem?, Array.getElem?_eq_none (xs := listed) (i := t) (by rw [inv.lsize]; omega)]
        rw [h1] at this; simpa [ht] using this
    obtain ⟨-, env', a', hA', hE', hQ⟩ := walk_get (uniq_of hB) hu ops.toList 0 [] a0 (by simp) (Agree.congr (Agree.nil ops a0 u) fun j => by simp) (by simp) hob
    have hfs : full F listed = hasInit F := by
      funext i
      cases hx : full F listed i with
      | true => exact (full_hasInit hx).symm
      | false =>
        cases hy : hasInit F i with
        | false => rfl
        | true =>
          exfalso
          simp only [hasInit, List.any_eq_true] at hy
          obtain ⟨f, hf, hy⟩ := hy
          obtain ⟨s, hs, rfl⟩ := List.getElem_of_mem hf
          have hlen : F.length = ops.size := by
            simp only [initB, Bool.and_eq_true, beq_iff_eq] at hI
            rw [← hI.1, ← hk, List.length_map]
          have hso : s < ops.size := by omega
          have : full F listed i = true := by
            simp only [full, List.any_eq_true, List.mem_range, Bool.and_eq_true]
            refine ⟨s, by rw [inv.lsize]; exact hso, hlist s hso, ?_⟩
            unfold factAt
            rw [List.getD_eq_getElem?_getD, List.getElem?_eq_getElem hs]
            exact hy
          rw [this] at hx; cases hx
    have hl : ∀ e, e ∈ env' → e.1 < ops.size := fun e he => by have := ((hE' e).1 he).1; simpa using this
    have : a = a' := by
      have ht : a.tmps = a'.tmps := by
        refine Array.ext_getElem? fun s => agree_eval hA hA' s fun j hjd => ?_
        have hjl : j < ops.size := by
          unfold dstOf at hjd
          cases hp : ops[j]? with
          | none => rw [hp] at hjd; cases hjd
          | some p => exact (Array.getElem?_eq_some_iff.1 hp).1
        exact ⟨fun _ => by simpa using hjl, fun _ => hlist j hjl⟩
      have hd : a.defers = a'.defers := by rw [hA.defers, hA'.defers]
      cases a; cases a'
      simp only at ht hd
      rw [ht, hd]
    rw [this]
    refine hQ w hS inv.room (fun e he => ?_) (fun e he e' he' hee => ?_)
    · obtain ⟨_, hfr, h2⟩ := (hE' e).1 he
      obtain ⟨h3, h4⟩ := hR e.1 (hlist _ (hl e he)) hfr
      rw [h2]
      refine ⟨h3, ?_⟩
      unfold isFull
      unfold holdsNow at h4
      rw [hfs] at h4
      exact h4
    · obtain ⟨_, hfr, h2⟩ := (hE' e).1 he
      obtain ⟨_, hfr', h2'⟩ := (hE' e').1 he'
      rw [h2, h2']
      exact hne _ _ (hlist _ (hl e he)) (hlist _ (hl e' he')) hfr hfr' hee
  · intro j o _ h
    rw [getD_replicate_false] at h; cases h
  · rw [getD_replicate_false]; exact h0
  · intro i
    unfold goes
    cases hf : factAt F i <;> simp only [hf]
  · refine ⟨rfl, rfl, fun j d hj => ?_, fun _ _ => rfl⟩
    rw [getD_replicate_false] at hj; cases hj
  · intro j hj
    rw [getD_replicate_false] at hj; cases hj
  · intro i j hi
    rw [getD_replicate_false] at hi; cases hi
  · exact Nat.le_trans List.countP_le_length (by simp)

/-- The law at a region whose operations are written out. -/
theorem wp_region_oh_lit {P : Program} {l : List Oper} {id : Nat} {Q : Exit → Act → World → Prop} {a0 : Act} {w0 : World} (t : Nat) (m : List (Option Bool)) (ks : List Kind) (F : List Fact) (B : Nat) (S : Bool → World → Prop) (X : Nat → Prop)
    (hm : P.follows .mixedOrders = true) (hB : ogB l.toArray t m = true) (hI : initB l.toArray t ks = true) (hk : F.map kindOf = ks) (hX : ∀ k, X k → k < B) (hSf : ∀ b w w', S b w → Ext (fun k => B ≤ k) w w' → S b w')
    (hroom : B ≤ w0.heap.size) (h0 : S false w0.drew)
    (hob : walk P l.toArray t m F B S X (fun env a => ∀ w, S (decide (t < l.length)) w → B ≤ w.heap.size → (∀ e ∈ env, B ≤ e.2 ∧ isFull F e.1 e.2 w) → (∀ e ∈ env, ∀ e' ∈ env, e.1 ≠ e'.1 → e.2 ≠ e'.2) → Q .normal a w) 0 [] a0 l) : (Code.region id l.toArray true).wp P Q a0 w0 :=
  wp_region_oh t m ks F B S X hm hB hI hk hX hSf hroom h0 (by simpa using hob)

/-! ### The steps of a walk. -/
section
variable {P : Program} {ops : Array Oper} {t : Nat} {m : List (Option Bool)} {F : List Fact} {B : Nat} {S : Bool → World → Prop} {X : Nat → Prop} {fin : List (Nat × Nat) → Act → Prop}
  {i : Nat} {env : List (Nat × Nat)} {a : Act} {o : Oper} {rest : List Oper}
theorem walk_is {c : Value} (hF : factAt F i = .is c) (hw : Region.wanted o (yielded ops a.tmps) = true)
    (h1 : ∀ b, (∀ c, m.getD i none = some c → b = c) → ∀ w, S b w → leansOn F B env (fpreds o) w →
      ∀ K : Act → World → Prop, (∀ a' w', Told a o.dst c (S (b || i == t)) X w a' w' → K a' w') → o.wp P a w K noExit)
    (h2 : walk P ops t m F B S X fin (i + 1) env (a.put o.dst c) rest) : walk P ops t m F B S X fin i env a (o :: rest) := by
  refine ⟨fun b hb w hS hE => ?_, by rw [hF]; exact h2⟩
  rw [hF]
  unfold step
  simp only
  rw [if_pos hw]
  exact h1 b hb w hS hE
theorem walk_skip (hF : factAt F i = .is undef) (hw : Region.wanted o (yielded ops a.tmps) = false) (hit : (i == t) = false)
    (h2 : walk P ops t m F B S X fin (i + 1) env (a.put o.dst undef) rest) : walk P ops t m F B S X fin i env a (o :: rest) := by
  refine ⟨fun b hb w hS hE => ?_, by rw [hF]; exact h2⟩
  rw [hF]
  unfold step
  simp only
  rw [if_neg (by rw [hw]; exact Bool.false_ne_true), hit, Bool.or_false]
  exact ⟨hS, trivial⟩
theorem walk_fresh {mk : Nat → Value} {ty : TypeId} {old new : Array Value} (hF : factAt F i = .fresh mk ty old new) (hw : Region.wanted o (yielded ops a.tmps) = true)
    (h1 : ∀ b, (∀ c, m.getD i none = some c → b = c) → ∀ w, S b w → leansOn F B env (fpreds o) w →
      ∀ K : Act → World → Prop, (∀ a' w', Laid a o.dst mk ty old (S (b || i == t)) X w a' w' → K a' w') → o.wp P a w K noExit)
    (h2 : ∀ g, walk P ops t m F B S X fin (i + 1) (env ++ [(i, g)]) (a.put o.dst (mk g)) rest) : walk P ops t m F B S X fin i env a (o :: rest) := by
  refine ⟨fun b hb w hS hE => ?_, by rw [hF]; exact h2⟩
  rw [hF]
  unfold step
  exact ⟨hw, h1 b hb w hS hE⟩
theorem walk_init {j g : Nat} {mk : Nat → Value} {ty : TypeId} {old new : Array Value} (hF : factAt F i = .init j) (hFj : factAt F j = .fresh mk ty old new) (henv : ∀ g', (j, g') ∈ env → g' = g) (hw : Region.wanted o (yielded ops a.tmps) = true)
    (h1 : ∀ b, (∀ c, m.getD i none = some c → b = c) → ∀ w, S b w → leansOn F B env (fpreds o) w → B ≤ g → Cells w g ty old →
      ∀ K : Act → World → Prop, (∀ a' w', Filled a o.dst g ty new w a' w' → K a' w') → o.wp P a w K noExit)
    (h2 : walk P ops t m F B S X fin (i + 1) env (a.put o.dst undef) rest) : walk P ops t m F B S X fin i env a (o :: rest) := by
  refine ⟨fun b hb w hS hE => ?_, by rw [hF]; exact h2⟩
  rw [hF]
  unfold step
  refine ⟨hw, fun g' hin hg mk' ty' old' new' hFj' hc => ?_⟩
  obtain rfl := henv g' hin
  rw [hFj] at hFj'
  injection hFj' with e1 e2 e3 e4
  subst e1 e2 e3 e4
  exact h1 b hb w hS hE hg hc
theorem walk_end (h : fin env a) : walk P ops t m F B S X fin i env a [] := h
end
#print axioms wp_region_oh_lit
end Go.Oh
