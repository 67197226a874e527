/-
  A region that draws its order, whose last operation waits for all others: the others by the law of the text before, the last one at the end, behind all of them.
-/
import Derived.Test.YtnaiifidcpdamaaDoorOg
set_option linter.unusedVariables false
set_option linter.unusedSimpArgs false
namespace Go.Og
open Go.RowKit
/-- Each operation but the last is waited for by a later one. -/
def lastB (ops : Array Oper) (n : Nat) : Bool := (List.range n).all fun j => (List.range (n + 1)).any fun i => decide (j < i) && Region.waitsFor .any ops i j
theorem lastB_spec {ops : Array Oper} {n : Nat} (h : lastB ops n = true) : ∀ j, j < n → ∃ i, j < i ∧ i ≤ n ∧ Region.waitsFor .any ops i j = true := by
  intro j hj
  simp only [lastB, List.all_eq_true, List.mem_range, List.any_eq_true, Bool.and_eq_true, decide_eq_true_eq] at h
  obtain ⟨i, hi, h1, h2⟩ := h j hj
  exact ⟨i, h1, by omega, h2⟩
theorem wp_noExit {P : Program} {o : Oper} {a : Act} {w : World} {K : Act → World → Prop} {Q : Exit → Act → World → Prop} (h : o.wp P a w K noExit) : o.wp P a w K Q := by
  unfold Oper.wp at *
  generalize (execOp a.eval o).run P w = r at *
  cases r with
  | ok n w' =>
    cases n <;> simp only [Oper.upon] at h ⊢
    case enter f args =>
      exact h.mono fun e w'' he => by
        cases e with
        | returned v0 => exact he
        | panicked c => exact he.elim
        | outgrown => obtain ⟨_, _, h⟩ := he; exact h.elim
    all_goals first | exact h | exact h.elim
  | halt x w' =>
    cases x <;> simp only [Oper.upon] at h ⊢
    all_goals first | exact h.elim | exact h
/-- What the walk shows of operation number k + i. -/
theorem walk_getp {P : Program} {ops : Array Oper} {t : Nat} {m : List (Option Bool)} {F : List Fact} {S : Bool → World → Prop} {Rel : World → World → Prop} {fin : List (Nat × (World → Prop)) → Act → Prop} {a0 : Act} {u : Nat → Value}
    (huniq : ∀ j j' d, dstOf ops j = some d → dstOf ops j' = some d → j = j') (hu : ∀ i c, factAt F i = .is c → u i = c) :
    ∀ (l : List Oper) (k : Nat) (env : List (Nat × (World → Prop))) (a : Act), (∀ j, j < l.length → l[j]? = ops[k + j]?) → Agree ops a0 (fun j => j < k) u a →
      (∀ e ∈ env, e.1 < k ∧ ∃ R, factAt F e.1 = .such R ∧ e.2 = R (u e.1)) →
      walk P ops t m F S Rel fin k env a l →
      (∀ i o, l[i]? = some o → (factAt F (k + i)).stable Rel ∧ ∃ env' a', Agree ops a0 (fun j => j < k + i) u a' ∧ (∀ e ∈ env', e.1 < k + i ∧ ∃ R, factAt F e.1 = .such R ∧ e.2 = R (u e.1)) ∧
        ∀ b, (∀ c, m.getD (k + i) none = some c → b = c) → ∀ w, S b w → leansOn env' (fpreds o) w → does P ops (factAt F (k + i)) Rel (S (b || (k + i) == t)) o w a') ∧
      ∃ env' a', Agree ops a0 (fun j => j < k + l.length) u a' ∧ (∀ e ∈ env', e.1 < k + l.length ∧ ∃ R, factAt F e.1 = .such R ∧ e.2 = R (u e.1)) ∧ fin env' a'
  | [], k, env, a, _, hA, hE, h => ⟨fun i o hi => by simp at hi, env, a, by simpa using hA, by simpa using hE, h⟩
  | o :: l, k, env, a, hl, hA, hE, h => by
    obtain ⟨hs, h1, h2⟩ := h
    have h0 : ops[k]? = some o := by simpa using (hl 0 (by simp)).symm
    have hd : o.dst = dstOf ops k := by simp [dstOf, h0]
    have hA' : Agree ops a0 (fun j => j < k + 1) u (a.put o.dst (u k)) := by
      rw [hd]
      refine (hA.put (u' := u) k (u k) (fun j d _ h1 h2 => huniq j k d h1 h2) (fun _ _ _ => rfl) rfl).congr fun j => ?_
      omega
    have hrest : ∃ env1, (∀ e ∈ env1, e.1 < k + 1 ∧ ∃ R, factAt F e.1 = .such R ∧ e.2 = R (u e.1)) ∧ walk P ops t m F S Rel fin (k + 1) env1 (a.put o.dst (u k)) l := by
      cases hf : factAt F k with
      | is c =>
        rw [hf] at h2
        refine ⟨env, fun e he => ⟨by have := (hE e he).1; omega, (hE e he).2⟩, ?_⟩
        rw [hu k c hf]; exact h2
      | such R =>
        rw [hf] at h2
        refine ⟨_, fun e he => ?_, h2 (u k)⟩
        rcases List.mem_append.1 he with he | he
        · exact ⟨by have := (hE e he).1; omega, (hE e he).2⟩
        · simp only [List.mem_singleton] at he
          subst he
          exact ⟨by simp, R, hf, rfl⟩
    obtain ⟨env1, hE1, hw1⟩ := hrest
    have ih := walk_getp huniq hu l (k + 1) env1 _ (fun j hj => by have := hl (j + 1) (by simpa using hj); simpa [Nat.add_assoc, Nat.add_comm 1 j] using this) hA' hE1 hw1
    refine ⟨fun i o' hi => ?_, ?_⟩
    · cases i with
      | zero =>
        simp at hi; subst hi
        exact ⟨hs, env, a, hA, hE, h1⟩
      | succ i =>
        have := ih.1 i o' (by simpa using hi)
        rwa [show k + 1 + i = k + (i + 1) by omega] at this
    · have := ih.2
      rwa [show k + 1 + l.length = k + (o :: l).length by simp; omega] at this

/-- The last operation's goal. -/
def lastly (P : Program) (o : Oper) (S : World → Prop) (Q : Exit → Act → World → Prop) (env : List (Nat × (World → Prop))) (a : Act) : Prop :=
  ∀ w, S w → (∀ e ∈ env, e.2 w) → ∀ K : Act → World → Prop, (∀ a' w', Q .normal a' w' → K a' w') → o.wp P a w K noExit
theorem wpAny_last {P : Program} {ops : Array Oper} {Q : Exit → Act → World → Prop} {a0 : Act} {n : Nat} {F : List Fact} {S : World → Prop} {Rel : World → World → Prop} {l : List Oper} {oL : Oper}
    (hops : ops.toList = l ++ [oL]) (hn : l.length = n) (hgd : oL.guard = none) (hlast : lastB ops n = true)
    (hB : ogB ops (n + 1) [] = true) (hob : walk P ops (n + 1) [] F (fun _ => S) Rel (lastly P oL S Q) 0 [] a0 l) :
    ∀ (fuel : Nat) (listed : Array Bool) (a : Act) (w : World), Inv ops a0 (n + 1) F (fun _ => S) listed a w → listed.getD n false = false → (List.range ops.size).countP (fun i => !listed.getD i false) ≤ fuel → wpAny P .any ops Q fuel listed a w := by
  have hsize : ops.size = n + 1 := by
    have := congrArg List.length hops
    simpa [hn] using this
  have hopl : ∀ j, j < n → l[j]? = ops[j]? := by
    intro j hj
    have : ops.toList[j]? = ops[j]? := by simp
    rw [← this, hops, List.getElem?_append_left (by omega)]
  have hoL : ops[n]? = some oL := by
    have : ops.toList[n]? = ops[n]? := by simp
    rw [← this, hops, List.getElem?_append_right (by omega), hn]
    simp
  have hsel : ∀ (j : Nat) (o : Oper) cs b, ops[j]? = some o → o.op ≠ .select cs b := by
    have := hB
    simp only [ogB, Bool.and_eq_true] at this
    exact Region.noSelect_spec this.1
  -- while the last is not listed, something is ready
  have hsome : ∀ (listed : Array Bool) (a : Act) (w : World), Inv ops a0 (n + 1) F (fun _ => S) listed a w → listed.getD n false = false → Region.ready .any ops listed = [] → False := by
    intro listed a w inv hln hnil
    have hfull : ∀ q, q ≤ ops.size → ∀ i, i < q → listed.getD i false = true := by
      intro q
      induction q with
      | zero => intro _ i hi; omega
      | succ q ih =>
        intro hq i hi
        rcases Nat.lt_or_ge i q with h | h
        · exact ih (by omega) i h
        · have hin : i = q := by omega
          subst hin
          cases hl : listed.getD i false with
          | true => rfl
          | false =>
            exfalso
            have hmem : i ∈ Region.ready .any ops listed := by
              rw [mem_ready]
              refine ⟨getD_in (by rw [inv.lsize]; omega) hl, ops[i], Array.getElem?_eq_getElem (by omega), fun e he heb => ?_⟩
              exact ih (by omega) e.on (earlier_of hB (Array.getElem?_eq_getElem (by omega)) e he heb)
            rw [hnil] at hmem; cases hmem
    have := hfull ops.size (Nat.le_refl _) n (by omega)
    rw [hln] at this
    cases this
  intro fuel
  induction fuel with
  | zero =>
    intro listed a w inv hln hc
    exfalso
    have h1 := List.countP_eq_zero.1 (Nat.le_zero.1 hc) n (List.mem_range.2 (by omega))
    simp only [hln, Bool.not_false, not_true_eq_false] at h1
  | succ fuel ih =>
    intro listed a w inv hln hc
    refine ⟨fun hnil => (hsome _ _ _ inv hln hnil).elim, fun i hi => ?_⟩
    obtain ⟨h0, o, ho, hall⟩ := mem_ready.1 hi
    have hil : i < ops.size := (Array.getElem?_eq_some_iff.1 ho).1
    have hi0 : listed.getD i false = false := getD_both h0
    obtain ⟨u, hu, hA, hR⟩ := inv.ex
    obtain ⟨hget0, env1, a1, hA1, hE1, hF1⟩ := walk_getp (uniq_of hB) hu l 0 [] a0 (fun j hj => by rw [Nat.zero_add]; exact hopl j (by omega)) ((Agree.nil ops a0 u).congr fun j => by simp) (by simp) hob
    by_cases hin : i = n
    · -- the last one: all others are listed
      subst hin
      obtain rfl : o = oL := Option.some.inj (ho.symm.trans hoL)
      have hdown : ∀ k, k ≤ i → ∀ j, i - k ≤ j → j < i → listed.getD j false = true := by
        intro k
        induction k with
        | zero => intro _ j h1 h2; omega
        | succ k ihk =>
          intro hk j h1 h2
          rcases Nat.lt_or_ge j (i - k) with h | h
          · obtain ⟨p, hp1, hp2, hp3⟩ := lastB_spec hlast j h2
            obtain ⟨op, hop, e, he, heb, hon⟩ := Region.waitsFor_spec hp3
            rcases Nat.lt_or_ge p i with hpi | hpi
            · have := inv.closed p op hop (ihk (by omega) p (by omega) hpi) e he heb
              rwa [hon] at this
            · obtain rfl : p = i := by omega
              obtain rfl : op = o := Option.some.inj (hop.symm.trans ho)
              rw [← hon]
              exact hall e he heb
          · exact ihk (by omega) j h h2
      have hlist : ∀ j, j < i → listed.getD j false = true := fun j hj => hdown i (Nat.le_refl _) j (by omega) hj
      have haa : a = a1 := by
        have ht : a.tmps = a1.tmps := by
          refine Array.ext_getElem? fun s => agree_eval hA hA1 s fun j hjd => ?_
          have hjl : j < ops.size := by
            unfold dstOf at hjd
            cases hp : ops[j]? with
            | none => rw [hp] at hjd; cases hjd
            | some p => exact (Array.getElem?_eq_some_iff.1 hp).1
          refine ⟨fun hj => ?_, fun hj => hlist j (by omega)⟩
          rcases Nat.lt_or_ge j i with h | h
          · omega
          · obtain rfl : j = i := by omega
            rw [hi0] at hj; cases hj
        have hd : a.defers = a1.defers := by rw [hA.defers, hA1.defers]
        cases a; cases a1
        simp only at ht hd
        rw [ht, hd]
      have hlast1 := hF1 w inv.hS (fun e he => by
        obtain ⟨hlt, R, hf, h2⟩ := hE1 e he
        rw [h2]
        have := hR e.1 (hlist _ (by omega))
        rwa [hf] at this)
      unfold wpOp
      rw [ho]
      simp only
      have hwt : Region.wanted o (yielded ops a.tmps) = true := by
        unfold Region.wanted
        rw [hgd]
      rw [if_pos hwt, haa]
      refine .inl (wp_noExit (hlast1 _ fun a' w' hq => ?_))
      have hnil : Region.ready .any ops (listed.setIfInBounds i true) = [] := by
        rw [List.eq_nil_iff_forall_not_mem]
        intro j hj
        obtain ⟨k0, oj, hoj, _⟩ := mem_ready.1 hj
        have hjl : j < ops.size := (Array.getElem?_eq_some_iff.1 hoj).1
        have hj0 := getD_both k0
        by_cases hji : i = j
        · subst hji
          have : (listed.setIfInBounds i true).getD i false = true := by simp [inv.lsize, hil]
          rw [this] at hj0; cases hj0
        · rw [getD_set_ne false hji, hlist j (by omega)] at hj0
          cases hj0
      cases fuel with
      | zero => exact ⟨hnil, hq⟩
      | succ f => exact ⟨fun _ => hq, fun j hj => by rw [hnil] at hj; cases hj⟩
    have hil' : i < n := by omega
    have hget1 : (factAt F i).stable Rel ∧ ∃ env' a', Agree ops a0 (fun j => j < i) u a' ∧ (∀ e ∈ env', e.1 < i ∧ ∃ R, factAt F e.1 = .such R ∧ e.2 = R (u e.1)) ∧
        ∀ b, (∀ c, ([] : List (Option Bool)).getD i none = some c → b = c) → ∀ w, S w → leansOn env' (fpreds o) w → does P ops (factAt F i) Rel S o w a' := by
      have := hget0 i o (by rw [hopl i hil']; exact ho)
      simpa using this
    obtain ⟨hstab, env', ap, hAp, hE, hW0⟩ := hget1
    have hpl : ∀ j ∈ fpreds o, listed.getD j false = true := by
      intro j hj
      simp only [fpreds, List.mem_map, List.mem_filter] at hj
      obtain ⟨e, ⟨he, hle⟩, rfl⟩ := hj
      exact hall e (by simpa using he) (leans_binds hB ho e (by simpa using he) hle)
    have hdo := hW0 false (fun c hc' => by simp at hc') w inv.hS (fun e he hep => by
      obtain ⟨_, R, hf, h2⟩ := hE e he
      rw [h2]
      have := hR e.1 (hpl _ hep)
      rwa [hf] at this)
    -- predecessors come earlier in the text
    have hearly : ∀ j ∈ fpreds o, j < i := by
      intro j hj
      have := early_of hB ho j hj
      exact this
    have hlook : ∀ d ∈ o.looksAt ops, a.tmps[d]? = ap.tmps[d]? := by
      intro d hd
      refine agree_eval hA hAp d fun j hjd => ?_
      unfold dstOf at hjd
      cases hp : ops[j]? with
      | none => rw [hp] at hjd; cases hjd
      | some p =>
        rw [hp] at hjd
        simp only [Option.bind_some] at hjd
        have hok := okPair_of hB ho hp
        simp only [okPair, Bool.or_eq_true, Bool.and_eq_true, beq_iff_eq] at hok
        rcases hok with rfl | ⟨hok, _⟩
        · exact ⟨fun hj => (by rw [hi0] at hj; exact Bool.noConfusion hj), fun hj => absurd hj (Nat.lt_irrefl _)⟩
        · rw [hjd] at hok
          simp only [Bool.or_eq_true, Bool.not_eq_true', Bool.and_eq_true, decide_eq_true_eq] at hok
          rcases hok with (hok | hok) | ⟨hok, hij⟩
          · rw [List.contains_eq_mem] at hok
            simp only [decide_eq_false_iff_not] at hok
            exact absurd hd hok
          · have hjp : j ∈ fpreds o := List.contains_iff_mem.1 hok
            exact ⟨fun _ => hearly j hjp, fun _ => hpl j hjp⟩
          · obtain ⟨oj, hoj, e, he, heb, hon⟩ := Region.waitsFor_spec hok
            refine ⟨fun hj => ?_, fun hj => by omega⟩
            have := inv.closed j oj hoj hj e he heb
            rw [hon, hi0] at this; cases this
    have hwant := wanted_congr o hlook
    have hexec := exec_congr o (fun cs b => hsel i o cs b ho) hlook
    have hsz : a.tmps.size = ap.tmps.size := by rw [hA.size, hAp.size]
    -- the step of the invariant
    have hstep : ∀ v w', S w' → Rel w w' → (factAt F i).holds v w' → wpAny P .any ops Q fuel (listed.setIfInBounds i true) (a.put o.dst v) w' := by
      intro v w' hS' hrel hRi
      have hget : ∀ j, (listed.setIfInBounds i true).getD j false = (listed.getD j false || i == j) := by
        intro j
        by_cases hij : i = j
        · subst hij
          simp [inv.lsize, hil]
        · rw [getD_set_ne false hij]; simp [hij]
      refine ih _ _ _ ⟨by rw [Array.size_setIfInBounds, inv.lsize], ?_, ?_, ?_⟩ (by rw [getD_set_ne false hin]; exact hln) ?_
      · intro j oj hoj hl e he heb
        rw [hget] at hl ⊢
        simp only [Bool.or_eq_true, beq_iff_eq] at hl ⊢
        rcases hl with hl | rfl
        · exact .inl (inv.closed j oj hoj hl e he heb)
        · have : oj = o := Option.some.inj (hoj.symm.trans ho)
          subst this
          exact .inl (hall e he heb)
      · exact hS'
      · refine ⟨fun j => if j = i then v else u j, ?_, ?_, ?_⟩
        · intro j c hf
          by_cases hji : j = i
          · subst hji
            rw [hf] at hRi
            simp only [if_pos]
            exact hRi
          · simp only [if_neg hji]; exact hu j c hf
        · have hd : o.dst = dstOf ops i := by simp [dstOf, ho]
          rw [hd]
          refine (hA.put (u' := fun j => if j = i then v else u j) i v (fun j d hj h1 h2 => uniq_of hB j i d h1 h2) (fun j _ hji => by simp [hji]) (by simp)).congr fun j => ?_
          rw [hget]
          simp only [Bool.or_eq_true, beq_iff_eq]
          exact ⟨fun h => Or.imp id Eq.symm h, fun h => Or.imp id Eq.symm h⟩
        · intro j hj
          rw [hget] at hj
          simp only [Bool.or_eq_true, beq_iff_eq] at hj
          by_cases hji : j = i
          · subst hji; simpa using hRi
          · simp only [if_neg hji]
            have hjl := hj.resolve_right (Ne.symm hji)
            have hjs : j < ops.size := by
              rcases Nat.lt_or_ge j listed.size with h | h
              · rw [← inv.lsize]; exact h
              · simp [Array.getD_eq_getD_getElem?, Array.getElem?_eq_none h] at hjl
            have hjn : j ≠ n := by rintro rfl; rw [hln] at hjl; cases hjl
            have hst := (hget0 j ops[j] (by rw [hopl j (by omega)]; simp [hjs])).1
            rw [Nat.zero_add] at hst
            exact Fact.stable_use hst (hR j hjl) hrel
      · -- one less is unlisted
        have hlt : (List.range ops.size).countP (fun k => !(listed.setIfInBounds i true).getD k false) + 1 ≤ (List.range ops.size).countP (fun k => !listed.getD k false) := by
          have key : ∀ (l : List Nat), l.Nodup → i ∈ l → l.countP (fun k => !(listed.setIfInBounds i true).getD k false) + 1 = l.countP (fun k => !listed.getD k false) := by
            intro l
            induction l with
            | nil => intro _ h; cases h
            | cons x l ihl =>
              intro hnd hm
              simp only [List.nodup_cons] at hnd
              by_cases hxi : x = i
              · subst hxi
                have hsame : l.countP (fun k => !(listed.setIfInBounds x true).getD k false) = l.countP (fun k => !listed.getD k false) := by
                  refine List.countP_congr fun k hk => ?_
                  have hkx : x ≠ k := by rintro rfl; exact hnd.1 hk
                  rw [getD_set_ne false hkx]
                rw [List.countP_cons, List.countP_cons, hsame, hget x, hi0]
                simp
              · have hil' : i ∈ l := by
                  rcases List.mem_cons.1 hm with h | h
                  · exact (hxi h.symm).elim
                  · exact h
                have h1 := ihl hnd.2 hil'
                rw [List.countP_cons, List.countP_cons, getD_set_ne false (Ne.symm hxi)]
                omega
          exact Nat.le_of_eq (key _ List.nodup_range (List.mem_range.2 hil))
        omega
    unfold wpOp
    rw [ho]
    simp only
    unfold does at hdo
    rw [← hwant] at hdo
    by_cases hw : Region.wanted o (yielded ops a.tmps) = true
    · rw [if_pos hw] at hdo ⊢
      refine .inl (wp_transfer hexec hsz (hdo _ fun a' w' h => h) ?_)
      rintro v w' ⟨h1, h2, h3⟩
      exact hstep v w' h1 h2 h3
    · rw [if_neg hw] at hdo ⊢
      exact hstep undef w hdo.1 hdo.2.1 hdo.2.2

/-- **The law.** -/
theorem wp_region_last {P : Program} {l : List Oper} {oL : Oper} {id : Nat} {Q : Exit → Act → World → Prop} {a0 : Act} {w0 : World} (F : List Fact) (S : World → Prop) (Rel : World → World → Prop)
    (hm : P.follows .mixedOrders = true) (hgd : oL.guard = none) (hlast : lastB (l ++ [oL]).toArray l.length = true) (hB : ogB (l ++ [oL]).toArray (l.length + 1) [] = true) (h0 : S w0.drew)
    (hob : walk P (l ++ [oL]).toArray (l.length + 1) [] F (fun _ => S) Rel (lastly P oL S Q) 0 [] a0 l) : (Code.region id (l ++ [oL]).toArray true).wp P Q a0 w0 := by
  refine wp_region_any hm (wpAny_last (l := l) (oL := oL) (by simp) rfl hgd hlast hB hob (l ++ [oL]).toArray.size _ a0 _ ⟨by simp, ?_, ?_, ⟨fun i => match factAt F i with | .is c => c | .such _ => undef, ?_, ?_, ?_⟩⟩ ?_ ?_)
  · intro j o _ h
    rw [getD_replicate_false] at h; cases h
  · exact h0
  · intro i c hf; simp only [hf]
  · refine ⟨rfl, rfl, fun j d hj => ?_, fun _ _ => rfl⟩
    rw [getD_replicate_false] at hj; cases hj
  · intro j hj
    rw [getD_replicate_false] at hj; cases hj
  · rw [getD_replicate_false]
  · exact Nat.le_trans List.countP_le_length (by simp)
/-- The law at a region whose operations are written out. -/
theorem wp_region_last_lit {P : Program} {ops : List Oper} {oL : Oper} {id : Nat} {Q : Exit → Act → World → Prop} {a0 : Act} {w0 : World} (F : List Fact) (S : World → Prop) (Rel : World → World → Prop)
    (hL : ops.dropLast ++ [oL] = ops) (hm : P.follows .mixedOrders = true) (hgd : oL.guard = none) (hlast : lastB ops.toArray ops.dropLast.length = true) (hB : ogB ops.toArray (ops.dropLast.length + 1) [] = true) (h0 : S w0.drew)
    (hob : walk P ops.toArray (ops.dropLast.length + 1) [] F (fun _ => S) Rel (lastly P oL S Q) 0 [] a0 ops.dropLast) : (Code.region id ops.toArray true).wp P Q a0 w0 := by
  have := wp_region_last (l := ops.dropLast) (oL := oL) (id := id) (Q := Q) (a0 := a0) (w0 := w0) F S Rel hm hgd (by rw [hL]; exact hlast) (by rw [hL]; exact hB) h0 (by rw [hL]; exact hob)
  rw [hL] at this
  exact this
end Go.Og
