/-
  A region that draws its order: some operations taken first, some looked at one by one, and two at the end that may write (an append and a store).
-/
import Derived.Test.YtenpkgdnlogfiaaGreatDoorTyp
namespace Go.Proofs.YtenpkgdnlogfiaaGreatDoor
open Go.RowKit

section
variable {P : Program} {ops : Array Oper} {T : Nat → Value → World → Prop} {a0 : Act} {W : World} {Q : Exit → Act → World → Prop}
/-- does o come behind operation j, by its own edges and those of the operations that it names? -/
def covers (ops : Array Oper) : Nat → Oper → Nat → Bool
  | 0, _, _ => false
  | n + 1, o, j => o.after.any fun e => Region.binds .any e && (e.on == j || match ops[e.on]? with
    | some o' => covers ops n o' j
    | none => false)
/-- the first operation of the tail comes behind all that are not of the tail -/
def tHead (ops : Array Oper) (tail : List Nat) (o : Oper) : Bool :=
  o.guard.isNone && (List.range ops.size).all fun i => tail.contains i || covers ops ops.size o i
/-- each of the tail comes behind the one before it, none is guarded -/
def tChain (ops : Array Oper) : Nat → List Nat → Bool
  | _, [] => true
  | t, u :: r => (match ops[u]? with | some o => o.guard.isNone && o.after.any fun e => Region.binds .any e && e.on == t | none => false) && !(r.contains u) && tChain ops u r
/-- the operations of the tail, one behind the other -/
def TailWp (P : Program) (ops : Array Oper) (Q : Exit → Act → World → Prop) : List Nat → Act → World → Prop
  | [], b, w => Q .normal b w
  | t :: r, b, w => ∀ o, ops[t]? = some o → o.wp P b w (TailWp P ops Q r) Q
def ClosedL (ops : Array Oper) (listed : Array Bool) : Prop := ∀ (i : Nat) (o : Oper), ops[i]? = some o → listed.getD i false = true → ∀ e ∈ o.after, Region.binds .any e = true → listed.getD e.on false = true
theorem covers_listed {ops : Array Oper} {listed : Array Bool} (hc : ClosedL ops listed) : ∀ (n : Nat) (o : Oper) (j : Nat), covers ops n o j = true → (∀ e ∈ o.after, Region.binds .any e = true → listed.getD e.on false = true) → listed.getD j false = true := by
  intro n
  induction n with
  | zero => intro o j h; simp [covers] at h
  | succ n ih =>
    intro o j h hl
    rw [covers, ← Array.any_toList, List.any_eq_true] at h
    obtain ⟨e, he, h2⟩ := h
    simp only [Bool.and_eq_true, Bool.or_eq_true, beq_iff_eq] at h2
    have he' : e ∈ o.after := by simpa using he
    have h3 := hl e he' h2.1
    rcases h2.2 with h4 | h4
    · rw [← h4]; exact h3
    · cases ho : ops[e.on]? with
      | none => simp [ho] at h4
      | some o' =>
        simp only [ho] at h4
        exact ih o' j h4 (hc e.on o' ho h3)
theorem edge_of {o : Oper} {t : Nat} (h : (o.after.any fun e => Region.binds .any e && e.on == t) = true) : ∃ e ∈ o.after, Region.binds .any e = true ∧ e.on = t := by
  rw [← Array.any_toList, List.any_eq_true] at h
  obtain ⟨e, he, h2⟩ := h
  simp only [Bool.and_eq_true, beq_iff_eq] at h2
  exact ⟨e, by simpa using he, h2⟩
theorem getD_tf {listed : Array Bool} {i : Nat} (h : listed.getD i false = true) : listed.getD i true = true := by
  cases hl : listed[i]? with
  | none => simp [hl]
  | some b => simp [hl] at h ⊢; exact h
theorem none_ready {listed : Array Bool} (h : ∀ i, i < ops.size → listed.getD i true = true) : Region.ready .any ops listed = [] := by
  rw [List.eq_nil_iff_forall_not_mem]
  intro i hi
  rw [mem_ready] at hi
  obtain ⟨h0, o, ho, _⟩ := hi
  rw [h i (Array.getElem?_eq_some_iff.1 ho).1] at h0
  cases h0
theorem set_listed {listed : Array Bool} {i j : Nat} (h : j = i ∨ listed.getD j true = true) : (listed.setIfInBounds i true).getD j true = true := by
  by_cases e : i = j
  · subst e
    rcases Nat.lt_or_ge i listed.size with h' | h'
    · simp [Array.getElem?_setIfInBounds, h']
    · simp [Array.getElem?_eq_none, h']
  · rw [getD_set_ne true e]
    rcases h with h | h
    · exact absurd h.symm e
    · exact h
theorem chain_pred : ∀ (r : List Nat) (t : Nat), tChain ops t r = true → ∀ x ∈ r, ∃ p, (p = t ∨ p ∈ r) ∧ ∃ o, ops[x]? = some o ∧ o.guard = none ∧ ∃ e ∈ o.after, Region.binds .any e = true ∧ e.on = p
  | [], _, _, x, hx => by cases hx
  | u :: r, t, h, x, hx => by
    simp only [tChain, Bool.and_eq_true] at h
    rcases List.mem_cons.1 hx with rfl | hx
    · cases ho : ops[x]? with
      | none => simp [ho] at h
      | some o =>
        simp only [ho, Bool.and_eq_true] at h
        exact ⟨t, .inl rfl, o, rfl, by cases hg : o.guard with | none => rfl | some y => simp [hg] at h, edge_of h.1.1.2⟩
    · obtain ⟨p, hp, hh⟩ := chain_pred r u h.2 x hx
      exact ⟨p, .inr (by rcases hp with rfl | hp; exact List.mem_cons_self; exact List.mem_cons_of_mem _ hp), hh⟩
theorem wpAny_tail {n : Nat} (hk : tOk ops n = true) : ∀ (r : List Nat) (t : Nat) (fuel : Nat) (listed : Array Bool) (b : Act) (w : World), listed.size = ops.size → tChain ops t r = true → (∀ i, i < ops.size → i ∉ r → listed.getD i true = true) → (∀ i ∈ r, listed.getD i true = false) → r.length ≤ fuel →
    TailWp P ops Q r b w → wpAny P .any ops Q fuel listed b w := by
  intro r
  induction r with
  | nil =>
    intro t fuel listed b w hsz _ hun _ _ h
    exact wpAny_done (none_ready fun i hi => hun i hi (by simp)) h fuel
  | cons u r ih =>
    intro t fuel listed b w hsz hch hun hin hf h
    have hch' := hch
    simp only [tChain, Bool.and_eq_true] at hch'
    obtain ⟨⟨h1, h2⟩, h3⟩ := hch'
    have hur : u ∉ r := by simpa using h2
    obtain ⟨f, rfl⟩ : ∃ f, fuel = f + 1 := ⟨fuel - 1, by simp at hf; omega⟩
    cases ho : ops[u]? with
    | none => simp [ho] at h1
    | some o =>
      simp only [ho, Bool.and_eq_true] at h1
      have hlt := (Array.getElem?_eq_some_iff.1 ho).1
      refine ⟨fun h0 => ?_, fun i hi => ?_⟩
      · exfalso
        have := ready_nil hk h0 u hlt
        rw [hin u List.mem_cons_self] at this
        cases this
      · rw [mem_ready] at hi
        obtain ⟨g0, oi, hoi, haf⟩ := hi
        have hilt := (Array.getElem?_eq_some_iff.1 hoi).1
        have hir : i ∈ u :: r := by
          refine Decidable.byContradiction fun hn => ?_
          rw [hun i hilt hn] at g0; cases g0
        have hiu : i = u := by
          rcases List.mem_cons.1 hir with e | hir
          · exact e
          · exfalso
            obtain ⟨p, hp, o', ho', _, e, he, hb, hep⟩ := chain_pred r u h3 i hir
            obtain rfl : oi = o' := by rw [hoi] at ho'; exact Option.some.inj ho'
            have := getD_tf (haf e he hb)
            rw [hep, hin p (by rcases hp with rfl | hp; exact List.mem_cons_self; exact List.mem_cons_of_mem _ hp)] at this
            cases this
        subst hiu
        have hw : Region.wanted o (yielded ops b.tmps) = true := want_none (by cases hg : o.guard with | none => rfl | some x => simp [hg] at h1)
        unfold wpOp
        simp only [ho, hw, if_true]
        refine .inl (Oper.wp_mono (fun b1 w1 hq => ?_) (h o ho))
        refine ih i f _ b1 w1 (by simpa using hsz) h3 (fun j hj hn => set_listed ?_) (fun j hj => ?_) (by simp at hf; omega) hq
        · by_cases e : j = i
          · exact .inl e
          · exact .inr (hun j hj (by simp [e, hn]))
        · have : j ≠ i := fun e => hur (e ▸ hj)
          rw [getD_set_ne true (Ne.symm this)]
          exact hin j (List.mem_cons_of_mem _ hj)
theorem wpAny_typed_tail {t : Nat} {r : List Nat} {o1 : Oper} (h1 : ops[t]? = some o1) (hc1 : tHead ops (t :: r) o1 = true) (hch : tChain ops t r = true) (htr : r.contains t = false)
    (hmono : ∀ i v w w', T i v w → Below w.heap.size w w' → T i v w') (hk : tOk ops a0.tmps.size = true) (hr : ∀ i o, (t :: r).contains i = false → ops[i]? = some o → TRule P ops T a0 W Q i o)
    (hpost : ∀ (b : Act) (w : World), Below W.heap.size W w → b.defers = a0.defers → b.tmps.size = a0.tmps.size → (∀ t, (∀ (i : Nat) (o : Oper), ops[i]? = some o → o.dst ≠ some t) → b.tmps.getD t undef = a0.tmps.getD t undef) →
      (∀ (i : Nat) (o : Oper) (d : Tmp), (t :: r).contains i = false → ops[i]? = some o → o.dst = some d → T i (b.tmps.getD d undef) w) → TailWp P ops Q (t :: r) b w) :
    ∀ (fuel : Nat) (listed : Array Bool) (b : Act) (w : World), listed.size = ops.size → (∀ i ∈ t :: r, listed.getD i true = false) → unlisted ops listed ≤ fuel → ClosedL ops listed → TInv ops T a0 W listed b w → wpAny P .any ops Q fuel listed b w := by
  simp only [tHead, Bool.and_eq_true] at hc1
  obtain ⟨hguard1, hcov1⟩ := hc1
  have htlt := (Array.getElem?_eq_some_iff.1 h1).1
  intro fuel
  induction fuel with
  | zero =>
    intro listed b w hsz hin hu hcl hI
    exfalso
    have := unlisted_set (ops := ops) (i := t) htlt (hin t List.mem_cons_self)
    omega
  | succ fuel ih =>
    intro listed b w hsz hin hu hcl hI
    refine ⟨fun h => ?_, fun i hi => ?_⟩
    · exfalso
      have := ready_nil hk h t htlt
      rw [hin t List.mem_cons_self] at this
      cases this
    rw [mem_ready] at hi
    obtain ⟨h0, o, ho, haf⟩ := hi
    have hlt := (Array.getElem?_eq_some_iff.1 ho).1
    by_cases hir : i ∈ r
    · exfalso
      obtain ⟨p, hp, o', ho', _, e, he, hb, hep⟩ := chain_pred r t hch i hir
      obtain rfl : o = o' := by rw [ho] at ho'; exact Option.some.inj ho'
      have := getD_tf (haf e he hb)
      rw [hep, hin p (by rcases hp with rfl | hp; exact List.mem_cons_self; exact List.mem_cons_of_mem _ hp)] at this
      cases this
    by_cases hit : i = t
    · subst hit
      obtain rfl : o = o1 := by rw [h1] at ho; exact (Option.some.inj ho).symm
      have hall : ∀ j, j < ops.size → (i :: r).contains j = false → listed.getD j false = true := by
        intro j hj hne
        have h3 := (List.all_eq_true.1 hcov1) j (by simpa using hj)
        simp only [Bool.or_eq_true, hne, Bool.false_eq_true, false_or] at h3
        exact covers_listed hcl _ o j h3 haf
      have hw : Region.wanted o (yielded ops b.tmps) = true := want_none (by cases hg : o.guard with | none => rfl | some x => simp [hg] at hguard1)
      unfold wpOp
      simp only [ho, hw, if_true]
      refine .inl (Oper.wp_mono (fun b1 w1 hq => ?_) (hpost b w hI.bel hI.defers hI.size hI.old (fun j oj d hj hoj hd => hI.typ j oj d hoj (hall j (Array.getElem?_eq_some_iff.1 hoj).1 hj) hd) o ho))
      have hrlen : r.length ≤ fuel := by
        -- the tail is not listed
        have key : ∀ (l : List Nat) (ls : Array Bool), l.Nodup → (∀ x ∈ l, x < ops.size ∧ ls.getD x true = false) → l.length ≤ unlisted ops ls := by
          intro l
          induction l with
          | nil => intro _ _ _; exact Nat.zero_le _
          | cons x l ih2 =>
            intro ls hnd hx
            have q1 := unlisted_set (ops := ops) (hx x List.mem_cons_self).1 (hx x List.mem_cons_self).2
            have q2 := ih2 (ls.setIfInBounds x true) (List.nodup_cons.1 hnd).2 (fun y hy => ⟨(hx y (List.mem_cons_of_mem _ hy)).1, by rw [getD_set_ne true (by rintro rfl; exact (List.nodup_cons.1 hnd).1 hy)]; exact (hx y (List.mem_cons_of_mem _ hy)).2⟩)
            simp; omega
        have hnd : ∀ (r : List Nat) (t : Nat), tChain ops t r = true → r.Nodup := by
          intro r
          induction r with
          | nil => intro _ _; exact List.nodup_nil
          | cons u r ih2 =>
            intro t h
            simp only [tChain, Bool.and_eq_true] at h
            exact List.nodup_cons.2 ⟨by simpa using h.1.2, ih2 u h.2⟩
        have q1 := unlisted_set (ops := ops) hlt h0
        have q2 := key r (listed.setIfInBounds i true) (hnd r i hch) (fun x hx => ⟨by
          obtain ⟨_, _, o', ho', _⟩ := chain_pred r i hch x hx
          exact (Array.getElem?_eq_some_iff.1 ho').1, by
          have : x ≠ i := fun e => hir (e ▸ hx)
          rw [getD_set_ne true (Ne.symm this)]; exact hin x (List.mem_cons_of_mem _ hx)⟩)
        omega
      refine wpAny_tail hk r i fuel _ b1 w1 (by simpa using hsz) hch (fun j hj hn => set_listed ?_) (fun j hj => ?_) hrlen hq
      · by_cases e : j = i
        · exact .inl e
        · exact .inr (getD_tf (hall j hj (by simp [e, hn])))
      · have : j ≠ i := fun e => hir (e ▸ hj)
        rw [getD_set_ne true (Ne.symm this)]
        exact hin j (List.mem_cons_of_mem _ hj)
    · have hnt : (t :: r).contains i = false := by simp [hit, hir]
      have hdst := tOk_dst hk ho
      have hrule := hr i o hnt ho b w hI.bel hI.old (fun e he hbd oj d hoj hd => hI.typ e.on oj d hoj (haf e he hbd) hd)
      have hcl' : ClosedL ops (listed.setIfInBounds i true) := by
        intro j oj hj hlj e he hb
        by_cases e2 : j = i
        · subst e2
          obtain rfl : oj = o := by rw [ho] at hj; exact (Option.some.inj hj).symm
          exact getD_set_true (haf e he hb)
        · rw [getD_set_ne false (Ne.symm e2)] at hlj
          exact getD_set_true (hcl j oj hj hlj e he hb)
      have next : ∀ v w', T i v w' → Below w.heap.size w w' → wpAny P .any ops Q fuel (listed.setIfInBounds i true) (b.put o.dst v) w' := by
        intro v w' hT hb
        refine ih _ _ _ (by simpa using hsz) (fun j hj => by
          have : j ≠ i := fun e => by subst e; simp at hj; rcases hj with e | e; exact hit e; exact hir e
          rw [getD_set_ne true (Ne.symm this)]; exact hin j hj) (by have := unlisted_set (ops := ops) hlt h0; omega) hcl' ⟨hI.bel.trans (hb.mono hI.bel.size), ?_, ?_, ?_, ?_⟩
        · rw [← hI.defers]; cases o.dst <;> rfl
        · rw [← hI.size]; cases o.dst <;> simp [Act.put]
        · intro t ht
          rw [← hI.old t ht]
          have h2 := ht i o ho
          cases hd : o.dst with
          | none => rfl
          | some d =>
            have : d ≠ t := fun e => h2 (by rw [hd, e])
            simp [Act.put, Array.getElem?_setIfInBounds_ne this]
        · intro j oj d hj hlj hdj
          by_cases e : j = i
          · subst e
            obtain rfl : oj = o := by rw [ho] at hj; exact (Option.some.inj hj).symm
            have hd1 := hdst.1 d hdj
            rw [hdj]
            have hlt2 : d < b.tmps.size := by rw [hI.size]; exact hd1
            simpa [Act.put, hlt2] using hT
          · have hlj' : listed.getD j false = true := by rwa [getD_set_ne false (Ne.symm e)] at hlj
            have h3 := hmono j _ w w' (hI.typ j oj d hj hlj' hdj) hb
            have h4 : (b.put o.dst v).tmps.getD d undef = b.tmps.getD d undef := by
              cases hd : o.dst with
              | none => rfl
              | some d' =>
                have : d' ≠ d := fun e2 => hdst.2.2 j oj d' e hj hd (by rw [hdj, e2])
                simp [Act.put, Array.getElem?_setIfInBounds_ne this]
            rw [h4]; exact h3
      unfold wpOp
      simp only [ho]
      split
      · rename_i hw
        exact .inl (hrule.1 hw _ next)
      · rename_i hw
        exact next undef w (hrule.2 (by simpa using hw)) (Below.refl _ _)
/-- the rules of the operations but those at the places `skip` -/
def TRulesX (P : Program) (ops : Array Oper) (T : Nat → Value → World → Prop) (a0 : Act) (W : World) (Q : Exit → Act → World → Prop) (skip : List Nat) : Nat → List Oper → Prop
  | _, [] => True
  | i, o :: r => (skip.contains i = true ∨ TRule P ops T a0 W Q i o) ∧ TRulesX P ops T a0 W Q skip (i + 1) r
theorem TRulesX.at {skip : List Nat} : ∀ (l : List Oper) (k : Nat), TRulesX P ops T a0 W Q skip k l → ∀ i o, l[i]? = some o → skip.contains (k + i) = true ∨ TRule P ops T a0 W Q (k + i) o
  | [], _, _, i, o, h => by simp at h
  | x :: r, k, hr, 0, o, h => by simp at h; subst h; exact hr.1
  | x :: r, k, hr, i + 1, o, h => by
    have := TRulesX.at r (k + 1) hr.2 i o (by simpa using h)
    rwa [show k + 1 + i = k + (i + 1) by omega] at this
/-- a region that draws its order and ends in some operations in one order, which may write -/
theorem wp_region_tail {id : Nat} {a : Act} (T : Nat → Value → World → Prop) (t : Nat) (r : List Nat) (hm : P.follows .mixedOrders = true)
    (hc1 : (match ops[t]? with | some o => tHead ops (t :: r) o | none => false) = true) (hch : tChain ops t r = true) (htr : r.contains t = false)
    (hk : tOk ops a.tmps.size = true) (hmono : ∀ i v w w', T i v w → Below w.heap.size w w' → T i v w') (hr : TRulesX P ops T a W.drew Q (t :: r) 0 ops.toList)
    (hpost : ∀ (b : Act) (w : World), Below W.heap.size W w → b.defers = a.defers → b.tmps.size = a.tmps.size → (∀ t, noDst ops t = true → b.tmps.getD t undef = a.tmps.getD t undef) →
      (∀ (i : Nat) (o : Oper) (d : Tmp), (t :: r).contains i = false → ops[i]? = some o → o.dst = some d → T i (b.tmps.getD d undef) w) → TailWp P ops Q (t :: r) b w) : (Code.region id ops true).wp P Q a W := by
  refine wp_region_any hm ?_
  cases h1 : ops[t]? with
  | none => simp [h1] at hc1
  | some o1 =>
    simp only [h1] at hc1
    refine wpAny_typed_tail (T := T) (W := W.drew) (a0 := a) h1 hc1 hch htr hmono hk (fun i o a1 a2 => ?_) (fun b w h1 h2 h3 h4 h5 => hpost b w (undrew h1) h2 h3 (fun t ht => h4 t (noDst_spec ht)) h5) _ _ _ _ (by simp) (fun i hi => ?_) ?_ ?_ ⟨Below.refl _ _, rfl, rfl, fun _ _ => rfl, fun i o d ho hl _ => ?_⟩
    · have := TRulesX.at ops.toList 0 hr i o (by simpa using a2)
      rw [Nat.zero_add] at this
      rcases this with h | h
      · rw [a1] at h; cases h
      · exact h
    · have : i < ops.size := by
        rcases List.mem_cons.1 hi with rfl | hi
        · exact (Array.getElem?_eq_some_iff.1 h1).1
        · obtain ⟨_, _, o', ho', _⟩ := chain_pred r t hch i hi
          exact (Array.getElem?_eq_some_iff.1 ho').1
      simp [this]
    · unfold unlisted; exact Nat.le_trans (List.length_filter_le _ _) (by simp)
    · intro i o ho hl e he hb
      exfalso
      have hlt := (Array.getElem?_eq_some_iff.1 ho).1
      simp [hlt] at hl
    · exfalso
      have hlt := (Array.getElem?_eq_some_iff.1 ho).1
      simp [hlt] at hl
end
end Go.Proofs.YtenpkgdnlogfiaaGreatDoor
