/-
  As XTyp3, where an operation of the tail writes a slot that others have read (c = append(c, ..)).
-/
import Derived.Test.YtenpkgdnlogfiaaGreatDoorTyp3
namespace Go.Proofs.YtenpkgdnlogfiaaGreatDoor
open Go.RowKit

structure TInvS (ops : Array Oper) (T : Nat → Value → World → Prop) (sk : List Nat) (a0 : Act) (W : World) (listed : Array Bool) (a : Act) (w : World) : Prop where
  bel : Below W.heap.size W w
  defers : a.defers = a0.defers
  size : a.tmps.size = a0.tmps.size
  old : ∀ t, (∀ (i : Nat) (o : Oper), sk.contains i = false → ops[i]? = some o → o.dst ≠ some t) → a.tmps.getD t undef = a0.tmps.getD t undef
  typ : ∀ (i : Nat) (o : Oper) (d : Tmp), ops[i]? = some o → listed.getD i false = true → o.dst = some d → T i (a.tmps.getD d undef) w
def TRuleS (P : Program) (ops : Array Oper) (T : Nat → Value → World → Prop) (sk : List Nat) (a0 : Act) (W : World) (Q : Exit → Act → World → Prop) (i : Nat) (o : Oper) : Prop :=
  ∀ a w, Below W.heap.size W w → (∀ t, (∀ (i : Nat) (o : Oper), sk.contains i = false → ops[i]? = some o → o.dst ≠ some t) → a.tmps.getD t undef = a0.tmps.getD t undef) →
    (∀ e ∈ o.after, Region.binds .any e = true → ∀ (oj : Oper) (d : Tmp), ops[e.on]? = some oj → oj.dst = some d → T e.on (a.tmps.getD d undef) w) →
    (Region.wanted o (yielded ops a.tmps) = true → ∀ K : Act → World → Prop, (∀ v w', T i v w' → Below w.heap.size w w' → K (a.put o.dst v) w') → o.wp P a w K Q) ∧
    (Region.wanted o (yielded ops a.tmps) = false → T i undef w)
def noDstS (ops : Array Oper) (sk : List Nat) (t : Tmp) : Bool := (List.range ops.size).all fun i => sk.contains i || match ops[i]? with | some o => o.dst != some t | none => true
theorem noDstS_spec {ops : Array Oper} {sk : List Nat} {t : Tmp} (h : noDstS ops sk t = true) (i : Nat) (o : Oper) (hs : sk.contains i = false) (ho : ops[i]? = some o) : o.dst ≠ some t := by
  have h1 := (List.all_eq_true.1 h) i (by simpa using (Array.getElem?_eq_some_iff.1 ho).1)
  simpa only [hs, ho, Bool.false_or, bne_iff_ne] using h1
theorem noDstS_of {ops : Array Oper} {sk : List Nat} {t : Tmp} (h : noDst ops t = true) : noDstS ops sk t = true := by
  rw [noDstS, List.all_eq_true]
  intro i hi
  rw [Bool.or_eq_true]; right
  cases ho : ops[i]? with
  | none => rfl
  | some o => simpa using noDst_spec h i o ho
section
variable {P : Program} {ops : Array Oper} {T : Nat → Value → World → Prop} {a0 : Act} {W : World} {Q : Exit → Act → World → Prop}
theorem wpAny_typed_tailS {t : Nat} {r : List Nat} {o1 : Oper} (h1 : ops[t]? = some o1) (hc1 : tHead ops (t :: r) o1 = true) (hch : tChain ops t r = true) (htr : r.contains t = false)
    (hmono : ∀ i v w w', T i v w → Below w.heap.size w w' → T i v w') (hk : tOk ops a0.tmps.size = true) (hr : ∀ i o, (t :: r).contains i = false → ops[i]? = some o → TRuleS P ops T (t :: r) a0 W Q i o)
    (hpost : ∀ (b : Act) (w : World), Below W.heap.size W w → b.defers = a0.defers → b.tmps.size = a0.tmps.size → (∀ s, (∀ (i : Nat) (o : Oper), (t :: r).contains i = false → ops[i]? = some o → o.dst ≠ some s) → b.tmps.getD s undef = a0.tmps.getD s undef) →
      (∀ (i : Nat) (o : Oper) (d : Tmp), (t :: r).contains i = false → ops[i]? = some o → o.dst = some d → T i (b.tmps.getD d undef) w) → TailWp P ops Q (t :: r) b w) :
    ∀ (fuel : Nat) (listed : Array Bool) (b : Act) (w : World), listed.size = ops.size → (∀ i ∈ t :: r, listed.getD i true = false) → unlisted ops listed ≤ fuel → ClosedL ops listed → TInvS ops T (t :: r) a0 W listed b w → wpAny P .any ops Q fuel listed b w := by
  simp only [tHead, Bool.and_eq_true] at hc1
  obtain ⟨hguard1, hcov1⟩ := hc1
  have htlt := (Array.getElem?_eq_some_iff.1 h1).1
  intro fuel
  induction fuel with
  | zero =>
    intro listed b w hsz hin hu hcl hI
    exfalso
    have := unlisted_set (ops := ops) (i := t) htlt (hin t List.mem_cons_self)
    omega
  | succ fuel ih =>
    intro listed b w hsz hin hu hcl hI
    refine ⟨fun h => ?_, fun i hi => ?_⟩
    · exfalso
      have := ready_nil hk h t htlt
      rw [hin t List.mem_cons_self] at this
      cases this
    rw [mem_ready] at hi
    obtain ⟨h0, o, ho, haf⟩ := hi
    have hlt := (Array.getElem?_eq_some_iff.1 ho).1
    by_cases hir : i ∈ r
    · exfalso
      obtain ⟨p, hp, o', ho', _, e, he, hb, hep⟩ := chain_pred r t hch i hir
      obtain rfl : o = o' := by rw [ho] at ho'; exact Option.some.inj ho'
      have := getD_tf (haf e he hb)
      rw [hep, hin p (by rcases hp with rfl | hp; exact List.mem_cons_self; exact List.mem_cons_of_mem _ hp)] at this
      cases this
    by_cases hit : i = t
    · subst hit
      obtain rfl : o = o1 := by rw [h1] at ho; exact (Option.some.inj ho).symm
      have hall : ∀ j, j < ops.size → (i :: r).contains j = false → listed.getD j false = true := by
        intro j hj hne
        have h3 := (List.all_eq_true.1 hcov1) j (by simpa using hj)
        simp only [Bool.or_eq_true, hne, Bool.false_eq_true, false_or] at h3
        exact covers_listed hcl _ o j h3 haf
      have hw : Region.wanted o (yielded ops b.tmps) = true := want_none (by cases hg : o.guard with | none => rfl | some x => simp [hg] at hguard1)
      unfold wpOp
      simp only [ho, hw, if_true]
      refine .inl (Oper.wp_mono (fun b1 w1 hq => ?_) (hpost b w hI.bel hI.defers hI.size hI.old (fun j oj d hj hoj hd => hI.typ j oj d hoj (hall j (Array.getElem?_eq_some_iff.1 hoj).1 hj) hd) o ho))
      have hrlen : r.length ≤ fuel := by
        -- the tail is not listed
        have key : ∀ (l : List Nat) (ls : Array Bool), l.Nodup → (∀ x ∈ l, x < ops.size ∧ ls.getD x true = false) → l.length ≤ unlisted ops ls := by
          intro l
          induction l with
          | nil => intro _ _ _; exact Nat.zero_le _
          | cons x l ih2 =>
            intro ls hnd hx
            have q1 := unlisted_set (ops := ops) (hx x List.mem_cons_self).1 (hx x List.mem_cons_self).2
            have q2 := ih2 (ls.setIfInBounds x true) (List.nodup_cons.1 hnd).2 (fun y hy => ⟨(hx y (List.mem_cons_of_mem _ hy)).1, by rw [getD_set_ne true (by rintro rfl; exact (List.nodup_cons.1 hnd).1 hy)]; exact (hx y (List.mem_cons_of_mem _ hy)).2⟩)
            simp; omega
        have hnd : ∀ (r : List Nat) (t : Nat), tChain ops t r = true → r.Nodup := by
          intro r
          induction r with
          | nil => intro _ _; exact List.nodup_nil
          | cons u r ih2 =>
            intro t h
            simp only [tChain, Bool.and_eq_true] at h
            exact List.nodup_cons.2 ⟨by simpa using h.1.2, ih2 u h.2⟩
        have q1 := unlisted_set (ops := ops) hlt h0
        have q2 := key r (listed.setIfInBounds i true) (hnd r i hch) (fun x hx => ⟨by
          obtain ⟨_, _, o', ho', _⟩ := chain_pred r i hch x hx
          exact (Array.getElem?_eq_some_iff.1 ho').1, by
          have : x ≠ i := fun e => hir (e ▸ hx)
          rw [getD_set_ne true (Ne.symm this)]; exact hin x (List.mem_cons_of_mem _ hx)⟩)
        omega
      refine wpAny_tail hk r i fuel _ b1 w1 (by simpa using hsz) hch (fun j hj hn => set_listed ?_) (fun j hj => ?_) hrlen hq
      · by_cases e : j = i
        · exact .inl e
        · exact .inr (getD_tf (hall j hj (by simp [e, hn])))
      · have : j ≠ i := fun e => hir (e ▸ hj)
        rw [getD_set_ne true (Ne.symm this)]
        exact hin j (List.mem_cons_of_mem _ hj)
    · have hnt : (t :: r).contains i = false := by simp [hit, hir]
      have hdst := tOk_dst hk ho
      have hrule := hr i o hnt ho b w hI.bel hI.old (fun e he hbd oj d hoj hd => hI.typ e.on oj d hoj (haf e he hbd) hd)
      have hcl' : ClosedL ops (listed.setIfInBounds i true) := by
        intro j oj hj hlj e he hb
        by_cases e2 : j = i
        · subst e2
          obtain rfl : oj = o := by rw [ho] at hj; exact (Option.some.inj hj).symm
          exact getD_set_true (haf e he hb)
        · rw [getD_set_ne false (Ne.symm e2)] at hlj
          exact getD_set_true (hcl j oj hj hlj e he hb)
      have next : ∀ v w', T i v w' → Below w.heap.size w w' → wpAny P .any ops Q fuel (listed.setIfInBounds i true) (b.put o.dst v) w' := by
        intro v w' hT hb
        refine ih _ _ _ (by simpa using hsz) (fun j hj => by
          have : j ≠ i := fun e => by subst e; simp at hj; rcases hj with e | e; exact hit e; exact hir e
          rw [getD_set_ne true (Ne.symm this)]; exact hin j hj) (by have := unlisted_set (ops := ops) hlt h0; omega) hcl' ⟨hI.bel.trans (hb.mono hI.bel.size), ?_, ?_, ?_, ?_⟩
        · rw [← hI.defers]; cases o.dst <;> rfl
        · rw [← hI.size]; cases o.dst <;> simp [Act.put]
        · intro t ht
          rw [← hI.old t ht]
          have h2 := ht i o hnt ho
          cases hd : o.dst with
          | none => rfl
          | some d =>
            have : d ≠ t := fun e => h2 (by rw [hd, e])
            simp [Act.put, Array.getElem?_setIfInBounds_ne this]
        · intro j oj d hj hlj hdj
          by_cases e : j = i
          · subst e
            obtain rfl : oj = o := by rw [ho] at hj; exact (Option.some.inj hj).symm
            have hd1 := hdst.1 d hdj
            rw [hdj]
            have hlt2 : d < b.tmps.size := by rw [hI.size]; exact hd1
            simpa [Act.put, hlt2] using hT
          · have hlj' : listed.getD j false = true := by rwa [getD_set_ne false (Ne.symm e)] at hlj
            have h3 := hmono j _ w w' (hI.typ j oj d hj hlj' hdj) hb
            have h4 : (b.put o.dst v).tmps.getD d undef = b.tmps.getD d undef := by
              cases hd : o.dst with
              | none => rfl
              | some d' =>
                have : d' ≠ d := fun e2 => hdst.2.2 j oj d' e hj hd (by rw [hdj, e2])
                simp [Act.put, Array.getElem?_setIfInBounds_ne this]
            rw [h4]; exact h3
      unfold wpOp
      simp only [ho]
      split
      · rename_i hw
        exact .inl (hrule.1 hw _ next)
      · rename_i hw
        exact next undef w (hrule.2 (by simpa using hw)) (Below.refl _ _)
/-- the rules of the operations but those at the places `skip` -/
def TRulesS (P : Program) (ops : Array Oper) (T : Nat → Value → World → Prop) (a0 : Act) (W : World) (Q : Exit → Act → World → Prop) (skip : List Nat) : Nat → List Oper → Prop
  | _, [] => True
  | i, o :: r => (skip.contains i = true ∨ TRuleS P ops T skip a0 W Q i o) ∧ TRulesS P ops T a0 W Q skip (i + 1) r
theorem TRulesS.at {skip : List Nat} : ∀ (l : List Oper) (k : Nat), TRulesS P ops T a0 W Q skip k l → ∀ i o, l[i]? = some o → skip.contains (k + i) = true ∨ TRuleS P ops T skip a0 W Q (k + i) o
  | [], _, _, i, o, h => by simp at h
  | x :: r, k, hr, 0, o, h => by simp at h; subst h; exact hr.1
  | x :: r, k, hr, i + 1, o, h => by
    have := TRulesS.at r (k + 1) hr.2 i o (by simpa using h)
    rwa [show k + 1 + i = k + (i + 1) by omega] at this
/-- as wp_region_tail, where what the tail writes may have been read before -/
theorem wp_region_tailS {id : Nat} {a : Act} (T : Nat → Value → World → Prop) (t : Nat) (r : List Nat) (hm : P.follows .mixedOrders = true)
    (hc1 : (match ops[t]? with | some o => tHead ops (t :: r) o | none => false) = true) (hch : tChain ops t r = true) (htr : r.contains t = false)
    (hk : tOk ops a.tmps.size = true) (hmono : ∀ i v w w', T i v w → Below w.heap.size w w' → T i v w') (hr : TRulesS P ops T a W.drew Q (t :: r) 0 ops.toList)
    (hpost : ∀ (b : Act) (w : World), Below W.heap.size W w → b.defers = a.defers → b.tmps.size = a.tmps.size → (∀ s, noDstS ops (t :: r) s = true → b.tmps.getD s undef = a.tmps.getD s undef) →
      (∀ (i : Nat) (o : Oper) (d : Tmp), (t :: r).contains i = false → ops[i]? = some o → o.dst = some d → T i (b.tmps.getD d undef) w) → TailWp P ops Q (t :: r) b w) : (Code.region id ops true).wp P Q a W := by
  refine wp_region_any hm ?_
  cases h1 : ops[t]? with
  | none => simp [h1] at hc1
  | some o1 =>
    simp only [h1] at hc1
    refine wpAny_typed_tailS (T := T) (W := W.drew) (a0 := a) h1 hc1 hch htr hmono hk (fun i o a1 a2 => ?_) (fun b w h1 h2 h3 h4 h5 => hpost b w (undrew h1) h2 h3 (fun s hs => h4 s (noDstS_spec hs)) h5) _ _ _ _ (by simp) (fun i hi => ?_) ?_ ?_ ⟨Below.refl _ _, rfl, rfl, fun _ _ => rfl, fun i o d ho hl _ => ?_⟩
    · have := TRulesS.at ops.toList 0 hr i o (by simpa using a2)
      rw [Nat.zero_add] at this
      rcases this with h | h
      · rw [a1] at h; cases h
      · exact h
    · have : i < ops.size := by
        rcases List.mem_cons.1 hi with rfl | hi
        · exact (Array.getElem?_eq_some_iff.1 h1).1
        · obtain ⟨_, _, o', ho', _⟩ := chain_pred r t hch i hi
          exact (Array.getElem?_eq_some_iff.1 ho').1
      simp [this]
    · unfold unlisted; exact Nat.le_trans (List.length_filter_le _ _) (by simp)
    · intro i o ho hl e he hb
      exfalso
      have hlt := (Array.getElem?_eq_some_iff.1 ho).1
      simp [hlt] at hl
    · exfalso
      have hlt := (Array.getElem?_eq_some_iff.1 ho).1
      simp [hlt] at hl
/-- one operation of such a region -/
theorem truleT {a : Act} {o : Oper} {sk : List Nat} {i : Nat}
    (h : ∀ (b : Act) (w : World), Below W.heap.size W w → (∀ t, noDstS ops sk t = true → b.eval (.tmp t) = a.eval (.tmp t)) →
      (∀ e ∈ o.after, Region.binds .any e = true → ∀ (oj : Oper) (d : Tmp), ops[e.on]? = some oj → oj.dst = some d → T e.on (b.eval (.tmp d)) w) →
      (Region.wanted o (yielded ops b.tmps) = true → ∀ K : Act → World → Prop, (∀ v w', T i v w' → Below w.heap.size w w' → K (b.put o.dst v) w') → o.wp P b w K Q) ∧ (Region.wanted o (yielded ops b.tmps) = false → T i undef w)) :
    TRuleS P ops T sk a W Q i o := fun b w h1 h2 h3 => h b w h1 (fun t ht => h2 t (noDstS_spec ht)) h3
end
end Go.Proofs.YtenpkgdnlogfiaaGreatDoor
