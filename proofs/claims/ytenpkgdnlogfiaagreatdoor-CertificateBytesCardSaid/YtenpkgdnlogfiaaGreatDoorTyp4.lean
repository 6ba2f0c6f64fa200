/-
  As XTyp3, where what each operation makes lies in blocks of its own: those made while it ran (lo up to hi).
-/
import Derived.Test.YtenpkgdnlogfiaaGreatDoorTyp3
namespace Go.Proofs.YtenpkgdnlogfiaaGreatDoor
open Go.RowKit

section
variable {P : Program} {ops : Array Oper} {T : Nat → Nat → Nat → Value → World → Prop} {a0 : Act} {W : World} {Q : Exit → Act → World → Prop}
/-- the blocks made by two operations lie apart -/
def Apart (W : World) (lo hi : Nat → Nat) (listed : Array Bool) (w : World) : Prop :=
  (∀ i j : Nat, i ≠ j → listed.getD i false = true → listed.getD j false = true → hi i ≤ lo j ∨ hi j ≤ lo i) ∧ ∀ i, listed.getD i false = true → W.heap.size ≤ lo i ∧ hi i ≤ w.heap.size
def TRuleG (P : Program) (ops : Array Oper) (T : Nat → Nat → Nat → Value → World → Prop) (a0 : Act) (W : World) (Q : Exit → Act → World → Prop) (i : Nat) (o : Oper) : Prop :=
  ∀ a w, Below W.heap.size W w → (∀ t, (∀ (i : Nat) (o : Oper), ops[i]? = some o → o.dst ≠ some t) → a.tmps.getD t undef = a0.tmps.getD t undef) →
    (∀ e ∈ o.after, Region.binds .any e = true → ∀ (oj : Oper) (d : Tmp), ops[e.on]? = some oj → oj.dst = some d → ∃ l h, T e.on l h (a.tmps.getD d undef) w) →
    (Region.wanted o (yielded ops a.tmps) = true → ∀ K : Act → World → Prop, (∀ v w', T i w.heap.size w'.heap.size v w' → Below w.heap.size w w' → K (a.put o.dst v) w') → o.wp P a w K Q) ∧
    (Region.wanted o (yielded ops a.tmps) = false → T i w.heap.size w.heap.size undef w)
theorem wpAny_typed_tail2 {t : Nat} {r : List Nat} {o1 : Oper} (h1 : ops[t]? = some o1) (hc1 : tHead ops (t :: r) o1 = true) (hch : tChain ops t r = true) (htr : r.contains t = false)
    (hmono : ∀ i l h v w w', T i l h v w → Below w.heap.size w w' → T i l h v w') (hk : tOk ops a0.tmps.size = true) (hr : ∀ i o, (t :: r).contains i = false → ops[i]? = some o → TRuleG P ops T a0 W Q i o)
    (hpost : ∀ (b : Act) (w : World) (lo hi : Nat → Nat), Below W.heap.size W w → b.defers = a0.defers → b.tmps.size = a0.tmps.size → (∀ t, (∀ (i : Nat) (o : Oper), ops[i]? = some o → o.dst ≠ some t) → b.tmps.getD t undef = a0.tmps.getD t undef) →
      (∀ (i : Nat) (o : Oper) (d : Tmp), (t :: r).contains i = false → ops[i]? = some o → o.dst = some d → T i (lo i) (hi i) (b.tmps.getD d undef) w) → (∀ i j, (t :: r).contains i = false → (t :: r).contains j = false → i < ops.size → j < ops.size → i ≠ j → hi i ≤ lo j ∨ hi j ≤ lo i) → (∀ i, (t :: r).contains i = false → i < ops.size → W.heap.size ≤ lo i ∧ hi i ≤ w.heap.size) → TailWp P ops Q (t :: r) b w) :
    ∀ (fuel : Nat) (listed : Array Bool) (b : Act) (w : World) (lo hi : Nat → Nat), listed.size = ops.size → (∀ i ∈ t :: r, listed.getD i true = false) → unlisted ops listed ≤ fuel → ClosedL ops listed → TInv ops (fun i v w => T i (lo i) (hi i) v w) a0 W listed b w → Apart W lo hi listed w → wpAny P .any ops Q fuel listed b w := by
  simp only [tHead, Bool.and_eq_true] at hc1
  obtain ⟨hguard1, hcov1⟩ := hc1
  have htlt := (Array.getElem?_eq_some_iff.1 h1).1
  intro fuel
  induction fuel with
  | zero =>
    intro listed b w lo hi hsz hin hu hcl hI hS
    exfalso
    have := unlisted_set (ops := ops) (i := t) htlt (hin t List.mem_cons_self)
    omega
  | succ fuel ih =>
    intro listed b w lo hi hsz hin hu hcl hI hS
    refine ⟨fun h => ?_, fun i hi => ?_⟩
    · exfalso
      have := ready_nil hk h t htlt
      rw [hin t List.mem_cons_self] at this
      cases this
    rw [mem_ready] at hi
    obtain ⟨h0, o, ho, haf⟩ := hi
    have hlt := (Array.getElem?_eq_some_iff.1 ho).1
    by_cases hir : i ∈ r
    · exfalso
      obtain ⟨p, hp, o', ho', _, e, he, hb, hep⟩ := chain_pred r t hch i hir
      obtain rfl : o = o' := by rw [ho] at ho'; exact Option.some.inj ho'
      have := getD_tf (haf e he hb)
      rw [hep, hin p (by rcases hp with rfl | hp; exact List.mem_cons_self; exact List.mem_cons_of_mem _ hp)] at this
      cases this
    by_cases hit : i = t
    · subst hit
      obtain rfl : o = o1 := by rw [h1] at ho; exact (Option.some.inj ho).symm
      have hall : ∀ j, j < ops.size → (i :: r).contains j = false → listed.getD j false = true := by
        intro j hj hne
        have h3 := (List.all_eq_true.1 hcov1) j (by simpa using hj)
        simp only [Bool.or_eq_true, hne, Bool.false_eq_true, false_or] at h3
        exact covers_listed hcl _ o j h3 haf
      have hw : Region.wanted o (yielded ops b.tmps) = true := want_none (by cases hg : o.guard with | none => rfl | some x => simp [hg] at hguard1)
      unfold wpOp
      simp only [ho, hw, if_true]
      refine .inl (Oper.wp_mono (fun b1 w1 hq => ?_) (hpost b w lo hi hI.bel hI.defers hI.size hI.old (fun j oj d hj hoj hd => hI.typ j oj d hoj (hall j (Array.getElem?_eq_some_iff.1 hoj).1 hj) hd) (fun x y n1 n2 hx hy hne => hS.1 x y hne (hall x hx n1) (hall y hy n2)) (fun x n1 hx => hS.2 x (hall x hx n1)) o ho))
      have hrlen : r.length ≤ fuel := by
        -- the tail is not listed
        have key : ∀ (l : List Nat) (ls : Array Bool), l.Nodup → (∀ x ∈ l, x < ops.size ∧ ls.getD x true = false) → l.length ≤ unlisted ops ls := by
          intro l
          induction l with
          | nil => intro _ _ _; exact Nat.zero_le _
          | cons x l ih2 =>
            intro ls hnd hx
            have q1 := unlisted_set (ops := ops) (hx x List.mem_cons_self).1 (hx x List.mem_cons_self).2
            have q2 := ih2 (ls.setIfInBounds x true) (List.nodup_cons.1 hnd).2 (fun y hy => ⟨(hx y (List.mem_cons_of_mem _ hy)).1, by rw [getD_set_ne true (by rintro rfl; exact (List.nodup_cons.1 hnd).1 hy)]; exact (hx y (List.mem_cons_of_mem _ hy)).2⟩)
            simp; omega
        have hnd : ∀ (r : List Nat) (t : Nat), tChain ops t r = true → r.Nodup := by
          intro r
          induction r with
          | nil => intro _ _; exact List.nodup_nil
          | cons u r ih2 =>
            intro t h
            simp only [tChain, Bool.and_eq_true] at h
            exact List.nodup_cons.2 ⟨by simpa using h.1.2, ih2 u h.2⟩
        have q1 := unlisted_set (ops := ops) hlt h0
        have q2 := key r (listed.setIfInBounds i true) (hnd r i hch) (fun x hx => ⟨by
          obtain ⟨_, _, o', ho', _⟩ := chain_pred r i hch x hx
          exact (Array.getElem?_eq_some_iff.1 ho').1, by
          have : x ≠ i := fun e => hir (e ▸ hx)
          rw [getD_set_ne true (Ne.symm this)]; exact hin x (List.mem_cons_of_mem _ hx)⟩)
        omega
      refine wpAny_tail hk r i fuel _ b1 w1 (by simpa using hsz) hch (fun j hj hn => set_listed ?_) (fun j hj => ?_) hrlen hq
      · by_cases e : j = i
        · exact .inl e
        · exact .inr (getD_tf (hall j hj (by simp [e, hn])))
      · have : j ≠ i := fun e => hir (e ▸ hj)
        rw [getD_set_ne true (Ne.symm this)]
        exact hin j (List.mem_cons_of_mem _ hj)
    · have hnt : (t :: r).contains i = false := by simp [hit, hir]
      have hdst := tOk_dst hk ho
      have hrule := hr i o hnt ho b w hI.bel hI.old (fun e he hbd oj d hoj hd => ⟨_, _, hI.typ e.on oj d hoj (haf e he hbd) hd⟩)
      have hcl' : ClosedL ops (listed.setIfInBounds i true) := by
        intro j oj hj hlj e he hb
        by_cases e2 : j = i
        · subst e2
          obtain rfl : oj = o := by rw [ho] at hj; exact (Option.some.inj hj).symm
          exact getD_set_true (haf e he hb)
        · rw [getD_set_ne false (Ne.symm e2)] at hlj
          exact getD_set_true (hcl j oj hj hlj e he hb)
      have next : ∀ v w', T i w.heap.size w'.heap.size v w' → Below w.heap.size w w' → wpAny P .any ops Q fuel (listed.setIfInBounds i true) (b.put o.dst v) w' := by
        intro v w' hT hb
        refine ih _ _ _ (fun k => if k = i then w.heap.size else lo k) (fun k => if k = i then w'.heap.size else hi k) (by simpa using hsz) (fun j hj => by
          have : j ≠ i := fun e => by subst e; simp at hj; rcases hj with e | e; exact hit e; exact hir e
          rw [getD_set_ne true (Ne.symm this)]; exact hin j hj) (by have := unlisted_set (ops := ops) hlt h0; omega) hcl' ⟨hI.bel.trans (hb.mono hI.bel.size), ?_, ?_, ?_, ?_⟩ ?_
        · rw [← hI.defers]; cases o.dst <;> rfl
        · rw [← hI.size]; cases o.dst <;> simp [Act.put]
        · intro t ht
          rw [← hI.old t ht]
          have h2 := ht i o ho
          cases hd : o.dst with
          | none => rfl
          | some d =>
            have : d ≠ t := fun e => h2 (by rw [hd, e])
            simp [Act.put, Array.getElem?_setIfInBounds_ne this]
        · intro j oj d hj hlj hdj
          by_cases e : j = i
          · subst e
            obtain rfl : oj = o := by rw [ho] at hj; exact (Option.some.inj hj).symm
            have hd1 := hdst.1 d hdj
            rw [hdj]
            have hlt2 : d < b.tmps.size := by rw [hI.size]; exact hd1
            simp only [if_true]
            simpa [Act.put, hlt2] using hT
          · have hlj' : listed.getD j false = true := by rwa [getD_set_ne false (Ne.symm e)] at hlj
            have h3 := hmono j _ _ _ w w' (hI.typ j oj d hj hlj' hdj) hb
            have h4 : (b.put o.dst v).tmps.getD d undef = b.tmps.getD d undef := by
              cases hd : o.dst with
              | none => rfl
              | some d' =>
                have : d' ≠ d := fun e2 => hdst.2.2 j oj d' e hj hd (by rw [hdj, e2])
                simp [Act.put, Array.getElem?_setIfInBounds_ne this]
            rw [h4]; simp only [if_neg e]; exact h3
        · have hwz := hI.bel.size
          have hbz := hb.size
          refine ⟨fun x y hne lx ly => ?_, fun x lx => ?_⟩
          · dsimp only
            by_cases ex : x = i
            · have ey : y ≠ i := fun e => hne (ex.trans e.symm)
              rw [if_pos ex, if_pos ex, if_neg ey, if_neg ey]
              have := (hS.2 y (by rwa [getD_set_ne false (Ne.symm ey)] at ly)).2
              right; exact this
            · by_cases ey : y = i
              · rw [if_pos ey, if_pos ey, if_neg ex, if_neg ex]
                have := (hS.2 x (by rwa [getD_set_ne false (Ne.symm ex)] at lx)).2
                left; exact this
              · rw [if_neg ey, if_neg ey, if_neg ex, if_neg ex]
                exact hS.1 x y hne (by rwa [getD_set_ne false (Ne.symm ex)] at lx) (by rwa [getD_set_ne false (Ne.symm ey)] at ly)
          · dsimp only
            by_cases ex : x = i
            · rw [if_pos ex, if_pos ex]; exact ⟨hwz, Nat.le_refl _⟩
            · rw [if_neg ex, if_neg ex]
              have := hS.2 x (by rwa [getD_set_ne false (Ne.symm ex)] at lx)
              exact ⟨this.1, Nat.le_trans this.2 hbz⟩
      unfold wpOp
      simp only [ho]
      split
      · rename_i hw
        exact .inl (hrule.1 hw _ next)
      · rename_i hw
        exact next undef w (hrule.2 (by simpa using hw)) (Below.refl _ _)
def TRulesG (P : Program) (ops : Array Oper) (T : Nat → Nat → Nat → Value → World → Prop) (a0 : Act) (W : World) (Q : Exit → Act → World → Prop) (skip : List Nat) : Nat → List Oper → Prop
  | _, [] => True
  | i, o :: r => (skip.contains i = true ∨ TRuleG P ops T a0 W Q i o) ∧ TRulesG P ops T a0 W Q skip (i + 1) r
theorem TRulesG.at {skip : List Nat} : ∀ (l : List Oper) (k : Nat), TRulesG P ops T a0 W Q skip k l → ∀ i o, l[i]? = some o → skip.contains (k + i) = true ∨ TRuleG P ops T a0 W Q (k + i) o
  | [], _, _, i, o, h => by simp at h
  | x :: r, k, hr, 0, o, h => by simp at h; subst h; exact hr.1
  | x :: r, k, hr, i + 1, o, h => by
    have := TRulesG.at r (k + 1) hr.2 i o (by simpa using h)
    rwa [show k + 1 + i = k + (i + 1) by omega] at this
/-- a region that draws its order and ends in some operations in one order, which may write; what each makes lies in blocks of its own -/
theorem wp_region_tail2 {id : Nat} {a : Act} (T : Nat → Nat → Nat → Value → World → Prop) (t : Nat) (r : List Nat) (hm : P.follows .mixedOrders = true)
    (hc1 : (match ops[t]? with | some o => tHead ops (t :: r) o | none => false) = true) (hch : tChain ops t r = true) (htr : r.contains t = false)
    (hk : tOk ops a.tmps.size = true) (hmono : ∀ i l h v w w', T i l h v w → Below w.heap.size w w' → T i l h v w') (hr : TRulesG P ops T a W.drew Q (t :: r) 0 ops.toList)
    (hpost : ∀ (b : Act) (w : World) (lo hi : Nat → Nat), Below W.heap.size W w → b.defers = a.defers → b.tmps.size = a.tmps.size → (∀ t, noDst ops t = true → b.tmps.getD t undef = a.tmps.getD t undef) →
      (∀ (i : Nat) (o : Oper) (d : Tmp), (t :: r).contains i = false → ops[i]? = some o → o.dst = some d → T i (lo i) (hi i) (b.tmps.getD d undef) w) →
      (∀ i j, (t :: r).contains i = false → (t :: r).contains j = false → i < ops.size → j < ops.size → i ≠ j → hi i ≤ lo j ∨ hi j ≤ lo i) → (∀ i, (t :: r).contains i = false → i < ops.size → W.heap.size ≤ lo i ∧ hi i ≤ w.heap.size) →
      TailWp P ops Q (t :: r) b w) : (Code.region id ops true).wp P Q a W := by
  refine wp_region_any hm ?_
  cases h1 : ops[t]? with
  | none => simp [h1] at hc1
  | some o1 =>
    simp only [h1] at hc1
    refine wpAny_typed_tail2 (T := T) (W := W.drew) (a0 := a) h1 hc1 hch htr hmono hk (fun i o a1 a2 => ?_) (fun b w lo hi h1 h2 h3 h4 h5 h6 h7 => hpost b w lo hi (undrew h1) h2 h3 (fun t ht => h4 t (noDst_spec ht)) h5 h6 h7) _ _ _ _ (fun _ => 0) (fun _ => 0) (by simp) (fun i hi => ?_) ?_ ?_ ⟨Below.refl _ _, rfl, rfl, fun _ _ => rfl, fun i o d ho hl _ => ?_⟩ ⟨fun x y _ hl _ => ?_, fun x hl => ?_⟩
    · have := TRulesG.at ops.toList 0 hr i o (by simpa using a2)
      rw [Nat.zero_add] at this
      rcases this with h | h
      · rw [a1] at h; cases h
      · exact h
    · have : i < ops.size := by
        rcases List.mem_cons.1 hi with rfl | hi
        · exact (Array.getElem?_eq_some_iff.1 h1).1
        · obtain ⟨_, _, o', ho', _⟩ := chain_pred r t hch i hi
          exact (Array.getElem?_eq_some_iff.1 ho').1
      simp [this]
    · unfold unlisted; exact Nat.le_trans (List.length_filter_le _ _) (by simp)
    · intro i o ho hl e he hb
      exfalso
      have hlt := (Array.getElem?_eq_some_iff.1 ho).1
      simp [hlt] at hl
    · exfalso
      have hlt := (Array.getElem?_eq_some_iff.1 ho).1
      simp [hlt] at hl
    · exfalso
      rcases Nat.lt_or_ge x ops.size with hlt | hlt
      · simp [hlt] at hl
      · simp [Array.getElem?_eq_none (show (Array.replicate ops.size false).size ≤ x by simpa using hlt)] at hl
    · exfalso
      rcases Nat.lt_or_ge x ops.size with hlt | hlt
      · simp [hlt] at hl
      · simp [Array.getElem?_eq_none (show (Array.replicate ops.size false).size ≤ x by simpa using hlt)] at hl
end
section
variable {P : Program} {ops : Array Oper} {o : Oper} {a : Act} {w : World} {K : Act → World → Prop} {Q : Exit → Act → World → Prop}
theorem truleG {T : Nat → Nat → Nat → Value → World → Prop} {W : World} {i : Nat}
    (h : ∀ (b : Act) (w : World), Below W.heap.size W w → (∀ t, noDst ops t = true → b.eval (.tmp t) = a.eval (.tmp t)) →
      (∀ e ∈ o.after, Region.binds .any e = true → ∀ (oj : Oper) (d : Tmp), ops[e.on]? = some oj → oj.dst = some d → ∃ l h, T e.on l h (b.eval (.tmp d)) w) →
      (Region.wanted o (yielded ops b.tmps) = true → ∀ K : Act → World → Prop, (∀ v w', T i w.heap.size w'.heap.size v w' → Below w.heap.size w w' → K (b.put o.dst v) w') → o.wp P b w K Q) ∧ (Region.wanted o (yielded ops b.tmps) = false → T i w.heap.size w.heap.size undef w)) :
    TRuleG P ops T a W Q i o := fun b w h1 h2 h3 => h b w h1 (fun t ht => h2 t (noDst_spec ht)) h3
theorem opw_alloc {t : TypeId} (ho : o.op = .alloc t) (hz : ((P.info? t).bind (·.zero)).isSome = true)
    (hk : ∀ w', Box w' w.heap.size t (zeroCells P t) → Below w.heap.size w w' → K (a.put o.dst (.pointer (some ⟨w.heap.size, 0, none⟩))) w') : o.wp P a w K Q := by
  cases hi : P.info? t with
  | none => simp [hi] at hz
  | some i =>
    cases hz' : i.zero with
    | none => simp [hi, hz'] at hz
    | some z =>
      have hzc : zeroCells P t = z.cells := by simp [zeroCells, hi, hz']
      have hr : (Instr.alloc t true (.tuple #[])).run P w = .ok (.pointer (some ⟨w.heap.size, 0, none⟩)) (w.alloc (.cells (zeroCells P t) t)) := by
        rw [hzc]
        simp [Instr.alloc, zeroValue, typeInfo, hi, hz', newVar, newRow, newObj]
        rfl
      unfold Oper.wp execOp
      simp only [ho, Sem.run_bind, hr, Result.andThen_ok]
      exact hk _ (Box.new _ _ _) ((Below.refl _ _).alloc (Nat.le_refl _) _)
end
end Go.Proofs.YtenpkgdnlogfiaaGreatDoor
