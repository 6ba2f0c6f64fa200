/-
  A region that draws its order and holds calls that turn what is already there: what each operation gives stays true while the world goes on by a relation R (any that is reflexive and transitive);
  N i: what holds as long as operation i has not been carried out.
-/
import Derived.Test.YtenpkgdnlogfiaaDoorTyp3
namespace Go.Proofs.YtenpkgdnlogfiaaDoor
open Go.RowKit

structure SInv (ops : Array Oper) (T : Nat → Value → World → Prop) (R : World → World → Prop) (N : Nat → World → Prop) (a0 : Act) (W : World) (listed : Array Bool) (a : Act) (w : World) : Prop where
  rel : R W w
  pend : ∀ i, listed.getD i true = false → N i w
  defers : a.defers = a0.defers
  size : a.tmps.size = a0.tmps.size
  old : ∀ t, (∀ (i : Nat) (o : Oper), ops[i]? = some o → o.dst ≠ some t) → a.tmps.getD t undef = a0.tmps.getD t undef
  typ : ∀ (i : Nat) (o : Oper) (d : Tmp), ops[i]? = some o → listed.getD i false = true → o.dst = some d → T i (a.tmps.getD d undef) w
/-- the operation o at place i gives what T says, wherever what it hangs on is as T says -/
def SRule (P : Program) (ops : Array Oper) (T : Nat → Value → World → Prop) (R : World → World → Prop) (N : Nat → World → Prop) (a0 : Act) (W : World) (Q : Exit → Act → World → Prop) (i : Nat) (o : Oper) : Prop :=
  ∀ a w, R W w → N i w → (∀ t, (∀ (i : Nat) (o : Oper), ops[i]? = some o → o.dst ≠ some t) → a.tmps.getD t undef = a0.tmps.getD t undef) →
    (∀ e ∈ o.after, Region.binds .any e = true → ∀ (oj : Oper) (d : Tmp), ops[e.on]? = some oj → oj.dst = some d → T e.on (a.tmps.getD d undef) w) →
    (Region.wanted o (yielded ops a.tmps) = true → ∀ K : Act → World → Prop, (∀ v w', T i v w' → R w w' ∧ (∀ j, j ≠ i → N j w → N j w') → K (a.put o.dst v) w') → o.wp P a w K Q) ∧
    (Region.wanted o (yielded ops a.tmps) = false → T i undef w)
def SRules (P : Program) (ops : Array Oper) (T : Nat → Value → World → Prop) (R : World → World → Prop) (N : Nat → World → Prop) (a0 : Act) (W : World) (Q : Exit → Act → World → Prop) : Nat → List Oper → Prop
  | _, [] => True
  | i, o :: r => SRule P ops T R N a0 W Q i o ∧ SRules P ops T R N a0 W Q (i + 1) r
theorem SRules.at {P : Program} {ops : Array Oper} {T : Nat → Value → World → Prop} {R : World → World → Prop} {N : Nat → World → Prop} {a0 : Act} {W : World} {Q : Exit → Act → World → Prop} :
    ∀ (l : List Oper) (k : Nat), SRules P ops T R N a0 W Q k l → ∀ i o, l[i]? = some o → SRule P ops T R N a0 W Q (k + i) o
  | [], _, _, i, o, h => by simp at h
  | x :: r, k, hr, 0, o, h => by simp at h; subst h; exact hr.1
  | x :: r, k, hr, i + 1, o, h => by
    have := SRules.at r (k + 1) hr.2 i o (by simpa using h)
    rwa [show k + 1 + i = k + (i + 1) by omega] at this
section
variable {P : Program} {ops : Array Oper} {T : Nat → Value → World → Prop} {R : World → World → Prop} {N : Nat → World → Prop} {a0 : Act} {W : World} {Q : Exit → Act → World → Prop}
theorem wpAny_staged (hrefl : ∀ w, R w w) (htr : ∀ a b c, R a b → R b c → R a c) (hmono : ∀ i v w w', T i v w → R w w' → T i v w') (hk : tOk ops a0.tmps.size = true) (hr : SRules P ops T R N a0 W Q 0 ops.toList)
    (hpost : ∀ a w, R W w → a.defers = a0.defers → a.tmps.size = a0.tmps.size → (∀ t, (∀ (i : Nat) (o : Oper), ops[i]? = some o → o.dst ≠ some t) → a.tmps.getD t undef = a0.tmps.getD t undef) →
      (∀ (i : Nat) (o : Oper) (d : Tmp), ops[i]? = some o → o.dst = some d → T i (a.tmps.getD d undef) w) → Q .normal a w) :
    ∀ (fuel : Nat) (listed : Array Bool) (a : Act) (w : World), listed.size = ops.size → unlisted ops listed ≤ fuel → SInv ops T R N a0 W listed a w → wpAny P .any ops Q fuel listed a w := by
  have hall : ∀ listed a w, listed.size = ops.size → Region.ready .any ops listed = [] → SInv ops T R N a0 W listed a w → Q .normal a w := by
    intro listed a w hsz h hI
    refine hpost a w hI.rel hI.defers hI.size hI.old fun i o d ho hd => ?_
    have hlt := (Array.getElem?_eq_some_iff.1 ho).1
    refine hI.typ i o d ho ?_ hd
    have := ready_nil hk h i hlt
    simpa [Array.getD_eq_getD_getElem?, Array.getElem?_eq_getElem (show i < listed.size by omega)] using this
  intro fuel
  induction fuel with
  | zero =>
    intro listed a w hsz hu hI
    have hrd : Region.ready .any ops listed = [] := by
      rw [List.eq_nil_iff_forall_not_mem]
      intro i hi
      rw [mem_ready] at hi
      obtain ⟨h0, o, ho, _⟩ := hi
      have := unlisted_set (ops := ops) (Array.getElem?_eq_some_iff.1 ho).1 h0
      omega
    exact ⟨hrd, hall listed a w hsz hrd hI⟩
  | succ fuel ih =>
    intro listed a w hsz hu hI
    refine ⟨fun h => hall listed a w hsz h hI, fun i hi => ?_⟩
    rw [mem_ready] at hi
    obtain ⟨h0, o, ho, haf⟩ := hi
    have hlt := (Array.getElem?_eq_some_iff.1 ho).1
    have hdst := tOk_dst hk ho
    have hrule := SRules.at ops.toList 0 hr i o (by simpa using ho) a w hI.rel (by rw [Nat.zero_add]; exact hI.pend i h0) hI.old (fun e he hbd oj d hoj hd => hI.typ e.on oj d hoj (haf e he hbd) hd)
    rw [Nat.zero_add] at hrule
    have next : ∀ v w', T i v w' → R w w' ∧ (∀ j, j ≠ i → N j w → N j w') → wpAny P .any ops Q fuel (listed.setIfInBounds i true) (a.put o.dst v) w' := by
      intro v w' hT ⟨hb, hn⟩
      refine ih _ _ _ (by simpa using hsz) (by have := unlisted_set (ops := ops) hlt h0; omega) ⟨htr _ _ _ hI.rel hb, fun j hj => ?_, ?_, ?_, ?_, ?_⟩
      · by_cases e : j = i
        · subst e
          have : j < listed.size := by omega
          simp [Array.getElem?_setIfInBounds, this] at hj
        · exact hn j e (hI.pend j (by rwa [getD_set_ne true (Ne.symm e)] at hj))
      · rw [← hI.defers]; cases o.dst <;> rfl
      · rw [← hI.size]; cases o.dst <;> simp [Act.put]
      · intro t ht
        rw [← hI.old t ht]
        have h2 := ht i o ho
        cases hd : o.dst with
        | none => rfl
        | some d =>
          have : d ≠ t := fun e => h2 (by rw [hd, e])
          simp [Act.put, Array.getElem?_setIfInBounds_ne this]
      · intro j oj d hj hlj hdj
        by_cases e : j = i
        · subst e
          obtain rfl : oj = o := by rw [ho] at hj; exact (Option.some.inj hj).symm
          have hd1 := hdst.1 d hdj
          rw [hdj]
          have hlt2 : d < a.tmps.size := by rw [hI.size]; exact hd1
          simpa [Act.put, hlt2] using hT
        · have hlj' : listed.getD j false = true := by rwa [getD_set_ne false (Ne.symm e)] at hlj
          have h3 := hmono j _ w w' (hI.typ j oj d hj hlj' hdj) hb
          have h4 : (a.put o.dst v).tmps.getD d undef = a.tmps.getD d undef := by
            cases hd : o.dst with
            | none => rfl
            | some d' =>
              have : d' ≠ d := fun e2 => hdst.2.2 j oj d' e hj hd (by rw [hdj, e2])
              simp [Act.put, Array.getElem?_setIfInBounds_ne this]
          rw [h4]; exact h3
    unfold wpOp
    simp only [ho]
    split
    · rename_i hw
      exact .inl (hrule.1 hw _ next)
    · rename_i hw
      exact next undef w (hrule.2 (by simpa using hw)) ⟨hrefl _, fun _ _ h => h⟩
/-- a region that draws its order, whose calls may turn what is there -/
theorem wp_region_staged {id : Nat} {a : Act} (T : Nat → Value → World → Prop) (R : World → World → Prop) (N : Nat → World → Prop) (hm : P.follows .mixedOrders = true) (hk : tOk ops a.tmps.size = true)
    (hrefl : ∀ w, R w w) (htr : ∀ a b c, R a b → R b c → R a c) (hmono : ∀ i v w w', T i v w → R w w' → T i v w') (hN : ∀ i, N i W.drew)
    (hr : SRules P ops T R N a W.drew Q 0 ops.toList)
    (hpost : ∀ (b : Act) (w : World), R W.drew w → b.defers = a.defers → b.tmps.size = a.tmps.size → (∀ t, noDst ops t = true → b.tmps.getD t undef = a.tmps.getD t undef) →
      (∀ (i : Nat) (o : Oper) (d : Tmp), ops[i]? = some o → o.dst = some d → T i (b.tmps.getD d undef) w) → Q .normal b w) : (Code.region id ops true).wp P Q a W := by
  refine wp_region_any hm ?_
  refine wpAny_staged (T := T) (R := R) (N := N) (W := W.drew) (a0 := a) hrefl htr hmono hk hr (fun b w h1 h2 h3 h4 h5 => hpost b w h1 h2 h3 (fun t ht => h4 t (noDst_spec ht)) h5) _ _ _ _ (by simp) ?_ ⟨hrefl _, fun i _ => hN i, rfl, rfl, fun _ _ => rfl, fun i o d ho hl _ => ?_⟩
  · unfold unlisted; exact Nat.le_trans (List.length_filter_le _ _) (by simp)
  · exfalso
    have hlt := (Array.getElem?_eq_some_iff.1 ho).1
    simp [hlt] at hl
/-- one operation of such a region -/
theorem truleS {W : World} {i : Nat} {o : Oper} {a : Act}
    (h : ∀ (b : Act) (w : World), R W w → N i w → (∀ t, noDst ops t = true → b.eval (.tmp t) = a.eval (.tmp t)) →
      (∀ e ∈ o.after, Region.binds .any e = true → ∀ (oj : Oper) (d : Tmp), ops[e.on]? = some oj → oj.dst = some d → T e.on (b.eval (.tmp d)) w) →
      (Region.wanted o (yielded ops b.tmps) = true → ∀ K : Act → World → Prop, (∀ v w', T i v w' → R w w' ∧ (∀ j, j ≠ i → N j w → N j w') → K (b.put o.dst v) w') → o.wp P b w K Q) ∧ (Region.wanted o (yielded ops b.tmps) = false → T i undef w)) :
    SRule P ops T R N a W Q i o := fun b w h1 hn h2 h3 => h b w h1 hn (fun t ht => h2 t (noDst_spec ht)) h3
end
/-- a world goes on through three states -/
def R3 (A0 A1 A2 : World → Prop) (w w' : World) : Prop := (A0 w → A0 w' ∨ A1 w' ∨ A2 w') ∧ (A1 w → A1 w' ∨ A2 w') ∧ (A2 w → A2 w')
section
variable {A0 A1 A2 : World → Prop} {a b c : World}
theorem R3.refl (w : World) : R3 A0 A1 A2 w w := ⟨.inl, .inl, id⟩
theorem R3.m12 (h : R3 A0 A1 A2 a b) (k : A1 a ∨ A2 a) : A1 b ∨ A2 b := k.elim h.2.1 fun k => .inr (h.2.2 k)
theorem R3.m (h : R3 A0 A1 A2 a b) (k : A0 a ∨ A1 a ∨ A2 a) : A0 b ∨ A1 b ∨ A2 b := k.elim h.1 fun k => .inr (h.m12 k)
theorem R3.trans (h : R3 A0 A1 A2 a b) (k : R3 A0 A1 A2 b c) : R3 A0 A1 A2 a c := ⟨fun x => k.m (h.1 x), fun x => k.m12 (h.2.1 x), fun x => k.2.2 (h.2.2 x)⟩
end
end Go.Proofs.YtenpkgdnlogfiaaDoor
