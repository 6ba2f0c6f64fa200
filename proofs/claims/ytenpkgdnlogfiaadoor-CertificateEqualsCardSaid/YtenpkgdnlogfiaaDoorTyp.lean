/-
  A region that draws its order, each operation looked at once: what each operation gives is told by a predicate that stays true in later worlds; all operations only read or make memory.
-/
import Derived.Test.YtenpkgdnlogfiaaDoorOp
import Derived.RegionTactic
import Derived.Eval
namespace Go.Proofs.YtenpkgdnlogfiaaDoor
open Go.RowKit

/-- what holds of the frame while the operations `listed` have been carried out -/
structure TInv (ops : Array Oper) (T : Nat → Value → World → Prop) (a0 : Act) (W : World) (listed : Array Bool) (a : Act) (w : World) : Prop where
  bel : Below W.heap.size W w
  defers : a.defers = a0.defers
  size : a.tmps.size = a0.tmps.size
  old : ∀ t, (∀ (i : Nat) (o : Oper), ops[i]? = some o → o.dst ≠ some t) → a.tmps.getD t undef = a0.tmps.getD t undef
  typ : ∀ (i : Nat) (o : Oper) (d : Tmp), ops[i]? = some o → listed.getD i false = true → o.dst = some d → T i (a.tmps.getD d undef) w
/-- the operation o at place i gives what T says, wherever what it hangs on is as T says -/
def TRule (P : Program) (ops : Array Oper) (T : Nat → Value → World → Prop) (a0 : Act) (W : World) (Q : Exit → Act → World → Prop) (i : Nat) (o : Oper) : Prop :=
  ∀ a w, Below W.heap.size W w → (∀ t, (∀ (i : Nat) (o : Oper), ops[i]? = some o → o.dst ≠ some t) → a.tmps.getD t undef = a0.tmps.getD t undef) →
    (∀ e ∈ o.after, Region.binds .any e = true → ∀ (oj : Oper) (d : Tmp), ops[e.on]? = some oj → oj.dst = some d → T e.on (a.tmps.getD d undef) w) →
    (Region.wanted o (yielded ops a.tmps) = true → ∀ K : Act → World → Prop, (∀ v w', T i v w' → Below w.heap.size w w' → K (a.put o.dst v) w') → o.wp P a w K Q) ∧
    (Region.wanted o (yielded ops a.tmps) = false → T i undef w)
def TRules (P : Program) (ops : Array Oper) (T : Nat → Value → World → Prop) (a0 : Act) (W : World) (Q : Exit → Act → World → Prop) : Nat → List Oper → Prop
  | _, [] => True
  | i, o :: r => TRule P ops T a0 W Q i o ∧ TRules P ops T a0 W Q (i + 1) r
theorem TRules.at {P : Program} {ops : Array Oper} {T : Nat → Value → World → Prop} {a0 : Act} {W : World} {Q : Exit → Act → World → Prop} :
    ∀ (l : List Oper) (k : Nat), TRules P ops T a0 W Q k l → ∀ i o, l[i]? = some o → TRule P ops T a0 W Q (k + i) o
  | [], _, _, i, o, h => by simp at h
  | x :: r, k, hr, 0, o, h => by simp at h; subst h; exact hr.1
  | x :: r, k, hr, i + 1, o, h => by
    have := TRules.at r (k + 1) hr.2 i o (by simpa using h)
    rwa [show k + 1 + i = k + (i + 1) by omega] at this
/-- no two operations write one slot, each slot is one of the frame, and each operation comes behind those that it names -/
def tOk (ops : Array Oper) (n : Nat) : Bool :=
  (List.range ops.size).all fun i => match ops[i]? with
    | none => true
    | some o => (match o.dst with
      | none => true
      | some d => decide (d < n) && (List.range i).all fun j => match ops[j]? with
        | none => true
        | some oj => oj.dst != some d) && o.after.all fun e => decide (e.on < i)

section
variable {P : Program} {ops : Array Oper} {T : Nat → Value → World → Prop} {a0 : Act} {W : World} {Q : Exit → Act → World → Prop}
theorem tOk_dst {n : Nat} (h : tOk ops n = true) {i : Nat} {o : Oper} (ho : ops[i]? = some o) : (∀ d, o.dst = some d → d < n) ∧ (∀ e ∈ o.after, e.on < i) ∧ ∀ (j : Nat) (oj : Oper) (d : Tmp), j ≠ i → ops[j]? = some oj → o.dst = some d → oj.dst ≠ some d := by
  have hlt : ∀ (i : Nat) (o : Oper), ops[i]? = some o → i < ops.size := fun i o h => (Array.getElem?_eq_some_iff.1 h).1
  have key : ∀ (i : Nat) (o : Oper), ops[i]? = some o → (∀ d, o.dst = some d → d < n ∧ ∀ j, j < i → ∀ oj : Oper, ops[j]? = some oj → oj.dst ≠ some d) ∧ ∀ e ∈ o.after, e.on < i := by
    intro i o ho
    have h1 := (List.all_eq_true.1 h) i (by simpa using hlt i o ho)
    simp only [ho, Bool.and_eq_true] at h1
    refine ⟨fun d hd => ?_, fun e he => by have := (Array.all_eq_true_iff_forall_mem.1 h1.2) e he; simpa using this⟩
    have h2 := h1.1
    simp only [hd, Bool.and_eq_true, decide_eq_true_eq] at h2
    refine ⟨h2.1, fun j hj oj hoj => ?_⟩
    have h3 := (List.all_eq_true.1 h2.2) j (by simpa using hj)
    simp only [hoj, bne_iff_ne] at h3
    exact h3
  refine ⟨fun d hd => ((key i o ho).1 d hd).1, (key i o ho).2, fun j oj d hne hj hd => ?_⟩
  rcases Nat.lt_trichotomy j i with hl | hl | hl
  · exact ((key i o ho).1 d hd).2 j hl oj hj
  · exact absurd hl hne
  · intro e
    exact ((key j oj hj).1 d e).2 i hl o ho hd
def unlisted (ops : Array Oper) (listed : Array Bool) : Nat := ((List.range ops.size).filter fun i => !listed.getD i true).length
theorem filter_len_lt {α : Type} (p q : α → Bool) (l : List α) (x : α) (hx : x ∈ l) (hp : p x = true) (hq : q x = false) (hs : ∀ y, q y = true → p y = true) : (l.filter q).length < (l.filter p).length := by
  induction l with
  | nil => simp at hx
  | cons y r ih =>
    have hle : (r.filter q).length ≤ (r.filter p).length := by
      clear ih hx
      induction r with
      | nil => simp
      | cons z r ih =>
        simp only [List.filter_cons]
        cases hq' : q z
        · cases hp' : p z <;> simp <;> omega
        · rw [hs _ hq']; simpa using ih
    rcases List.mem_cons.1 hx with rfl | hx
    · simp [List.filter_cons, hp, hq]; omega
    · have := ih hx
      simp only [List.filter_cons]
      cases hq' : q y
      · cases hp' : p y <;> simp <;> omega
      · rw [hs _ hq']; simpa using this
theorem unlisted_set {listed : Array Bool} {i : Nat} (hi : i < ops.size) (h : listed.getD i true = false) : unlisted ops (listed.setIfInBounds i true) < unlisted ops listed := by
  refine filter_len_lt (fun i => !listed.getD i true) (fun j => !(listed.setIfInBounds i true).getD j true) _ i (by simpa using hi) (by rw [h]; rfl) ?_ (fun y hy => ?_)
  · have : i < listed.size := by
      rcases Nat.lt_or_ge i listed.size with h' | h'
      · exact h'
      · simp [Array.getElem?_eq_none h'] at h
    simp [Array.getElem?_setIfInBounds, this]
  · by_cases e : i = y
    · subst e
      have : i < listed.size := by
        rcases Nat.lt_or_ge i listed.size with h' | h'
        · exact h'
        · simp [Array.getElem?_eq_none h'] at h
      simp [Array.getElem?_setIfInBounds, this] at hy
    · rwa [getD_set_ne true e] at hy
theorem ready_nil {listed : Array Bool} {n : Nat} (hk : tOk ops n = true) (h : Region.ready .any ops listed = []) (i : Nat) (hi : i < ops.size) : listed.getD i true = true := by
  induction i using Nat.strongRecOn with
  | _ i ih =>
    cases hl : listed.getD i true with
    | true => rfl
    | false =>
      exfalso
      have hm : i ∈ Region.ready .any ops listed := by
        rw [mem_ready]
        refine ⟨hl, ops[i], by simp [hi], fun e he _ => ?_⟩
        have h1 := ((tOk_dst hk (i := i) (o := ops[i]) (by simp [hi])).2.1) e he
        have h2 := ih e.on h1 (by omega)
        have hsz : i < listed.size := by
          rcases Nat.lt_or_ge i listed.size with h' | h'
          · exact h'
          · simp [Array.getElem?_eq_none h'] at hl
        simpa [Array.getD_eq_getD_getElem?, Array.getElem?_eq_getElem (show e.on < listed.size by omega)] using h2
      rw [h] at hm
      cases hm
theorem wpAny_typed (hmono : ∀ i v w w', T i v w → Below w.heap.size w w' → T i v w') (hk : tOk ops a0.tmps.size = true) (hr : TRules P ops T a0 W Q 0 ops.toList)
    (hpost : ∀ a w, Below W.heap.size W w → a.defers = a0.defers → a.tmps.size = a0.tmps.size → (∀ t, (∀ (i : Nat) (o : Oper), ops[i]? = some o → o.dst ≠ some t) → a.tmps.getD t undef = a0.tmps.getD t undef) →
      (∀ (i : Nat) (o : Oper) (d : Tmp), ops[i]? = some o → o.dst = some d → T i (a.tmps.getD d undef) w) → Q .normal a w) :
    ∀ (fuel : Nat) (listed : Array Bool) (a : Act) (w : World), listed.size = ops.size → unlisted ops listed ≤ fuel → TInv ops T a0 W listed a w → wpAny P .any ops Q fuel listed a w := by
  have hall : ∀ listed a w, listed.size = ops.size → Region.ready .any ops listed = [] → TInv ops T a0 W listed a w → Q .normal a w := by
    intro listed a w hsz h hI
    refine hpost a w hI.bel hI.defers hI.size hI.old fun i o d ho hd => ?_
    have hlt := (Array.getElem?_eq_some_iff.1 ho).1
    refine hI.typ i o d ho ?_ hd
    have := ready_nil hk h i hlt
    simpa [Array.getD_eq_getD_getElem?, Array.getElem?_eq_getElem (show i < listed.size by omega)] using this
  intro fuel
  induction fuel with
  | zero =>
    intro listed a w hsz hu hI
    have hrd : Region.ready .any ops listed = [] := by
      rw [List.eq_nil_iff_forall_not_mem]
      intro i hi
      rw [mem_ready] at hi
      obtain ⟨h0, o, ho, _⟩ := hi
      have := unlisted_set (ops := ops) (Array.getElem?_eq_some_iff.1 ho).1 h0
      omega
    exact ⟨hrd, hall listed a w hsz hrd hI⟩
  | succ fuel ih =>
    intro listed a w hsz hu hI
    refine ⟨fun h => hall listed a w hsz h hI, fun i hi => ?_⟩
    rw [mem_ready] at hi
    obtain ⟨h0, o, ho, haf⟩ := hi
    have hlt := (Array.getElem?_eq_some_iff.1 ho).1
    have hdst := tOk_dst hk ho
    have hrule := TRules.at ops.toList 0 hr i o (by simpa using ho) a w hI.bel hI.old (fun e he hbd oj d hoj hd => hI.typ e.on oj d hoj (haf e he hbd) hd)
    rw [Nat.zero_add] at hrule
    have next : ∀ v w', T i v w' → Below w.heap.size w w' → wpAny P .any ops Q fuel (listed.setIfInBounds i true) (a.put o.dst v) w' := by
      intro v w' hT hb
      refine ih _ _ _ (by simpa using hsz) (by have := unlisted_set (ops := ops) hlt h0; omega) ⟨hI.bel.trans (hb.mono hI.bel.size), ?_, ?_, ?_, ?_⟩
      · rw [← hI.defers]; cases o.dst <;> rfl
      · rw [← hI.size]; cases o.dst <;> simp [Act.put]
      · intro t ht
        rw [← hI.old t ht]
        have h2 := ht i o ho
        cases hd : o.dst with
        | none => rfl
        | some d =>
          have : d ≠ t := fun e => h2 (by rw [hd, e])
          simp [Act.put, Array.getElem?_setIfInBounds_ne this]
      · intro j oj d hj hlj hdj
        by_cases e : j = i
        · subst e
          obtain rfl : oj = o := by rw [ho] at hj; exact (Option.some.inj hj).symm
          have hd1 := hdst.1 d hdj
          rw [hdj]
          have hlt2 : d < a.tmps.size := by rw [hI.size]; exact hd1
          simpa [Act.put, hlt2] using hT
        · have hlj' : listed.getD j false = true := by rwa [getD_set_ne false (Ne.symm e)] at hlj
          have h3 := hmono j _ w w' (hI.typ j oj d hj hlj' hdj) hb
          have h4 : (a.put o.dst v).tmps.getD d undef = a.tmps.getD d undef := by
            cases hd : o.dst with
            | none => rfl
            | some d' =>
              have : d' ≠ d := fun e2 => hdst.2.2 j oj d' e hj hd (by rw [hdj, e2])
              simp [Act.put, Array.getElem?_setIfInBounds_ne this]
          rw [h4]; exact h3
    unfold wpOp
    simp only [ho]
    split
    · rename_i hw
      exact .inl (hrule.1 hw _ next)
    · rename_i hw
      exact next undef w (hrule.2 (by simpa using hw)) (Below.refl _ _)
end
end Go.Proofs.YtenpkgdnlogfiaaDoor
