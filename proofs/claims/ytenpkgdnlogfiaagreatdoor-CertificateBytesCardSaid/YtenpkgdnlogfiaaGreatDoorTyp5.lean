/-
  A region that draws its order and holds calls that turn what is already there: what each operation gives stays true while the world goes on by a relation R (any that is reflexive and transitive);
  N i: what holds as long as operation i has not been carried out.
  A region that draws its order and in which some operations, one behind the other, turn the world; all others only read.
  es: those that turn it; S vs w: the world behind the first of them, which gave vs; T i v: what operation i, one of the others, gives.
-/
import Derived.Test.YtenpkgdnlogfiaaGreatDoorTyp3
namespace Go.Proofs.YtenpkgdnlogfiaaGreatDoor
open Go.RowKit

structure SInv (ops : Array Oper) (T : Nat → Value → World → Prop) (R : World → World → Prop) (N : Nat → World → Prop) (a0 : Act) (W : World) (listed : Array Bool) (a : Act) (w : World) : Prop where
  rel : R W w
  pend : ∀ i, listed.getD i true = false → N i w
  defers : a.defers = a0.defers
  size : a.tmps.size = a0.tmps.size
  old : ∀ t, (∀ (i : Nat) (o : Oper), ops[i]? = some o → o.dst ≠ some t) → a.tmps.getD t undef = a0.tmps.getD t undef
  typ : ∀ (i : Nat) (o : Oper) (d : Tmp), ops[i]? = some o → listed.getD i false = true → o.dst = some d → T i (a.tmps.getD d undef) w
/-- the operation o at place i gives what T says, wherever what it hangs on is as T says -/
def SRule (P : Program) (ops : Array Oper) (T : Nat → Value → World → Prop) (R : World → World → Prop) (N : Nat → World → Prop) (a0 : Act) (W : World) (Q : Exit → Act → World → Prop) (i : Nat) (o : Oper) : Prop :=
  ∀ a w, R W w → N i w → (∀ t, (∀ (i : Nat) (o : Oper), ops[i]? = some o → o.dst ≠ some t) → a.tmps.getD t undef = a0.tmps.getD t undef) →
    (∀ e ∈ o.after, Region.binds .any e = true → ∀ (oj : Oper) (d : Tmp), ops[e.on]? = some oj → oj.dst = some d → T e.on (a.tmps.getD d undef) w) →
    (Region.wanted o (yielded ops a.tmps) = true → ∀ K : Act → World → Prop, (∀ v w', T i v w' → R w w' ∧ (∀ j, j ≠ i → N j w → N j w') → K (a.put o.dst v) w') → o.wp P a w K Q) ∧
    (Region.wanted o (yielded ops a.tmps) = false → T i undef w)
def SRules (P : Program) (ops : Array Oper) (T : Nat → Value → World → Prop) (R : World → World → Prop) (N : Nat → World → Prop) (a0 : Act) (W : World) (Q : Exit → Act → World → Prop) : Nat → List Oper → Prop
  | _, [] => True
  | i, o :: r => SRule P ops T R N a0 W Q i o ∧ SRules P ops T R N a0 W Q (i + 1) r
theorem SRules.at {P : Program} {ops : Array Oper} {T : Nat → Value → World → Prop} {R : World → World → Prop} {N : Nat → World → Prop} {a0 : Act} {W : World} {Q : Exit → Act → World → Prop} :
    ∀ (l : List Oper) (k : Nat), SRules P ops T R N a0 W Q k l → ∀ i o, l[i]? = some o → SRule P ops T R N a0 W Q (k + i) o
  | [], _, _, i, o, h => by simp at h
  | x :: r, k, hr, 0, o, h => by simp at h; subst h; exact hr.1
  | x :: r, k, hr, i + 1, o, h => by
    have := SRules.at r (k + 1) hr.2 i o (by simpa using h)
    rwa [show k + 1 + i = k + (i + 1) by omega] at this
section
variable {P : Program} {ops : Array Oper} {T : Nat → Value → World → Prop} {R : World → World → Prop} {N : Nat → World → Prop} {a0 : Act} {W : World} {Q : Exit → Act → World → Prop}
theorem wpAny_staged (hrefl : ∀ w, R w w) (htr : ∀ a b c, R a b → R b c → R a c) (hmono : ∀ i v w w', T i v w → R w w' → T i v w') (hk : tOk ops a0.tmps.size = true) (hr : SRules P ops T R N a0 W Q 0 ops.toList)
    (hpost : ∀ a w, R W w → a.defers = a0.defers → a.tmps.size = a0.tmps.size → (∀ t, (∀ (i : Nat) (o : Oper), ops[i]? = some o → o.dst ≠ some t) → a.tmps.getD t undef = a0.tmps.getD t undef) →
      (∀ (i : Nat) (o : Oper) (d : Tmp), ops[i]? = some o → o.dst = some d → T i (a.tmps.getD d undef) w) → Q .normal a w) :
    ∀ (fuel : Nat) (listed : Array Bool) (a : Act) (w : World), listed.size = ops.size → unlisted ops listed ≤ fuel → SInv ops T R N a0 W listed a w → wpAny P .any ops Q fuel listed a w := by
  have hall : ∀ listed a w, listed.size = ops.size → Region.ready .any ops listed = [] → SInv ops T R N a0 W listed a w → Q .normal a w := by
    intro listed a w hsz h hI
    refine hpost a w hI.rel hI.defers hI.size hI.old fun i o d ho hd => ?_
    have hlt := (Array.getElem?_eq_some_iff.1 ho).1
    refine hI.typ i o d ho ?_ hd
    have := ready_nil hk h i hlt
    simpa [Array.getD_eq_getD_getElem?, Array.getElem?_eq_getElem (show i < listed.size by omega)] using this
  intro fuel
  induction fuel with
  | zero =>
    intro listed a w hsz hu hI
    have hrd : Region.ready .any ops listed = [] := by
      rw [List.eq_nil_iff_forall_not_mem]
      intro i hi
      rw [mem_ready] at hi
      obtain ⟨h0, o, ho, _⟩ := hi
      have := unlisted_set (ops := ops) (Array.getElem?_eq_some_iff.1 ho).1 h0
      omega
    exact ⟨hrd, hall listed a w hsz hrd hI⟩
  | succ fuel ih =>
    intro listed a w hsz hu hI
    refine ⟨fun h => hall listed a w hsz h hI, fun i hi => ?_⟩
    rw [mem_ready] at hi
    obtain ⟨h0, o, ho, haf⟩ := hi
    have hlt := (Array.getElem?_eq_some_iff.1 ho).1
    have hdst := tOk_dst hk ho
    have hrule := SRules.at ops.toList 0 hr i o (by simpa using ho) a w hI.rel (by rw [Nat.zero_add]; exact hI.pend i h0) hI.old (fun e he hbd oj d hoj hd => hI.typ e.on oj d hoj (haf e he hbd) hd)
    rw [Nat.zero_add] at hrule
    have next : ∀ v w', T i v w' → R w w' ∧ (∀ j, j ≠ i → N j w → N j w') → wpAny P .any ops Q fuel (listed.setIfInBounds i true) (a.put o.dst v) w' := by
      intro v w' hT ⟨hb, hn⟩
      refine ih _ _ _ (by simpa using hsz) (by have := unlisted_set (ops := ops) hlt h0; omega) ⟨htr _ _ _ hI.rel hb, fun j hj => ?_, ?_, ?_, ?_, ?_⟩
      · by_cases e : j = i
        · subst e
          have : j < listed.size := by omega
          simp [Array.getElem?_setIfInBounds, this] at hj
        · exact hn j e (hI.pend j (by rwa [getD_set_ne true (Ne.symm e)] at hj))
      · rw [← hI.defers]; cases o.dst <;> rfl
      · rw [← hI.size]; cases o.dst <;> simp [Act.put]
      · intro t ht
        rw [← hI.old t ht]
        have h2 := ht i o ho
        cases hd : o.dst with
        | none => rfl
        | some d =>
          have : d ≠ t := fun e => h2 (by rw [hd, e])
          simp [Act.put, Array.getElem?_setIfInBounds_ne this]
      · intro j oj d hj hlj hdj
        by_cases e : j = i
        · subst e
          obtain rfl : oj = o := by rw [ho] at hj; exact (Option.some.inj hj).symm
          have hd1 := hdst.1 d hdj
          rw [hdj]
          have hlt2 : d < a.tmps.size := by rw [hI.size]; exact hd1
          simpa [Act.put, hlt2] using hT
        · have hlj' : listed.getD j false = true := by rwa [getD_set_ne false (Ne.symm e)] at hlj
          have h3 := hmono j _ w w' (hI.typ j oj d hj hlj' hdj) hb
          have h4 : (a.put o.dst v).tmps.getD d undef = a.tmps.getD d undef := by
            cases hd : o.dst with
            | none => rfl
            | some d' =>
              have : d' ≠ d := fun e2 => hdst.2.2 j oj d' e hj hd (by rw [hdj, e2])
              simp [Act.put, Array.getElem?_setIfInBounds_ne this]
          rw [h4]; exact h3
    unfold wpOp
    simp only [ho]
    split
    · rename_i hw
      exact .inl (hrule.1 hw _ next)
    · rename_i hw
      exact next undef w (hrule.2 (by simpa using hw)) ⟨hrefl _, fun _ _ h => h⟩
/-- a region that draws its order, whose calls may turn what is there -/
theorem wp_region_staged {id : Nat} {a : Act} (T : Nat → Value → World → Prop) (R : World → World → Prop) (N : Nat → World → Prop) (hm : P.follows .mixedOrders = true) (hk : tOk ops a.tmps.size = true)
    (hrefl : ∀ w, R w w) (htr : ∀ a b c, R a b → R b c → R a c) (hmono : ∀ i v w w', T i v w → R w w' → T i v w') (hN : ∀ i, N i W.drew)
    (hr : SRules P ops T R N a W.drew Q 0 ops.toList)
    (hpost : ∀ (b : Act) (w : World), R W.drew w → b.defers = a.defers → b.tmps.size = a.tmps.size → (∀ t, noDst ops t = true → b.tmps.getD t undef = a.tmps.getD t undef) →
      (∀ (i : Nat) (o : Oper) (d : Tmp), ops[i]? = some o → o.dst = some d → T i (b.tmps.getD d undef) w) → Q .normal b w) : (Code.region id ops true).wp P Q a W := by
  refine wp_region_any hm ?_
  refine wpAny_staged (T := T) (R := R) (N := N) (W := W.drew) (a0 := a) hrefl htr hmono hk hr (fun b w h1 h2 h3 h4 h5 => hpost b w h1 h2 h3 (fun t ht => h4 t (noDst_spec ht)) h5) _ _ _ _ (by simp) ?_ ⟨hrefl _, fun i _ => hN i, rfl, rfl, fun _ _ => rfl, fun i o d ho hl _ => ?_⟩
  · unfold unlisted; exact Nat.le_trans (List.length_filter_le _ _) (by simp)
  · exfalso
    have hlt := (Array.getElem?_eq_some_iff.1 ho).1
    simp [hlt] at hl
/-- one operation of such a region -/
theorem truleS {W : World} {i : Nat} {o : Oper} {a : Act}
    (h : ∀ (b : Act) (w : World), R W w → N i w → (∀ t, noDst ops t = true → b.eval (.tmp t) = a.eval (.tmp t)) →
      (∀ e ∈ o.after, Region.binds .any e = true → ∀ (oj : Oper) (d : Tmp), ops[e.on]? = some oj → oj.dst = some d → T e.on (b.eval (.tmp d)) w) →
      (Region.wanted o (yielded ops b.tmps) = true → ∀ K : Act → World → Prop, (∀ v w', T i v w' → R w w' ∧ (∀ j, j ≠ i → N j w → N j w') → K (b.put o.dst v) w') → o.wp P b w K Q) ∧ (Region.wanted o (yielded ops b.tmps) = false → T i undef w)) :
    SRule P ops T R N a W Q i o := fun b w h1 hn h2 h3 => h b w h1 hn (fun t ht => h2 t (noDst_spec ht)) h3
end
/-- a world goes on through three states -/
def R3 (A0 A1 A2 : World → Prop) (w w' : World) : Prop := (A0 w → A0 w' ∨ A1 w' ∨ A2 w') ∧ (A1 w → A1 w' ∨ A2 w') ∧ (A2 w → A2 w')
section
variable {A0 A1 A2 : World → Prop} {a b c : World}
theorem R3.refl (w : World) : R3 A0 A1 A2 w w := ⟨.inl, .inl, id⟩
theorem R3.m12 (h : R3 A0 A1 A2 a b) (k : A1 a ∨ A2 a) : A1 b ∨ A2 b := k.elim h.2.1 fun k => .inr (h.2.2 k)
theorem R3.m (h : R3 A0 A1 A2 a b) (k : A0 a ∨ A1 a ∨ A2 a) : A0 b ∨ A1 b ∨ A2 b := k.elim h.1 fun k => .inr (h.m12 k)
theorem R3.trans (h : R3 A0 A1 A2 a b) (k : R3 A0 A1 A2 b c) : R3 A0 A1 A2 a c := ⟨fun x => k.m (h.1 x), fun x => k.m12 (h.2.1 x), fun x => k.2.2 (h.2.2 x)⟩
end
end Go.Proofs.YtenpkgdnlogfiaaGreatDoor
namespace Go.Proofs.YtenpkgdnlogfiaaGreatDoor
open Go.RowKit

theorem vs_len0 {vs : List Value} (h : vs.length = 0) : vs = [] := List.eq_nil_of_length_eq_zero h
theorem vs_len1 {vs : List Value} (h : vs.length = 1) : ∃ x0, vs = [x0] := List.length_eq_one_iff.1 h
theorem vs_cons {vs : List Value} {n : Nat} (h : vs.length = n + 1) : ∃ (x : Value) (r : List Value), vs = x :: r ∧ r.length = n := by
  cases vs with
  | nil => simp at h
  | cons x r => exact ⟨x, r, rfl, by simpa using h⟩
theorem vs_len2 {vs : List Value} (h : vs.length = 2) : ∃ x0 x1, vs = [x0, x1] := by
  obtain ⟨x, r, rfl, h'⟩ := vs_cons h
  obtain ⟨y, rfl⟩ := vs_len1 h'
  exact ⟨x, y, rfl⟩
theorem vs_len3 {vs : List Value} (h : vs.length = 3) : ∃ x0 x1 x2, vs = [x0, x1, x2] := by
  obtain ⟨x, r, rfl, h'⟩ := vs_cons h
  obtain ⟨y, z, rfl⟩ := vs_len2 h'
  exact ⟨x, y, z, rfl⟩
theorem vs_len4 {vs : List Value} (h : vs.length = 4) : ∃ x0 x1 x2 x3, vs = [x0, x1, x2, x3] := by
  obtain ⟨x, r, rfl, h'⟩ := vs_cons h
  obtain ⟨y, z, u, rfl⟩ := vs_len3 h'
  exact ⟨x, y, z, u, rfl⟩
structure QInv (ops : Array Oper) (es : List Nat) (T : Nat → Value → Prop) (S : List Value → World → Prop) (a0 : Act) (listed : Array Bool) (vs : List Value) (a : Act) (w : World) : Prop where
  closed : ClosedL ops listed
  st : S vs w
  eff : ∀ j i, es[j]? = some i → (listed.getD i false = true ↔ j < vs.length)
  res : ∀ (j i : Nat) (o : Oper) (d : Tmp), es[j]? = some i → ops[i]? = some o → o.dst = some d → j < vs.length → a.tmps.getD d undef = vs.getD j undef
  defers : a.defers = a0.defers
  size : a.tmps.size = a0.tmps.size
  old : ∀ t, (∀ (i : Nat) (o : Oper), ops[i]? = some o → o.dst ≠ some t) → a.tmps.getD t undef = a0.tmps.getD t undef
  typ : ∀ (i : Nat) (o : Oper) (d : Tmp), ops[i]? = some o → es.contains i = false → listed.getD i false = true → o.dst = some d → T i (a.tmps.getD d undef)
/-- what is known of the frame where operation o comes -/
def QPre (ops : Array Oper) (es : List Nat) (T : Nat → Value → Prop) (a0 : Act) (o : Oper) (vs : List Value) (a : Act) : Prop :=
  (∀ t, (∀ (i : Nat) (o : Oper), ops[i]? = some o → o.dst ≠ some t) → a.tmps.getD t undef = a0.tmps.getD t undef) ∧
  (∀ e ∈ o.after, Region.binds .any e = true → ∀ (oj : Oper) (d : Tmp), ops[e.on]? = some oj → es.contains e.on = false → oj.dst = some d → T e.on (a.tmps.getD d undef)) ∧
  (∀ e ∈ o.after, Region.binds .any e = true → ∀ (j : Nat) (oj : Oper) (d : Tmp), es[j]? = some e.on → ops[e.on]? = some oj → oj.dst = some d → j < vs.length ∧ a.tmps.getD d undef = vs.getD j undef)
def QRule (P : Program) (ops : Array Oper) (es : List Nat) (T : Nat → Value → Prop) (S : List Value → World → Prop) (a0 : Act) (Q : Exit → Act → World → Prop) (i : Nat) (o : Oper) : Prop :=
  ∀ a w vs, S vs w → QPre ops es T a0 o vs a →
    (es.contains i = false → (∀ (j e : Nat) (oe : Oper), es[j]? = some e → ops[e]? = some oe → covers ops ops.size oe i = true → vs.length ≤ j) →
      (Region.wanted o (yielded ops a.tmps) = true → ∀ K : Act → World → Prop, (∀ v, T i v → K (a.put o.dst v) w) → o.wp P a w K Q) ∧ (Region.wanted o (yielded ops a.tmps) = false → T i undef)) ∧
    (∀ j, es[j]? = some i → vs.length = j →
      (Region.wanted o (yielded ops a.tmps) = true → ∀ K : Act → World → Prop, (∀ v w', S (vs ++ [v]) w' → K (a.put o.dst v) w') → o.wp P a w K Q) ∧ (Region.wanted o (yielded ops a.tmps) = false → S (vs ++ [undef]) w))
def QRules (P : Program) (ops : Array Oper) (es : List Nat) (T : Nat → Value → Prop) (S : List Value → World → Prop) (a0 : Act) (Q : Exit → Act → World → Prop) : Nat → List Oper → Prop
  | _, [] => True
  | i, o :: r => QRule P ops es T S a0 Q i o ∧ QRules P ops es T S a0 Q (i + 1) r
theorem QRules.at {P : Program} {ops : Array Oper} {es : List Nat} {T : Nat → Value → Prop} {S : List Value → World → Prop} {a0 : Act} {Q : Exit → Act → World → Prop} :
    ∀ (l : List Oper) (k : Nat), QRules P ops es T S a0 Q k l → ∀ i o, l[i]? = some o → QRule P ops es T S a0 Q (k + i) o
  | [], _, _, i, o, h => by simp at h
  | x :: r, k, hr, 0, o, h => by simp at h; subst h; exact hr.1
  | x :: r, k, hr, i + 1, o, h => by
    have := QRules.at r (k + 1) hr.2 i o (by simpa using h)
    rwa [show k + 1 + i = k + (i + 1) by omega] at this
/-- each of the operations that turn the world comes behind the one before it -/
def eChain (ops : Array Oper) (es : List Nat) : Bool :=
  (List.range es.length).all fun j => match j with
    | 0 => true
    | j + 1 => match es[j]?, es[j + 1]? with
      | some t, some u => match ops[u]? with
        | some o => covers ops ops.size o t
        | none => false
      | _, _ => true
section
variable {P : Program} {ops : Array Oper} {es : List Nat} {T : Nat → Value → Prop} {S : List Value → World → Prop} {a0 : Act} {Q : Exit → Act → World → Prop}
theorem eChain_at (h : eChain ops es = true) {j t u : Nat} {o : Oper} (h1 : es[j]? = some t) (h2 : es[j + 1]? = some u) (ho : ops[u]? = some o) : covers ops ops.size o t = true := by
  have h3 := (List.all_eq_true.1 h) (j + 1) (by have := (List.getElem?_eq_some_iff.1 h2).1; simpa using this)
  simpa [h1, h2, ho] using h3
theorem contains_get {es : List Nat} {i : Nat} (h : es.contains i = true) : ∃ j : Nat, es[j]? = some i := by
  rw [List.contains_iff_mem] at h
  exact List.mem_iff_getElem?.1 h
theorem wpAny_seq (hch : eChain ops es = true) (hnd : es.Nodup) (hes : ∀ i ∈ es, i < ops.size) (hk : tOk ops a0.tmps.size = true) (hr : QRules P ops es T S a0 Q 0 ops.toList)
    (hpost : ∀ a w vs, S vs w → vs.length = es.length → a.defers = a0.defers → a.tmps.size = a0.tmps.size → (∀ t, (∀ (i : Nat) (o : Oper), ops[i]? = some o → o.dst ≠ some t) → a.tmps.getD t undef = a0.tmps.getD t undef) →
      (∀ (i : Nat) (o : Oper) (d : Tmp), ops[i]? = some o → es.contains i = false → o.dst = some d → T i (a.tmps.getD d undef)) →
      (∀ (j i : Nat) (o : Oper) (d : Tmp), es[j]? = some i → ops[i]? = some o → o.dst = some d → a.tmps.getD d undef = vs.getD j undef) → Q .normal a w) :
    ∀ (fuel : Nat) (listed : Array Bool) (vs : List Value) (a : Act) (w : World), listed.size = ops.size → vs.length ≤ es.length → unlisted ops listed ≤ fuel → QInv ops es T S a0 listed vs a w → wpAny P .any ops Q fuel listed a w := by
  have hall : ∀ listed vs a w, listed.size = ops.size → vs.length ≤ es.length → Region.ready .any ops listed = [] → QInv ops es T S a0 listed vs a w → Q .normal a w := by
    intro listed vs a w hsz hle h hI
    have hl : ∀ i, i < ops.size → listed.getD i false = true := fun i hlt => by
      have := ready_nil hk h i hlt
      simpa [Array.getD_eq_getD_getElem?, Array.getElem?_eq_getElem (show i < listed.size by omega)] using this
    have hlen : vs.length = es.length := by
      refine Nat.le_antisymm hle ?_
      rcases Nat.eq_zero_or_pos es.length with h0 | h0
      · omega
      · have hj : es[es.length - 1]? = some es[es.length - 1] := List.getElem?_eq_getElem (by omega)
        have := (hI.eff _ _ hj).1 (hl _ (hes _ (List.getElem_mem _)))
        omega
    exact hpost a w vs hI.st hlen hI.defers hI.size hI.old (fun i o d ho he hd => hI.typ i o d ho he (hl i (Array.getElem?_eq_some_iff.1 ho).1) hd)
      fun j i o d hj ho hd => hI.res j i o d hj ho hd (by rw [hlen]; exact (List.getElem?_eq_some_iff.1 hj).1)
  intro fuel
  induction fuel with
  | zero =>
    intro listed vs a w hsz hle hu hI
    have hrd : Region.ready .any ops listed = [] := by
      rw [List.eq_nil_iff_forall_not_mem]
      intro i hi
      rw [mem_ready] at hi
      obtain ⟨h0, o, ho, _⟩ := hi
      have := unlisted_set (ops := ops) (Array.getElem?_eq_some_iff.1 ho).1 h0
      omega
    exact ⟨hrd, hall listed vs a w hsz hle hrd hI⟩
  | succ fuel ih =>
    intro listed vs a w hsz hle hu hI
    refine ⟨fun h => hall listed vs a w hsz hle h hI, fun i hi => ?_⟩
    rw [mem_ready] at hi
    obtain ⟨h0, o, ho, haf⟩ := hi
    have hlt := (Array.getElem?_eq_some_iff.1 ho).1
    have hdst := tOk_dst hk ho
    have h0f : listed.getD i false = false := by
      rw [Array.getD_eq_getD_getElem?, Array.getElem?_eq_getElem (show i < listed.size by omega)] at h0 ⊢; simpa using h0
    have hpre : QPre ops es T a0 o vs a := ⟨hI.old, fun e he hbd oj d hoj hc hd => hI.typ e.on oj d hoj hc (haf e he hbd) hd, fun e he hbd j oj d hj hoj hd => by
      have := (hI.eff j e.on hj).1 (haf e he hbd)
      exact ⟨this, hI.res j e.on oj d hj hoj hd this⟩⟩
    have hrule := QRules.at ops.toList 0 hr i o (by simpa using ho) a w vs hI.st hpre
    rw [Nat.zero_add] at hrule
    have hcl' : ClosedL ops (listed.setIfInBounds i true) := by
      intro j oj hj hlj e he hb
      by_cases hji : j = i
      · subst hji
        obtain rfl : oj = o := by rw [ho] at hj; exact (Option.some.inj hj).symm
        exact getD_set_true (haf e he hb)
      · rw [getD_set_ne false (Ne.symm hji)] at hlj
        exact getD_set_true (hI.closed j oj hj hlj e he hb)
    have hput : ∀ (j : Nat) (oj : Oper) (d : Tmp) (v : Value), j ≠ i → ops[j]? = some oj → oj.dst = some d → (a.put o.dst v).tmps.getD d undef = a.tmps.getD d undef := fun j oj d v e hj hdj => by
      cases hd : o.dst with
      | none => rfl
      | some d' =>
        have : d' ≠ d := fun e2 => hdst.2.2 j oj d' e hj hd (by rw [hdj, e2])
        simp [Act.put, Array.getElem?_setIfInBounds_ne this]
    have hputs : ∀ (d : Tmp) (v : Value), o.dst = some d → (a.put o.dst v).tmps.getD d undef = v := fun d v hd => by
      have hlt2 : d < a.tmps.size := by rw [hI.size]; exact hdst.1 d hd
      rw [hd]; simp [Act.put, hlt2]
    have hold : ∀ v t, (∀ (i : Nat) (o : Oper), ops[i]? = some o → o.dst ≠ some t) → (a.put o.dst v).tmps.getD t undef = a0.tmps.getD t undef := fun v t ht => by
      rw [← hI.old t ht]
      have h2 := ht i o ho
      cases hd : o.dst with
      | none => rfl
      | some d =>
        have : d ≠ t := fun e => h2 (by rw [hd, e])
        simp [Act.put, Array.getElem?_setIfInBounds_ne this]
    have hdf : ∀ v, (a.put o.dst v).defers = a0.defers := fun v => by rw [← hI.defers]; cases o.dst <;> rfl
    have hsz2 : ∀ v, (a.put o.dst v).tmps.size = a0.tmps.size := fun v => by rw [← hI.size]; cases o.dst <;> simp [Act.put]
    have hself : (listed.setIfInBounds i true).getD i false = true := by
      simp [Array.getElem?_setIfInBounds, show i < listed.size by omega]
    cases hc : es.contains i with
    | false =>
      have hne : ∀ j e, es[j]? = some e → e ≠ i := fun j e hj h => by
        rw [h] at hj
        have : es.contains i = true := by rw [List.contains_iff_mem]; exact List.mem_of_getElem? hj
        rw [hc] at this; cases this
      have next : ∀ v, T i v → wpAny P .any ops Q fuel (listed.setIfInBounds i true) (a.put o.dst v) w := by
        intro v hT
        refine ih _ vs _ _ (by simpa using hsz) hle (by have := unlisted_set (ops := ops) hlt h0; omega) ⟨hcl', hI.st, fun j e hj => ?_, fun j e oj d hj hoj hd hl => ?_, hdf v, hsz2 v, hold v, fun j oj d hj hcj hlj hdj => ?_⟩
        · rw [getD_set_ne false (Ne.symm (hne j e hj))]; exact hI.eff j e hj
        · rw [hput e oj d v (hne j e hj) hoj hd]; exact hI.res j e oj d hj hoj hd hl
        · by_cases e : j = i
          · subst e
            obtain rfl : oj = o := by rw [ho] at hj; exact (Option.some.inj hj).symm
            rw [hputs d v hdj]; exact hT
          · rw [hput j oj d v e hj hdj]
            exact hI.typ j oj d hj hcj (by rwa [getD_set_ne false (Ne.symm e)] at hlj) hdj
      have hr2 := hrule.1 hc fun j e oe hj hoe hcov => by
        rcases Nat.lt_or_ge j vs.length with hl | hl
        · have hle := (hI.eff j e hj).2 hl
          have := covers_listed hI.closed _ oe i hcov (hI.closed e oe hoe hle)
          rw [h0f] at this; cases this
        · exact hl
      unfold wpOp
      simp only [ho]
      split
      · rename_i hw
        exact .inl (hr2.1 hw _ next)
      · rename_i hw
        exact next undef (hr2.2 (by simpa using hw))
    | true =>
      obtain ⟨j, hj⟩ := contains_get hc
      have hjl : vs.length = j := by
        have h1 : ¬ j < vs.length := fun h => by rw [(hI.eff j i hj).2 h] at h0f; cases h0f
        cases j with
        | zero => omega
        | succ j =>
          have hjlt := (List.getElem?_eq_some_iff.1 hj).1
          have hp : es[j]? = some es[j] := List.getElem?_eq_getElem (by omega)
          have := (hI.eff j _ hp).1 (covers_listed hI.closed _ o _ (eChain_at hch hp hj ho) haf)
          omega
      have hjlt := (List.getElem?_eq_some_iff.1 hj).1
      have hinj : ∀ j' e, es[j']? = some e → (e = i ↔ j' = j) := fun j' e he => ⟨fun h => by
        subst h
        have h1 := (List.getElem?_eq_some_iff.1 he)
        have h2 := (List.getElem?_eq_some_iff.1 hj)
        exact (List.getElem_inj hnd (h₀ := h1.1) (h₁ := h2.1)).1 (h1.2.trans h2.2.symm), fun h => by subst h; rw [hj] at he; exact (Option.some.inj he).symm⟩
      have next : ∀ v w', S (vs ++ [v]) w' → wpAny P .any ops Q fuel (listed.setIfInBounds i true) (a.put o.dst v) w' := by
        intro v w' hS
        refine ih _ (vs ++ [v]) _ _ (by simpa using hsz) (by simp; omega) (by have := unlisted_set (ops := ops) hlt h0; omega) ⟨hcl', hS, fun j' e he => ?_, fun j' e oj d he hoj hd hl => ?_, hdf v, hsz2 v, hold v, fun k ok d hk2 hck hlk hdk => ?_⟩
        · by_cases h : e = i
          · subst h
            rw [hself]
            have := (hinj j' e he).1 rfl
            simp; omega
          · rw [getD_set_ne false (Ne.symm h), hI.eff j' e he]
            have : j' ≠ j := fun h' => h ((hinj j' e he).2 h')
            simp; omega
        · by_cases h : e = i
          · subst h
            obtain rfl := (hinj j' e he).1 rfl
            obtain rfl : oj = o := by rw [ho] at hoj; exact (Option.some.inj hoj).symm
            rw [hputs d v hd, ← hjl]
            simp
          · have hne : j' ≠ j := fun h' => h ((hinj j' e he).2 h')
            have hl2 : j' < vs.length := by simp at hl; omega
            rw [hput e oj d v h hoj hd, hI.res j' e oj d he hoj hd hl2]
            simp [List.getD_eq_getElem?_getD, List.getElem?_append_left hl2]
        · have hne : k ≠ i := fun h => by rw [h, hc] at hck; cases hck
          rw [hput k ok d v hne hk2 hdk]
          exact hI.typ k ok d hk2 hck (by rwa [getD_set_ne false (Ne.symm hne)] at hlk) hdk
      have hr2 := hrule.2 j hj hjl
      unfold wpOp
      simp only [ho]
      split
      · rename_i hw
        exact .inl (hr2.1 hw _ next)
      · rename_i hw
        exact next undef w (hr2.2 (by simpa using hw))
/-- a region that draws its order, some of whose operations turn the world one behind the other -/
theorem wp_region_seq {id : Nat} {W : World} {a : Act} (es : List Nat) (T : Nat → Value → Prop) (S : List Value → World → Prop) (hm : P.follows .mixedOrders = true) (hch : eChain ops es = true) (hnd : es.Nodup) (hes : (es.all fun i => decide (i < ops.size)) = true) (hk : tOk ops a.tmps.size = true) (hS : S [] W.drew)
    (hr : QRules P ops es T S a Q 0 ops.toList)
    (hpost : ∀ (b : Act) (w : World) (vs : List Value), S vs w → vs.length = es.length → b.defers = a.defers → b.tmps.size = a.tmps.size → (∀ t, noDst ops t = true → b.tmps.getD t undef = a.tmps.getD t undef) →
      (∀ (i : Nat) (o : Oper) (d : Tmp), ops[i]? = some o → es.contains i = false → o.dst = some d → T i (b.tmps.getD d undef)) →
      (∀ (j i : Nat) (o : Oper) (d : Tmp), es[j]? = some i → ops[i]? = some o → o.dst = some d → b.tmps.getD d undef = vs.getD j undef) → Q .normal b w) : (Code.region id ops true).wp P Q a W := by
  refine wp_region_any hm ?_
  have hz : ∀ i, (Array.replicate ops.size false).getD i false = false := fun i => by simp [Array.getD_eq_getD_getElem?, Array.getElem?_replicate]; split <;> rfl
  refine wpAny_seq (T := T) (S := S) (a0 := a) hch hnd (fun i hi => by simpa using (List.all_eq_true.1 hes) i hi) hk hr (fun b w vs h1 h2 h3 h4 h5 h6 h7 => hpost b w vs h1 h2 h3 h4 (fun t ht => h5 t (noDst_spec ht)) h6 h7) _ _ [] _ _ (by simp) (by simp) ?_
    ⟨fun i o ho hl => (by rw [hz] at hl; exact absurd hl (by decide)), hS, fun j i hj => ⟨fun h => (by rw [hz] at h; exact absurd h (by decide)), fun h => (by simp at h)⟩, fun j i o d _ _ _ h => (by simp at h), rfl, rfl, fun _ _ => rfl, fun i o d _ _ hl => (by rw [hz] at hl; exact absurd hl (by decide))⟩
  unfold unlisted; exact Nat.le_trans (List.length_filter_le _ _) (by simp)
/-- an operation that only reads -/
theorem qread {a : Act} {i : Nat} {o : Oper} (hc : es.contains i = false)
    (h : ∀ (b : Act) (w : World) (vs : List Value), S vs w → (∀ (j e : Nat) (oe : Oper), es[j]? = some e → ops[e]? = some oe → covers ops ops.size oe i = true → vs.length ≤ j) → (∀ t, noDst ops t = true → b.eval (.tmp t) = a.eval (.tmp t)) →
      (∀ e ∈ o.after, Region.binds .any e = true → ∀ (oj : Oper) (d : Tmp), ops[e.on]? = some oj → es.contains e.on = false → oj.dst = some d → T e.on (b.eval (.tmp d))) →
      (∀ e ∈ o.after, Region.binds .any e = true → ∀ (j : Nat) (oj : Oper) (d : Tmp), es[j]? = some e.on → ops[e.on]? = some oj → oj.dst = some d → j < vs.length ∧ b.eval (.tmp d) = vs.getD j undef) →
      (Region.wanted o (yielded ops b.tmps) = true → ∀ K : Act → World → Prop, (∀ v, T i v → K (b.put o.dst v) w) → o.wp P b w K Q) ∧ (Region.wanted o (yielded ops b.tmps) = false → T i undef)) : QRule P ops es T S a Q i o := fun b w vs hS ⟨h1, h2, h3⟩ =>
  ⟨fun _ hcov => h b w vs hS hcov (fun t ht => h1 t (noDst_spec ht)) h2 h3, fun j hj _ => by
    have : es.contains i = true := by rw [List.contains_iff_mem]; exact List.mem_of_getElem? hj
    rw [hc] at this; cases this⟩
/-- an operation that turns the world -/
theorem qturn {a : Act} {i : Nat} {o : Oper} (j : Nat) (hj : es[j]? = some i) (hnd : es.Nodup)
    (h : ∀ (b : Act) (w : World) (vs : List Value), S vs w → vs.length = j → (∀ t, noDst ops t = true → b.eval (.tmp t) = a.eval (.tmp t)) →
      (∀ e ∈ o.after, Region.binds .any e = true → ∀ (oj : Oper) (d : Tmp), ops[e.on]? = some oj → es.contains e.on = false → oj.dst = some d → T e.on (b.eval (.tmp d))) →
      (∀ e ∈ o.after, Region.binds .any e = true → ∀ (j : Nat) (oj : Oper) (d : Tmp), es[j]? = some e.on → ops[e.on]? = some oj → oj.dst = some d → j < vs.length ∧ b.eval (.tmp d) = vs.getD j undef) →
      (Region.wanted o (yielded ops b.tmps) = true → ∀ K : Act → World → Prop, (∀ v w', S (vs ++ [v]) w' → K (b.put o.dst v) w') → o.wp P b w K Q) ∧ (Region.wanted o (yielded ops b.tmps) = false → S (vs ++ [undef]) w)) : QRule P ops es T S a Q i o := fun b w vs hS ⟨h1, h2, h3⟩ =>
  ⟨fun hc => (by
    have : es.contains i = true := by rw [List.contains_iff_mem]; exact List.mem_of_getElem? hj
    rw [hc] at this; exact absurd this (by decide)), fun j' hj' hl => by
    have e : j' = j := by
      have h1 := (List.getElem?_eq_some_iff.1 hj')
      have h2 := (List.getElem?_eq_some_iff.1 hj)
      exact (List.getElem_inj hnd (h₀ := h1.1) (h₁ := h2.1)).1 (h1.2.trans h2.2.symm)
    subst e
    exact h b w vs hS hl (fun t ht => h1 t (noDst_spec ht)) h2 h3⟩
end
end Go.Proofs.YtenpkgdnlogfiaaGreatDoor
