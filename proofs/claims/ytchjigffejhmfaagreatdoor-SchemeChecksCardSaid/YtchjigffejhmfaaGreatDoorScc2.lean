/-
  What the statement needs, part 2.
-/
import Derived.Test.YtchjigffejhmfaaGreatDoorProg
import Derived.WalkLawsBesides
import Derived.WalkSpells
import Derived.Outline
import Derived.Handy
import Derived.Deep.DeepMust
import Derived.Test.YtchjigffejhmfaaGreatDoorShelf
import Derived.Lib.ItoaNum
import Derived.BigRegion
import Derived.StillTailTactics
import Derived.RangeFuncCalls
import Derived.RangeFuncBox
import Derived.RangeFuncLeaves
import Derived.Shelf.Abstract
import Derived.OwnWalkIn
import Derived.TacticsInMore
import Derived.LoopNIn
import Derived.LoopIn
import Derived.Maps.AppendAt
import Derived.ChangeKeysEq
import Derived.Test.YtchjigffejhmfaaGreatDoorSort
import Derived.Test.YtchjigffejhmfaaGreatDoorScc1
namespace Go.Proofs.YtchjigffejhmfaaGreatDoor
section
open Go.RowKit
section
variable {P : Program} {ops : Array Oper} {T : Nat -> Value -> World -> Prop} {R : World -> World -> Prop} {N : Nat -> World -> Prop} {a0 : Act} {W : World} {Q : Exit -> Act -> World -> Prop}
end
section
variable {A0 A1 A2 : World -> Prop} {a b c : World}
end
end
section
open Go.RowKit
theorem Hu {vs : List Value} (h : vs.length = 0) : vs = [] := List.eq_nil_of_length_eq_zero h
theorem FA {vs : List Value} (h : vs.length = 1) : ∃ x0, vs = [x0] := List.length_eq_one_iff.1 h
theorem Hv {vs : List Value} {n : Nat} (h : vs.length = n + 1) : ∃ (x : Value) (r : List Value), vs = x :: r /\ r.length = n := by
 cases vs with
 | nil => simp at h
 | cons x r => exact ⟨x, r, rfl, by simpa using h⟩
theorem Fz {vs : List Value} (h : vs.length = 2) : ∃ x0 x1, vs = [x0, x1] := by
 obtain ⟨x, r, rfl, h'⟩ := Hv h
 obtain ⟨y, rfl⟩ := FA h'
 exact ⟨x, y, rfl⟩
theorem Ht {vs : List Value} (h : vs.length = 3) : ∃ x0 x1 x2, vs = [x0, x1, x2] := by
 obtain ⟨x, r, rfl, h'⟩ := Hv h
 obtain ⟨y, z, rfl⟩ := Fz h'
 exact ⟨x, y, z, rfl⟩
theorem vs_len4 {vs : List Value} (h : vs.length = 4) : ∃ x0 x1 x2 x3, vs = [x0, x1, x2, x3] := by
 obtain ⟨x, r, rfl, h'⟩ := Hv h
 obtain ⟨y, z, u, rfl⟩ := Ht h'
 exact ⟨x, y, z, u, rfl⟩
structure QInv (ops : Array Oper) (es : List Nat) (T : Nat -> Value -> Prop) (S : List Value -> World -> Prop) (a0 : Act) (listed : Array Bool) (vs : List Value) (a : Act) (w : World) : Prop where
 closed : Gn ops listed
 st : S vs w
 eff : ∀ j i, es[j]? = some i -> (listed.getD i false = true ↔ j < vs.length)
 res : ∀ (j i : Nat) (o : Oper) (d : Tmp), es[j]? = some i -> ops[i]? = some o -> o.dst = some d -> j < vs.length -> a.tmps.getD d undef = vs.getD j undef
 defers : a.defers = a0.defers
 size : a.tmps.size = a0.tmps.size
 old : ∀ t, (∀ (i : Nat) (o : Oper), ops[i]? = some o -> o.dst ≠ some t) -> a.tmps.getD t undef = a0.tmps.getD t undef
 typ : ∀ (i : Nat) (o : Oper) (d : Tmp), ops[i]? = some o -> es.contains i = false -> listed.getD i false = true -> o.dst = some d -> T i (a.tmps.getD d undef)
def QPre (ops : Array Oper) (es : List Nat) (T : Nat -> Value -> Prop) (a0 : Act) (o : Oper) (vs : List Value) (a : Act) : Prop :=
 (∀ t, (∀ (i : Nat) (o : Oper), ops[i]? = some o -> o.dst ≠ some t) -> a.tmps.getD t undef = a0.tmps.getD t undef) /\
 (∀ e ∈ o.after, Region.binds .any e = true -> ∀ (oj : Oper) (d : Tmp), ops[e.on]? = some oj -> es.contains e.on = false -> oj.dst = some d -> T e.on (a.tmps.getD d undef)) /\
 (∀ e ∈ o.after, Region.binds .any e = true -> ∀ (j : Nat) (oj : Oper) (d : Tmp), es[j]? = some e.on -> ops[e.on]? = some oj -> oj.dst = some d -> j < vs.length /\ a.tmps.getD d undef = vs.getD j undef)
def Gk (P : Program) (ops : Array Oper) (es : List Nat) (T : Nat -> Value -> Prop) (S : List Value -> World -> Prop) (a0 : Act) (Q : Exit -> Act -> World -> Prop) (i : Nat) (o : Oper) : Prop :=
 ∀ a w vs, S vs w -> QPre ops es T a0 o vs a ->
  (es.contains i = false -> (∀ (j e : Nat) (oe : Oper), es[j]? = some e -> ops[e]? = some oe -> DV ops ops.size oe i = true -> vs.length <= j) ->
   (Region.wanted o (yielded ops a.tmps) = true -> ∀ K : Act -> World -> Prop, (∀ v, T i v -> K (a.put o.dst v) w) -> o.wp P a w K Q) /\ (Region.wanted o (yielded ops a.tmps) = false -> T i undef)) /\
  (∀ j, es[j]? = some i -> vs.length = j ->
   (Region.wanted o (yielded ops a.tmps) = true -> ∀ K : Act -> World -> Prop, (∀ v w', S (vs ++ [v]) w' -> K (a.put o.dst v) w') -> o.wp P a w K Q) /\ (Region.wanted o (yielded ops a.tmps) = false -> S (vs ++ [undef]) w))
def EN (P : Program) (ops : Array Oper) (es : List Nat) (T : Nat -> Value -> Prop) (S : List Value -> World -> Prop) (a0 : Act) (Q : Exit -> Act -> World -> Prop) : Nat -> List Oper -> Prop
 | _, [] => True
 | i, o :: r => Gk P ops es T S a0 Q i o /\ EN P ops es T S a0 Q (i + 1) r
theorem EN.at {P : Program} {ops : Array Oper} {es : List Nat} {T : Nat -> Value -> Prop} {S : List Value -> World -> Prop} {a0 : Act} {Q : Exit -> Act -> World -> Prop} :
  ∀ (l : List Oper) (k : Nat), EN P ops es T S a0 Q k l -> ∀ i o, l[i]? = some o -> Gk P ops es T S a0 Q (k + i) o
 | [], _, _, i, o, h => by simp at h
 | x :: r, k, hr, 0, o, h => by simp at h; subst h; exact hr.1
 | x :: r, k, hr, i + 1, o, h => by
  have := EN.at r (k + 1) hr.2 i o (by simpa using h)
  rwa [show k + 1 + i = k + (i + 1) by omega] at this
def eChain (ops : Array Oper) (es : List Nat) : Bool :=
 (List.range es.length).all fun j => match j with
  | 0 => true
  | j + 1 => match es[j]?, es[j + 1]? with
   | some t, some u => match ops[u]? with
    | some o => DV ops ops.size o t
    | none => false
   | _, _ => true
section
variable {P : Program} {ops : Array Oper} {es : List Nat} {T : Nat -> Value -> Prop} {S : List Value -> World -> Prop} {a0 : Act} {Q : Exit -> Act -> World -> Prop}
theorem eChain_at (h : eChain ops es = true) {j t u : Nat} {o : Oper} (h1 : es[j]? = some t) (h2 : es[j + 1]? = some u) (ho : ops[u]? = some o) : DV ops ops.size o t = true := by
 have h3 := (List.all_eq_true.1 h) (j + 1) (by have := (List.getElem?_eq_some_iff.1 h2).1; simpa using this)
 simpa [h1, h2, ho] using h3
theorem contains_get {es : List Nat} {i : Nat} (h : es.contains i = true) : ∃ j : Nat, es[j]? = some i := by
 rw [List.contains_iff_mem] at h
 exact List.mem_iff_getElem?.1 h
theorem wpAny_seq (hch : eChain ops es = true) (hnd : es.Nodup) (hes : ∀ i ∈ es, i < ops.size) (hk : tOk ops a0.tmps.size = true) (hr : EN P ops es T S a0 Q 0 ops.toList)
  (hpost : ∀ a w vs, S vs w -> vs.length = es.length -> a.defers = a0.defers -> a.tmps.size = a0.tmps.size -> (∀ t, (∀ (i : Nat) (o : Oper), ops[i]? = some o -> o.dst ≠ some t) -> a.tmps.getD t undef = a0.tmps.getD t undef) ->
   (∀ (i : Nat) (o : Oper) (d : Tmp), ops[i]? = some o -> es.contains i = false -> o.dst = some d -> T i (a.tmps.getD d undef)) ->
   (∀ (j i : Nat) (o : Oper) (d : Tmp), es[j]? = some i -> ops[i]? = some o -> o.dst = some d -> a.tmps.getD d undef = vs.getD j undef) -> Q .normal a w) :
  ∀ (fuel : Nat) (listed : Array Bool) (vs : List Value) (a : Act) (w : World), listed.size = ops.size -> vs.length <= es.length -> BI ops listed <= fuel -> QInv ops es T S a0 listed vs a w -> wpAny P .any ops Q fuel listed a w := by
 have hall : ∀ listed vs a w, listed.size = ops.size -> vs.length <= es.length -> Region.ready .any ops listed = [] -> QInv ops es T S a0 listed vs a w -> Q .normal a w := by
  intro listed vs a w hsz hle h hI
  have hl : ∀ i, i < ops.size -> listed.getD i false = true := fun i hlt => by
   have := Df hk h i hlt
   simpa [Array.getD_eq_getD_getElem?, Array.getElem?_eq_getElem (show i < listed.size by omega)] using this
  have hlen : vs.length = es.length := by
   refine Nat.le_antisymm hle ?_
   rcases Nat.eq_zero_or_pos es.length with h0 | h0
   ·omega
   ·have hj : es[es.length - 1]? = some es[es.length - 1] := List.getElem?_eq_getElem (by omega)
    have := (hI.eff _ _ hj).1 (hl _ (hes _ (List.getElem_mem _)))
    omega
  exact hpost a w vs hI.st hlen hI.defers hI.size hI.old (fun i o d ho he hd => hI.typ i o d ho he (hl i (Array.getElem?_eq_some_iff.1 ho).1) hd)
   fun j i o d hj ho hd => hI.res j i o d hj ho hd (by rw [hlen]; exact (List.getElem?_eq_some_iff.1 hj).1)
 intro fuel
 induction fuel with
 | zero =>
  intro listed vs a w hsz hle hu hI
  have hrd : Region.ready .any ops listed = [] := by
   rw [List.eq_nil_iff_forall_not_mem]
   intro i hi
   rw [mem_ready] at hi
   obtain ⟨h0, o, ho, _⟩ := hi
   have := B5 (ops := ops) (Array.getElem?_eq_some_iff.1 ho).1 h0
   omega
  exact ⟨hrd, hall listed vs a w hsz hle hrd hI⟩
 | succ fuel ih =>
  intro listed vs a w hsz hle hu hI
  refine ⟨fun h => hall listed vs a w hsz hle h hI, fun i hi => ?_⟩
  rw [mem_ready] at hi
  obtain ⟨h0, o, ho, haf⟩ := hi
  have hlt := (Array.getElem?_eq_some_iff.1 ho).1
  have hdst := ES hk ho
  have h0f : listed.getD i false = false := by
   rw [Array.getD_eq_getD_getElem?, Array.getElem?_eq_getElem (show i < listed.size by omega)] at h0 ⊢; simpa using h0
  have hpre : QPre ops es T a0 o vs a := ⟨hI.old, fun e he hbd oj d hoj hc hd => hI.typ e.on oj d hoj hc (haf e he hbd) hd, fun e he hbd j oj d hj hoj hd => by
   have := (hI.eff j e.on hj).1 (haf e he hbd)
   exact ⟨this, hI.res j e.on oj d hj hoj hd this⟩⟩
  have hrule := EN.at ops.toList 0 hr i o (by simpa using ho) a w vs hI.st hpre
  rw [Nat.zero_add] at hrule
  have hcl' : Gn ops (listed.setIfInBounds i true) := by
   intro j oj hj hlj e he hb
   by_cases hji : j = i
   ·subst hji
    obtain rfl : oj = o := by rw [ho] at hj; exact (Option.some.inj hj).symm
    exact getD_set_true (haf e he hb)
   ·rw [getD_set_ne false (Ne.symm hji)] at hlj
    exact getD_set_true (hI.closed j oj hj hlj e he hb)
  have hput : ∀ (j : Nat) (oj : Oper) (d : Tmp) (v : Value), j ≠ i -> ops[j]? = some oj -> oj.dst = some d -> (a.put o.dst v).tmps.getD d undef = a.tmps.getD d undef := fun j oj d v e hj hdj => by
   cases hd : o.dst with
   | none => rfl
   | some d' =>
    have : d' ≠ d := fun e2 => hdst.2.2 j oj d' e hj hd (by rw [hdj, e2])
    simp [Act.put, Array.getElem?_setIfInBounds_ne this]
  have hputs : ∀ (d : Tmp) (v : Value), o.dst = some d -> (a.put o.dst v).tmps.getD d undef = v := fun d v hd => by
   have hlt2 : d < a.tmps.size := by rw [hI.size]; exact hdst.1 d hd
   rw [hd]; simp [Act.put, hlt2]
  have hold : ∀ v t, (∀ (i : Nat) (o : Oper), ops[i]? = some o -> o.dst ≠ some t) -> (a.put o.dst v).tmps.getD t undef = a0.tmps.getD t undef := fun v t ht => by
   rw [<- hI.old t ht]
   have h2 := ht i o ho
   cases hd : o.dst with
   | none => rfl
   | some d =>
    have : d ≠ t := fun e => h2 (by rw [hd, e])
    simp [Act.put, Array.getElem?_setIfInBounds_ne this]
  have hdf : ∀ v, (a.put o.dst v).defers = a0.defers := fun v => by rw [<- hI.defers]; cases o.dst <;> rfl
  have hsz2 : ∀ v, (a.put o.dst v).tmps.size = a0.tmps.size := fun v => by rw [<- hI.size]; cases o.dst <;> simp [Act.put]
  have hself : (listed.setIfInBounds i true).getD i false = true := by
   simp [Array.getElem?_setIfInBounds, show i < listed.size by omega]
  cases hc : es.contains i with
  | false =>
   have hne : ∀ j e, es[j]? = some e -> e ≠ i := fun j e hj h => by
    rw [h] at hj
    have : es.contains i = true := by rw [List.contains_iff_mem]; exact List.mem_of_getElem? hj
    rw [hc] at this; cases this
   have next : ∀ v, T i v -> wpAny P .any ops Q fuel (listed.setIfInBounds i true) (a.put o.dst v) w := by
    intro v hT
    refine ih _ vs _ _ (by simpa using hsz) hle (by have := B5 (ops := ops) hlt h0; omega) ⟨hcl', hI.st, fun j e hj => ?_, fun j e oj d hj hoj hd hl => ?_, hdf v, hsz2 v, hold v, fun j oj d hj hcj hlj hdj => ?_⟩
    ·rw [getD_set_ne false (Ne.symm (hne j e hj))]; exact hI.eff j e hj
    ·rw [hput e oj d v (hne j e hj) hoj hd]; exact hI.res j e oj d hj hoj hd hl
    ·by_cases e : j = i
     ·subst e
      obtain rfl : oj = o := by rw [ho] at hj; exact (Option.some.inj hj).symm
      rw [hputs d v hdj]; exact hT
     ·rw [hput j oj d v e hj hdj]
      exact hI.typ j oj d hj hcj (by rwa [getD_set_ne false (Ne.symm e)] at hlj) hdj
   have hr2 := hrule.1 hc fun j e oe hj hoe hcov => by
    rcases Nat.lt_or_ge j vs.length with hl | hl
    ·have hle := (hI.eff j e hj).2 hl
     have := DU hI.closed _ oe i hcov (hI.closed e oe hoe hle)
     rw [h0f] at this; cases this
    ·exact hl
   unfold wpOp
   simp only [ho]
   split
   ·rename_i hw
    exact .inl (hr2.1 hw _ next)
   ·rename_i hw
    exact next undef (hr2.2 (by simpa using hw))
  | true =>
   obtain ⟨j, hj⟩ := contains_get hc
   have hjl : vs.length = j := by
    have h1 : ¬ j < vs.length := fun h => by rw [(hI.eff j i hj).2 h] at h0f; cases h0f
    cases j with
    | zero => omega
    | succ j =>
     have hjlt := (List.getElem?_eq_some_iff.1 hj).1
     have hp : es[j]? = some es[j] := List.getElem?_eq_getElem (by omega)
     have := (hI.eff j _ hp).1 (DU hI.closed _ o _ (eChain_at hch hp hj ho) haf)
     omega
   have hjlt := (List.getElem?_eq_some_iff.1 hj).1
   have hinj : ∀ j' e, es[j']? = some e -> (e = i ↔ j' = j) := fun j' e he => ⟨fun h => by
    subst h
    have h1 := (List.getElem?_eq_some_iff.1 he)
    have h2 := (List.getElem?_eq_some_iff.1 hj)
    exact (List.getElem_inj hnd (h₀ := h1.1) (h₁ := h2.1)).1 (h1.2.trans h2.2.symm), fun h => by subst h; rw [hj] at he; exact (Option.some.inj he).symm⟩
   have next : ∀ v w', S (vs ++ [v]) w' -> wpAny P .any ops Q fuel (listed.setIfInBounds i true) (a.put o.dst v) w' := by
    intro v w' hS
    refine ih _ (vs ++ [v]) _ _ (by simpa using hsz) (by simp; omega) (by have := B5 (ops := ops) hlt h0; omega) ⟨hcl', hS, fun j' e he => ?_, fun j' e oj d he hoj hd hl => ?_, hdf v, hsz2 v, hold v, fun k ok d hk2 hck hlk hdk => ?_⟩
    ·by_cases h : e = i
     ·subst h
      rw [hself]
      have := (hinj j' e he).1 rfl
      simp; omega
     ·rw [getD_set_ne false (Ne.symm h), hI.eff j' e he]
      have : j' ≠ j := fun h' => h ((hinj j' e he).2 h')
      simp; omega
    ·by_cases h : e = i
     ·subst h
      obtain rfl := (hinj j' e he).1 rfl
      obtain rfl : oj = o := by rw [ho] at hoj; exact (Option.some.inj hoj).symm
      rw [hputs d v hd, <- hjl]
      simp
     ·have hne : j' ≠ j := fun h' => h ((hinj j' e he).2 h')
      have hl2 : j' < vs.length := by simp at hl; omega
      rw [hput e oj d v h hoj hd, hI.res j' e oj d he hoj hd hl2]
      simp [List.getD_eq_getElem?_getD, List.getElem?_append_left hl2]
    ·have hne : k ≠ i := fun h => by rw [h, hc] at hck; cases hck
     rw [hput k ok d v hne hk2 hdk]
     exact hI.typ k ok d hk2 hck (by rwa [getD_set_ne false (Ne.symm hne)] at hlk) hdk
   have hr2 := hrule.2 j hj hjl
   unfold wpOp
   simp only [ho]
   split
   ·rename_i hw
    exact .inl (hr2.1 hw _ next)
   ·rename_i hw
    exact next undef w (hr2.2 (by simpa using hw))
theorem wp_region_seq {id : Nat} {W : World} {a : Act} (es : List Nat) (T : Nat -> Value -> Prop) (S : List Value -> World -> Prop) (hm : P.follows .mixedOrders = true) (hch : eChain ops es = true) (hnd : es.Nodup) (hes : (es.all fun i => decide (i < ops.size)) = true) (hk : tOk ops a.tmps.size = true) (hS : S [] W.drew)
  (hr : EN P ops es T S a Q 0 ops.toList)
  (hpost : ∀ (b : Act) (w : World) (vs : List Value), S vs w -> vs.length = es.length -> b.defers = a.defers -> b.tmps.size = a.tmps.size -> (∀ t, DL ops t = true -> b.tmps.getD t undef = a.tmps.getD t undef) ->
   (∀ (i : Nat) (o : Oper) (d : Tmp), ops[i]? = some o -> es.contains i = false -> o.dst = some d -> T i (b.tmps.getD d undef)) ->
   (∀ (j i : Nat) (o : Oper) (d : Tmp), es[j]? = some i -> ops[i]? = some o -> o.dst = some d -> b.tmps.getD d undef = vs.getD j undef) -> Q .normal b w) : (Code.region id ops true).wp P Q a W := by
 refine wp_region_any hm ?_
 have hz : ∀ i, (Array.replicate ops.size false).getD i false = false := fun i => by simp [Array.getD_eq_getD_getElem?, Array.getElem?_replicate]; split <;> rfl
 refine wpAny_seq (T := T) (S := S) (a0 := a) hch hnd (fun i hi => by simpa using (List.all_eq_true.1 hes) i hi) hk hr (fun b w vs h1 h2 h3 h4 h5 h6 h7 => hpost b w vs h1 h2 h3 h4 (fun t ht => h5 t (BM ht)) h6 h7) _ _ [] _ _ (by simp) (by simp) ?_
  ⟨fun i o ho hl => (by rw [hz] at hl; exact absurd hl (by decide)), hS, fun j i hj => ⟨fun h => (by rw [hz] at h; exact absurd h (by decide)), fun h => (by simp at h)⟩, fun j i o d _ _ _ h => (by simp at h), rfl, rfl, fun _ _ => rfl, fun i o d _ _ hl => (by rw [hz] at hl; exact absurd hl (by decide))⟩
 unfold BI; exact Nat.le_trans (List.length_filter_le _ _) (by simp)
theorem qread {a : Act} {i : Nat} {o : Oper} (hc : es.contains i = false)
  (h : ∀ (b : Act) (w : World) (vs : List Value), S vs w -> (∀ (j e : Nat) (oe : Oper), es[j]? = some e -> ops[e]? = some oe -> DV ops ops.size oe i = true -> vs.length <= j) -> (∀ t, DL ops t = true -> b.eval (.tmp t) = a.eval (.tmp t)) ->
   (∀ e ∈ o.after, Region.binds .any e = true -> ∀ (oj : Oper) (d : Tmp), ops[e.on]? = some oj -> es.contains e.on = false -> oj.dst = some d -> T e.on (b.eval (.tmp d))) ->
   (∀ e ∈ o.after, Region.binds .any e = true -> ∀ (j : Nat) (oj : Oper) (d : Tmp), es[j]? = some e.on -> ops[e.on]? = some oj -> oj.dst = some d -> j < vs.length /\ b.eval (.tmp d) = vs.getD j undef) ->
   (Region.wanted o (yielded ops b.tmps) = true -> ∀ K : Act -> World -> Prop, (∀ v, T i v -> K (b.put o.dst v) w) -> o.wp P b w K Q) /\ (Region.wanted o (yielded ops b.tmps) = false -> T i undef)) : Gk P ops es T S a Q i o := fun b w vs hS ⟨h1, h2, h3⟩ =>
 ⟨fun _ hcov => h b w vs hS hcov (fun t ht => h1 t (BM ht)) h2 h3, fun j hj _ => by
  have : es.contains i = true := by rw [List.contains_iff_mem]; exact List.mem_of_getElem? hj
  rw [hc] at this; cases this⟩
theorem qturn {a : Act} {i : Nat} {o : Oper} (j : Nat) (hj : es[j]? = some i) (hnd : es.Nodup)
  (h : ∀ (b : Act) (w : World) (vs : List Value), S vs w -> vs.length = j -> (∀ t, DL ops t = true -> b.eval (.tmp t) = a.eval (.tmp t)) ->
   (∀ e ∈ o.after, Region.binds .any e = true -> ∀ (oj : Oper) (d : Tmp), ops[e.on]? = some oj -> es.contains e.on = false -> oj.dst = some d -> T e.on (b.eval (.tmp d))) ->
   (∀ e ∈ o.after, Region.binds .any e = true -> ∀ (j : Nat) (oj : Oper) (d : Tmp), es[j]? = some e.on -> ops[e.on]? = some oj -> oj.dst = some d -> j < vs.length /\ b.eval (.tmp d) = vs.getD j undef) ->
   (Region.wanted o (yielded ops b.tmps) = true -> ∀ K : Act -> World -> Prop, (∀ v w', S (vs ++ [v]) w' -> K (b.put o.dst v) w') -> o.wp P b w K Q) /\ (Region.wanted o (yielded ops b.tmps) = false -> S (vs ++ [undef]) w)) : Gk P ops es T S a Q i o := fun b w vs hS ⟨h1, h2, h3⟩ =>
 ⟨fun hc => (by
  have : es.contains i = true := by rw [List.contains_iff_mem]; exact List.mem_of_getElem? hj
  rw [hc] at this; exact absurd this (by decide)), fun j' hj' hl => by
  have e : j' = j := by
   have h1 := (List.getElem?_eq_some_iff.1 hj')
   have h2 := (List.getElem?_eq_some_iff.1 hj)
   exact (List.getElem_inj hnd (h₀ := h1.1) (h₁ := h2.1)).1 (h1.2.trans h2.2.symm)
  subst e
  exact h b w vs hS hl (fun t ht => h1 t (BM ht)) h2 h3⟩
end
end
section
open Go.RowKit
def EK (ops : Array Oper) : Nat -> Nat -> Nat -> Bool
 | 0, _, _ => false
 | n + 1, j, i => match ops[j]? with
  | none => false
  | some o => o.after.any fun e => Region.binds .any e && (e.on == i || EK ops n e.on i)
theorem Ff {ops : Array Oper} {listed : Array Bool} (clo : ∀ (i : Nat) (o : Oper), ops[i]? = some o -> listed.getD i false = true -> ∀ e ∈ o.after, Region.binds .any e = true -> listed.getD e.on false = true) :
  ∀ (n j i : Nat), EK ops n j i = true -> listed.getD j false = true -> listed.getD i false = true
 | 0, j, i, h, _ => by simp [EK] at h
 | n + 1, j, i, h, hj => by
  unfold EK at h
  split at h
  ·cases h
  ·rename_i o ho
   rw [Array.any_eq_true] at h
   obtain ⟨k, hk, h⟩ := h
   rw [Bool.and_eq_true, Bool.or_eq_true] at h
   have h1 := clo j o ho hj (o.after[k]) (Array.getElem_mem hk) h.1
   rcases h.2 with h2 | h2
   ·rw [beq_iff_eq] at h2
    rw [<- h2]; exact h1
   ·exact Ff clo n _ i h2 h1
def noDstI (ops : Array Oper) (i : Nat) (t : Tmp) : Bool := (List.range ops.size).all fun j => match ops[j]? with
 | some o => o.dst != some t || EK ops 8 j i
 | none => true
theorem noDstI_spec {ops : Array Oper} {i : Nat} {t : Tmp} (h : noDstI ops i t = true) (j : Nat) (o : Oper) (ho : ops[j]? = some o) (hd : o.dst = some t) : EK ops 8 j i = true := by
 unfold noDstI at h
 rw [List.all_eq_true] at h
 have hlt := (Array.getElem?_eq_some_iff.1 ho).1
 have := h j (List.mem_range.2 hlt)
 rw [ho] at this
 simp only [Bool.or_eq_true, bne_iff_ne] at this
 exact this.resolve_left fun e => e hd
structure GInv (ops : Array Oper) {σ : Type} (T : Nat -> Value -> World × σ -> Prop) (R : World × σ -> World × σ -> Prop) (N : Nat -> World × σ -> Prop) (a0 : Act) (W : World × σ) (listed : Array Bool) (a : Act) (w : World × σ) : Prop where
 rel : R W w
 pend : ∀ i, listed.getD i true = false -> N i w
 defers : a.defers = a0.defers
 size : a.tmps.size = a0.tmps.size
 old : ∀ t, (∀ (i : Nat) (o : Oper), ops[i]? = some o -> o.dst ≠ some t) -> a.tmps.getD t undef = a0.tmps.getD t undef
 pold : ∀ (i : Nat) (o : Oper) (d : Tmp), ops[i]? = some o -> o.dst = some d -> listed.getD i false = false -> a.tmps.getD d undef = a0.tmps.getD d undef
 clo : ∀ (i : Nat) (o : Oper), ops[i]? = some o -> listed.getD i false = true -> ∀ e ∈ o.after, Region.binds .any e = true -> listed.getD e.on false = true
 typ : ∀ (i : Nat) (o : Oper) (d : Tmp), ops[i]? = some o -> listed.getD i false = true -> o.dst = some d -> T i (a.tmps.getD d undef) w
 nod : ∀ (i : Nat) (o : Oper), ops[i]? = some o -> listed.getD i false = true -> o.dst = none -> ∃ v, T i v w
def GRule (P : Program) (ops : Array Oper) {σ : Type} (T : Nat -> Value -> World × σ -> Prop) (R : World × σ -> World × σ -> Prop) (N : Nat -> World × σ -> Prop) (a0 : Act) (W : World × σ) (Q : Exit -> Act -> World -> Prop) (i : Nat) (o : Oper) : Prop :=
 ∀ a w, R W w -> N i w -> (∀ t, (∀ (j : Nat) (o : Oper), ops[j]? = some o -> o.dst = some t -> EK ops 8 j i = true) -> a.tmps.getD t undef = a0.tmps.getD t undef) ->
  (∀ e ∈ o.after, Region.binds .any e = true -> ∀ (oj : Oper) (d : Tmp), ops[e.on]? = some oj -> oj.dst = some d -> T e.on (a.tmps.getD d undef) w) ->
  (Region.wanted o (yielded ops a.tmps) = true -> ∀ K : Act -> World -> Prop, (∀ v w', T i v w' -> R w w' /\ (∀ j, j ≠ i -> N j w -> N j w') -> K (a.put o.dst v) w'.1) -> o.wp P a w.1 K Q) /\
  (Region.wanted o (yielded ops a.tmps) = false -> T i undef w)
def EQ (P : Program) (ops : Array Oper) {σ : Type} (T : Nat -> Value -> World × σ -> Prop) (R : World × σ -> World × σ -> Prop) (N : Nat -> World × σ -> Prop) (a0 : Act) (W : World × σ) (Q : Exit -> Act -> World -> Prop) : Nat -> List Oper -> Prop
 | _, [] => True
 | i, o :: r => GRule P ops T R N a0 W Q i o /\ EQ P ops T R N a0 W Q (i + 1) r
theorem EQ.at {P : Program} {ops : Array Oper} {σ : Type} {T : Nat -> Value -> World × σ -> Prop} {R : World × σ -> World × σ -> Prop} {N : Nat -> World × σ -> Prop} {a0 : Act} {W : World × σ} {Q : Exit -> Act -> World -> Prop} :
  ∀ (l : List Oper) (k : Nat), EQ P ops T R N a0 W Q k l -> ∀ i o, l[i]? = some o -> GRule P ops T R N a0 W Q (k + i) o
 | [], _, _, i, o, h => by simp at h
 | x :: r, k, hr, 0, o, h => by simp at h; subst h; exact hr.1
 | x :: r, k, hr, i + 1, o, h => by
  have := EQ.at r (k + 1) hr.2 i o (by simpa using h)
  rwa [show k + 1 + i = k + (i + 1) by omega] at this
section
variable {P : Program} {ops : Array Oper} {σ : Type} {T : Nat -> Value -> World × σ -> Prop} {R : World × σ -> World × σ -> Prop} {N : Nat -> World × σ -> Prop} {a0 : Act} {W : World × σ} {Q : Exit -> Act -> World -> Prop}
theorem wpAny_ghost (hrefl : ∀ w, R w w) (htr : ∀ a b c, R a b -> R b c -> R a c) (hmono : ∀ i v w w', T i v w -> R w w' -> T i v w') (hk : tOk ops a0.tmps.size = true) (hr : EQ P ops T R N a0 W Q 0 ops.toList)
  (hpost : ∀ a w, R W w -> a.defers = a0.defers -> a.tmps.size = a0.tmps.size -> (∀ t, (∀ (i : Nat) (o : Oper), ops[i]? = some o -> o.dst ≠ some t) -> a.tmps.getD t undef = a0.tmps.getD t undef) ->
   (∀ (i : Nat) (o : Oper) (d : Tmp), ops[i]? = some o -> o.dst = some d -> T i (a.tmps.getD d undef) w) -> (∀ (i : Nat) (o : Oper), ops[i]? = some o -> o.dst = none -> ∃ v, T i v w) -> Q .normal a w.1) :
  ∀ (fuel : Nat) (listed : Array Bool) (a : Act) (w : World × σ), listed.size = ops.size -> BI ops listed <= fuel -> GInv ops T R N a0 W listed a w -> wpAny P .any ops Q fuel listed a w.1 := by
 have hall : ∀ listed a w, listed.size = ops.size -> Region.ready .any ops listed = [] -> GInv ops T R N a0 W listed a w -> Q .normal a w.1 := by
  intro listed a w hsz h hI
  have hls : ∀ (i : Nat) (o : Oper), ops[i]? = some o -> listed.getD i false = true := fun i o ho => by
   have hlt := (Array.getElem?_eq_some_iff.1 ho).1
   have := Df hk h i hlt
   simpa [Array.getD_eq_getD_getElem?, Array.getElem?_eq_getElem (show i < listed.size by omega)] using this
  exact hpost a w hI.rel hI.defers hI.size hI.old (fun i o d ho hd => hI.typ i o d ho (hls i o ho) hd) fun i o ho hd => hI.nod i o ho (hls i o ho) hd
 intro fuel
 induction fuel with
 | zero =>
  intro listed a w hsz hu hI
  have hrd : Region.ready .any ops listed = [] := by
   rw [List.eq_nil_iff_forall_not_mem]
   intro i hi
   rw [mem_ready] at hi
   obtain ⟨h0, o, ho, _⟩ := hi
   have := B5 (ops := ops) (Array.getElem?_eq_some_iff.1 ho).1 h0
   omega
  exact ⟨hrd, hall listed a w hsz hrd hI⟩
 | succ fuel ih =>
  intro listed a w hsz hu hI
  refine ⟨fun h => hall listed a w hsz h hI, fun i hi => ?_⟩
  rw [mem_ready] at hi
  obtain ⟨h0, o, ho, haf⟩ := hi
  have hlt := (Array.getElem?_eq_some_iff.1 ho).1
  have hdst := ES hk ho
  have h0f : listed.getD i false = false := by
   cases e : listed.getD i false with
   | false => rfl
   | true =>
    have hlt2 : i < listed.size := by omega
    rw [Array.getD_eq_getD_getElem?, Array.getElem?_eq_getElem hlt2] at h0 e
    simp only [Option.getD_some] at h0 e
    rw [h0] at e; cases e
  have hold' : ∀ t, (∀ (j : Nat) (o : Oper), ops[j]? = some o -> o.dst = some t -> EK ops 8 j (0 + i) = true) -> a.tmps.getD t undef = a0.tmps.getD t undef := fun t ht => by
   by_cases hex : ∃ (j : Nat) (oj : Oper), ops[j]? = some oj /\ oj.dst = some t
   ·obtain ⟨j, oj, hoj, hdj⟩ := hex
    refine hI.pold j oj t hoj hdj ?_
    cases e : listed.getD j false with
    | false => rfl
    | true =>
     have := Ff hI.clo 8 j i (by have := ht j oj hoj hdj; rwa [Nat.zero_add] at this) e
     rw [h0f] at this; cases this
   ·exact hI.old t fun j oj hoj hdj => hex ⟨j, oj, hoj, hdj⟩
  have hrule := EQ.at ops.toList 0 hr i o (by simpa using ho) a w hI.rel (by rw [Nat.zero_add]; exact hI.pend i h0) hold' (fun e he hbd oj d hoj hd => hI.typ e.on oj d hoj (haf e he hbd) hd)
  rw [Nat.zero_add] at hrule
  have next : ∀ v w', T i v w' -> R w w' /\ (∀ j, j ≠ i -> N j w -> N j w') -> wpAny P .any ops Q fuel (listed.setIfInBounds i true) (a.put o.dst v) w'.1 := by
   intro v w' hT ⟨hb, hn⟩
   refine ih _ _ _ (by simpa using hsz) (by have := B5 (ops := ops) hlt h0; omega) ⟨htr _ _ _ hI.rel hb, fun j hj => ?_, ?_, ?_, ?_, ?_, ?_, ?_, ?_⟩
   ·by_cases e : j = i
    ·subst e
     have : j < listed.size := by omega
     simp [Array.getElem?_setIfInBounds, this] at hj
    ·exact hn j e (hI.pend j (by rwa [getD_set_ne true (Ne.symm e)] at hj))
   ·rw [<- hI.defers]; cases o.dst <;> rfl
   ·rw [<- hI.size]; cases o.dst <;> simp [Act.put]
   ·intro t ht
    rw [<- hI.old t ht]
    have h2 := ht i o ho
    cases hd : o.dst with
    | none => rfl
    | some d =>
     have : d ≠ t := fun e => h2 (by rw [hd, e])
     simp [Act.put, Array.getElem?_setIfInBounds_ne this]
   ·intro j oj d hj hdj hlj
    have e : j ≠ i := fun e => by
     subst e
     have : j < listed.size := by omega
     simp [Array.getElem?_setIfInBounds, this] at hlj
    rw [getD_set_ne false (Ne.symm e)] at hlj
    rw [<- hI.pold j oj d hj hdj hlj]
    cases hd : o.dst with
    | none => rfl
    | some d' =>
     have : d' ≠ d := fun e2 => hdst.2.2 j oj d' e hj hd (by rw [hdj, e2])
     simp [Act.put, Array.getElem?_setIfInBounds_ne this]
   ·intro j oj hj hlj e he hbd
    have hmn : ∀ k, listed.getD k false = true -> (listed.setIfInBounds i true).getD k false = true := fun k hk => by
     by_cases ek : k = i
     ·subst ek
      have : k < listed.size := by omega
      simp [Array.getElem?_setIfInBounds, this]
     ·rwa [getD_set_ne false (Ne.symm ek)]
    by_cases ej : j = i
    ·subst ej
     obtain rfl : oj = o := by rw [ho] at hj; exact (Option.some.inj hj).symm
     exact hmn _ (haf e he hbd)
    ·exact hmn _ (hI.clo j oj hj (by rwa [getD_set_ne false (Ne.symm ej)] at hlj) e he hbd)
   ·intro j oj d hj hlj hdj
    by_cases e : j = i
    ·subst e
     obtain rfl : oj = o := by rw [ho] at hj; exact (Option.some.inj hj).symm
     have hd1 := hdst.1 d hdj
     rw [hdj]
     have hlt2 : d < a.tmps.size := by rw [hI.size]; exact hd1
     simpa [Act.put, hlt2] using hT
    ·have hlj' : listed.getD j false = true := by rwa [getD_set_ne false (Ne.symm e)] at hlj
     have h3 := hmono j _ w w' (hI.typ j oj d hj hlj' hdj) hb
     have h4 : (a.put o.dst v).tmps.getD d undef = a.tmps.getD d undef := by
      cases hd : o.dst with
      | none => rfl
      | some d' =>
       have : d' ≠ d := fun e2 => hdst.2.2 j oj d' e hj hd (by rw [hdj, e2])
       simp [Act.put, Array.getElem?_setIfInBounds_ne this]
     rw [h4]; exact h3
   ·intro j oj hj hlj hdj
    by_cases e : j = i
    ·subst e; exact ⟨v, hT⟩
    ·have hlj' : listed.getD j false = true := by rwa [getD_set_ne false (Ne.symm e)] at hlj
     obtain ⟨v', h⟩ := hI.nod j oj hj hlj' hdj
     exact ⟨v', hmono j _ w w' h hb⟩
  unfold wpOp
  simp only [ho]
  split
  ·rename_i hw
   exact .inl (hrule.1 hw _ next)
  ·rename_i hw
   exact next undef w (hrule.2 (by simpa using hw)) ⟨hrefl _, fun _ _ h => h⟩
theorem Hk {id : Nat} {a : Act} {σ : Type} (T : Nat -> Value -> World × σ -> Prop) (R : World × σ -> World × σ -> Prop) (N : Nat -> World × σ -> Prop) (γ0 : σ) {W : World} (hm : P.follows .mixedOrders = true) (hk : tOk ops a.tmps.size = true)
  (hrefl : ∀ w, R w w) (htr : ∀ a b c, R a b -> R b c -> R a c) (hmono : ∀ i v w w', T i v w -> R w w' -> T i v w') (hN : ∀ i, N i (W.drew, γ0))
  (hr : EQ P ops T R N a (W.drew, γ0) Q 0 ops.toList)
  (hpost : ∀ (b : Act) (w : World × σ), R (W.drew, γ0) w -> b.defers = a.defers -> b.tmps.size = a.tmps.size -> (∀ t, DL ops t = true -> b.tmps.getD t undef = a.tmps.getD t undef) ->
   (∀ (i : Nat) (o : Oper) (d : Tmp), ops[i]? = some o -> o.dst = some d -> T i (b.tmps.getD d undef) w) -> (∀ (i : Nat) (o : Oper), ops[i]? = some o -> o.dst = none -> ∃ v, T i v w) -> Q .normal b w.1) : (Code.region id ops true).wp P Q a W := by
 refine wp_region_any hm ?_
 refine wpAny_ghost (T := T) (R := R) (N := N) (W := (W.drew, γ0)) (a0 := a) hrefl htr hmono hk hr (fun b w h1 h2 h3 h4 h5 h6 => hpost b w h1 h2 h3 (fun t ht => h4 t (BM ht)) h5 h6) _ _ _ (W.drew, γ0) (by simp) ?_ ⟨hrefl _, fun i _ => hN i, rfl, rfl, fun _ _ => rfl, fun _ _ _ _ _ _ => rfl, fun i o ho hl => ?_, fun i o d ho hl _ => ?_, fun i o ho hl _ => ?_⟩
 ·unfold BI; exact Nat.le_trans (List.length_filter_le _ _) (by simp)
 all_goals
  exfalso
  have hlt := (Array.getElem?_eq_some_iff.1 ho).1
  simp [hlt] at hl
end
end
section
open Go.RowKit
inductive Sp {X : Type} (R : X -> X -> Prop) where
 | i (v : Value)
 | s (p : Value -> X -> Prop) (m : ∀ v x y, p v x -> R x y -> p v y)
 | t
def Sp.q {X : Type} {R : X -> X -> Prop} (g j : Nat) : Sp R := .i (.pointer (some ⟨g, j, none⟩))
def Sp.b {X : Type} {R : X -> X -> Prop} (c : Bool) : Sp R := .i (.bool c)
def Sp.n {X : Type} {R : X -> X -> Prop} (n : Int) : Sp R := .i (.int .i64 n)
def Sp.T {X : Type} {R : X -> X -> Prop} (l : List (Sp R)) (i : Nat) (v : Value) (x : X) : Prop := match l[i]? with
 | some (.i u) => v = u
 | some (.s p _) => p v x
 | _ => True
theorem Sp.mono {X : Type} {R : X -> X -> Prop} {l : List (Sp R)} {i : Nat} {v : Value} {x y : X} (h : Sp.T l i v x) (hb : R x y) : Sp.T l i v y := by
 unfold Sp.T at h ⊢
 split at h
 ·exact h
 ·rename_i m _; exact m _ _ _ h hb
 ·trivial
structure Kd (X : Type) where
 wd : X -> World
 C : X -> Prop
 N : Nat -> X -> Prop
 R : X -> X -> Prop
 L : Nat -> X -> X -> Prop
 hL : ∀ i x, L i x x
 old : Array Oper -> Nat -> Tmp -> Bool
abbrev RT : World -> World -> Prop := fun w w' => Below w.heap.size w w'
abbrev kdT (W : World) : Kd World := ⟨fun w => w, fun w => Below W.heap.size W w, fun _ _ => True, RT, fun _ w w' => Below w.heap.size w w', fun _ _ => Below.refl _ _, fun ops _ t => DL ops t⟩
abbrev kdG {σ : Type} (R : World × σ -> World × σ -> Prop) (N : Nat -> World × σ -> Prop) (x0 : World × σ) (hr : ∀ x, R x x) : Kd (World × σ) := ⟨fun x => x.1, fun x => R x0 x, N, R, fun i x y => R x y /\ ∀ j, j ≠ i -> N j x -> N j y, fun _ x => ⟨hr x, fun _ _ h => h⟩, fun ops i t => noDstI ops i t⟩
def src (ops : Array Oper) (d : Nat) : List Edge -> Option Nat
 | [] => none
 | e :: r => match Region.binds .any e, ops[e.on]? with
  | true, some oj => match oj.dst with
   | some d' => match d'.beq d with
    | true => some e.on
    | false => src ops d r
   | none => src ops d r
  | _, _ => src ops d r
theorem FJ {ops : Array Oper} {d n : Nat} : ∀ {l : List Edge}, src ops d l = some n -> ∃ e ∈ l, Region.binds .any e = true /\ e.on = n /\ ∃ oj, ops[n]? = some oj /\ oj.dst = some d
 | [], h => by simp [src] at h
 | e :: r, h => by
  have next : src ops d r = some n -> ∃ e' ∈ e :: r, Region.binds .any e' = true /\ e'.on = n /\ ∃ oj, ops[n]? = some oj /\ oj.dst = some d := fun h => by
   obtain ⟨e', h1, h2⟩ := FJ h
   exact ⟨e', List.mem_cons_of_mem _ h1, h2⟩
  unfold src at h
  split at h
  ·rename_i oj hb ho
   split at h
   ·rename_i d' hd
    split at h
    ·rename_i hq
     obtain rfl := Nat.eq_of_beq_eq_true hq
     injection h with h
     subst h
     exact ⟨e, List.mem_cons_self, hb, rfl, oj, ho, hd⟩
    ·exact next h
   ·exact next h
  ·exact next h
section
variable {X : Type} {κ : Kd X} {P : Program} {ops : Array Oper} {l : List (Sp κ.R)} {a0 b : Act} {Q : Exit -> Act -> World -> Prop} {i : Nat} {o : Oper} {x : X}
def UEnv (κ : Kd X) (ops : Array Oper) (l : List (Sp κ.R)) (a0 : Act) (i : Nat) (o : Oper) (b : Act) (x : X) : Prop := (∀ t, κ.old ops i t = true -> b.eval (.tmp t) = a0.eval (.tmp t)) /\
 ∀ e ∈ o.after, Region.binds .any e = true -> ∀ (oj : Oper) (d : Tmp), ops[e.on]? = some oj -> oj.dst = some d -> Sp.T l e.on (b.eval (.tmp d)) x
inductive Ev (κ : Kd X) (ops : Array Oper) (l : List (Sp κ.R)) (a0 : Act) (i : Nat) (o : Oper) : Operand -> (Value -> X -> Prop) -> Prop
 | c {v} : Ev κ ops l a0 i o (.const v) fun u _ => u = v
 | n {d n v} (h1 : src ops d o.after.toList = some n) (h2 : l[n]? = some (.i v)) : Ev κ ops l a0 i o (.tmp d) fun u _ => u = v
 | s {d n p m} (h1 : src ops d o.after.toList = some n) (h2 : l[n]? = some (.s p m)) : Ev κ ops l a0 i o (.tmp d) p
 | o {d v} (h1 : κ.old ops i d = true) (h2 : a0.eval (.tmp d) = v) : Ev κ ops l a0 i o (.tmp d) fun u _ => u = v
theorem Ev.at {y : Operand} {q : Value -> X -> Prop} (h : Ev κ ops l a0 i o y q) (hE : UEnv κ ops l a0 i o b x) : q (b.eval y) x := by
 have Dq : ∀ {d n : Nat}, src ops d o.after.toList = some n -> Sp.T l n (b.eval (.tmp d)) x := fun h1 => by
  obtain ⟨e, h3, h4, rfl, oj, h5, h6⟩ := FJ h1
  exact hE.2 e (by simpa using h3) h4 oj _ h5 h6
 cases h with
 | c => rfl
 | n h1 h2 => have := Dq h1; unfold Sp.T at this; rw [h2] at this; exact this
 | s h1 h2 => have := Dq h1; unfold Sp.T at this; rw [h2] at this; exact this
 | o h1 h2 => exact (hE.1 _ h1).trans h2
inductive SpQ (l : List (Sp κ.R)) (i : Nat) : (Value -> X -> Prop) -> Prop
 | i {u} (h : l[i]? = some (.i u)) : SpQ l i fun v _ => v = u
 | s {p m} (h : l[i]? = some (.s p m)) : SpQ l i p
 | t (h : l[i]? = some .t) : SpQ l i fun _ _ => True
theorem SpQ.to {q : Value -> X -> Prop} (h : SpQ l i q) {v : Value} (hq : q v x) : Sp.T l i v x := by
 unfold Sp.T
 cases h with
 | i h => rw [h]; exact hq
 | s h => rw [h]; exact hq
 | t h => rw [h]; trivial
inductive Gd (κ : Kd X) (ops : Array Oper) (l : List (Sp κ.R)) (o : Oper) : Prop
 | n (h : o.guard = none) : Gd κ ops l o
 | y {j c oj d} (h : o.guard = some (j, c)) (h1 : ops[j]? = some oj) (h2 : oj.dst = some d) (h3 : src ops d o.after.toList = some j) (h4 : l[j]? = some (.i (.bool c))) : Gd κ ops l o
 | g {j c oj d p m} (h5 : ∀ v x, p v x -> v = .bool c) (h : o.guard = some (j, c)) (h1 : ops[j]? = some oj) (h2 : oj.dst = some d) (h3 : src ops d o.after.toList = some j) (h4 : l[j]? = some (.s p m)) : Gd κ ops l o
theorem Gd.want (h : Gd κ ops l o) (hE : UEnv κ ops l a0 i o b x) : Region.wanted o (yielded ops b.tmps) = true := by
 cases h with
 | n h => exact CX h
 | y h h1 h2 h3 h4 => rw [DY h h1 h2 ((Ev.n h3 h4).at hE : b.eval (.tmp _) = _)]; simp
 | g h5 h h1 h2 h3 h4 => rw [DY h h1 h2 (h5 _ _ ((Ev.s h3 h4).at hE) : b.eval (.tmp _) = _)]; simp
def BR (κ : Kd X) (P : Program) (ops : Array Oper) (l : List (Sp κ.R)) (a0 : Act) (Q : Exit -> Act -> World -> Prop) (i : Nat) (o : Oper) : Prop := ∀ b x, κ.C x -> κ.N i x -> UEnv κ ops l a0 i o b x ->
 (Region.wanted o (yielded ops b.tmps) = true -> ∀ K : Act -> World -> Prop, (∀ v y, Sp.T l i v y -> κ.L i x y -> K (b.put o.dst v) (κ.wd y)) -> o.wp P b (κ.wd x) K Q) /\ (Region.wanted o (yielded ops b.tmps) = false -> Sp.T l i undef x)
def Cp (κ : Kd X) (P : Program) (ops : Array Oper) (l : List (Sp κ.R)) (a0 : Act) (Q : Exit -> Act -> World -> Prop) (sk : List Nat) : Nat -> List Oper -> Prop
 | _, [] => True
 | i, o :: r => bif sk.contains i then Cp κ P ops l a0 Q sk (i + 1) r else BR κ P ops l a0 Q i o /\ Cp κ P ops l a0 Q sk (i + 1) r
theorem uS {q : Value -> X -> Prop} (h : ∀ b x, κ.C x -> κ.N i x -> (∀ d {q : Value -> X -> Prop}, (h : Ev κ ops l a0 i o (.tmp d) q := by first | exact .n rfl rfl | exact .s rfl rfl | exact .o (by kernel_rfl) rfl) -> q (b.eval (.tmp d)) x) -> ∀ K : Act -> World -> Prop, (∀ v y, q v y -> κ.L i x y -> K (b.put o.dst v) (κ.wd y)) -> o.wp P b (κ.wd x) K Q)
  (hs : SpQ l i q := by first | exact .i rfl | exact .s rfl | exact .t rfl) (hg : Gd κ ops l o := by first | exact .n rfl | exact .y rfl rfl rfl rfl rfl) : BR κ P ops l a0 Q i o := fun b x hC hN hE =>
 ⟨fun _ K hK => h b x hC hN (fun _ {_} h => Ev.at h hE) K fun v y hq hl => hK v y (hs.to hq) hl, fun hw => by rw [hg.want hE] at hw; cases hw⟩
theorem uW {j : Nat} {c : Bool} {oj : Oper} {d : Tmp} (h : o.guard = some (j, c) := by rfl) (h1 : ops[j]? = some oj := by rfl) (h2 : oj.dst = some d := by rfl) (h3 : src ops d o.after.toList = some j := by rfl) (h4 : l[j]? = some (.i (.bool !c)) := by rfl) (hs : l[i]? = some .t := by rfl) : BR κ P ops l a0 Q i o := fun b x hC hN hE =>
 ⟨fun hw => (by rw [DY h h1 h2 ((Ev.n h3 h4).at hE : b.eval (.tmp _) = _)] at hw; cases c <;> cases hw), fun _ => (by unfold Sp.T; rw [hs]; trivial)⟩
theorem uV {v : Value} (h : ∀ b x, κ.C x -> κ.N i x -> UEnv κ ops l a0 i o b x -> ∀ K : Act -> World -> Prop, K (b.put o.dst v) (κ.wd x) -> o.wp P b (κ.wd x) K Q) (hs : SpQ l i fun u _ => u = v) (hg : Gd κ ops l o) : BR κ P ops l a0 Q i o := fun b x hC hN hE =>
 ⟨fun _ K hK => h b x hC hN hE K (hK v x (hs.to rfl) (κ.hL i x)), fun hw => by rw [hg.want hE] at hw; cases hw⟩
variable {y z : Operand} {A : Addr} {v vx vy : Value}
theorem uN (ho : o.op = .nilCheck y := by rfl) (he : Ev κ ops l a0 i o y fun u _ => u = .pointer (some A) := by first | exact .n rfl rfl | exact .o (by kernel_rfl) rfl) (hs : SpQ l i fun u _ => u = .pointer (some A) := by exact .i rfl) (hg : Gd κ ops l o := by first | exact .n rfl | exact .y rfl rfl rfl rfl rfl) : BR κ P ops l a0 Q i o := uV (fun _ _ _ _ hE _ hK => opw_nil ho (he.at hE) hK) hs hg
theorem uM {q : Value -> X -> Prop} (ho : o.op = .move y := by rfl) (he : Ev κ ops l a0 i o y q := by first | exact .c | exact .n rfl rfl | exact .s rfl rfl | exact .o (by kernel_rfl) rfl) (hs : SpQ l i q := by first | exact .i rfl | exact .s rfl) (hg : Gd κ ops l o := by first | exact .n rfl | exact .y rfl rfl rfl rfl rfl) : BR κ P ops l a0 Q i o := fun b x hC hN hE =>
 ⟨fun _ K hK => G0 ho rfl (hK _ x (hs.to (he.at hE)) (κ.hL i x)), fun hw => by rw [hg.want hE] at hw; cases hw⟩
theorem uA {q : Value -> X -> Prop} (ho : o.op = .assign y := by rfl) (he : Ev κ ops l a0 i o y q := by first | exact .c | exact .n rfl rfl | exact .s rfl rfl | exact .o (by kernel_rfl) rfl) (hs : SpQ l i q := by first | exact .i rfl | exact .s rfl) (hg : Gd κ ops l o := by first | exact .n rfl | exact .y rfl rfl rfl rfl rfl) : BR κ P ops l a0 Q i o := fun b x hC hN hE =>
 ⟨fun _ K hK => Cn ho rfl (hK _ x (hs.to (he.at hE)) (κ.hL i x)), fun hw => by rw [hg.want hE] at hw; cases hw⟩
theorem uP {q : Value -> X -> Prop} {c : Bool} {k : Operand} (ho : o.op = .pick k y z := by rfl) (hc : Ev κ ops l a0 i o k fun u _ => u = .bool c := by first | exact .n rfl rfl | exact .o (by kernel_rfl) rfl) (he : Ev κ ops l a0 i o (cond c y z) q := by first | exact .c | exact .n rfl rfl | exact .s rfl rfl | exact .o (by kernel_rfl) rfl) (hs : SpQ l i q := by first | exact .i rfl | exact .s rfl) (hg : Gd κ ops l o := by first | exact .n rfl | exact .y rfl rfl rfl rfl rfl) : BR κ P ops l a0 Q i o := fun b x hC hN hE =>
 ⟨fun _ K hK => opw_pick ho (hc.at hE) (by cases c <;> rfl : _ = b.eval (cond c y z)) (hK _ x (hs.to (he.at hE)) (κ.hL i x)), fun hw => by rw [hg.want hE] at hw; cases hw⟩
theorem uF {s : TypeId} {f : Nat} (ho : o.op = .fieldAddr s y f := by rfl) (he : Ev κ ops l a0 i o y fun u _ => u = vx := by first | exact .n rfl rfl | exact .o (by kernel_rfl) rfl) (hs : SpQ l i fun u _ => u = v := by exact .i rfl) (hr : ∀ w, (Instr.fieldAt s vx f).run P w = .ok v w := by intro _; kernel_rfl) (hg : Gd κ ops l o := by first | exact .n rfl | exact .y rfl rfl rfl rfl rfl) : BR κ P ops l a0 Q i o := uV (fun _ _ _ _ hE _ hK => Cb ho (he.at hE) (hr _) hK) hs hg
theorem uU {op : UnOp} {t : TypeId} (ho : o.op = .unOp op t y := by rfl) (he : Ev κ ops l a0 i o y fun u _ => u = vx := by first | exact .n rfl rfl | exact .o (by kernel_rfl) rfl) (hs : SpQ l i fun u _ => u = v := by exact .i rfl) (hr : ∀ w, (Op.unary op vx).run P w = .ok v w := by intro _; rfl) (hg : Gd κ ops l o := by first | exact .n rfl | exact .y rfl rfl rfl rfl rfl) : BR κ P ops l a0 Q i o := uV (fun _ _ _ _ hE _ hK => opw_un ho (he.at hE) (hr _) hK) hs hg
theorem uC {t : TypeId} (ho : o.op = .load t y := by rfl) (he : Ev κ ops l a0 i o y fun u _ => u = .pointer (some A) := by first | exact .n rfl rfl | exact .o (by kernel_rfl) rfl) (hs : SpQ l i fun u _ => u = v := by exact .i rfl) (hu : Em P t = true := by kernel_rfl) (hg : Gd κ ops l o := by first | exact .n rfl | exact .y rfl rfl rfl rfl rfl)
  (h : ∀ x, κ.C x -> κ.N i x -> (κ.wd x).cell? A = some v) : BR κ P ops l a0 Q i o := uV (fun _ x hC hN hE _ hK => Az ho (he.at hE) hu (h x hC hN) hK) hs hg
def rowTy (P : Program) (t : TypeId) : Bool := match P.underlying t with
 | some (.struct _) | some (.array _ _) => true
 | _ => false
theorem uR {t ty : TypeId} {g : Nat} {cs : Array Value} (ho : o.op = .load t y := by rfl) (he : Ev κ ops l a0 i o y fun u _ => u = .pointer (some ⟨g, 0, none⟩) := by first | exact .n rfl rfl | exact .o (by kernel_rfl) rfl) (hs : SpQ l i fun u _ => u = .agg cs := by exact .i rfl) (hu : rowTy P t = true := by kernel_rfl) (hi : (P.info? t).map (·.size) = some cs.size := by kernel_rfl) (hg : Gd κ ops l o := by first | exact .n rfl | exact .y rfl rfl rfl rfl rfl)
  (h : ∀ x, κ.C x -> κ.N i x -> BS (κ.wd x) g ty cs) : BR κ P ops l a0 Q i o := by
 unfold rowTy at hu
 cases hd : P.underlying t with
 | none => rw [hd] at hu; cases hu
 | some d => exact uV (fun _ x hC hN hE _ hK => DK ho (he.at hE) (h x hC hN) hd (by rw [hd] at hu; cases d <;> first | rfl | cases hu) hi hK) hs hg
theorem uD {t : TypeId} {g j : Nat} {cs : List Value} (ho : o.op = .load t y := by rfl) (he : Ev κ ops l a0 i o y fun u _ => u = .pointer (some ⟨g, j, none⟩) := by first | exact .n rfl rfl | exact .o (by kernel_rfl) rfl) (hs : SpQ l i fun u _ => u = .agg cs.toArray := by exact .i rfl) (hu : rowTy P t = true := by kernel_rfl) (hi : (P.info? t).map (·.size) = some cs.length := by kernel_rfl) (hg : Gd κ ops l o := by first | exact .n rfl | exact .y rfl rfl rfl rfl rfl)
  (h : ∀ x, κ.C x -> κ.N i x -> (κ.wd x).rangeAt g j cs) : BR κ P ops l a0 Q i o := by
 unfold rowTy at hu
 cases hd : P.underlying t with
 | none => rw [hd] at hu; cases hu
 | some d => exact uV (fun _ x hC hN hE _ hK => AU ho (he.at hE) (h x hC hN) hd (by rw [hd] at hu; cases d <;> first | rfl | cases hu) hi hK) hs hg
theorem uB {op : BinOp} {t t2 : TypeId} (ho : o.op = .binOp op t y z t2 := by rfl) (he : Ev κ ops l a0 i o y fun u _ => u = vx := by first | exact .c | exact .n rfl rfl | exact .o (by kernel_rfl) rfl) (hf : Ev κ ops l a0 i o z fun u _ => u = vy := by first | exact .c | exact .n rfl rfl | exact .o (by kernel_rfl) rfl) (hs : SpQ l i fun u _ => u = v := by exact .i rfl) (hq : ∀ w, (eqGuard op t y z vx vy).run P w = .ok () w := by intro _; rfl) (hg : Gd κ ops l o := by first | exact .n rfl | exact .y rfl rfl rfl rfl rfl)
  (h : ∀ x, κ.C x -> κ.N i x -> (binOp op t vx vy).run P (κ.wd x) = .ok v (κ.wd x)) : BR κ P ops l a0 Q i o := uV (fun _ x hC hN hE _ hK => AE ho (he.at hE) (hf.at hE) (hq _) (h x hC hN) hK) hs hg
theorem uE {s t : TypeId} (ho : o.op = .convert s t y := by rfl) (he : Ev κ ops l a0 i o y fun u _ => u = vx := by first | exact .c | exact .n rfl rfl | exact .o (by kernel_rfl) rfl) (hs : SpQ l i fun u _ => u = v := by exact .i rfl) (hg : Gd κ ops l o := by first | exact .n rfl | exact .y rfl rfl rfl rfl rfl)
  (h : ∀ x, κ.C x -> κ.N i x -> (convert s t vx).run P (κ.wd x) = .ok v (κ.wd x)) : BR κ P ops l a0 Q i o := uV (fun _ x hC hN hE _ hK => Dp ho (he.at hE) (h x hC hN) hK) hs hg
theorem uI {t : TypeId} (ho : o.op = .indexAddr t y z := by rfl) (he : Ev κ ops l a0 i o y fun u _ => u = vx := by first | exact .n rfl rfl | exact .o (by kernel_rfl) rfl) (hf : Ev κ ops l a0 i o z fun u _ => u = vy := by first | exact .c | exact .n rfl rfl | exact .o (by kernel_rfl) rfl) (hs : SpQ l i fun u _ => u = v := by exact .i rfl) (hg : Gd κ ops l o := by first | exact .n rfl | exact .y rfl rfl rfl rfl rfl)
  (h : ∀ x, κ.C x -> κ.N i x -> (Instr.indexAt t vx vy).run P (κ.wd x) = .ok v (κ.wd x)) : BR κ P ops l a0 Q i o := uV (fun _ x hC hN hE _ hK => Cy ho (he.at hE) (hf.at hE) (h x hC hN) hK) hs hg
theorem Cp.at {sk : List Nat} : ∀ (r : List Oper) (k : Nat), Cp κ P ops l a0 Q sk k r -> ∀ i o, r[i]? = some o -> sk.contains (k + i) = true \/ BR κ P ops l a0 Q (k + i) o
 | [], _, _, i, o, h => by simp at h
 | c :: r, k, hr, 0, o, h => by
  simp at h; subst h
  unfold Cp at hr
  rw [Nat.add_zero]
  cases hc : sk.contains k with
  | true => exact .inl rfl
  | false => rw [hc] at hr; exact .inr hr.1
 | c :: r, k, hr, i + 1, o, h => by
  unfold Cp at hr
  have h1 : Cp κ P ops l a0 Q sk (k + 1) r := by
   cases hc : sk.contains k with
   | true => rw [hc] at hr; exact hr
   | false => rw [hc] at hr; exact hr.2
  have := Cp.at r (k + 1) h1 i o (by simpa using h)
  rwa [show k + 1 + i = k + (i + 1) by omega] at this
end
def Fx {X : Type} {R : X -> X -> Prop} (z : Bool) (us : Nat -> Value) (x : X) : List Oper -> List (Sp R) -> Prop
 | o :: r, s :: l => match s, o.dst with
  | .i v, some d => us d = v /\ Fx z us x r l
  | .s p _, some d => p (us d) x /\ Fx z us x r l
  | .s p _, none => match z with
   | true => (∃ v, p v x) /\ Fx z us x r l
   | false => Fx z us x r l
  | _, _ => Fx z us x r l
 | _, _ => True
theorem Fx.of {X : Type} {R : X -> X -> Prop} {z : Bool} {us : Nat -> Value} {x : X} {L : List (Sp R)} : ∀ (r : List Oper) (l : List (Sp R)) (k : Nat), (∀ i, l[i]? = L[k + i]?) -> (∀ i o d, r[i]? = some o -> (∀ (s : Sp R), L[k + i]? = some s -> s ≠ .t) -> o.dst = some d -> Sp.T L (k + i) (us d) x) -> (z = true -> ∀ i o, r[i]? = some o -> o.dst = none -> ∃ v, Sp.T L (k + i) v x) -> Fx z us x r l
 | [], _, _, _, _, _ => by unfold Fx; trivial
 | o :: r, [], _, _, _, _ => by unfold Fx; trivial
 | o :: r, s :: l, k, hl, ht, hz => by
  have h0 : L[k]? = some s := by have := hl 0; simpa using this.symm
  have ih : Fx z us x r l := Fx.of r l (k + 1) (fun i => by have := hl (i + 1); rw [show k + 1 + i = k + (i + 1) by omega, <- this]; simp) (fun i o' d h1 h2 h3 => by
   have := ht (i + 1) o' d (by simpa using h1) (fun s hs => h2 s (by rw [<- hs]; congr 1; omega)) h3
   rwa [show k + (i + 1) = k + 1 + i by omega] at this) fun e i o' h1 h2 => by
   have := hz e (i + 1) o' (by simpa using h1) h2
   rwa [show k + (i + 1) = k + 1 + i by omega] at this
  have hT : ∀ d, o.dst = some d -> s ≠ .t -> Sp.T L k (us d) x := fun d hd hs => by
   have := ht 0 o d (by simp) (fun s' hs' e => by subst e; rw [Nat.add_zero, h0] at hs'; injection hs' with hs'; exact hs hs') hd
   rwa [Nat.add_zero] at this
  cases s with
  | i v => cases hd : o.dst with
   | some d =>
    have := hT d hd (by simp)
    unfold Sp.T at this; rw [h0] at this
    unfold Fx; simp only [hd]; exact ⟨this, ih⟩
   | none => unfold Fx; simp only [hd]; exact ih
  | t => unfold Fx; cases o.dst <;> exact ih
  | s p m => cases hd : o.dst with
   | some d =>
    have := hT d hd (by simp)
    unfold Sp.T at this; rw [h0] at this
    unfold Fx; simp only [hd]; exact ⟨this, ih⟩
   | none =>
    unfold Fx; simp only [hd]
    cases z with
    | true =>
     have := hz rfl 0 o (by simp) hd
     unfold Sp.T at this
     rw [Nat.add_zero, h0] at this
     exact ⟨this, ih⟩
    | false => exact ih
section
variable {P : Program} {ops : Array Oper} {a : Act} {Q : Exit -> Act -> World -> Prop}
theorem BR.tr {W : World} {l : List (Sp RT)} {i : Nat} {o : Oper} (h : BR (kdT W) P ops l a Q i o) : J0 P ops (Sp.T l) a W.drew Q i o := fun b w h1 h2 h3 => h b w (DP h1) trivial ⟨fun t ht => h2 t (BM ht), h3⟩
theorem C5 {id : Nat} {W : World} (l : List (Sp RT)) (hr : Cp (kdT W) P ops l a Q [] 0 ops.toList)
  (hpost : ∀ vs w, Below W.heap.size W w -> Fx false vs w ops.toList l -> Q .normal ⟨Ak vs ops.toList a.tmps, a.defers⟩ w) (hm : P.follows .mixedOrders = true := by kernel_rfl) (hk : tOk ops a.tmps.size = true := by kernel_rfl) : (Code.region id ops true).wp P Q a W := by
 refine Hj (Sp.T l) hm hk (fun i v w w' h hb => Sp.mono h hb) ?_ fun b w hW hdf hsz hold hT => ?_
 ·suffices H : ∀ (r : List Oper) (k : Nat), (∀ i o, r[i]? = some o -> BR (kdT W) P ops l a Q (k + i) o) -> D9 P ops (Sp.T l) a W.drew Q k r from H _ 0 fun i o ho => (Cp.at _ _ hr i o ho).resolve_left (by simp)
  intro r
  induction r with
  | nil => intro _ _; trivial
  | cons o r ih => exact fun k h => ⟨(h 0 o (by simp)).tr, ih (k + 1) fun i o ho => by have := h (i + 1) o (by simpa using ho); rwa [show k + (i + 1) = k + 1 + i by omega] at this⟩
 ·obtain ⟨vs, hvs, hb⟩ := EG hdf hsz hold
  subst hb
  exact hpost vs w hW (Fx.of (L := l) _ _ 0 (fun i => by simp) (fun i o d h1 _ h3 => by rw [Nat.zero_add, <- hvs]; exact hT i o d (by simpa using h1) h3) fun e => by cases e)
theorem IV {W : World} (t : Nat) (r : List Nat) (l : List (Sp RT)) (hr : Cp (kdT W) P ops l a Q (t :: r) 0 ops.toList)
  (hpost : ∀ vs w, Below W.heap.size W w -> Fx false vs w ops.toList l -> Cz P ops Q (t :: r) ⟨Ak vs ops.toList a.tmps, a.defers⟩ w)
  (hc1 : (match ops[t]? with | some o => tHead ops (t :: r) o | none => false) = true := by kernel_rfl) (hch : Dk ops t r = true := by kernel_rfl) (htr : r.contains t = false := by rfl) (hk : tOk ops a.tmps.size = true := by kernel_rfl) (hsk : ((t :: r).all fun i => match l[i]? with | some .t => true | _ => false) = true := by rfl) : wpAny P .any ops Q ops.size (Array.replicate ops.size false) a W.drew := by
 refine Hq (Sp.T l) t r hc1 hch htr hk (fun i v w w' h hb => Sp.mono h hb) ?_ fun b w hW hdf hsz hold hT => ?_
 ·suffices H : ∀ (q : List Oper) (k : Nat), (∀ i o, q[i]? = some o -> (t :: r).contains (k + i) = true \/ BR (kdT W) P ops l a Q (k + i) o) -> Eo P ops (Sp.T l) a W.drew Q (t :: r) k q from H _ 0 (Cp.at _ _ hr)
  intro q
  induction q with
  | nil => intro _ _; trivial
  | cons o q ih => exact fun k h => ⟨(h 0 o (by simp)).imp id BR.tr, ih (k + 1) fun i o ho => by have := h (i + 1) o (by simpa using ho); rwa [show k + (i + 1) = k + 1 + i by omega] at this⟩
 ·obtain ⟨vs, hvs, hb⟩ := EG hdf hsz hold
  subst hb
  refine hpost vs w hW (Fx.of (L := l) _ _ 0 (fun i => by simp) (fun i o d h1 h2 h3 => ?_) fun e => by cases e)
  rw [Nat.zero_add] at h2 ⊢
  rw [<- hvs]
  refine hT i o d ?_ (by simpa using h1) h3
  cases hc : (t :: r).contains i with
  | false => rfl
  | true =>
   have h4 := List.all_eq_true.1 hsk i (List.contains_iff_mem.1 hc)
   split at h4
   ·rename_i hs; exact absurd rfl (h2 _ hs)
   ·cases h4
theorem Fa {id : Nat} {W : World} (t : Nat) (r : List Nat) (l : List (Sp RT)) (hr : Cp (kdT W) P ops l a Q (t :: r) 0 ops.toList)
  (hpost : ∀ vs w, Below W.heap.size W w -> Fx false vs w ops.toList l -> Cz P ops Q (t :: r) ⟨Ak vs ops.toList a.tmps, a.defers⟩ w) (hm : P.follows .mixedOrders = true := by kernel_rfl)
  (hc1 : (match ops[t]? with | some o => tHead ops (t :: r) o | none => false) = true := by kernel_rfl) (hch : Dk ops t r = true := by kernel_rfl) (htr : r.contains t = false := by rfl) (hk : tOk ops a.tmps.size = true := by kernel_rfl) (hsk : ((t :: r).all fun i => match l[i]? with | some .t => true | _ => false) = true := by rfl) : (Code.region id ops true).wp P Q a W := wp_region_any hm (IV t r l hr hpost hc1 hch htr hk hsk)
theorem Ex {id : Nat} {σ : Type} {W : World} (R : World × σ -> World × σ -> Prop) (N : Nat -> World × σ -> Prop) (γ : σ) (hrefl : ∀ w, R w w) (htr : ∀ a b c, R a b -> R b c -> R a c) (l : List (Sp R)) (hN : ∀ i, N i (W.drew, γ)) (hr : Cp (kdG R N (W.drew, γ) hrefl) P ops l a Q [] 0 ops.toList)
  (hpost : ∀ vs w, R (W.drew, γ) w -> Fx true vs w ops.toList l -> Q .normal ⟨Ak vs ops.toList a.tmps, a.defers⟩ w.1) (hm : P.follows .mixedOrders = true := by kernel_rfl) (hk : tOk ops a.tmps.size = true := by kernel_rfl) : (Code.region id ops true).wp P Q a W := by
 refine Hk (Sp.T l) R N γ hm hk hrefl htr (fun i v w w' h hb => Sp.mono h hb) hN ?_ fun b w hW hdf hsz hold hT hZ => ?_
 ·suffices H : ∀ (r : List Oper) (k : Nat), (∀ i o, r[i]? = some o -> BR (kdG R N (W.drew, γ) hrefl) P ops l a Q (k + i) o) -> EQ P ops (Sp.T l) R N a (W.drew, γ) Q k r from H _ 0 fun i o ho => (Cp.at _ _ hr i o ho).resolve_left (by simp)
  intro r
  induction r with
  | nil => intro _ _; trivial
  | cons o r ih => exact fun k h => ⟨fun b w h1 hn h2 h3 => (h 0 o (by simp)) b w h1 hn ⟨fun t ht => h2 t (noDstI_spec ht), h3⟩, ih (k + 1) fun i o ho => by have := h (i + 1) o (by simpa using ho); rwa [show k + (i + 1) = k + 1 + i by omega] at this⟩
 ·obtain ⟨vs, hvs, hb⟩ := EG hdf hsz hold
  subst hb
  exact hpost vs w hW (Fx.of (L := l) _ _ 0 (fun i => by simp) (fun i o d h1 _ h3 => by rw [Nat.zero_add, <- hvs]; exact hT i o d (by simpa using h1) h3) fun _ i o h1 h2 => by rw [Nat.zero_add]; exact hZ i o (by simpa using h1) h2)
variable {i : Nat} {o : Oper}
theorem uT {W : World} {l : List (Sp RT)} {q : Value -> World -> Prop} (h : ∀ b w, Below W.heap.size W w -> (∀ d {q : Value -> World -> Prop}, (h : Ev (kdT W) ops l a i o (.tmp d) q := by first | exact .n rfl rfl | exact .s rfl rfl | exact .o (by kernel_rfl) rfl) -> q (b.eval (.tmp d)) w) -> ∀ K : Act -> World -> Prop, (∀ v w', q v w' -> Below w.heap.size w w' -> K (b.put o.dst v) w') -> o.wp P b w K Q)
  (hs : SpQ (κ := kdT W) l i q := by first | exact .i rfl | exact .s rfl | exact .t rfl) (hg : Gd (kdT W) ops l o := by first | exact .n rfl | exact .y rfl rfl rfl rfl rfl) : BR (kdT W) P ops l a Q i o := uS (κ := kdT W) (fun b w hC _ hE K hK => h b w hC (fun d {_} h => hE d h) K hK) hs hg
theorem uG {σ : Type} {R : World × σ -> World × σ -> Prop} {N : Nat -> World × σ -> Prop} {x0 : World × σ} {hr : ∀ x, R x x} {l : List (Sp R)} {q : Value -> World × σ -> Prop} (h : ∀ b w, R x0 w -> N i w -> (∀ d {q : Value -> World × σ -> Prop}, (h : Ev (kdG R N x0 hr) ops l a i o (.tmp d) q := by first | exact .n rfl rfl | exact .s rfl rfl | exact .o (by kernel_rfl) rfl) -> q (b.eval (.tmp d)) w) -> ∀ K : Act -> World -> Prop, (∀ v w', q v w' -> R w w' /\ (∀ j, j ≠ i -> N j w -> N j w') -> K (b.put o.dst v) w'.1) -> o.wp P b w.1 K Q)
  (hs : SpQ (κ := kdG R N x0 hr) l i q := by first | exact .i rfl | exact .s rfl | exact .t rfl) (hg : Gd (kdG R N x0 hr) ops l o := by first | exact .n rfl | exact .y rfl rfl rfl rfl rfl) : BR (kdG R N x0 hr) P ops l a Q i o := uS (κ := kdG R N x0 hr) (fun b w hC hN hE K hK => h b w hC hN (fun d {_} h => hE d h) K hK) hs hg
end
end
section
open Go.RowKit
attribute [local go_sem ↓] Go.wp_at_zero Go.wp_at_succ
set_option maxRecDepth 20000
set_option exponentiation.threshold 5000
theorem wd_pow (i k : Nat) : wd (2 ^ i) k = if k = i / 64 then 2 ^ (i % 64) else 0 := by
 apply Nat.eq_of_testBit_eq
 intro j
 by_cases hj : j < 64
 ·rw [Cj _ _ _ hj, Nat.testBit_two_pow]
  by_cases hk : k = i / 64
  ·rw [if_pos hk, Nat.testBit_two_pow]
   congr 1
   rw [eq_iff_iff]
   omega
  ·rw [if_neg hk, Nat.zero_testBit]; simp; omega
 ·rw [Ee (Er _ _) (Nat.not_lt.1 hj)]
  split
  ·rw [Nat.testBit_two_pow]; simp; omega
  ·simp
def CG (l : List Nat) (i : Nat) : List Nat := (l ++ List.replicate (max l.length (i / 64 + 1) - l.length) 0).set (i / 64) (l.getD (i / 64) 0 ||| 2 ^ (i % 64))
theorem Fk (l : List Nat) (i : Nat) : (CG l i).length = max l.length (i / 64 + 1) := by simp [CG]; omega
theorem padW_getD (l : List Nat) (m k : Nat) : (l ++ List.replicate m 0).getD k 0 = l.getD k 0 := by
 rw [List.getD_eq_getElem?_getD, List.getD_eq_getElem?_getD, List.getElem?_append]
 split
 ·rfl
 ·rename_i h
  rw [List.getElem?_eq_none (l := l) (by omega), List.getElem?_replicate]
  split <;> rfl
theorem Ez (l : List Nat) (i k : Nat) : (CG l i).getD k 0 = if k = i / 64 then l.getD k 0 ||| 2 ^ (i % 64) else l.getD k 0 := by
 unfold CG
 rw [List.getD_eq_getElem?_getD, List.getElem?_set]
 by_cases h : i / 64 = k
 ·subst h
  rw [if_pos rfl, if_pos (by simp; omega), if_pos rfl]; rfl
 ·rw [if_neg h, if_neg (fun e => h e.symm), <- List.getD_eq_getElem?_getD, padW_getD]
theorem FU (r : Nat) : 2 ^ (r % 64) < AM := by rw [Cq]; exact Nat.pow_lt_pow_right (by decide) (Nat.mod_lt _ (by decide))
theorem wordsW_ok {l : List Nat} {i : Nat} (hl : Bw l) (hi : i < 4096) : Bw (CG l i) /\ val (CG l i) = val l ||| 2 ^ i := by
 have hw : AW (CG l i) := by
  intro x hx
  obtain ⟨k, hk, e⟩ := List.getElem_of_mem hx
  have h := Ez l i k
  rw [List.getD_eq_getElem?_getD, List.getElem?_eq_getElem hk] at h
  simp only [Option.getD_some, e] at h
  rw [h]
  split
  ·exact or_lt (hl.1.getD k) (FU i)
  ·exact hl.1.getD k
 refine ⟨⟨hw, fun x hx => ?_, ?_⟩, FB hw fun k => ?_⟩
 ·rw [List.getLast?_eq_getElem?, Fk] at hx
  have h := Ez l i (max l.length (i / 64 + 1) - 1)
  rw [List.getD_eq_getElem?_getD, hx] at h
  simp only [Option.getD_some] at h
  rw [h]
  split
  ·intro e
   have h2 := (Nat.or_eq_zero_iff.1 e).2
   have h3 := Nat.two_pow_pos (i % 64)
   omega
  ·rename_i hne
   have : max l.length (i / 64 + 1) - 1 = l.length - 1 := by omega
   rw [this]
   exact BG hl (by omega)
 ·rw [Fk]; have := hl.2.2; omega
 ·rw [Ez, wd_or, wd_pow, BD hl.1]
  split
  ·rfl
  ·rw [Nat.or_zero]
def C6 (N : Nat) (i : Int) : Nat := if 0 <= i /\ i <= 4095 then N ||| 2 ^ i.toNat else N
theorem withN_has {N : Nat} {i : Int} (h : Bv N i = true) : C6 N i = N := by
 unfold C6
 split
 ·rename_i hi
  apply Nat.eq_of_testBit_eq
  intro j
  rw [Nat.testBit_or, Nat.testBit_two_pow]
  by_cases e : i.toNat = j
  ·subst e; simp [Bv, hi.1] at h; simp [h]
  ·simp [e]
 ·rfl
theorem I2 : Bd Tryz.prog 37 26 1 8 := ⟨Tryz.underlying37, by kernel_rfl⟩
theorem u64s_one (l : List Nat) : ∀ u ∈ Bo l, u.oneCell' = true := by intro u hu; simp [Bo] at hu; obtain ⟨x, _, rfl⟩ := hu; rfl
theorem Ik {P : Program} {w : World} {t : TypeId} {r : Nat} {e : Int} (he : e = ((r % 64 : Nat) : Int)) : (binOp .shl t (.int .u64 1) (.int .i64 e)).run P w = .ok (.int .u64 ((2 ^ (r % 64) : Nat) : Int)) w := by
 subst he
 have h := shl64 (r % 64) (Nat.mod_lt _ (by decide))
 have h2 : ¬ (((r % 64 : Nat) : Int)) < 0 := by omega
 go_simp
 rw [show ((r : Int) % 64).toNat = r % 64 by omega, h]
 simp
theorem GC {P : Program} {w : World} {t : TypeId} {x y : Nat} (hx : x < AM) (hy : y < AM) : (binOp .or t (.int .u64 (x : Nat)) (.int .u64 (y : Nat))).run P w = .ok (.int .u64 ((x ||| y : Nat) : Int)) w := by
 go_simp; rw [or64 hx hy]
set_option maxHeartbeats 1000000 in
theorem Di (v : Value) (N : Nat) (i : Int) (w0 : World) (D : Nat -> Prop) (hv : Aa w0 D v N) :
  Calls Tryz.prog 75 #[v, .int .i64 i] w0 (AF (fun x w' => Aa w' (fun b => D b \/ w0.heap.size <= b) x (C6 N i)) w0) := by
 obtain ⟨A, c, l, rfl, hl, hN, hc1, hc2, hs⟩ := hv.parts
 have HV := Lib.hid hv
 have HS := Lib.hid hs
 have hle := hl.2.2
 obtain ⟨K, hk, hS⟩ : ∃ K : (Nat -> Prop) -> World -> Prop, (∀ D w, K D w -> Aa w D (.agg #[.slice A l.length c]) N /\ Sl w D 1 (.slice A l.length c) l.length (Bo l)) /\ St w0 w0 [] K := ⟨_, fun _ _ h => h, St.start (Ab.and Av) (D := D) ⟨hv, hs⟩⟩
 have HK := Lib.hid hk
 have HNV := Lib.hid hN
 clear hv hs hk hN
 by_cases h1 : i < 0 \/ i > 4095
 ·have hE : C6 N i = N := by rw [C6, if_neg (by omega)]
  rw [hE]
  have hfin : ∀ w', Below w0.heap.size w0 w' -> Aa w' (fun b => D b \/ w0.heap.size <= b) (.agg #[.slice A l.length c]) N := fun w' hb => (HV.out.ext hb).imp fun _ h _ => .inl h
  have HF := Lib.hid hfin
  clear hfin
  rcases h1 with h1 | h1
  ·go_enter Tryz.func75, Tryz.ntmps75
   go_wp2_with (first
    | ((with_reducible refine qA 2 ?_); refine Aw hS rfl _ _ rfl (.agg #[.slice A l.length c]) _ rfl rfl ?_; clear hS; intro g2 w_ hS; (try simp only [Act.put, Act.eval, zz, Value.cells] at hS))
    | ((with_reducible refine qA 4 ?_); refine qa hS #[.slice none 0 0] ?_; clear hS; intro g4 w_ hS)
    | ((with_reducible refine qA 17 ?_); refine DZ hS 1 rfl _ _ rfl g2 rfl _ #[.slice A l.length c] rfl _ Tryz.underlying39 rfl (by kernel_rfl) ?_)
    | ((with_reducible refine qM ?_); (first | refine qS hS ?_ | refine qT hS ?_); clear hS; intro w_ hS; (try simp only [Act.put, Act.eval, zz, Value.cells] at hS))
    | ((with_reducible refine qB ?_); refine qc ?_ ?_ <;> intro h_ <;> go_prune))
   refine bodyPost_ret (v := .agg #[.slice A l.length c]) (by exact results_cell_row rfl _ _ g4 39 _ (0, 0) _ rfl (hS.box 0 rfl) Tryz.underlying39 rfl (by kernel_rfl)) rfl ?_
   exact AF.mk (HF.out _ hS.below) hS.below
  ·have h2 : ¬ i < 0 := by omega
   go_enter Tryz.func75, Tryz.ntmps75
   go_wp2_with (first
    | ((with_reducible refine qA 2 ?_); refine Aw hS rfl _ _ rfl (.agg #[.slice A l.length c]) _ rfl rfl ?_; clear hS; intro g2 w_ hS; (try simp only [Act.put, Act.eval, zz, Value.cells] at hS))
    | ((with_reducible refine qA 4 ?_); refine qa hS #[.slice none 0 0] ?_; clear hS; intro g4 w_ hS)
    | ((with_reducible refine qA 17 ?_); refine DZ hS 1 rfl _ _ rfl g2 rfl _ #[.slice A l.length c] rfl _ Tryz.underlying39 rfl (by kernel_rfl) ?_)
    | ((with_reducible refine qM ?_); (first | refine qS hS ?_ | refine qT hS ?_); clear hS; intro w_ hS; (try simp only [Act.put, Act.eval, zz, Value.cells] at hS))
    | ((with_reducible refine qB ?_); refine qc ?_ ?_ <;> intro h_ <;> go_prune))
   refine bodyPost_ret (v := .agg #[.slice A l.length c]) (by exact results_cell_row rfl _ _ g4 39 _ (0, 0) _ rfl (hS.box 0 rfl) Tryz.underlying39 rfl (by kernel_rfl)) rfl ?_
   exact AF.mk (HF.out _ hS.below) hS.below
 ·obtain ⟨m, rfl⟩ : ∃ m : Nat, i = (m : Int) := ⟨i.toNat, by omega⟩
  have hm : m < 4096 := by omega
  have hm0 : ¬ (m : Int) < 0 := by omega
  have hm1 : ¬ (m : Int) > 4095 := by omega
  clear h1
  by_cases hh : Bv N m = true
  ·have hWE := Lib.hid (withN_has hh)
   have HH := Lib.hid hh
   have hfin : ∀ w', Below w0.heap.size w0 w' -> Aa w' (fun b => D b \/ w0.heap.size <= b) (.agg #[.slice A l.length c]) N := fun w' hb => (HV.out.ext hb).imp fun _ h _ => .inl h
   have HF := Lib.hid hfin
   rw [hWE.out]
   clear hfin hh
   go_enter Tryz.func75, Tryz.ntmps75
   go_wp2_with (first
    | ((with_reducible refine qA 2 ?_); refine Aw hS rfl _ _ rfl (.agg #[.slice A l.length c]) _ rfl rfl ?_; clear hS; intro g2 w_ hS; (try simp only [Act.put, Act.eval, zz, Value.cells] at hS))
    | ((with_reducible refine qA 4 ?_); refine qa hS #[.slice none 0 0] ?_; clear hS; intro g4 w_ hS)
    | ((with_reducible refine qA 13 ?_); refine DZ hS 1 rfl _ _ rfl g2 rfl _ #[.slice A l.length c] rfl _ Tryz.underlying39 rfl (by kernel_rfl) ?_)
    | ((with_reducible refine qA 17 ?_); refine DZ hS 1 rfl _ _ rfl g2 rfl _ #[.slice A l.length c] rfl _ Tryz.underlying39 rfl (by kernel_rfl) ?_)
    | (go_at_call 89; refine (CT _ N _ _ _ (HK.out _ _ hS.ro).1).mono ?_; rw [HH.out]; rintro r_ w2 ⟨_, rfl, rfl, hb2⟩; replace hS := hS.ext hb2; clear hb2)
    | ((with_reducible refine qM ?_); (first | refine qS hS ?_ | refine qT hS ?_); clear hS; intro w_ hS; (try simp only [Act.put, Act.eval, zz, Value.cells] at hS))
    | ((with_reducible refine qB ?_); refine qc ?_ ?_ <;> intro h_ <;> go_prune))
   refine bodyPost_ret (v := .agg #[.slice A l.length c]) (by exact results_cell_row rfl _ _ g4 39 _ (0, 0) _ rfl (hS.box 0 rfl) Tryz.underlying39 rfl (by kernel_rfl)) rfl ?_
   exact AF.mk (HF.out _ hS.below) hS.below
  ·have HH := Lib.hid (show Bv N m = false by simpa using hh)
   clear hh
   have hWN := wordsW_ok hl hm
   have HWN := Lib.hid (show Bw (CG l m) /\ val (CG l m) = C6 N m by rw [C6, if_pos (by omega), HNV.out]; exact hWN)
   have HWD := Lib.hid (show Bo (CG l m) = (Bo l ++ (Bo (List.replicate (max l.length (m / 64 + 1)) 0)).drop l.length).set (m / 64) (.int .u64 (l.getD (m / 64) 0 ||| 2 ^ (m % 64) : Nat)) by
    rw [CG, FC]; congr 1; simp [Bo])
   have HWL := Lib.hid (Fk l m)
   have hx := hl.1.getD (m / 64)
   have HX := Lib.hid (or64 hx (FU m))
   have HG := Lib.hid (show (Bo l ++ (Bo (List.replicate (max l.length (m / 64 + 1)) 0)).drop l.length)[m / 64]? = some (.int .u64 (l.getD (m / 64) 0 : Nat)) by
    have := Cr (l ++ List.replicate (max l.length (m / 64 + 1) - l.length) 0) (m / 64) (by simp; omega)
    rw [padW_getD] at this
    rw [<- this]; congr 1; simp [Bo])
   generalize l.getD (m / 64) 0 = x at *
   generalize C6 N m = N2 at *
   obtain ⟨M, hM⟩ : ∃ M, M = max l.length (m / 64 + 1) := ⟨_, rfl⟩
   rw [<- hM] at HWD HWL HG
   have hM1 : l.length <= M /\ m / 64 < M /\ M <= 64 /\ 0 < M := by omega
   have hM2 : max (l.length : Int) ((m : Int) / 64 + 1) = (M : Int) := by omega
   obtain ⟨q, hq⟩ : ∃ q, q = m / 64 := ⟨_, rfl⟩
   clear hWN hM
   rcases Nat.lt_or_ge (m / 64 + 1) l.length with hM3 | hM3
   ·go_enter Tryz.func75, Tryz.ntmps75
    go_wp2_with (first
     | ((with_reducible refine qA 2 ?_); refine Aw hS rfl _ _ rfl (.agg #[.slice A l.length c]) _ rfl rfl ?_; clear hS; intro g2 w_ hS; (try simp only [Act.put, Act.eval, zz, Value.cells] at hS))
     | ((with_reducible refine qA 4 ?_); refine qa hS #[.slice none 0 0] ?_; clear hS; intro g4 w_ hS)
     | ((with_reducible refine qA 13 ?_); refine DZ hS 1 rfl _ _ rfl g2 rfl _ #[.slice A l.length c] rfl _ Tryz.underlying39 rfl (by kernel_rfl) ?_)
     | (go_at_call 89; refine (CT _ N _ _ _ (HK.out _ _ hS.ro).1).mono ?_; rw [HH.out]; rintro r_ w2 ⟨_, rfl, rfl, hb2⟩; replace hS := hS.ext hb2; clear hb2)
     | ((with_reducible show wpList _ _ _ (⟨_, .makeSlice _ _ _, _, _, _, _⟩ :: _) _ _); refine st_mk hS rfl _ _ _ rfl I2 .i64 .i64 M #[.int .u64 0] (congrArg (Value.int .i64) (by omega)) (congrArg (Value.int .i64) (by omega)) (by kernel_rfl) (by omega) (by omega) ?_; clear hS; intro g5 w_ hS)
     | ((with_reducible show wpList _ _ _ (⟨_, .call { callee := .builtin .copy, args := _, argTypes := _ }, _, _, _, _⟩ :: _) _ _); refine st_ocopy hS 0 rfl _ _ _ _ rfl _ Tryz.underlying37 (by kernel_rfl) g5 M l.length c A rfl rfl rfl (HK.out _ _ hS.ro).2 hM1.1 (u64s_one _) ?_; clear hS; intro w_ hS; simp only [List.set_cons_zero] at hS)
     | ((with_reducible refine qK ?_); refine qC hS ?_)
     | ((with_reducible refine qB ?_); refine qc ?_ ?_ <;> intro h_ <;> go_prune))
    all_goals
     rw [mk_u64s] at hS
     refine Fa 10 [] [.i (.slice (some ⟨g5, 0, none⟩) M M), .n ((m : Nat) : Int), .n (((m : Nat) : Int) / (64 : Int)), .q g5 (0 + (m / 64) * 1), .i (.int .u64 ((x : Nat) : Int)), .n ((m : Nat) : Int), .n (((m : Nat) : Int) % (64 : Int)), .i (.int .u64 ((2 ^ (m % 64) : Nat) : Int)), .i (.int .u64 ((x ||| 2 ^ (m % 64) : Nat) : Int)), .q g5 (0 + (m / 64) * 1), .t] ⟨uM, uM, uB (h := fun w hW hN => run_quo64 (by omega) (by omega)), uI (h := fun w hW hN => Af (m := m / 64) Tryz.underlying37 (by kernel_rfl) (by omega) (by omega)), uC (h := fun w hW hN => by rw [Nat.zero_add, Nat.mul_one]; exact BJ ((hS.ext hW).own 0 rfl) (m / 64) _ HG.out), uM, uB (h := fun w hW hN => GA (by omega) (by omega)), uB (h := fun w hW hN => Ik (by omega)), uB (h := fun w hW hN => GC hx (FU m)), uI (h := fun w hW hN => Af (m := m / 64) Tryz.underlying37 (by kernel_rfl) (by omega) (by omega)), trivial⟩ ?_
     ·intro vs wz hW hT
      obtain ⟨e30, e31, e32, e33, e34, e35, e36, e37, e38, e39, -⟩ := hT
      simp only [Ak, Act.put, zz, ze]
      (intro o_ ho_; simp only [List.getElem?_toArray, List.getElem?_cons_succ, List.getElem?_cons_zero, Option.some.injEq] at ho_; subst ho_)
      refine Ej rfl (g := g5) (i := m / 64) (e39.trans (by rw [Nat.zero_add, Nat.mul_one])) e38 ((hS.ext hW).own 0 rfl) (by omega) rfl rfl (by kernel_rfl) fun w4 h1 hU => ?_
      replace hS := (hS.ext hW).upd 0 rfl (.own (.slice (some ⟨g5, 0, none⟩) M M) 26 1 M (Bo (CG l m))) (by simpa [Ac.blk, Value.ownBlock] using Bh hU) (by rw [HWD.out]; exact h1) fun _ e => .inl e
      simp only [Cz]
      simp only [Act.put, List.setIfInBounds_toArray, List.set_cons_zero, List.set_cons_succ]
      clear e38 e39 h1 hU hW
      go_wp2_with (first | ((with_reducible refine qM ?_); (first | refine qS hS ?_ | refine qT hS ?_); clear hS; intro w_ hS; (try simp only [Act.put, Act.eval, zz, Value.cells] at hS)))
      refine bodyPost_ret (v := .agg #[.slice (some ⟨g5, 0, none⟩) M M]) (by exact results_cell_row rfl _ _ g4 39 _ (0, 0) _ rfl (hS.box 1 rfl) Tryz.underlying39 rfl (by kernel_rfl)) rfl ?_
      exact AF.mk ⟨_, CG l m, rfl, HWN.out.1, HWN.out.2, by rw [HWL.out]; exact (Sl.of_own (hS.own 0 rfl)).imp fun _ h _ => .inr h⟩ hS.below
   ·go_enter Tryz.func75, Tryz.ntmps75
    go_wp2_with (first
     | ((with_reducible refine qA 2 ?_); refine Aw hS rfl _ _ rfl (.agg #[.slice A l.length c]) _ rfl rfl ?_; clear hS; intro g2 w_ hS; (try simp only [Act.put, Act.eval, zz, Value.cells] at hS))
     | ((with_reducible refine qA 4 ?_); refine qa hS #[.slice none 0 0] ?_; clear hS; intro g4 w_ hS)
     | ((with_reducible refine qA 13 ?_); refine DZ hS 1 rfl _ _ rfl g2 rfl _ #[.slice A l.length c] rfl _ Tryz.underlying39 rfl (by kernel_rfl) ?_)
     | (go_at_call 89; refine (CT _ N _ _ _ (HK.out _ _ hS.ro).1).mono ?_; rw [HH.out]; rintro r_ w2 ⟨_, rfl, rfl, hb2⟩; replace hS := hS.ext hb2; clear hb2)
     | ((with_reducible show wpList _ _ _ (⟨_, .makeSlice _ _ _, _, _, _, _⟩ :: _) _ _); refine st_mk hS rfl _ _ _ rfl I2 .i64 .i64 M #[.int .u64 0] (congrArg (Value.int .i64) (by omega)) (congrArg (Value.int .i64) (by omega)) (by kernel_rfl) (by omega) (by omega) ?_; clear hS; intro g5 w_ hS)
     | ((with_reducible show wpList _ _ _ (⟨_, .call { callee := .builtin .copy, args := _, argTypes := _ }, _, _, _, _⟩ :: _) _ _); refine st_ocopy hS 0 rfl _ _ _ _ rfl _ Tryz.underlying37 (by kernel_rfl) g5 M l.length c A rfl rfl rfl (HK.out _ _ hS.ro).2 hM1.1 (u64s_one _) ?_; clear hS; intro w_ hS; simp only [List.set_cons_zero] at hS)
     | ((with_reducible refine qK ?_); refine qC hS ?_)
     | ((with_reducible refine qB ?_); refine qc ?_ ?_ <;> intro h_ <;> go_prune))
    all_goals
     rw [mk_u64s] at hS
     refine Fa 10 [] [.i (.slice (some ⟨g5, 0, none⟩) M M), .n ((m : Nat) : Int), .n (((m : Nat) : Int) / (64 : Int)), .q g5 (0 + (m / 64) * 1), .i (.int .u64 ((x : Nat) : Int)), .n ((m : Nat) : Int), .n (((m : Nat) : Int) % (64 : Int)), .i (.int .u64 ((2 ^ (m % 64) : Nat) : Int)), .i (.int .u64 ((x ||| 2 ^ (m % 64) : Nat) : Int)), .q g5 (0 + (m / 64) * 1), .t] ⟨uM, uM, uB (h := fun w hW hN => run_quo64 (by omega) (by omega)), uI (h := fun w hW hN => Af (m := m / 64) Tryz.underlying37 (by kernel_rfl) (by omega) (by omega)), uC (h := fun w hW hN => by rw [Nat.zero_add, Nat.mul_one]; exact BJ ((hS.ext hW).own 0 rfl) (m / 64) _ HG.out), uM, uB (h := fun w hW hN => GA (by omega) (by omega)), uB (h := fun w hW hN => Ik (by omega)), uB (h := fun w hW hN => GC hx (FU m)), uI (h := fun w hW hN => Af (m := m / 64) Tryz.underlying37 (by kernel_rfl) (by omega) (by omega)), trivial⟩ ?_
     ·intro vs wz hW hT
      obtain ⟨e30, e31, e32, e33, e34, e35, e36, e37, e38, e39, -⟩ := hT
      simp only [Ak, Act.put, zz, ze]
      (intro o_ ho_; simp only [List.getElem?_toArray, List.getElem?_cons_succ, List.getElem?_cons_zero, Option.some.injEq] at ho_; subst ho_)
      refine Ej rfl (g := g5) (i := m / 64) (e39.trans (by rw [Nat.zero_add, Nat.mul_one])) e38 ((hS.ext hW).own 0 rfl) (by omega) rfl rfl (by kernel_rfl) fun w4 h1 hU => ?_
      replace hS := (hS.ext hW).upd 0 rfl (.own (.slice (some ⟨g5, 0, none⟩) M M) 26 1 M (Bo (CG l m))) (by simpa [Ac.blk, Value.ownBlock] using Bh hU) (by rw [HWD.out]; exact h1) fun _ e => .inl e
      simp only [Cz]
      simp only [Act.put, List.setIfInBounds_toArray, List.set_cons_zero, List.set_cons_succ]
      clear e38 e39 h1 hU hW
      go_wp2_with (first | ((with_reducible refine qM ?_); (first | refine qS hS ?_ | refine qT hS ?_); clear hS; intro w_ hS; (try simp only [Act.put, Act.eval, zz, Value.cells] at hS)))
      refine bodyPost_ret (v := .agg #[.slice (some ⟨g5, 0, none⟩) M M]) (by exact results_cell_row rfl _ _ g4 39 _ (0, 0) _ rfl (hS.box 1 rfl) Tryz.underlying39 rfl (by kernel_rfl)) rfl ?_
      exact AF.mk ⟨_, CG l m, rfl, HWN.out.1, HWN.out.2, by rw [HWL.out]; exact (Sl.of_own (hS.own 0 rfl)).imp fun _ h _ => .inr h⟩ hS.below
end
section
open Go.RowKit
set_option maxRecDepth 20000
end
section
open Go.RowKit
set_option maxRecDepth 20000
theorem log2_val {l : List Nat} (hl : Bw l) (h0 : 0 < l.length) : (val l).log2 = 64 * (l.length - 1) + (l.getD (l.length - 1) 0).log2 /\ val l ≠ 0 := by
 have hx := BG hl h0
 have hw := BD hl.1 (l.length - 1)
 have hne : val l ≠ 0 := by
  intro e
  rw [e] at hw
  exact hx (by rw [<- hw]; simp [wd])
 refine ⟨?_, hne⟩
 have hlt : (l.getD (l.length - 1) 0) < AM := hl.1.getD _
 generalize hxe : l.getD (l.length - 1) 0 = x at *
 have hlog : x.log2 < 64 := (Nat.log2_lt hx).2 hlt
 have hb : (val l).testBit (64 * (l.length - 1) + x.log2) = true := by
  rw [B3 hl.1, show (64 * (l.length - 1) + x.log2) / 64 = l.length - 1 by omega, show (64 * (l.length - 1) + x.log2) % 64 = x.log2 by omega, hxe]
  exact Nat.testBit_log2 hx
 have hge : 2 ^ (64 * (l.length - 1) + x.log2) <= val l := Nat.ge_two_pow_of_testBit hb
 have hup : val l < 2 ^ (64 * (l.length - 1) + x.log2 + 1) := by
  apply Nat.lt_pow_two_of_testBit
  intro i hi
  rw [B3 hl.1]
  by_cases hq : i / 64 = l.length - 1
  ·rw [hq, hxe]
   apply Nat.testBit_lt_two_pow
   exact Nat.lt_of_lt_of_le (Nat.lt_log2_self) (Nat.pow_le_pow_right (by decide) (by omega))
  ·rw [List.getD_eq_getElem?_getD, List.getElem?_eq_none (by omega)]; simp
 have h1 : (val l).log2 < 64 * (l.length - 1) + x.log2 + 1 := (Nat.log2_lt hne).2 hup
 have h2 : 64 * (l.length - 1) + x.log2 <= (val l).log2 := (Nat.le_log2 hne).2 hge
 omega
theorem bitLen_log2 {x : Nat} (h : x < AM) (h0 : x ≠ 0) : Lib.bitLen x = x.log2 + 1 := by
 obtain ⟨h1, h2, h3⟩ := Go.Lib.bitLenAux_bounds 64 x h h0
 unfold Lib.bitLen
 have h4 : x.log2 < Lib.bitLenAux 64 x := (Nat.log2_lt h0).2 h3
 have h5 : Lib.bitLenAux 64 x - 1 <= x.log2 := (Nat.le_log2 h0).2 h2
 omega
def gtst (N : Nat) : Value := .tuple #[.int .i64 ((if N = 0 then 0 else N.log2 : Nat) : Int), .bool (N != 0)]
end
section
open Go.RowKit
set_option maxRecDepth 20000
end
section
open Go.RowKit
set_option maxRecDepth 20000
end
section
open Go.RowKit
attribute [local go_sem ↓] Go.wp_at_zero Go.wp_at_succ
set_option maxRecDepth 20000
def rotl (x n : Nat) : Nat := (x * 2 ^ n) % AM ||| x / 2 ^ (64 - n)
theorem wrap_u64 (m : Nat) : IntKind.u64.wrap (m : Int) = ((m % AM : Nat) : Int) := by
 simp [IntKind.wrap, IntKind.signed, IntKind.bits, AM]
def roundsL : List Nat := [1, 32898, 9223372036854808714, 9223372039002292224, 32907, 2147483649, 9223372039002292353, 9223372036854808585, 138, 136, 2147516425, 2147483658, 2147516555, 9223372036854775947, 9223372036854808713, 9223372036854808579, 9223372036854808578, 9223372036854775936, 32778, 9223372039002259466, 9223372039002292353, 9223372036854808704, 2147483649, 9223372039002292232]
def turnsL : List Nat := [0, 1, 62, 28, 27, 36, 44, 6, 55, 20, 3, 10, 43, 25, 39, 41, 45, 15, 21, 8, 18, 2, 61, 56, 14]
def BoxF (w : World) (b : Nat) (t : TypeId × (Nat × Nat)) (cs : Array Value) : Prop := w.heap[b]? = some (.cells cs t.1 t.2)
section
variable {w w' : World} {b : Nat} {t : TypeId × (Nat × Nat)} {cs : Array Value}
theorem BoxF.cell (h : BoxF w b t cs) (i : Nat) : w.cell? ⟨b, i, none⟩ = cs[i]? := cell_of_row w b i cs t.1 t.2 h
end
section
variable {w : World} {b : Nat} {t : TypeId} {a : List Nat} {rest : List Value}
end
def kc (a : List Nat) (x : Nat) : Nat := (((a.getD x 0 ^^^ a.getD (x + 5) 0) ^^^ a.getD (x + 10) 0) ^^^ a.getD (x + 15) 0) ^^^ a.getD (x + 20) 0
def kd (c : List Nat) (x : Nat) : Nat := c.getD ((x + 4) % 5) 0 ^^^ rotl (c.getD ((x + 1) % 5) 0) 1
def kbAt (a c : List Nat) (x : Nat) (b : List Nat) (y : Nat) : List Nat := b.set (y + 5 * ((2 * x + 3 * y) % 5)) (rotl (a.getD (x + 5 * y) 0 ^^^ kd c x) (turnsL.getD (x + 5 * y) 0))
def kbRow (a c : List Nat) (b : List Nat) (x : Nat) (k : Nat) : List Nat := (List.range k).foldl (kbAt a c x) b
def kbTo (a c : List Nat) (k : Nat) : List Nat := (List.range k).foldl (fun b x => kbRow a c b x 5) (List.replicate 25 0)
def ka (b : List Nat) (i : Nat) : Nat := b.getD i 0 ^^^ (BH (b.getD ((i % 5 + 1) % 5 + i / 5 * 5) 0) &&& b.getD ((i % 5 + 2) % 5 + i / 5 * 5) 0)
def mixTo (f : Nat -> Nat) (a : List Nat) (k : Nat) : List Nat := (List.range 25).map fun j => if j < k then f j else a.getD j 0
def kround (a : List Nat) (c : Nat) : List Nat :=
 let b := kbTo a ((List.range 5).map (kc a)) 5
 ((List.range 25).map (ka b)).set 0 (ka b 0 ^^^ c)
def perm (a : List Nat) : List Nat := roundsL.foldl kround a
end
section
open Go.RowKit
attribute [local go_sem ↓] Go.wp_at_zero Go.wp_at_succ
set_option maxRecDepth 20000
def Eu (y : Nat) : List Nat := (List.range 64).filter fun i => y.testBit i
theorem GG (y : Nat) (h : y ≠ 0) : ∃ t m, y = 2 ^ t * (2 * m + 1) := by
 induction y using Nat.strongRecOn with
 | _ y ih =>
  rcases Nat.mod_two_eq_zero_or_one y with h2 | h2
  ·obtain ⟨t, m, e⟩ := ih (y / 2) (by omega) (by omega)
   refine ⟨t + 1, m, ?_⟩
   rw [Nat.pow_succ, Nat.mul_right_comm, <- e]; omega
  ·exact ⟨0, y / 2, by simp; omega⟩
theorem tb_odd (t m i : Nat) : (2 ^ t * (2 * m + 1)).testBit i = (decide (t <= i) && (2 * m + 1).testBit (i - t)) := Nat.testBit_two_pow_mul
theorem tb_at (t m : Nat) : (2 ^ t * (2 * m + 1)).testBit t = true := by rw [tb_odd]; simp
theorem tb_lo (t m i : Nat) (h : i < t) : (2 ^ t * (2 * m + 1)).testBit i = false := by rw [tb_odd]; simp; omega
theorem tb_hi (t m i : Nat) (h : t < i) : (2 ^ t * (2 * m + 1)).testBit i = m.testBit (i - t - 1) := by
 rw [tb_odd, show i - t = (i - t - 1) + 1 by omega, Nat.testBit_succ]
 simp; rw [show (2 * m + 1) / 2 = m by omega, show decide (t <= i) = true by simp; omega, Bool.true_and]
theorem pred_eq (t m : Nat) : 2 ^ t * (2 * m + 1) - 1 = 2 ^ (t + 1) * m + (2 ^ t - 1) := by
 have := Nat.two_pow_pos t
 rw [Nat.pow_succ, Nat.mul_add, Nat.mul_one, Nat.mul_assoc]; omega
theorem pb_at (t m : Nat) : (2 ^ t * (2 * m + 1) - 1).testBit t = false := by
 rw [pred_eq, Nat.testBit_two_pow_mul_add _ (by have := Nat.two_pow_pos t; rw [Nat.pow_succ]; omega), if_pos (by omega), Nat.testBit_two_pow_sub_one]; simp
theorem pb_hi (t m i : Nat) (h : t < i) : (2 ^ t * (2 * m + 1) - 1).testBit i = m.testBit (i - t - 1) := by
 rw [pred_eq, Nat.testBit_two_pow_mul_add _ (by have := Nat.two_pow_pos t; rw [Nat.pow_succ]; omega), if_neg (by omega)]; congr 1
theorem odd_lt {t m : Nat} (h : 2 ^ t * (2 * m + 1) < AM) : t < 64 := by
 rcases Nat.lt_or_ge t 64 with h1 | h1
 ·exact h1
 ·have h2 : 2 ^ 64 <= 2 ^ t := Nat.pow_le_pow_right (by decide) h1
  have h3 : 2 ^ t * 1 <= 2 ^ t * (2 * m + 1) := Nat.mul_le_mul_left _ (by omega)
  rw [Cq] at h; omega
theorem dropLow_bit (t m i : Nat) : (2 ^ t * (2 * m + 1) &&& (2 ^ t * (2 * m + 1) - 1)).testBit i = ((2 ^ t * (2 * m + 1)).testBit i && decide (i ≠ t)) := by
 rw [Nat.testBit_and]
 rcases Nat.lt_trichotomy i t with h | h | h
 ·rw [tb_lo _ _ _ h]; simp
 ·subst h; rw [pb_at]; simp
 ·rw [tb_hi _ _ _ h, pb_hi _ _ _ h]; simp; intro _; omega
theorem range_part {t : Nat} (h : t < 64) : List.range 64 = List.range t ++ t :: (List.range (63 - t)).map (t + 1 + ·) := by
 apply List.ext_getElem
 ·simp; omega
 ·intro i h1 h2
  simp only [List.getElem_range, List.getElem_append, List.getElem_cons, List.getElem_map, List.length_range]
  split
  ·rfl
  ·split
   ·omega
   ·omega
theorem bitsW_odd {t m : Nat} (h : 2 ^ t * (2 * m + 1) < AM) : Eu (2 ^ t * (2 * m + 1)) = t :: Eu (2 ^ t * (2 * m + 1) &&& (2 ^ t * (2 * m + 1) - 1)) := by
 have ht := odd_lt h
 unfold Eu
 rw [range_part ht]
 simp only [List.filter_append, List.filter_cons, tb_at, dropLow_bit]
 have h1 : (List.range t).filter (fun i => (2 ^ t * (2 * m + 1)).testBit i) = [] := by
  rw [List.filter_eq_nil_iff]; intro i hi; rw [tb_lo _ _ _ (List.mem_range.1 hi)]; simp
 have h2 : (List.range t).filter (fun i => (2 ^ t * (2 * m + 1)).testBit i && decide (i ≠ t)) = [] := by
  rw [List.filter_eq_nil_iff]; intro i hi; rw [tb_lo _ _ _ (List.mem_range.1 hi)]; simp
 rw [h1, h2]
 simp
 rw [List.filter_map, List.filter_map]
 congr 1
 apply List.filter_congr
 intro i _
 simp; intro _; omega
theorem IP : Eu 0 = [] := by simp [Eu]
def DX (y : Nat) : Nat := (Eu y).headD 64
theorem tzN_odd {t m : Nat} (h : 2 ^ t * (2 * m + 1) < AM) : DX (2 ^ t * (2 * m + 1)) = t := by unfold DX; rw [bitsW_odd h]; rfl
theorem IQ {y : Nat} (h : y < AM) (h0 : y ≠ 0) : Eu y = DX y :: Eu (y &&& (y - 1)) := by
 obtain ⟨t, m, rfl⟩ := GG y h0
 rw [tzN_odd h]; exact bitsW_odd h
theorem tzN_lt {y : Nat} (h : y < AM) (h0 : y ≠ 0) : DX y < 64 := by
 obtain ⟨t, m, rfl⟩ := GG y h0
 rw [tzN_odd h]; exact odd_lt h
theorem IM {y : Nat} (h : y < AM) (h0 : y ≠ 0) : y &&& (y - 1) < y := by
 have : y &&& (y - 1) <= y - 1 := Nat.and_le_right
 omega
theorem low_pow {y : Nat} (h : y < AM) (h0 : y ≠ 0) : y &&& (AM - y) = 2 ^ DX y := by
 obtain ⟨t, m, rfl⟩ := GG y h0
 rw [tzN_odd h]
 have ht := odd_lt h
 have hy : 0 < 2 ^ t * (2 * m + 1) := by omega
 have e : AM - 2 ^ t * (2 * m + 1) = 2 ^ 64 - ((2 ^ t * (2 * m + 1) - 1) + 1) := by rw [Cq]; omega
 apply Nat.eq_of_testBit_eq
 intro i
 rw [Nat.testBit_and, e, Nat.testBit_two_pow_sub_succ (by rw [Cq] at h; omega), Nat.testBit_two_pow]
 rcases Nat.lt_trichotomy i t with hi | hi | hi
 ·rw [tb_lo _ _ _ hi]; simp; omega
 ·subst hi; rw [tb_at, pb_at]; simp [ht]
 ·rw [tb_hi _ _ _ hi, pb_hi _ _ _ hi]
  cases m.testBit (i - t - 1) <;> simp <;> omega
def dbL : List Nat := [0, 1, 56, 2, 57, 49, 28, 3, 61, 58, 42, 50, 38, 29, 17, 4, 62, 47, 59, 36, 45, 43, 51, 22, 53, 39, 33, 30, 24, 18, 12, 5, 63, 55, 48, 27, 60, 41, 37, 16, 46, 35, 44, 21, 52, 32, 23, 11, 54, 26, 40, 15, 34, 20, 31, 10, 25, 14, 19, 9, 13, 8, 7, 6]
def Bl (w : World) : Prop := ∀ q, q < 64 -> w.cell? ⟨0, q, none⟩ = some (.int .u8 (dbL.getD q 0 : Nat))
theorem Bl.ext {w w' : World} (h : Bl w) (hb : Below w.heap.size w w') : Bl w' := fun q hq => by
 have hl : 0 < w.heap.size := by
  rcases Nat.lt_or_ge 0 w.heap.size with h' | h'
  ·exact h'
  ·have := h q hq
   simp [World.cell?, Array.getElem?_eq_none h'] at this
 exact (hb.cell (p := ⟨0, q, none⟩) hl).trans (h q hq)
theorem db_all : ∀ t, t < 64 -> dbL.getD (2 ^ t * 285870213051353865 % 18446744073709551616 / 2 ^ 58) 0 = t /\ 2 ^ t * 285870213051353865 % 18446744073709551616 / 2 ^ 58 < 64 := by decide
theorem shr_nat (x k : Nat) : (x : Int) / 2 ^ k = ((x / 2 ^ k : Nat) : Int) := by simp
theorem wrap_nat (x : Nat) : IntKind.u64.wrap (x : Int) = ((x % 18446744073709551616 : Nat) : Int) := by rw [IntKind.wrap_u64]; simp
theorem wrap_neg {y : Nat} (h : y < AM) (h0 : y ≠ 0) : IntKind.u64.wrap (-(y : Int)) = ((AM - y : Nat) : Int) := by
 rw [IntKind.wrap_u64]; unfold AM at *; omega
theorem run_mul_db (p : Nat) (w : World) : (binOp .mul 26 (.int .u64 (p : Nat)) (.int .u64 285870213051353865)).run Tryz.prog w = .ok (.int .u64 (p * 285870213051353865 % 18446744073709551616 : Nat)) w := by
 have e3 : IntKind.u64.wrap ((p : Int) * 285870213051353865) = ((p * 285870213051353865 % 18446744073709551616 : Nat) : Int) := by rw [<- wrap_nat]; simp
 simp only [binOp, Op.intArith, ne_eq, not_true_eq_false, if_false, e3]
 rfl
theorem run_shr58 (r : Nat) (w : World) : (binOp .shr 26 (.int .u64 (r : Nat)) (.int .u64 58)).run Tryz.prog w = .ok (.int .u64 (r / 2 ^ 58 : Nat)) w := by
 rw [binOp_shr, shift_shr _ _ _ _ (by decide) (by decide)]
 have e4 : (r : Int) / 2 ^ (58 : Int).toNat = ((r / 2 ^ 58 : Nat) : Int) := by
  rw [show (58 : Int).toNat = 58 from rfl]; exact shr_nat r 58
 rw [e4]
 rfl
theorem run_dbidx (q : Nat) (hq : q < 64) (w : World) : (Instr.indexAt 225 (.pointer (some ⟨0, 0, none⟩)) (.int .u64 (q : Nat))).run Tryz.prog w = .ok (.pointer (some ⟨0, q, none⟩)) w := by
 have h : (0 : Int) <= q /\ (q : Int) < 64 := by omega
 go_simp
theorem tz_any (y : Nat) (hy : y < AM) (w : World) (hT : Bl w) :
  Calls Tryz.prog 143 #[.int .u64 y] w fun e w' => e = .returned (.int .i64 (DX y : Nat)) /\ w = w' := by
 by_cases h0 : y = 0
 ·subst h0
  go_enter Tryz.func143, Tryz.ntmps143
  go_wp2_with (first | ((with_reducible refine qB ?_); refine qc ?_ ?_ <;> intro h_ <;> go_prune))
  go_ret
  exact ⟨rfl, rfl⟩
 ·have e1 := wrap_neg hy h0
  have e2 := IY hy (b := AM - y) (by unfold AM; omega)
  rw [low_pow hy h0] at e2
  have ht := tzN_lt hy h0
  obtain ⟨d1, d2⟩ := db_all _ ht
  obtain ⟨p, hp⟩ : ∃ p, p = 2 ^ DX y := ⟨_, rfl⟩
  rw [<- hp] at d1 d2 e2
  clear hp
  have e3 := run_mul_db p w
  generalize p * 285870213051353865 % 18446744073709551616 = r at *
  have E3 := Lib.hid e3
  clear e3
  have E4 := Lib.hid (run_shr58 r w)
  generalize r / 2 ^ 58 = q at *
  have hc := hT q d2
  rw [d1] at hc
  have E5 := Lib.hid (run_dbidx q d2 w)
  have HC := Lib.hid hc
  clear hc
  have hw : IntKind.i64.wrap ((DX y : Nat) : Int) = ((DX y : Nat) : Int) := by rw [IntKind.wrap_i64]; omega
  have h0' : ((y : Int) == 0) = false := by simp; omega
  generalize DX y = z at *
  clear h0 hT d1
  go_enter Tryz.func143, Tryz.ntmps143
  go_wp2_with (first | ((with_reducible refine qA 9 ?_); refine BigFrame.wpList_want rfl (fun _ hK => AE rfl rfl rfl rfl E3.out (hK _ _ ?_))) | ((with_reducible refine qA 10 ?_); refine BigFrame.wpList_want rfl (fun _ hK => AE rfl rfl rfl rfl E4.out (hK _ _ ?_))) | ((with_reducible refine qA 11 ?_); refine BigFrame.wpList_want rfl (fun _ hK => Cy rfl rfl rfl E5.out (hK _ _ ?_))) | ((with_reducible refine qA 12 ?_); refine BigFrame.wpList_want rfl (fun _ hK => Az rfl rfl (by decide +kernel) HC.out (hK _ _ ?_))))
  go_ret
  exact ⟨rfl, rfl⟩
theorem andI127 (v : Int) : ∃ n : Nat, n <= 127 /\ bits .and .i64 v 127 = (n : Int) := by
 have h : (BitVec.ofInt 64 v &&& BitVec.ofInt 64 127).toNat <= 127 := by
  rw [BitVec.toNat_and]; exact Nat.le_trans Nat.and_le_right (by decide)
 refine ⟨_, h, ?_⟩
 have e : bits .and .i64 v 127 = IntKind.i64.wrap ((BitVec.ofInt 64 v &&& BitVec.ofInt 64 127).toNat : Int) := rfl
 generalize (BitVec.ofInt 64 v &&& BitVec.ofInt 64 127).toNat = z at *
 rw [e, IntKind.wrap_i64]; omega
section
variable {P : Program} {ops : Array Oper} {rest : List Oper} {o : Oper} {a : Act} {w : World} {Q : Exit -> Act -> World -> Prop}
theorem st_num {op : BinOp} (hg : Region.wanted o (yielded ops a.tmps) = true) (t t2 : TypeId) (x y : Operand) (ho : o.op = .binOp op t x y t2) (hop : op = .add \/ op = .and \/ op = .shr) (k k2 : IntKind) (m n : Int) (hx : a.eval x = .int k m) (hy : a.eval y = .int k2 n) (hk2 : op = .shr \/ k = k2) (hs : op = .shr -> 0 <= n /\ n <= k.bits)
  (hk : ∀ v : Int, wpList P ops Q rest (a.put o.dst (.int k v)) w) : wpList P ops Q (o :: rest) a w := by
 have : ∃ v : Int, (binOp op t (.int k m) (.int k2 n)).run P w = .ok (.int k v) w := by
  rcases hop with rfl | rfl | rfl
  ·obtain rfl := hk2.resolve_left (by decide)
   exact ⟨_, by simp [binOp, Op.intArith]; rfl⟩
  ·obtain rfl := hk2.resolve_left (by decide)
   exact ⟨_, by simp [binOp, Op.intBits]; rfl⟩
  ·exact ⟨_, by rw [binOp_shr, shift_shr _ _ _ _ (hs rfl).1 (hs rfl).2]; rfl⟩
 obtain ⟨v, hv⟩ := this
 exact BigFrame.wpList_want hg fun _ hK => AE ho hx hy (by simp [eqGuard]) hv (hK _ _ (hk v))
end
theorem ones_any (y : Nat) (w : World) : Calls Tryz.prog 193 #[.int .u64 y] w fun e w' => (∃ n : Nat, n <= 127 /\ e = .returned (.int .i64 n)) /\ w = w' := by
 have HB := Lib.hid andI127
 go_enter Tryz.func193, Tryz.ntmps193
 go_wp2_with (first
  | ((with_reducible refine qb .add ?_); refine st_num rfl _ _ _ _ rfl (.inl rfl) _ _ _ _ rfl rfl (.inr rfl) (fun h => by cases h) ?_; intro z_)
  | ((with_reducible show wpList _ _ _ (⟨_, .binOp .and 26 _ _ _, _, _, _, _⟩ :: _) _ _); refine st_num rfl _ _ _ _ rfl (.inr (.inl rfl)) _ _ _ _ rfl rfl (.inr rfl) (fun h => by cases h) ?_; intro z_)
  | ((with_reducible refine qb .shr ?_); refine st_num rfl _ _ _ _ rfl (.inr (.inr rfl)) _ _ _ _ rfl rfl (.inl rfl) (fun _ => by decide) ?_; intro z_))
 go_ret
 obtain ⟨n, h1, h2⟩ := HB.out (wrap64 z_)
 exact ⟨⟨n, h1, by rw [<- h2]; rfl⟩, rfl⟩
theorem len_any (v : Value) (N : Nat) (D : Nat -> Prop) (w0 : World) (hv : Aa w0 D v N) :
  Calls Tryz.prog 149 #[v] w0 (AF (fun x _ => ∃ n : Nat, n <= 8128 /\ x = .int .i64 n) w0) := by
 obtain ⟨A, c, l, rfl, hl, rfl, _, _, hs⟩ := hv.parts
 obtain ⟨K, k1, hS⟩ : ∃ K, (∀ D w, K D w -> Sl w D 1 (.slice A l.length c) l.length (Bo l)) /\ St w0 w0 [] K := ⟨_, fun _ _ h => h, St.start Av hs⟩
 have hl64 := hl.2.2
 clear hs hv hl
 go_enter Tryz.func149, Tryz.ntmps149
 go_wp2_with (first | ((with_reducible refine qA 1 ?_); refine Aw hS rfl _ _ rfl _ _ rfl rfl ?_; clear hS; intro g w_ hS; (try simp only [Act.put, Act.eval, zz, Value.cells] at hS)) | ((with_reducible refine qK ?_); refine qC hS ?_) | ((with_reducible refine qB ?_); refine qc ?_ ?_ <;> intro h_ <;> go_prune))
 go_loopw [3, 9] (fun s i wr => ∃ k n : Nat, k <= l.length /\ i = .int .i64 k /\ n <= 127 * k /\ s = .int .i64 n /\ St w0 wr [.box g 39 #[.slice A l.length c]] K) (fun _ i _ => l.length - (intOf i).toNat)
 case atStart => exact ⟨0, 0, by omega, rfl, by omega, rfl, hS⟩
 case round =>
  obtain ⟨k, n, hk, rfl, hn, rfl, hS⟩ := hrel
  by_cases hlt : k < l.length
  ·have f1 := Cr l k hlt
   generalize l.getD k 0 = x at *
   go_wp2_with (first | ((with_reducible refine qK ?_); refine qC hS ?_) | ((with_reducible refine qB ?_); refine qc ?_ ?_ <;> intro h_ <;> go_prune) | ((with_reducible refine qI ?_); refine Gx hS rfl _ _ _ rfl _ rfl rfl (by assumption) Tryz.underlying37 (by kernel_rfl) (by first | assumption | omega) _ (by assumption) ?_; intro p_ hc_) | (go_at_call 193; refine (ones_any x _).mono ?_; rintro e w2 ⟨⟨m, hm, rfl⟩, rfl⟩))
   exact ⟨⟨k + 1, n + m, hlt, by go_num, by omega, by go_num, hS⟩, by simp [intOf]; omega⟩
  ·obtain rfl : k = l.length := by omega
   go_wp2_with (first | ((with_reducible refine qK ?_); refine qC hS ?_) | ((with_reducible refine qB ?_); refine qc ?_ ?_ <;> intro h_ <;> go_prune))
   go_ret
   exact AF.mk ⟨n, by omega, rfl⟩ hS.below
end
section
open Go.RowKit Go.Shelf
attribute [local go_sem] Oper.semAt_some
set_option maxRecDepth 100000
theorem IA {ws : List Nat} (hw : AW ws) (k : Nat) : Bp (val ws) (64 * (k + 1)) = Bp (val ws) (64 * k) ++ (Eu (ws.getD k 0)).map (64 * k + ·) := by
 unfold Bp Eu
 rw [show 64 * (k + 1) = 64 * k + 64 by omega, List.range_add, List.filter_append, List.filter_map]
 congr 2
 apply List.filter_congr
 intro i hi
 have hi := List.mem_range.1 hi
 simp only [Function.comp]
 rw [B3 hw, show (64 * k + i) / 64 = k by omega, show (64 * k + i) % 64 = i by omega]
theorem IB (N : Nat) {j k : Nat} (h : j <= k) : (Bp N j).length <= (Bp N k).length := by
 obtain ⟨d, rfl⟩ := Nat.exists_eq_add_of_le h
 unfold Bp
 rw [List.range_add, List.filter_append]; simp
def AV (ws : List Nat) : List Int := Ae (Bp (val ws) (64 * ws.length))
theorem DN {w : World} {p : Addr} {x : Value} (h : w.cell? p = some x) : p.block < w.heap.size := by
 rcases Nat.lt_or_ge p.block w.heap.size with h' | h'
 ·exact h'
 ·simp [World.cell?, Array.getElem?_eq_none h'] at h
theorem Ds {w w' : World} (hb : Below w.heap.size w w') {p : Addr} {x : Value} (h : w.cell? p = some x) : w'.cell? p = some x := (hb.cell (DN h)).trans h
structure CV (Bs : Nat) (A : Option Addr) (cap : Nat) (ws : List Nat) (W : World) : Prop where
 box : W.cell? ⟨Bs, 0, none⟩ = some (.slice A ws.length cap)
 some_ : 0 < ws.length -> ∃ b off, A = some ⟨b, off, none⟩ /\ ∀ j, j < ws.length -> W.cell? ⟨b, off + j, none⟩ = some (.int .u64 (ws.getD j 0 : Nat))
 tab : Bl W
set_option maxHeartbeats 2000000 in
theorem all1_in (l Bs cap : Nat) (A : Option Addr) (ws : List Nat) (hw : AW ws) (hlen : ws.length <= 64) (J Jx : List Int -> World -> Prop)
  (hY : ∀ pre x W, J pre W -> pre.length < (AV ws).length -> pre ++ [x] <+: AV ws -> YieldAt Fence.wide 4 Tryz.prog l #[.int .i64 x] W fun e W' =>
   (e = .returned (.bool true) /\ J (pre ++ [x]) W' /\ (CV Bs A cap ws W -> CV Bs A cap ws W')) \/ (e = .returned (.bool false) /\ Jx (pre ++ [x]) W'))
  (W : World) (hG : CV Bs A cap ws W) (h0 : J [] W) :
  CallsIn Fence.wide 5 Tryz.prog 142 #[.func (.yield l) #[] #[], .pointer (some ⟨Bs, 0, none⟩)] W fun e W' => (∃ v, e = .returned v) /\
   ((∃ ys, ys = AV ws /\ J ys W') \/ (∃ pre, pre <+: AV ws /\ Jx pre W')) := by
 have hBs := hG.box
 have HG := Lib.hid hG
 clear hG
 refine callsIn_of_wp Tryz.func142 rfl trivial ?_ rfl
 simp only [Tryz.ntmps142, List.size_toArray, List.length_cons, List.length_nil, Nat.reduceAdd, Nat.reduceSub, Array.replicate_succ, Array.replicate_zero, List.push_toArray, List.append_toArray, List.nil_append, List.cons_append]
 gi_wp2
 gi_loopw [8] (fun i wr => ∃ k : Nat, k <= ws.length /\ i = .int .i64 k /\ J (Ae (Bp (val ws) (64 * k))) wr /\ Hid (CV Bs A cap ws wr)) (fun i _ => ws.length - (intOf i).toNat)
 case atStart => exact ⟨0, Nat.zero_le _, rfl, h0, HG⟩
 case round =>
  obtain ⟨k, hk, rfl, hJs, hnx⟩ := hrel
  by_cases hlt : k < ws.length
  ·obtain ⟨b, off, rfl, hc⟩ := hnx.out.some_ (by omega)
   have hcx := hc k hlt
   have HC := Lib.hid hc
   clear hc
   have hx := hw.getD k
   have HM := Lib.hid (IA hw k)
   have HL := Lib.hid (IB (val ws) (show 64 * (k + 1) <= 64 * ws.length by omega))
   generalize ws.getD k 0 = x at *
   gi_wp2
   gi_loopw [4] (fun yv wr => ∃ (y : Nat) (pre : List Nat), yv = .int .u64 y /\ y < AM /\ J (Ae pre) wr /\ Hid (CV Bs (some ⟨b, off, none⟩) cap ws wr) /\ Hid (pre ++ (Eu y).map (64 * k + ·) = Bp (val ws) (64 * (k + 1)))) (fun yv _ => (intOf yv).toNat)
   case atStart => exact ⟨x, _, rfl, hx, hJs, hnx, Lib.hid HM.out.symm⟩
   case round =>
    obtain ⟨y, pre, rfl, hy, hJs, hnx, hP⟩ := hrel
    by_cases h0 : y = 0
    ·subst h0
     have hP' : pre = Bp (val ws) (64 * (k + 1)) := by have := hP.out; simpa [IP] using this
     subst hP'
     gi_wp2
     exact ⟨⟨k + 1, hlt, by go_num, hJs, hnx⟩, by simp [intOf]; omega⟩
    ·have hP2 := hP.out
     rw [IQ hy h0] at hP2
     have hl2 := congrArg List.length hP2
     simp only [List.length_append, List.map_cons, List.length_cons] at hl2
     have hlm := HL.out
     have HPF := Lib.hid (show Ae (pre ++ [64 * k + DX y]) <+: AV ws by
      have h1 : Bp (val ws) (64 * (k + 1)) <+: Bp (val ws) (64 * ws.length) := by
       unfold Bp
       obtain ⟨d, hd⟩ := Nat.exists_eq_add_of_le (show 64 * (k + 1) <= 64 * ws.length by omega)
       rw [hd, List.range_add, List.filter_append]
       exact List.prefix_append _ _
      have h2 : pre ++ [64 * k + DX y] <+: Bp (val ws) (64 * (k + 1)) := by
       rw [<- hP2]
       exact ⟨_, by rw [List.append_assoc]; rfl⟩
      exact (h2.trans h1).map _)
     have hpre0 : Ae pre ++ [64 * (k : Int) + (DX y : Nat)] = Ae (pre ++ [64 * k + DX y]) := by simp [Ae]
     obtain ⟨fn, tmps, assign, body, hyy, hR⟩ := hY (Ae pre) (64 * (k : Int) + (DX y : Nat)) wr hJs (by simp only [AV, Ae, List.length_map]; omega) (by rw [hpre0]; exact HPF.out)
     clear hpre0
     have hTr := Lib.hid hnx.out.tab
     have ht := tzN_lt hy h0
     have e1 : IntKind.u64.wrap ((y : Int) - 1) = ((y - 1 : Nat) : Int) := by rw [IntKind.wrap_u64]; unfold AM at hy; omega
     have e2 := IY hy (b := y - 1) (by omega)
     have e3 := IM hy h0
     have hne : ((y : Int) != 0) = true := by simp; omega
     have HP3 := Lib.hid hP2
     clear hP2 hl2
     gi_wp2
     refine ⟨trivial, ?_⟩
     refine (callsIn_wide.2 (tz_any y hy wr hTr.out)).mono ?_
     rintro e w' ⟨rfl, rfl⟩
     gi_wp2
     refine hR.mono ?_
     have hpre : Ae pre ++ [64 * (k : Int) + (DX y : Nat)] = Ae (pre ++ [64 * k + DX y]) := by simp [Ae]
     rw [hpre]
     rintro e W3 (⟨rfl, hJ3, hk3⟩ | ⟨rfl, hJx3⟩)
     ·gi_wp2
      exact ⟨⟨y &&& (y - 1), pre ++ [64 * k + DX y], rfl, Nat.lt_trans e3 hy, hJ3, Lib.hid (hk3 hnx.out), Lib.hid (by rw [List.append_assoc]; exact HP3.out)⟩, by simp [intOf]; exact e3⟩
     ·gi_wp2
      refine bodyPost_ret (results_none rfl _ _ _) rfl ?_
      exact ⟨⟨_, rfl⟩, .inr ⟨_, HPF.out, hJx3⟩⟩
  ·obtain rfl : k = ws.length := by omega
   gi_wp2
   go_end0
   exact ⟨⟨_, rfl⟩, .inl ⟨_, rfl, hJs⟩⟩
set_option maxHeartbeats 1000000 in
theorem E6 (v : Value) (N : Nat) (D : Nat -> Prop) (w : World) (hv : Aa w D v N) :
  Calls Tryz.prog 72 #[v] w (AF (fun x w' => ∃ Bs A cap ws, x = .func (.func 142) #[] #[.pointer (some ⟨Bs, 0, none⟩)] /\ v = .agg #[.slice A ws.length cap] /\ Bw ws /\ val ws = N /\ Sl w D 1 (.slice A ws.length cap) ws.length (Bo ws) /\ w.heap.size <= Bs /\ BS w' Bs 39 #[.slice A ws.length cap]) w) := by
 obtain ⟨A, c, l, rfl, hl, rfl, _, _, hs⟩ := hv.parts
 have hS := St.start0 (w := w)
 go_enter Tryz.func72, Tryz.ntmps72
 go_wp2_with ((with_reducible refine qA 1 ?_); refine CA rfl _ _ rfl _ _ rfl rfl ?_; intro w1 hX hB)
 go_ret
 exact AF.mk ⟨_, A, c, l, rfl, rfl, hl, rfl, hs, Nat.le_refl _, hX⟩ hB
theorem all_stops (Bs cap : Nat) (A : Option Addr) (ws : List Nat) (hw : AW ws) (hlen : ws.length <= 64) (w : World) (hG : CV Bs A cap ws w) :
  SeqStopsK Fence.wide 5 Tryz.prog 142 #[.pointer (some ⟨Bs, 0, none⟩)] (fun x : Int => #[Value.int .i64 x]) (fun U V => CV Bs A cap ws U -> CV Bs A cap ws V) (fun ys => ys = AV ws) (fun pre => pre <+: AV ws) (AV ws).length w := by
 intro l J Jx W hW _ _ hY h0
 refine all1_in l Bs cap A ws hw hlen J Jx (fun pre x W h1 h2 _ => hY pre x W h1 h2) W ⟨?_, fun h => ?_, hG.tab.ext hW⟩ h0
 ·exact Ds hW hG.box
 ·obtain ⟨b, off, e, hc⟩ := hG.some_ h
  exact ⟨b, off, e, fun j hj => Ds hW (hc j hj)⟩
def Ac.cells : Ac -> Bool
 | .obj _ _ => false
 | _ => true
theorem St.turn {w0 w w' : World} {F : List Ac} {K : (Nat -> Prop) -> World -> Prop} {row : Option Nat} (h : St w0 w F K) (hg : w.grownBy w' row) (hr : ∀ r, row = some r -> w0.heap.size <= r /\ ∃ o : Obj, w.heap[r]? = some o /\ o.isCells = false) (hF : ∀ f ∈ F, f.cells = true) : St w0 w' F K := by
 have hne : ∀ (p : Addr) (x : Value), w.cell? p = some x -> row ≠ some p.block := by
  rintro p x hc e
  obtain ⟨_, o, ho, hn⟩ := hr _ e
  simp only [World.cell?, ho] at hc
  cases o <;> simp_all [Obj.isCells]
 refine ⟨h.below.grown hg h.size (fun k e => (hr k e).1), fun f hf => ?_, h.apart, h.stable, h.stable _ _ _ _ h.ro hg.size (fun p x _ hl hc => ?_) fun _ h _ _ => h⟩
 ·refine Ac.kept (h.holds f hf) hg fun k hk e => ?_
  obtain ⟨_, o, ho, hn⟩ := hr k e
  have hh := h.holds f hf
  cases f with
  | box g t cs =>
   injection hk with hk; subst hk
   have := hh.2
   unfold BS at this
   rw [this] at ho; injection ho with ho; subst ho; simp [Obj.isCells] at hn
  | own v e' size n xs =>
   obtain ⟨cs, fr, h1⟩ := Iu hh k hk
   rw [h1] at ho; injection ho with ho; subst ho; simp [Obj.isCells] at hn
  | obj g o => exact absurd (hF _ hf) (by simp [Ac.cells])
 ·exact (World.cell?_of_block (hg.block p.block hl fun e => hne p x hc e.symm)).trans hc
theorem St.ownFrom {β : Type} {w0 : World} {K : (Nat -> Prop) -> World -> Prop} (Rel : β -> List Ac -> Prop) (hRel : ∀ s F, Rel s F -> ∀ f ∈ F, f.cells = true) (B : Nat) (hB : w0.heap.size <= B) : OwnFrom B fun s W => ∃ F', Rel s F' /\ St w0 W F' K :=
 fun _ _ _ _ ⟨F', h1, h2⟩ hg hr => ⟨F', h1, h2.turn hg (fun r e => ⟨Nat.le_trans hB (hr r e).1, (hr r e).2⟩) (hRel _ _ h1)⟩
def CJ (B : Nat) (W : World) : List Ac := (List.range W.heap.size).filterMap fun i => match W.heap[i]? with
 | some o => if o.isCells = false /\ B <= i then some (.obj i o) else none
 | none => none
theorem Cl {B : Nat} {W : World} {f : Ac} : f ∈ CJ B W ↔ ∃ i o, f = .obj i o /\ W.heap[i]? = some o /\ o.isCells = false /\ B <= i := by
 unfold CJ
 rw [List.mem_filterMap]
 constructor
 ·rintro ⟨i, hi, h⟩
  cases ho : W.heap[i]? with
  | none => simp [ho] at h
  | some o =>
   simp only [ho] at h
   split at h
   ·rename_i hc; injection h with h; exact ⟨i, o, h.symm, ho, hc⟩
   ·cases h
 ·rintro ⟨i, o, rfl, ho, hc⟩
  refine ⟨i, ?_, by simp only [ho]; rw [if_pos hc]⟩
  have := (Array.getElem?_eq_some_iff.1 ho).1
  simp; omega
theorem FZ (B : Nat) (W : World) : (CJ B W).Pairwise fun f g => ∀ k, f.blk = some k -> g.blk ≠ some k := by
 unfold CJ
 refine List.Pairwise.filterMap _ ?_ (List.nodup_range (n := W.heap.size))
 intro i j hij f hf g hg k hk e
 have h1 : ∀ {i : Nat} {f : Ac}, (match W.heap[i]? with
  | some o => if o.isCells = false /\ B <= i then some (Ac.obj i o) else none
  | none => none) = some f -> f.blk = some i := by
  intro i f h
  cases ho : W.heap[i]? with
  | none => simp [ho] at h
  | some o =>
   simp only [ho] at h
   split at h
   ·injection h with h; subst h; rfl
   ·cases h
 have e1 := h1 (i := i) (f := f) hf
 have e2 := h1 (i := j) (f := g) hg
 rw [e1] at hk; rw [e2] at e
 injection hk with hk; injection e with e
 exact hij (hk.trans e.symm)
theorem CY {base : Nat} {W : World} {f : Ac} (h : f.holds base W) (hc : f.cells = true) {k : Nat} (hk : f.blk = some k) {o : Obj} (ho : W.heap[k]? = some o) : o.isCells = true := by
 cases f with
 | box g t cs =>
  injection hk with hk; subst hk
  have := h.2
  unfold BS at this
  rw [this] at ho; injection ho with ho; subst ho; rfl
 | own v e size n xs =>
  obtain ⟨cs, fr, h1⟩ := Iu h k hk
  rw [h1] at ho; injection ho with ho; subst ho; rfl
 | obj g o => simp [Ac.cells] at hc
theorem St.withOthers {w0 W : World} {F : List Ac} {K : (Nat -> Prop) -> World -> Prop} (h : St w0 W F K) (hF : ∀ f ∈ F, f.cells = true) {B : Nat} (hB : w0.heap.size <= B) : St w0 W (F ++ CJ B W) K := by
 refine ⟨h.below, fun f hf => ?_, ?_, h.stable, ?_⟩
 ·rcases List.mem_append.1 hf with hf | hf
  ·exact h.holds f hf
  ·obtain ⟨i, o, rfl, ho, _, hi⟩ := Cl.1 hf
   exact ⟨Nat.le_trans hB hi, ho⟩
 ·refine List.pairwise_append.2 ⟨h.apart, FZ B W, fun f hf g hg k hk e => ?_⟩
  obtain ⟨i, o, rfl, ho, hc, hi⟩ := Cl.1 hg
  injection e with e; subst e
  have := CY (h.holds f hf) (hF f hf) hk ho
  rw [hc] at this; cases this
 ·refine h.stable _ _ _ _ h.ro (Nat.le_refl _) (fun _ _ _ _ h => h) fun b hb _ hcell f hf e => ?_
  rcases List.mem_append.1 hf with hf | hf
  ·exact hb f hf e
  ·obtain ⟨i, o, rfl, ho, hc, hi⟩ := Cl.1 hf
   injection e with e; subst e
   obtain ⟨cs, t, fr, hh⟩ := hcell
   rw [hh] at ho; injection ho with ho; subst ho; simp [Obj.isCells] at hc
def roundPost (w0 : World) (K : (Nat -> Prop) -> World -> Prop) (X : List Ac) (Rel : List Int -> List Ac -> Prop) (RelX : Code -> List Int -> List Ac -> Prop) (pre : List Int) : Exit -> Act -> World -> Prop
 | .normal, _, W' => ∃ F', Rel pre F' /\ St w0 W' (F' ++ X) K
 | .ret, _, W' => ∃ F', RelX .ret pre F' /\ St w0 W' (F' ++ X) K
 | .exit id, _, W' => ∃ F', RelX (.exit id) pre F' /\ St w0 W' (F' ++ X) K
 | .goto t, _, W' => ∃ F', RelX (.goto t) pre F' /\ St w0 W' (F' ++ X) K
 | _, _, _ => False
theorem St.keepsFrom {w0 W W' : World} {F : List Ac} {K : (Nat -> Prop) -> World -> Prop} {B : Nat} (h : St w0 W' (F ++ CJ B W) K) (hs : W.heap.size <= W'.heap.size) : KeepsFrom B W W' :=
 ⟨hs, fun i o hi ho hc => (h.holds _ (List.mem_append_right _ (Cl.2 ⟨i, o, rfl, ho, hc, hi⟩))).2⟩
theorem DA (n : Nat) : AC fun _ w => n <= w.heap.size := fun _ _ _ _ h a _ _ => Nat.le_trans h a
theorem range_all {g : Operand} {ps : Array Tmp} {assign body : Code} {Q : Exit -> Act -> World -> Prop} {a : Act} {w0 w : World} {F : List Ac} {K : (Nat -> Prop) -> World -> Prop}
  (hS : St w0 w F K) {Bs cap : Nat} {A : Option Addr} {ws : List Nat} (hw : AW ws) (hlen : ws.length <= 64) (kG : ∀ D w, K D w -> CV Bs A cap ws w)
  (hg : a.eval g = .func (.func 142) #[] #[.pointer (some ⟨Bs, 0, none⟩)]) (hps : ps.size = 1)
  (Rel : List Int -> List Ac -> Prop) (RelX : Code -> List Int -> List Ac -> Prop) (hR : ∀ s F, Rel s F -> ∀ f ∈ F, f.cells = true) (hRX : ∀ c s F, RelX c s F -> ∀ f ∈ F, f.cells = true) (h0 : Rel [] F) (a₁ : Int -> Act)
  (hassign : ∀ (l : Nat) (x : Int) (W : World) (K : Act -> World -> Prop), K (a₁ x) W ->
   assign.wpIn (Fence.wide.inRound l) 4 Tryz.prog (Exit.then K (fun _ _ _ => False)) { tmps := (ps.zip #[Value.int .i64 x]).foldl (fun t (p, v) => t.setIfInBounds p v) a.tmps, defers := [] } W)
  (hbody : ∀ (l : Nat) (pre : List Int) (x : Int) (W : World) (F' X : List Ac), Rel pre F' -> St w0 W (F' ++ X) (fun D w => K D w /\ W.heap.size <= w.heap.size) -> pre.length < (AV ws).length -> body.wpIn (Fence.wide.inRound l) 4 Tryz.prog (roundPost w0 (fun D w => K D w /\ W.heap.size <= w.heap.size) X Rel RelX (pre ++ [x])) (a₁ x) W)
  (hdone : ∀ (D : Nat) (W : World) (F' : List Ac), w.heap.size <= D -> Rel (AV ws) F' -> St w0 W F' K -> W.heap[D]? = some (.deferred (some [])) -> Q .normal { a with defers := { target := .collected D, args := #[] } :: a.defers } W)
  (hstop : ∀ (D : Nat) (c : Code) (pre : List Int) (W : World) (F' : List Ac), w.heap.size <= D -> pre <+: AV ws -> RelX c pre F' -> St w0 W F' K -> W.heap[D]? = some (.deferred (some [])) -> c.wpIn Fence.wide 6 Tryz.prog Q { a with defers := { target := .collected D, args := #[] } :: a.defers } W) :
  (Code.rangeFunc g ps assign body).wpIn Fence.wide 6 Tryz.prog Q a w := by
 refine wpIn_rangeFunc_ownG rfl (by omega) hg trivial (enters_of Tryz.func142 (by kernel_rfl) rfl) (all_stops Bs cap A ws hw hlen w (kG _ _ hS.ro)) (fun h k x => k (h x)) ?kb (Below.refl _ _) (fun _ => by simp [hps])
  (fun pre W => (∃ F', Rel pre F' /\ St w0 W F' K) /\ True) (fun c pre W => ∃ F', RelX c pre F' /\ St w0 W F' K) ?hI (fun c => St.ownFrom (RelX c) (hRX c) _ hS.size) ⟨⟨F, h0, hS⟩, trivial⟩ a₁ hassign ?body ?done ?stop
 case kb =>
  intro W l o o' _ ho hc _ hG
  have Dq : ∀ {p : Addr} {x : Value}, W.cell? p = some x -> (W.putObj l o').cell? p = some x := by
   intro p x hx
   refine (World.cell?_of_block (World.putObj_heap_other ?_)).trans hx
   rintro rfl
   simp only [World.cell?, ho] at hx
   cases o <;> simp_all [Obj.isCells]
  refine ⟨Dq hG.box, fun h => ?_, fun q hq => Dq (hG.tab q hq)⟩
  obtain ⟨b, off, e, hh⟩ := hG.some_ h
  exact ⟨b, off, e, fun j hj => Dq (hh j hj)⟩
 case hI => exact fun s X Y row h1 hg hr => ⟨St.ownFrom Rel hR _ hS.size s X Y row h1.1 hg hr, trivial⟩
 case body =>
  rintro l pre x W ⟨⟨F', h1, h2⟩, _⟩ hlt
  refine wpIn_mono (hbody l pre x W F' (CJ w.heap.size W) h1 ((h2.withOthers (hR _ _ h1) hS.size).add (D := fun _ => False) (DA W.heap.size) (Nat.le_refl _) fun _ h _ => h.elim) hlt) ?_
  rintro e a3 W3 hp
  have hsub : ∀ {F'' : List Ac}, St w0 W3 (F'' ++ CJ w.heap.size W) (fun D w => K D w /\ W.heap.size <= w.heap.size) -> St w0 W3 F'' K := fun h => (h.sub (List.sublist_append_left _ _)).mono hS.stable fun _ _ h => h.1
  cases e with
  | normal =>
   obtain ⟨F'', h3, h4⟩ := hp
   exact ⟨h4.keepsFrom h4.ro.2, fun _ => kG _ _ h4.ro.1, ⟨F'', h3, hsub h4⟩, trivial⟩
  | ret => obtain ⟨F'', h3, h4⟩ := hp; exact ⟨h4.keepsFrom h4.ro.2, F'', h3, hsub h4⟩
  | exit id => obtain ⟨F'', h3, h4⟩ := hp; exact ⟨h4.keepsFrom h4.ro.2, F'', h3, hsub h4⟩
  | goto t => obtain ⟨F'', h3, h4⟩ := hp; exact ⟨h4.keepsFrom h4.ro.2, F'', h3, hsub h4⟩
  | panic ch => exact hp.elim
  | outgrown => exact hp.elim
 case done =>
  rintro D xs W hD rfl ⟨⟨F', h1, h2⟩, _⟩ hk
  exact hdone D W F' hD h1 h2 hk
 case stop =>
  rintro D c pre W hD hp ⟨F', h1, h2⟩ hk
  exact hstop D c pre W F' hD hp h1 h2 hk
def GoodK (Bs : Nat) (A : Option Addr) (cap : Nat) (ws : List Nat) (D : Nat -> Prop) (w : World) : Prop :=
 CV Bs A cap ws w /\ D Bs /\ (∀ b off, A = some ⟨b, off, none⟩ -> 0 < ws.length -> D b) /\ D 0
theorem GW {Bs cap : Nat} {A : Option Addr} {ws : List Nat} : AC (GoodK Bs A cap ws) := by
 rintro D D' w w' ⟨h, d1, d2, d3⟩ a b c
 have l1 := DN h.box
 have l3 := DN (h.tab 0 (by omega))
 refine ⟨⟨b _ _ d1 l1 h.box, fun h0 => ?_, fun q hq => b _ _ d3 (DN (h.tab q hq)) (h.tab q hq)⟩, c _ d1 l1 (F5 h.box), fun k o e h0 => ?_, c _ d3 l3 (F5 (h.tab 0 (by omega)))⟩
 ·obtain ⟨k, o, e, hh⟩ := h.some_ h0
  exact ⟨k, o, e, fun j hj => b _ _ (d2 k o e h0) (DN (hh j hj)) (hh j hj)⟩
 ·obtain ⟨k', o', e', hh⟩ := h.some_ h0
  rw [e] at e'; injection e' with e'; injection e' with e1 e2; subst e1 e2
  exact c _ (d2 _ _ e h0) (DN (hh 0 h0)) (F5 (hh 0 h0))
theorem C0 : AC fun D w => Bl w /\ D 0 := by
 rintro D D' w w' ⟨h, d⟩ a b c
 exact ⟨fun q hq => b _ _ d (DN (h q hq)) (h q hq), c _ d (DN (h 0 (by omega))) (F5 (h 0 (by omega)))⟩
theorem St.good {w0 w w' : World} {F : List Ac} {K : (Nat -> Prop) -> World -> Prop} (h : St w0 w F K) (hb : Below w.heap.size w w') {Bs cap : Nat} {A : Option Addr} {ws : List Nat} (hs : Sl w (DW F) 1 (.slice A ws.length cap) ws.length (Bo ws)) (hT : Bl w) (hF : DW F 0)
  (hB : w.heap.size <= Bs) (hX : BS w' Bs 39 #[.slice A ws.length cap]) : St w0 w' F fun D w => K D w /\ GoodK Bs A cap ws D w := by
 refine (h.ext hb).add (D := DW F) GW ⟨⟨(hX.cell 0).trans rfl, fun h0 => ?_, hT.ext hb⟩, h.fresh hB, fun b off e h0 => ?_, hF⟩ fun _ h _ => h
 ·obtain ⟨_, A', c', e, _, _, h2⟩ := hs
  obtain ⟨b, o, h3, h4, h6, h5⟩ := h2 h0
  injection e with e
  exact ⟨b, o, e.trans h3, fun j hj => Ds hb (h5 j _ (Cr _ _ hj))⟩
 ·obtain ⟨_, A', c', e', _, _, h2⟩ := hs
  obtain ⟨b', o', h3, h4, h6, h5⟩ := h2 h0
  injection e' with e'
  rw [e, h3] at e'; injection e' with e'; injection e' with e1; subst e1; exact h4
theorem G4 {l : List Nat} (h : Bw l) (hN : val l < AM) : AV l = Ae (AL (val l)) := by
 have hl : l.length <= 1 := by
  rcases Nat.lt_or_ge 1 l.length with h1 | h1
  ·have h2 := BG h (by omega)
   rw [<- BD h.1, wd, Nat.shiftRight_eq_div_pow] at h2
   have : val l / 2 ^ (64 * (l.length - 1)) = 0 := by
    apply Nat.div_eq_of_lt
    refine Nat.lt_of_lt_of_le hN ?_
    rw [Cq]; exact Nat.pow_le_pow_right (by decide) (by omega)
   rw [this] at h2; simp at h2
  ·exact h1
 match l, hl with
 | [], _ => simp [AV, val, Bp, AL, Ae]
 | [x], _ => rfl
section
variable {P : Program} {o : Oper} {a : Act} {w : World} {K K' : Act -> World -> Prop} {Q : Exit -> Act -> World -> Prop} {ops : Array Oper}
theorem opw_mono (h : o.wp P a w K Q) (hk : ∀ a w, K a w -> K' a w) : o.wp P a w K' Q := by
 unfold Oper.wp at *
 generalize (execOp a.eval o).run P w = r at *
 cases r with
 | halt x w' => cases x <;> exact h
 | ok x w' =>
  cases x with
  | value v => exact hk _ _ h
  | skip => exact hk _ _ h
  | defer d => exact hk _ _ h
  | enter f args => exact Calls.mono h fun e w' h => by cases e <;> first | exact hk _ _ h | exact h
  | row r args => exact Rows.mono h fun v w' h => hk _ _ h
  | _ => exact h.elim
theorem opIn_of (l n : Nat) (h : o.wp P a w K Q) (hd : ∀ c, o.op ≠ .defer c) : o.wpIn (Fence.wide.inRound l) n P a w K Q := by
 refine ⟨fun _ _ => trivial, ?_⟩
 rw [Oper.semAt_eq _ _ _ hd]
 unfold Oper.wp at h
 generalize (execOp a.eval o).run P w = r at *
 cases r with
 | halt x w' => cases x <;> exact h
 | ok x w' =>
  cases x with
  | value v => exact h
  | skip => exact h
  | defer d => exact h
  | enter f args => exact ⟨fun h => by simp [Fence.wide] at h, CallsIn.inRound l ((callsIn_wide (n := n - 1)).2 (Calls.mono h fun e w' h => by cases e <;> exact h))⟩
  | row r args => exact ⟨fun h => by simp [Fence.wide] at h, fun c cs _ => let ⟨v, w', r, s⟩ := h c cs; ⟨v, w', r, stepsIn_wide.2 s⟩⟩
  | _ => exact h.elim
def EZ (l : List Oper) : Bool := l.all fun o => match o.op with | .defer _ => false | _ => true
theorem Cd (hQ : ∀ a w, ¬ Q .outgrown a w) (r n : Nat) (l : List Oper) (hd : EZ l = true) : ∀ a w, wpList P ops Q l a w -> wpListIn (Fence.wide.inRound r) n P ops Q l a w := by
 induction l with
 | nil => exact fun a w h => h
 | cons o l ih =>
  intro a w h
  simp only [EZ, List.all_cons, Bool.and_eq_true] at hd
  have ih := ih (by simpa [EZ] using hd.2)
  refine wpListIn_step fun K hK => ?_
  unfold wpList at h
  by_cases hw : Region.wanted o (yielded ops a.tmps) = true
  ·rw [if_pos hw] at h ⊢
   rcases h with h | ⟨_, a', w', h⟩
   ·exact opIn_of _ _ (opw_mono h fun a w h => hK _ _ (ih _ _ h)) fun c e => by rw [e] at hd; simp at hd
   ·exact absurd h (hQ _ _)
  ·rw [if_neg hw] at h ⊢
   exact ⟨fun _ _ => trivial, hK _ _ (ih _ _ h)⟩
end
set_option maxHeartbeats 2000000 in
theorem slist_any (v : Value) (N : Nat) (D : Nat -> Prop) (w0 : World) (hv : Aa w0 D v N) (hT : Bl w0) :
  Calls Tryz.prog 80 #[v] w0 (AF (fun x w' => ∃ ws, Bw ws /\ val ws = N /\ Sl w' (w0.heap.size <= ·) 1 x (AV ws).length (Be (AV ws))) w0) := by
 obtain ⟨A, c, l, rfl, hl, rfl, _, _, hs⟩ := hv.parts
 obtain ⟨K, k1, k2, hS⟩ : ∃ K : (Nat -> Prop) -> World -> Prop, (∀ D w, K D w -> Aa w D (.agg #[.slice A l.length c]) (val l)) /\ (∀ D w, K D w -> Bl w /\ D 0) /\ St w0 w0 [] K :=
  ⟨fun D w => Aa w D (.agg #[.slice A l.length c]) (val l) /\ Bl w /\ D 0, fun _ _ h => h.1, fun _ _ h => h.2, St.start (D := fun _ => True) (Ab.and C0) ⟨hv.imp fun _ _ _ => trivial, hT, trivial⟩⟩
 clear hs hv hT
 refine (callsIn_wide (n := 6)).1 (callsIn_of_wp_marks Tryz.func80 rfl trivial ?_ rfl)
 simp only [Tryz.ntmps80, List.size_toArray, List.length_cons, List.length_nil, Nat.reduceAdd, Nat.reduceSub, Array.replicate_succ, Array.replicate_zero, List.push_toArray, List.append_toArray, List.nil_append, List.cons_append]
 refine wpIn_wide.2 ?_
 go_wp2_with (first
  | ((with_reducible refine qA 1 ?_); refine Aw hS rfl _ _ rfl _ _ rfl rfl ?_; clear hS; intro g w_ hS; (try simp only [Act.put, Act.eval, zz, Value.cells] at hS))
  | ((with_reducible refine qK ?_); refine qL hS Tryz.underlying39 ?_)
  | ((with_reducible refine qA 3 ?_); refine qa hS #[.slice none 0 0] ?_; clear hS; intro go w_ hS)
  | ((with_reducible refine qM ?_); (first | refine qS hS ?_ | refine qT hS ?_); clear hS; intro w_ hS; (try simp only [Act.put, Act.eval, zz, Value.cells] at hS))
  | ((with_reducible refine qK ?_); refine qC hS ?_)
  | ((with_reducible refine qA 7 ?_); refine st_mkcap hS rfl _ _ _ rfl ER _ _ n rfl rfl (by omega) (by omega) ?_; clear hS; intro gr w_ hS)
  | (go_at_call 149; refine (len_any _ _ _ _ (k1 _ _ hS.ro)).mono ?_; rintro e w2 ⟨_, rfl, ⟨n, hn, rfl⟩, hb2⟩; replace hS := hS.ext hb2))
 refine (E6 _ _ _ _ (k1 _ _ hS.ro)).mono ?_
 rintro e w3 ⟨_, rfl, ⟨Bs, A', cap, ws, rfl, e1, hcn, hvN, hsl, hBs, hX⟩, hb3⟩
 obtain rfl := Gb hcn hl hvN
 obtain ⟨rfl, rfl⟩ : A = A' /\ c = cap := by simpa using e1
 clear e1 hvN
 obtain ⟨hT, hT0⟩ := k2 _ _ hS.ro
 replace hS := hS.good hb3 hsl hT hT0 hBs hX
 go_wp2_with fail
 have hsz3 := hS.size
 refine (wpIn_wide (n := 6)).1 ?_
 refine range_all hS hcn.1 hcn.2.2 (fun _ _ h => h.2.1) rfl rfl
  (fun pre F' => ∃ v cs, F' = [.box go 74 #[v], .own v 3 1 pre.length (Be pre), .box g 39 cs]) (fun _ _ _ => False) ?hr (fun _ _ _ h => h.elim) ⟨_, _, rfl⟩
  (fun x => { tmps := #[.agg #[.slice A ws.length c], .pointer (some ⟨g, 0, none⟩), .slice none 0 0, .pointer (some ⟨go, 0, none⟩), .int .i64 x, .agg #[.slice A ws.length c], .int .i64 n, .slice (some ⟨gr, 0, none⟩) 0 n, .agg #[.slice A ws.length c], .func (.func 142) #[] #[.pointer (some ⟨Bs, 0, none⟩)], .int .i64 x, undef, undef, undef, undef, undef], defers := [] }) ?assign ?body ?done ?stop
 case hr =>
  rintro s F ⟨v, cs, rfl⟩ f hf
  simp at hf
  rcases hf with rfl | rfl | rfl <;> rfl
 case assign =>
  intro l x W K hK
  gi_wp2
  exact hK
 case body =>
  rintro l pre x W F' X ⟨v, cs, rfl⟩ hS hlt
  have hml : (AV ws).length <= 4096 := by
   have := memTo_len (val ws) (64 * ws.length)
   have := hcn.2.2
   simp [AV, Ae]; omega
  simp only [List.cons_append, List.nil_append] at hS
  refine wpIn_block ?_
  refine wpIn_region_lit ?_
  refine Cd (by intro _ _ h; exact h) _ _ _ (by rfl) _ _ ?_
  go_wp2_with (first
   | ((with_reducible refine qK ?_); refine qC hS ?_)
   | ((with_reducible refine qM ?_); (first | refine qS hS ?_ | refine qT hS ?_); clear hS; intro w_ hS; (try simp only [Act.put, Act.eval, zz, Value.cells] at hS))
   | ((with_reducible refine qA 13 ?_); refine DC hS 1 rfl rfl _ _ _ _ rfl rfl ER v pre.length (Be pre) (.int .i64 x) #[.int .i64 x] rfl (by kernel_rfl) rfl rfl rfl rfl (by intro u hu; simp at hu; subst hu; rfl) (by omega) (by omega) ?_; clear hS; intro z_ v' w_ hS; (try simp only [Act.put, Act.eval, zz, Value.cells] at hS); obtain ⟨A1, c1, rfl, _, _⟩ := B7 (hS.own 1 rfl)))
  exact ⟨_, ⟨_, _, by simp [Be]; rfl⟩, hS⟩
 case done =>
  rintro D W F' hD ⟨v, cs, rfl⟩ hS hK
  go_wp2_with (first | ((with_reducible refine qK ?_); refine qC hS ?_))
  refine ⟨by simp, .inl ⟨_, _, rfl, run_takeDeferred hK, ?_⟩⟩
  have hw0 := hS.size
  replace hS := hS.turn (grownBy_putObj' W D (.deferred none)) (fun r e => by cases e; exact ⟨Nat.le_trans hsz3 hD, _, hK, rfl⟩) (fun f hf => by simp at hf; rcases hf with rfl | rfl | rfl <;> rfl)
  exact ⟨_, results_tmp rfl _ _ _, AF.mk ⟨ws, hcn, rfl, Sl.of_own (hS.own 1 rfl)⟩ hS.below⟩
 case stop =>
  rintro D c pre W F' _ _ h _ _
  exact h.elim
end
section
open Go.RowKit
attribute [local go_sem ↓] Go.wp_at_zero Go.wp_at_succ
set_option maxRecDepth 20000
def Ac.low (B : Nat) (f : Ac) : Prop := f.cells = true \/ ∃ g o, f = .obj g o /\ g < B
theorem St.turnB {w0 w w' : World} {F : List Ac} {K : (Nat -> Prop) -> World -> Prop} {row : Option Nat} (h : St w0 w F K) (hg : w.grownBy w' row) {B : Nat} (hr : ∀ r, row = some r -> w0.heap.size <= r /\ B <= r /\ ∃ o : Obj, w.heap[r]? = some o /\ o.isCells = false) (hF : ∀ f ∈ F, f.low B) : St w0 w' F K := by
 have hne : ∀ (p : Addr) (x : Value), w.cell? p = some x -> row ≠ some p.block := by
  rintro p x hc e
  obtain ⟨_, _, o, ho, hn⟩ := hr _ e
  simp only [World.cell?, ho] at hc
  cases o <;> simp_all [Obj.isCells]
 refine ⟨h.below.grown hg h.size (fun k e => (hr k e).1), fun f hf => ?_, h.apart, h.stable, h.stable _ _ _ _ h.ro hg.size (fun p x _ hl hc => ?_) fun _ h _ _ => h⟩
 ·refine Ac.kept (h.holds f hf) hg fun k hk e => ?_
  obtain ⟨_, hBk, o, ho, hn⟩ := hr k e
  have hh := h.holds f hf
  cases f with
  | box g t cs =>
   injection hk with hk; subst hk
   have := hh.2
   unfold BS at this
   rw [this] at ho; injection ho with ho; subst ho; simp [Obj.isCells] at hn
  | own v e' size n xs =>
   obtain ⟨cs, fr, h1⟩ := Iu hh k hk
   rw [h1] at ho; injection ho with ho; subst ho; simp [Obj.isCells] at hn
  | obj g o' =>
   injection hk with hk; subst hk
   rcases hF _ hf with h1 | ⟨g', o2, e2, h2⟩
   ·simp [Ac.cells] at h1
   ·injection e2 with e2; omega
 ·exact (World.cell?_of_block (hg.block p.block hl fun e => hne p x hc e.symm)).trans hc
theorem St.ownFromB {β : Type} {w0 : World} (Rel : β -> List Ac -> ((Nat -> Prop) -> World -> Prop) -> Prop) (B : Nat) (hRel : ∀ s F K, Rel s F K -> ∀ f ∈ F, f.low B) (hB : w0.heap.size <= B) : OwnFrom B fun s W => ∃ F' K', Rel s F' K' /\ St w0 W F' K' :=
 fun _ _ _ _ ⟨F', K', h1, h2⟩ hg hr => ⟨F', K', h1, h2.turnB hg (fun r e => ⟨Nat.le_trans hB (hr r e).1, (hr r e).1, (hr r e).2⟩) (hRel _ _ _ h1)⟩
theorem St.withOthersB {w0 W : World} {F : List Ac} {K : (Nat -> Prop) -> World -> Prop} (h : St w0 W F K) {B : Nat} (hF : ∀ f ∈ F, f.low B) (hB : w0.heap.size <= B) : St w0 W (F ++ CJ B W) K := by
 refine ⟨h.below, fun f hf => ?_, ?_, h.stable, ?_⟩
 ·rcases List.mem_append.1 hf with hf | hf
  ·exact h.holds f hf
  ·obtain ⟨i, o, rfl, ho, _, hi⟩ := Cl.1 hf
   exact ⟨Nat.le_trans hB hi, ho⟩
 ·refine List.pairwise_append.2 ⟨h.apart, FZ B W, fun f hf g hg k hk e => ?_⟩
  obtain ⟨i, o, rfl, ho, hc, hi⟩ := Cl.1 hg
  injection e with e; subst e
  rcases hF f hf with h1 | ⟨g', o2, rfl, h2⟩
  ·have := CY (h.holds f hf) h1 hk ho
   rw [hc] at this; cases this
  ·injection hk with hk; omega
 ·refine h.stable _ _ _ _ h.ro (Nat.le_refl _) (fun _ _ _ _ h => h) fun b hb _ hcell f hf e => ?_
  rcases List.mem_append.1 hf with hf | hf
  ·exact hb f hf e
  ·obtain ⟨i, o, rfl, ho, hc, hi⟩ := Cl.1 hf
   injection e with e; subst e
   obtain ⟨cs, t, fr, hh⟩ := hcell
   rw [hh] at ho; injection ho with ho; subst ho; simp [Obj.isCells] at hc
abbrev GT (L : List Int) := { x : Int // x ∈ L }
theorem IZ (Bs cap : Nat) (A : Option Addr) (ws : List Nat) (hw : AW ws) (hlen : ws.length <= 64) (w : World) (hG : CV Bs A cap ws w) :
  SeqStopsK Fence.wide 5 Tryz.prog 142 #[.pointer (some ⟨Bs, 0, none⟩)] (fun x : GT (AV ws) => #[Value.int .i64 x.1]) (fun U V => CV Bs A cap ws U -> CV Bs A cap ws V) (fun ys => ys.map (·.1) = AV ws) (fun pre => pre.map (·.1) <+: AV ws) (AV ws).length w := by
 intro l J Jx W hW _ _ hY h0
 refine (all1_in l Bs cap A ws hw hlen (fun pre W => ∃ p : List (GT (AV ws)), p.map (·.1) = pre /\ J p W) (fun pre W => ∃ p : List (GT (AV ws)), p.map (·.1) = pre /\ Jx p W) ?_ W ⟨?_, fun h => ?_, hG.tab.ext hW⟩ ⟨[], rfl, h0⟩).mono ?_
 ·rintro pre x W1 ⟨p, rfl, h1⟩ h2 h3
  have hx : x ∈ AV ws := h3.subset (by simp)
  obtain ⟨fn, tmps, assign, body, hyy, hR⟩ := hY p ⟨x, hx⟩ W1 h1 (by simpa using h2)
  refine ⟨fn, tmps, assign, body, hyy, hR.mono ?_⟩
  rintro e W' (⟨h4, h5, h6⟩ | ⟨h4, h5⟩)
  ·exact .inl ⟨h4, ⟨p ++ [⟨x, hx⟩], by simp, h5⟩, h6⟩
  ·exact .inr ⟨h4, p ++ [⟨x, hx⟩], by simp, h5⟩
 ·exact Ds hW hG.box
 ·obtain ⟨b, off, e, hc⟩ := hG.some_ h
  exact ⟨b, off, e, fun j hj => Ds hW (hc j hj)⟩
 ·rintro e W' ⟨h1, ⟨ys, h2, p, h3, h4⟩ | ⟨pre, h2, p, h3, h4⟩⟩
  ·exact ⟨h1, .inl ⟨p, h3.trans h2, h4⟩⟩
  ·exact ⟨h1, .inr ⟨p, by show List.map (·.1) p <+: AV ws; rw [h3]; exact h2, h4⟩⟩
def Fl (w0 : World) (B : Nat) (X : List Ac) (Rel : List Int -> List Ac -> ((Nat -> Prop) -> World -> Prop) -> Prop) (RelX : Code -> List Int -> List Ac -> ((Nat -> Prop) -> World -> Prop) -> Prop) (pre : List Int) : Exit -> Act -> World -> Prop
 | .normal, _, W' => ∃ F' K', Rel pre F' K' /\ B <= W'.heap.size /\ St w0 W' (F' ++ X) K'
 | .ret, _, W' => ∃ F' K', RelX .ret pre F' K' /\ B <= W'.heap.size /\ St w0 W' (F' ++ X) K'
 | .exit id, _, W' => ∃ F' K', RelX (.exit id) pre F' K' /\ B <= W'.heap.size /\ St w0 W' (F' ++ X) K'
 | .goto t, _, W' => ∃ F' K', RelX (.goto t) pre F' K' /\ B <= W'.heap.size /\ St w0 W' (F' ++ X) K'
 | _, _, _ => False
theorem Fm {g : Operand} {ps : Array Tmp} {assign body : Code} {Q : Exit -> Act -> World -> Prop} {a : Act} {w0 w : World} {F : List Ac} {K : (Nat -> Prop) -> World -> Prop}
  (hS : St w0 w F K) {Bs cap : Nat} {A : Option Addr} {ws : List Nat} (hw : AW ws) (hlen : ws.length <= 64) (kG : ∀ D w, K D w -> CV Bs A cap ws w)
  (hg : a.eval g = .func (.func 142) #[] #[.pointer (some ⟨Bs, 0, none⟩)]) (hps : ps.size = 1)
  (Rel : List Int -> List Ac -> ((Nat -> Prop) -> World -> Prop) -> Prop) (RelX : Code -> List Int -> List Ac -> ((Nat -> Prop) -> World -> Prop) -> Prop) (hRK : ∀ s F K', Rel s F K' -> ∀ D w, K' D w -> K D w) (hR : ∀ s F K', Rel s F K' -> ∀ f ∈ F, f.low w.heap.size) (hRX : ∀ c s F K', RelX c s F K' -> ∀ f ∈ F, f.low w.heap.size) (h0 : Rel [] F K) (a₁ : Int -> Act)
  (hassign : ∀ (l : Nat) (x : Int) (W : World) (K : Act -> World -> Prop), K (a₁ x) W ->
   assign.wpIn (Fence.wide.inRound l) 4 Tryz.prog (Exit.then K (fun _ _ _ => False)) { tmps := (ps.zip #[Value.int .i64 x]).foldl (fun t (p, v) => t.setIfInBounds p v) a.tmps, defers := [] } W)
  (hbody : ∀ (l : Nat) (pre : List Int) (x : Int) (hx : x ∈ AV ws) (W : World) (F' X : List Ac) (K' : ((Nat -> Prop) -> World -> Prop)), Rel pre F' K' -> St w0 W (F' ++ X) (fun D w => K' D w /\ W.heap.size <= w.heap.size) -> pre.length < (AV ws).length -> body.wpIn (Fence.wide.inRound l) 4 Tryz.prog (Fl w0 W.heap.size X Rel RelX (pre ++ [x])) (a₁ x) W)
  (hdone : ∀ (D : Nat) (W : World) (F' : List Ac) (K' : ((Nat -> Prop) -> World -> Prop)), w.heap.size <= D -> Rel (AV ws) F' K' -> St w0 W F' K' -> W.heap[D]? = some (.deferred (some [])) -> Q .normal { a with defers := { target := .collected D, args := #[] } :: a.defers } W)
  (hstop : ∀ (D : Nat) (c : Code) (pre : List Int) (W : World) (F' : List Ac) (K' : ((Nat -> Prop) -> World -> Prop)), w.heap.size <= D -> pre <+: AV ws -> RelX c pre F' K' -> St w0 W F' K' -> W.heap[D]? = some (.deferred (some [])) -> c.wpIn Fence.wide 6 Tryz.prog Q { a with defers := { target := .collected D, args := #[] } :: a.defers } W) :
  (Code.rangeFunc g ps assign body).wpIn Fence.wide 6 Tryz.prog Q a w := by
 refine wpIn_rangeFunc_ownG rfl (by omega) hg trivial (enters_of Tryz.func142 (by kernel_rfl) rfl) (IZ Bs cap A ws hw hlen w (kG _ _ hS.ro)) (fun h k x => k (h x)) ?kb (Below.refl _ _) (fun _ => by simp [hps])
  (fun (pre : List (GT (AV ws))) W => (∃ F' K', Rel (pre.map (·.1)) F' K' /\ St w0 W F' K') /\ True) (fun c (pre : List (GT (AV ws))) W => ∃ F' K', RelX c (pre.map (·.1)) F' K' /\ St w0 W F' K') ?hI (fun c => St.ownFromB (fun s : List (GT (AV ws)) => RelX c (List.map (·.1) s)) _ (fun s => hRX c _) hS.size) ⟨⟨F, K, h0, hS⟩, trivial⟩ (fun x : GT (AV ws) => a₁ x.1) (fun l x W K h => hassign l x.1 W K h) ?body ?done ?stop
 case kb =>
  intro W l o o' _ ho hc _ hG
  have Dq : ∀ {p : Addr} {x : Value}, W.cell? p = some x -> (W.putObj l o').cell? p = some x := by
   intro p x hx
   refine (World.cell?_of_block (World.putObj_heap_other ?_)).trans hx
   rintro rfl
   simp only [World.cell?, ho] at hx
   cases o <;> simp_all [Obj.isCells]
  refine ⟨Dq hG.box, fun h => ?_, fun q hq => Dq (hG.tab q hq)⟩
  obtain ⟨b, off, e, hh⟩ := hG.some_ h
  exact ⟨b, off, e, fun j hj => Dq (hh j hj)⟩
 case hI => exact fun s X Y row h1 hg hr => ⟨St.ownFromB (fun s : List (GT (AV ws)) => Rel (List.map (·.1) s)) _ (fun s => hR _) hS.size s X Y row h1.1 hg hr, trivial⟩
 case body =>
  rintro l pre x W ⟨⟨F', K1, h1, h2⟩, _⟩ hlt
  refine wpIn_mono (hbody l _ x.1 x.2 W F' (CJ w.heap.size W) K1 h1 ((h2.withOthersB (hR _ _ _ h1) hS.size).add (D := fun _ => False) (DA W.heap.size) (Nat.le_refl _) fun _ h _ => h.elim) (by simpa using hlt)) ?_
  rintro e a3 W3 hp
  rw [show List.map (fun y : GT (AV ws) => y.1) pre ++ [x.1] = List.map (fun y : GT (AV ws) => y.1) (pre ++ [x]) by simp] at hp
  have hsub : ∀ {F'' : List Ac} {K'' : ((Nat -> Prop) -> World -> Prop)}, St w0 W3 (F'' ++ CJ w.heap.size W) K'' -> St w0 W3 F'' K'' := fun h => h.sub (List.sublist_append_left _ _)
  cases e with
  | normal =>
   obtain ⟨F'', K'', h3, h5, h4⟩ := hp
   exact ⟨h4.keepsFrom h5, fun _ => kG _ _ (hRK _ _ _ h3 _ _ h4.ro), ⟨F'', K'', h3, hsub h4⟩, trivial⟩
  | ret => obtain ⟨F'', K'', h3, h5, h4⟩ := hp; exact ⟨h4.keepsFrom h5, F'', K'', h3, hsub h4⟩
  | exit id => obtain ⟨F'', K'', h3, h5, h4⟩ := hp; exact ⟨h4.keepsFrom h5, F'', K'', h3, hsub h4⟩
  | goto t => obtain ⟨F'', K'', h3, h5, h4⟩ := hp; exact ⟨h4.keepsFrom h5, F'', K'', h3, hsub h4⟩
  | panic ch => exact hp.elim
  | outgrown => exact hp.elim
 case done =>
  rintro D xs W hD hxs ⟨⟨F', K1, h1, h2⟩, _⟩ hk
  rw [hxs] at h1
  exact hdone D W F' K1 hD h1 h2 hk
 case stop =>
  rintro D c pre W hD hp ⟨F', K1, h1, h2⟩ hk
  exact hstop D c _ W F' K1 hD hp h1 h2 hk
theorem Ge {P : Program} {ops : Array Oper} {Q : Exit -> Act -> World -> Prop} (hQ : ∀ a w, ¬ Q .outgrown a w) (r n : Nat) (hd : EZ ops.toList = true) : ∀ (fuel : Nat) (listed : Array Bool) (a : Act) (w : World), wpAny P .any ops Q fuel listed a w -> wpAnyIn (Fence.wide.inRound r) n P .any ops Q fuel listed a w
 | 0, _, _, _, h => h
 | fuel + 1, listed, a, w, h => by
  refine ⟨h.1, fun i hi => ?_⟩
  have hw := h.2 i hi
  unfold wpOp at hw
  unfold wpOpIn
  cases ho : ops[i]? with
  | none => simp only [ho] at hw ⊢; exact Ge hQ r n hd fuel _ _ _ hw
  | some o =>
   simp only [ho] at hw ⊢
   by_cases hwt : Region.wanted o (yielded ops a.tmps) = true
   ·rw [if_pos hwt] at hw ⊢
    rcases hw with hw | ⟨_, a', w', hw⟩
    ·refine opIn_of _ _ (opw_mono hw fun a w h => Ge hQ r n hd fuel _ _ _ h) fun c e => ?_
     have := (List.all_eq_true.1 hd) o (by
      have := Array.mem_of_getElem? ho
      simpa using this)
     rw [e] at this; simp at this
    ·exact absurd hw (hQ _ _)
   ·rw [if_neg hwt] at hw ⊢
    exact ⟨fun _ _ => trivial, Ge hQ r n hd fuel _ _ _ hw⟩
theorem Ci {P : Program} {ops : Array Oper} {Q : Exit -> Act -> World -> Prop} {id r n : Nat} {a : Act} {w : World} (hm : P.follows .mixedOrders = true) (hQ : ∀ a w, ¬ Q .outgrown a w) (hd : EZ ops.toList = true)
  (h : wpAny P .any ops Q ops.size (Array.replicate ops.size false) a w.drew) : (Code.region id ops true).wpIn (Fence.wide.inRound r) n P Q a w :=
 wpIn_region_any hm (Ge hQ r n hd _ _ _ _ h)
def marksD (ds : List Nat) : List Deferred := ds.map fun D => { target := .collected D, args := #[] }
def Ce (ds : List Nat) : List Ac := ds.map fun D => .obj D (.deferred (some []))
theorem St.mark {w0 w : World} {F : List Ac} {K : (Nat -> Prop) -> World -> Prop} (h : St w0 w F K) {B D : Nat} (hB : w0.heap.size <= B) (hD : B <= D) (hF : ∀ f ∈ F, f.low B) {o : Obj} (ho : w.heap[D]? = some o) (hc : o.isCells = false) : St w0 w (F ++ [.obj D o]) K := by
 refine ⟨h.below, fun f hf => ?_, ?_, h.stable, ?_⟩
 ·rcases List.mem_append.1 hf with hf | hf
  ·exact h.holds f hf
  ·rw [List.mem_singleton] at hf; subst hf; exact ⟨Nat.le_trans hB hD, ho⟩
 ·refine List.pairwise_append.2 ⟨h.apart, List.pairwise_singleton _ _, fun f hf g hg k hk e => ?_⟩
  rw [List.mem_singleton] at hg; subst hg
  injection e with e; subst e
  rcases hF f hf with h1 | ⟨g', o2, rfl, h2⟩
  ·have := CY (h.holds f hf) h1 hk ho
   rw [hc] at this; cases this
  ·injection hk with hk; omega
 ·refine h.stable _ _ _ _ h.ro (Nat.le_refl _) (fun _ _ _ _ h => h) fun b hb _ hcell f hf e => ?_
  rcases List.mem_append.1 hf with hf | hf
  ·exact hb f hf e
  ·rw [List.mem_singleton] at hf; subst hf
   injection e with e; subst e
   obtain ⟨cs, t, fr, hh⟩ := hcell
   rw [hh] at ho; injection ho with ho; subst ho; simp [Obj.isCells] at hc
theorem CQ {P : Program} {fn : Func} {tmps : Array Value} {R : Ending -> World -> Prop} {n : Nat} {w0 : World} {F : List Ac} {K : (Nat -> Prop) -> World -> Prop} (hR : ∀ w', St w0 w' F K -> LeavesIn Fence.wide n P fn tmps R [] .returning w') :
  ∀ (ds : List Nat) (w : World), St w0 w (F ++ Ce ds) K -> LeavesInM Fence.wide n P fn tmps R (marksD ds) .returning w
 | [], w, h => hR w (by simpa [Ce] using h)
 | D :: ds, w, h => by
  have hD := h.holds (.obj D (.deferred (some []))) (by simp [Ce])
  refine ⟨by simp, .inl ⟨D, _, rfl, run_takeDeferred hD.2, ?_⟩⟩
  refine CQ hR ds _ ?_
  have hi : (F ++ Ce (D :: ds))[F.length]? = some (.obj D (.deferred (some []))) := by simp [Ce]
  have h1 := h.upd F.length hi (.obj D (.deferred none)) (grownBy_putObj' w D (.deferred none)) ⟨hD.1, World.putObj_heap_same (Array.getElem?_eq_some_iff.1 hD.2).1⟩ fun _ e => .inl e
  have h2 : (F ++ Ce (D :: ds)).set F.length (.obj D (.deferred none)) = F ++ (.obj D (.deferred none) :: Ce ds) := by simp [Ce]
  rw [h2] at h1
  exact h1.sub ((List.Sublist.refl F).append (.cons _ (.refl _)))
end
section
open Go.RowKit
def ix (n : Nat) : List Nat -> Nat -> Option Nat
 | [], _ => none
 | m :: r, k => match m.beq n with
  | true => some k
  | false => ix n r (k + 1)
theorem ix_spec {n : Nat} : ∀ {l : List Nat} {k j : Nat}, ix n l k = some j -> k <= j /\ l[j - k]? = some n
 | [], _, _, h => by simp [ix] at h
 | m :: r, k, j, h => by
  unfold ix at h
  split at h
  ·rename_i hq
   obtain rfl := Nat.eq_of_beq_eq_true hq
   injection h with h
   subst h
   simp
  ·obtain ⟨h1, h2⟩ := ix_spec h
   refine ⟨by omega, ?_⟩
   rw [show j - k = (j - (k + 1)) + 1 by omega]
   simpa using h2
def Ts (l : List (Option Value)) (i : Nat) (v : Value) : Prop := match l[i]? with
 | some (some u) => v = u
 | _ => True
section
variable {P : Program} {ops : Array Oper} {es : List Nat} {l : List (Option Value)} {S : List Value -> World -> Prop} {a0 b : Act} {Q : Exit -> Act -> World -> Prop} {i : Nat} {o : Oper} {vs : List Value}
inductive Es (ops : Array Oper) (es : List Nat) (l : List (Option Value)) (a0 : Act) (o : Oper) (vs : List Value) : Operand -> Value -> Prop
 | c {v} : Es ops es l a0 o vs (.const v) v
 | n {d n v} (h1 : src ops d o.after.toList = some n) (h3 : es.contains n = false) (h2 : l[n]? = some (some v)) : Es ops es l a0 o vs (.tmp d) v
 | x {d n j v} (h1 : src ops d o.after.toList = some n) (h3 : ix n es 0 = some j) (h2 : vs[j]? = some v) : Es ops es l a0 o vs (.tmp d) v
 | o {d v} (h1 : DL ops d = true) (h2 : a0.eval (.tmp d) = v) : Es ops es l a0 o vs (.tmp d) v
def QEnv (ops : Array Oper) (es : List Nat) (l : List (Option Value)) (a0 : Act) (o : Oper) (vs : List Value) (b : Act) : Prop := (∀ t, DL ops t = true -> b.eval (.tmp t) = a0.eval (.tmp t)) /\
 (∀ e ∈ o.after, Region.binds .any e = true -> ∀ (oj : Oper) (d : Tmp), ops[e.on]? = some oj -> es.contains e.on = false -> oj.dst = some d -> Ts l e.on (b.eval (.tmp d))) /\
 ∀ e ∈ o.after, Region.binds .any e = true -> ∀ (j : Nat) (oj : Oper) (d : Tmp), es[j]? = some e.on -> ops[e.on]? = some oj -> oj.dst = some d -> j < vs.length /\ b.eval (.tmp d) = vs.getD j undef
theorem Es.at {y : Operand} {v : Value} (h : Es ops es l a0 o vs y v) (hE : QEnv ops es l a0 o vs b) : b.eval y = v := by
 cases h with
 | c => rfl
 | n h1 h3 h2 =>
  obtain ⟨e, h4, h5, rfl, oj, h6, h7⟩ := FJ h1
  have := hE.2.1 e (by simpa using h4) h5 oj _ h6 h3 h7
  unfold Ts at this; rw [h2] at this; exact this
 | x h1 h3 h2 =>
  obtain ⟨e, h4, h5, rfl, oj, h6, h7⟩ := FJ h1
  have := (hE.2.2 e (by simpa using h4) h5 _ oj _ (ix_spec h3).2 h6 h7).2
  rw [this, Nat.sub_zero, List.getD_eq_getElem?_getD, h2]; rfl
 | o h1 h2 => exact (hE.1 _ h1).trans h2
def loOk (ops : Array Oper) (es : List Nat) (o : Oper) (lo : Nat) : Bool := match lo with
 | 0 => true
 | k + 1 => match es[k]? with
  | some n => match ops[n]? with
   | some oj => oj.dst.isSome && o.after.toList.any fun e => Region.binds .any e && e.on == n
   | none => false
  | none => false
def hiOk (ops : Array Oper) (es : List Nat) (i hi : Nat) : Bool := match es[hi]? with
 | some e => match ops[e]? with
  | some oe => DV ops ops.size oe i
  | none => false
 | none => false
theorem lo_le {lo : Nat} (h : loOk ops es o lo = true) (hE : QEnv ops es l a0 o vs b) : lo <= vs.length := by
 cases lo with
 | zero => omega
 | succ k =>
  unfold loOk at h
  cases hk : es[k]? with
  | none => simp [hk] at h
  | some n => cases ho : ops[n]? with
   | none => simp [hk, ho] at h
   | some oj =>
    simp only [hk, ho] at h
    rw [Bool.and_eq_true, Option.isSome_iff_exists, List.any_eq_true] at h
    obtain ⟨⟨d, hd⟩, e, he, h⟩ := h
    rw [Bool.and_eq_true, beq_iff_eq] at h
    obtain ⟨hb, rfl⟩ := h
    exact (hE.2.2 e (by simpa using he) hb k oj d hk ho hd).1
theorem vR {v : Value} (lo hi : Nat) (h : ∀ b w vs, S vs w -> lo <= vs.length -> (hi < es.length -> vs.length <= hi) -> (∀ d {v}, (h : Es ops es l a0 o vs (.tmp d) v := by first | exact .n rfl rfl rfl | exact .x rfl rfl rfl | exact .o (by kernel_rfl) rfl) -> b.eval (.tmp d) = v) -> ∀ K : Act -> World -> Prop, (∀ u, u = v -> K (b.put o.dst u) w) -> o.wp P b w K Q)
  (hc : es.contains i = false := by rfl) (hv : l[i]? = some (some v) := by rfl) (hlo : loOk ops es o lo = true := by kernel_rfl) (hhi : (hi == es.length || hiOk ops es i hi) = true := by kernel_rfl) (hg : o.guard = none := by rfl) : Gk P ops es (Ts l) S a0 Q i o := qread hc fun b w vs hS hcov hold hpre heff =>
 ⟨fun _ K hK => h b w vs hS (lo_le hlo ⟨hold, hpre, heff⟩) (fun hlt => by
   rw [Bool.or_eq_true, beq_iff_eq] at hhi
   have h2 := hhi.resolve_left (by omega)
   unfold hiOk at h2
   split at h2
   ·rename_i e he
    split at h2
    ·rename_i oe hoe; exact hcov hi e oe he hoe h2
    ·cases h2
   ·cases h2) (fun _ {_} h => Es.at h ⟨hold, hpre, heff⟩) K fun u hu => hK u (by unfold Ts; rw [hv]; exact hu), fun hw => by rw [CX hg] at hw; cases hw⟩
theorem vV {v : Value} (h : ∀ b w vs, QEnv ops es l a0 o vs b -> ∀ K : Act -> World -> Prop, K (b.put o.dst v) w -> o.wp P b w K Q) (hc : es.contains i = false) (hv : l[i]? = some (some v)) (hg : o.guard = none) : Gk P ops es (Ts l) S a0 Q i o := qread hc fun b w vs _ _ hold hpre heff =>
 ⟨fun _ K hK => h b w vs ⟨hold, hpre, heff⟩ K (hK v (by unfold Ts; rw [hv])), fun hw => by rw [CX hg] at hw; cases hw⟩
variable {y z : Operand} {A : Addr} {v vx vy : Value}
theorem vM (ho : o.op = .move y := by rfl) (he : ∀ vs, Es ops es l a0 o vs y v := by intro _; first | exact .c | exact .n rfl rfl rfl | exact .o (by kernel_rfl) rfl) (hc : es.contains i = false := by rfl) (hv : l[i]? = some (some v) := by rfl) (hg : o.guard = none := by rfl) : Gk P ops es (Ts l) S a0 Q i o := vV (fun _ _ _ hE _ hK => G0 ho ((he _).at hE) hK) hc hv hg
theorem vF {s : TypeId} {f : Nat} (ho : o.op = .fieldAddr s y f := by rfl) (he : ∀ vs, Es ops es l a0 o vs y vx := by intro _; first | exact .n rfl rfl rfl | exact .o (by kernel_rfl) rfl) (hc : es.contains i = false := by rfl) (hv : l[i]? = some (some v) := by rfl) (hr : ∀ w, (Instr.fieldAt s vx f).run P w = .ok v w := by intro _; kernel_rfl) (hg : o.guard = none := by rfl) : Gk P ops es (Ts l) S a0 Q i o := vV (fun _ _ _ hE _ hK => Cb ho ((he _).at hE) (hr _) hK) hc hv hg
theorem vX (j : Nat) (h : ∀ b w vs, S vs w -> vs.length = j -> (∀ d {v}, (h : Es ops es l a0 o vs (.tmp d) v := by first | exact .n rfl rfl rfl | exact .x rfl rfl rfl | exact .o (by kernel_rfl) rfl) -> b.eval (.tmp d) = v) -> ∀ K : Act -> World -> Prop, (∀ v w', S (vs ++ [v]) w' -> K (b.put o.dst v) w') -> o.wp P b w K Q)
  (hj : es[j]? = some i := by rfl) (hnd : es.Nodup := by decide) (hg : o.guard = none := by rfl) : Gk P ops es (Ts l) S a0 Q i o := qturn j hj hnd fun b w vs hS hl hold hpre heff =>
 ⟨fun _ K hK => h b w vs hS hl (fun _ {_} h => Es.at h ⟨hold, hpre, heff⟩) K hK, fun hw => by rw [CX hg] at hw; cases hw⟩
def Fs (es : List Nat) (us : Nat -> Value) (vs : List Value) : Nat -> List Oper -> List (Option Value) -> Prop
 | i, o :: r, s :: l => match o.dst, ix i es 0, s with
  | some d, some j, _ => match vs[j]? with
   | some v => us d = v /\ Fs es us vs (i + 1) r l
   | none => Fs es us vs (i + 1) r l
  | some d, none, some v => us d = v /\ Fs es us vs (i + 1) r l
  | _, _, _ => Fs es us vs (i + 1) r l
 | _, _, _ => True
theorem ix_none {n : Nat} : ∀ {l : List Nat} {k : Nat}, ix n l k = none -> l.contains n = false
 | [], _, _ => rfl
 | m :: r, k, h => by
  unfold ix at h
  split at h
  ·cases h
  ·rename_i hq
   have h2 := ix_none h
   rw [List.contains_cons, h2, Bool.or_false]
   simp only [beq_eq_false_iff_ne]
   exact fun e => by subst e; rw [Nat.beq_refl] at hq; cases hq
theorem Fs.of {us : Nat -> Value} {vs : List Value} {L : List (Option Value)} : ∀ (r : List Oper) (l : List (Option Value)) (k : Nat), (∀ i, l[i]? = L[k + i]?) -> (∀ i o d, r[i]? = some o -> es.contains (k + i) = false -> o.dst = some d -> Ts L (k + i) (us d)) -> (∀ j i o d, es[j]? = some (k + i) -> r[i]? = some o -> o.dst = some d -> us d = vs.getD j undef) -> Fs es us vs k r l
 | [], _, _, _, _, _ => by unfold Fs; trivial
 | o :: r, [], _, _, _, _ => by unfold Fs; trivial
 | o :: r, s :: l, k, hl, ht, hx => by
  have h0 : L[k]? = some s := by have := hl 0; simpa using this.symm
  have ih : Fs es us vs (k + 1) r l := Fs.of r l (k + 1) (fun i => by have := hl (i + 1); rw [show k + 1 + i = k + (i + 1) by omega, <- this]; simp) (fun i o' d h1 h2 h3 => by
   have := ht (i + 1) o' d (by simpa using h1) (by rwa [show k + (i + 1) = k + 1 + i by omega]) h3
   rwa [show k + (i + 1) = k + 1 + i by omega] at this) fun j i o' d h1 h2 h3 => hx j (i + 1) o' d (by rw [h1]; congr 1; omega) (by simpa using h2) h3
  unfold Fs
  split
  ·rename_i d j hd hj
   split
   ·rename_i v hv
    exact ⟨(hx j 0 o d (by have := (ix_spec hj).2; simpa using this) (by simp) hd).trans (by rw [List.getD_eq_getElem?_getD, hv]; rfl), ih⟩
   ·exact ih
  ·rename_i d v hd hj
   refine ⟨?_, ih⟩
   have := ht 0 o d (by simp) (by simpa using ix_none hj) hd
   unfold Ts at this
   rw [Nat.add_zero, h0] at this
   exact this
  ·exact ih
theorem wp_zS {id : Nat} {W : World} {a : Act} (es : List Nat) (l : List (Option Value)) (S : List Value -> World -> Prop) (hS : S [] W.drew) (hr : EN P ops es (Ts l) S a Q 0 ops.toList)
  (hpost : ∀ us w vs, S vs w -> vs.length = es.length -> Fs es us vs 0 ops.toList l -> Q .normal ⟨Ak us ops.toList a.tmps, a.defers⟩ w)
  (hm : P.follows .mixedOrders = true := by kernel_rfl) (hch : eChain ops es = true := by kernel_rfl) (hnd : es.Nodup := by decide) (hes : (es.all fun i => decide (i < ops.size)) = true := by kernel_rfl) (hk : tOk ops a.tmps.size = true := by kernel_rfl) : (Code.region id ops true).wp P Q a W := by
 refine wp_region_seq es (Ts l) S hm hch hnd hes hk hS hr fun b w vs h1 h2 hdf hsz hold hT hX => ?_
 obtain ⟨us, hus, hb⟩ := EG hdf hsz hold
 subst hb
 exact hpost us w vs h1 h2 (Fs.of (L := l) _ _ 0 (fun i => by simp) (fun i o d q1 q2 q3 => by rw [Nat.zero_add] at q2 ⊢; rw [<- hus]; exact hT i o d (by simpa using q1) q2 q3) fun j i o d q1 q2 q3 => by rw [Nat.zero_add] at q1; rw [<- hus]; exact hX j i o d q1 (by simpa using q2) q3)
end
end
section
open Go.RowKit
attribute [local go_sem ↓] Go.wp_at_zero Go.wp_at_succ
set_option maxRecDepth 20000
set_option exponentiation.threshold 5000
section
variable {w0 w w' : World} {F F' : List Ac} {K r : (Nat -> Prop) -> World -> Prop}
theorem St.perm (h : St w0 w F K) (hp : F'.Perm F) : St w0 w F' K :=
 ⟨h.below, fun f hf => h.holds f (hp.mem_iff.1 hf), (hp.pairwise_iff (fun {f g} hfg k hk e => hfg k e hk)).2 h.apart, h.stable, h.stable _ _ _ _ h.ro (Nat.le_refl _) (fun _ _ _ _ h => h) fun _ h1 _ _ f hf => h1 f (hp.mem_iff.1 hf)⟩
theorem St.nils (h : St w0 w F K) (e : TypeId) (size : Nat) : ∀ n, St w0 w (List.replicate n (.own (.slice none 0 0) e size 0 []) ++ F) K
 | 0 => h
 | n + 1 => by rw [List.replicate_succ, List.cons_append]; exact (St.nils h e size n).nil e size
theorem St.ret2 (h : St w0 w F K) (hb : Below w.heap.size w w') (hr : AC r) (hh : r (fun b => DW F b \/ w.heap.size <= b) w') : St w0 w' F fun D w => K D w /\ r D w :=
 (h.ext hb).add hr hh fun b h1 _ => h1.elim id fun h1 => h.fresh h1
end
section
variable {P : Program} {o : Oper} {a : Act} {w : World} {K : Act -> World -> Prop} {Q : Exit -> Act -> World -> Prop}
theorem opw_mk (l c : Operand) (t : TypeId) (ho : o.op = .makeSlice t l c) {e : TypeId} {size bytes : Nat} (hT : Bd P t e size bytes) (kl kc : IntKind) (n : Nat) (zs : Array Value) (hl : a.eval l = .int kl n) (hcap : a.eval c = .int kc n) (hz : zeroCells P e = zs) (hb : bytes * n <= 281474976710656) (h63 : n <= 1000000000000)
  (hk : ∀ w', w'.ownsRow w.heap.size e size (.slice (some ⟨w.heap.size, 0, none⟩) n n) n (madeCells zs (n * size)).toList -> Below w.heap.size w w' -> K (a.put o.dst (.slice (some ⟨w.heap.size, 0, none⟩) n n)) w') : o.wp P a w K Q := by
 obtain ⟨i, z, hi, hz', h2, h3, h4, h5⟩ := hT.get
 have hzc : zs = z.cells := by rw [<- hz]; simp [zeroCells, hi, hz']
 subst hzc
 obtain ⟨w', hrun, r1, r2⟩ := run_make_full (P := P) w w.heap.size t e i z size hT.under hi hz' h2 kl kc n (by rw [h3]; exact hb) (by unfold maxLen; omega) (Nat.le_refl _)
 unfold Oper.wp
 simp [execOp, ho, hl, hcap, hrun, Result.andThen]
 exact hk _ r1 ((Below.refl _ _).grown r2 (Nat.le_refl _) (by simp))
end
section
variable {P : Program} {o : Oper} {a : Act} {w : World} {K : Act -> World -> Prop} {Q : Exit -> Act -> World -> Prop}
theorem Ii {base g n cap size i : Nat} {e ty : TypeId} {xs : List Value} {u : Value} (h : w.ownsRow base e size (.slice (some ⟨g, 0, none⟩) n cap) n xs) (hi : i < n * size) (h1 : u.oneCell' = true) (hs : (P.info? ty).map (·.size) = some 1) :
  (Instr.storeAt ty (.pointer (some ⟨g, i, none⟩)) (.agg #[u])).run P w = .ok () (w.setCell ⟨g, i, none⟩ u) := by
 obtain ⟨cs, h2, h3, _⟩ := FY h
 have hc := h2.cell i
 have hf := h2.free i
 have := run_storeCells_cells (P := P) g i [u] 0 w (fun j hj => by simp at hj; subst hj; simp [hc]; omega) (fun j hj => by simp at hj; subst hj; simpa using hf) (by simpa using h1)
 cases hq : P.info? ty with
 | none => simp [hq] at hs
 | some inf =>
  have hs' : inf.size = 1 := by simpa [hq] using hs
  simp only [Nat.add_zero] at this
  simp [Instr.storeAt, Instr.sureAddr, storeVar, sizeOf, typeInfo, hq, Value.cells, hs', this, World.setCells]
theorem GZ {ty e : TypeId} {x y : Operand} {g i base n cap size : Nat} {u : Value} {xs : List Value} (ho : o.op = .store ty x y) (hx : a.eval x = .pointer (some ⟨g, i, none⟩)) (hy : a.eval y = .agg #[u]) (hown : w.ownsRow base e size (.slice (some ⟨g, 0, none⟩) n cap) n xs) (hi : i < n * size)
  (h1 : u.oneCell' = true) (hs : (P.info? ty).map (·.size) = some 1) (hk : ∀ w', w'.ownsRow base e size (.slice (some ⟨g, 0, none⟩) n cap) n (xs.set i u) -> Hr g w w' -> K (a.put o.dst undef) w') : o.wp P a w K Q := by
 unfold Oper.wp execOp
 simp only [ho, hx, hy, Sem.run_bind, Ii hown hi h1 hs, Result.andThen_ok]
 exact hk _ (hown.stored i u).1 (BA w g i u)
theorem Ek {t : TypeId} {x : Operand} {g i base n cap : Nat} {e : TypeId} {xs : List Value} {u : Value} {d : TypeDesc} (ho : o.op = .load t x) (hx : a.eval x = .pointer (some ⟨g, i, none⟩)) (hown : w.ownsRow base e 1 (.slice (some ⟨g, 0, none⟩) n cap) n xs) (hu : xs[i]? = some u)
  (ht : P.underlying t = some d) (hd : d.isRow = true) (hs : (P.info? t).map (·.size) = some 1) (hk : K (a.put o.dst (.agg #[u])) w) : o.wp P a w K Q :=
 AU (cs := [u]) ho hx (fun j v hj => by
  have : j = 0 := by
   rcases Nat.eq_zero_or_pos j with h | h
   ·exact h
   ·rw [List.getElem?_eq_none (by simp; omega)] at hj; cases hj
  subst this
  simp at hj; subst hj
  exact BJ hown i _ hu) ht hd hs hk
end
theorem lit_of {tm : Array Value} {n : Nat} (h : tm.size = n) : tm = ((List.range n).map fun i => tm.getD i undef).toArray := by
 apply Array.ext
 ·simp [h]
 ·intro i h1 h2
  simp [h1]
theorem EU {w : World} {D : Nat -> Prop} {v : Value} {N : Nat} (h : Aa w D v N) : ∃ u, v = .agg #[u] /\ u.oneCell' = true := by
 obtain ⟨u, l, rfl, _, _, _, A, c, rfl, _⟩ := h
 exact ⟨_, rfl, rfl⟩
theorem ints_natA (l : List Nat) (k : Nat) (h : k < l.length) : (Be (Ae l))[k]? = some (.int .i64 (l.getD k 0 : Nat)) := by
 simp [Be, Ae, List.getElem?_eq_getElem h, List.getD_eq_getElem?_getD]
theorem low_of {w0 w : World} {F : List Ac} {K : (Nat -> Prop) -> World -> Prop} (h : St w0 w F K) : ∀ f ∈ F, f.low w.heap.size := fun f hf => by
 cases f with
 | obj g o => exact .inr ⟨g, o, rfl, h.lt hf rfl⟩
 | box => exact .inl rfl
 | own => exact .inl rfl
def D7 (dv : Nat -> Value) (g : Nat -> List Nat) (n : Nat) : List Ac := (List.range n).map fun k => .own (dv k) 3 1 (g k).length (Be (Ae (g k)))
theorem famF_len (dv : Nat -> Value) (g : Nat -> List Nat) (n : Nat) : (D7 dv g n).length = n := by simp [D7]
theorem fam_at {dv : Nat -> Value} {g : Nat -> List Nat} {n k : Nat} (h : k < n) : (D7 dv g n)[k]? = some (.own (dv k) 3 1 (g k).length (Be (Ae (g k)))) := by simp [D7, h]
theorem fam_set (dv : Nat -> Value) (g : Nat -> List Nat) (n k : Nat) (v : Value) (l : List Nat) : (D7 dv g n).set k (.own v 3 1 l.length (Be (Ae l))) = D7 (fun j => if j = k then v else dv j) (fun j => if j = k then l else g j) n := by
 apply List.ext_getElem
 ·simp [D7]
 ·intro j h1 h2
  simp only [D7, List.getElem_set, List.getElem_map, List.getElem_range]
  by_cases e : k = j
  ·subst e; simp
  ·rw [if_neg e, if_neg (fun h => e h.symm), if_neg (fun h => e h.symm)]
theorem fam_nil (n : Nat) : D7 (fun _ => .slice none 0 0) (fun _ => []) n = List.replicate n (.own (.slice none 0 0) 3 1 0 []) := by
 apply List.ext_getElem <;> simp [D7, Be, Ae]
theorem St.fam {w0 w : World} {H F0 : List Ac} {K : (Nat -> Prop) -> World -> Prop} {dv : Nat -> Value} {g : Nat -> List Nat} {n : Nat} (h : St w0 w (H ++ (D7 dv g n ++ F0)) K) {k : Nat} (hk : k < n) : w.ownsRow w0.heap.size 3 1 (dv k) (g k).length (Be (Ae (g k))) :=
 h.holds (.own (dv k) 3 1 (g k).length (Be (Ae (g k)))) (List.mem_append_right _ (List.mem_append_left _ (List.mem_of_getElem? (fam_at hk))))
theorem St.updFam {w0 w w' : World} {H F0 : List Ac} {K : (Nat -> Prop) -> World -> Prop} {dv : Nat -> Value} {g : Nat -> List Nat} {n : Nat} (h : St w0 w (H ++ (D7 dv g n ++ F0)) K) {k : Nat} (hk : k < n) (v : Value) (l : List Nat) (hg : w.grownBy w' (dv k).ownBlock)
  (ho : w'.ownsRow w0.heap.size 3 1 v l.length (Be (Ae l))) (hb : ∀ x, v.ownBlock = some x -> (dv k).ownBlock = some x \/ w.heap.size <= x) : St w0 w' (H ++ (D7 (fun j => if j = k then v else dv j) (fun j => if j = k then l else g j) n ++ F0)) K := by
 have hi : (H ++ (D7 dv g n ++ F0))[H.length + k]? = some (.own (dv k) 3 1 (g k).length (Be (Ae (g k)))) := by
  rw [List.getElem?_append_right (by omega), Nat.add_sub_cancel_left, List.getElem?_append_left (by rw [famF_len]; exact hk), fam_at hk]
 have h1 := h.upd _ hi (.own v 3 1 l.length (Be (Ae l))) hg ho hb
 rw [List.set_append_right _ _ (by omega), Nat.add_sub_cancel_left, List.set_append_left _ _ (by rw [famF_len]; exact hk), fam_set] at h1
 exact h1
theorem dv_set (dv : Nat -> Value) (n k : Nat) (v : Value) : ((List.range n).map dv).set k v = (List.range n).map (fun j => if j = k then v else dv j) := by
 apply List.ext_getElem
 ·simp
 ·intro j h1 h2
  simp only [List.getElem_set, List.getElem_map, List.getElem_range]
  by_cases e : k = j
  ·subst e; simp
  ·rw [if_neg e, if_neg (fun h => e h.symm)]
theorem dv_at {dv : Nat -> Value} {n k : Nat} (h : k < n) : ((List.range n).map dv)[k]? = some (dv k) := by simp [h]
theorem dirs_le (L : List (Nat × Nat)) (b : Nat) : (Cg L b).length <= L.length := by
 unfold Cg; rw [List.length_map]; exact List.length_filter_le _ _
theorem dirs_take (L : List (Nat × Nat)) : Cg (L.take 0) = fun _ => [] := by funext b; simp [Cg]
def C1 (xs : List Value) (n : Nat) (f : Nat -> Nat) (D : Nat -> Prop) (w : World) : Prop := ∀ k, k < n -> ∃ u, xs[k]? = some u /\ Aa w D (.agg #[u]) (f k)
theorem Bf {xs : List Value} {n : Nat} {f : Nat -> Nat} : AC (C1 xs n f) := fun D D' w w' h a b c k hk => by
 obtain ⟨u, h1, h2⟩ := h k hk
 exact ⟨u, h1, Ab D D' w w' h2 a b c⟩
theorem C1.zero (n : Nat) (D : Nat -> Prop) (w : World) : C1 (List.replicate n (.slice none 0 0)) n (fun _ => 0) D w := fun k hk => ⟨.slice none 0 0, by simp [hk], Aa.empty⟩
theorem C1.set {xs : List Value} {n k N : Nat} {f : Nat -> Nat} {D : Nat -> Prop} {w : World} {u : Value} (h : C1 xs n f D w) (hl : xs.length = n) (hu : Aa w D (.agg #[u]) N) : C1 (xs.set k u) n (fun j => if j = k then N else f j) D w := fun j hj => by
 by_cases e : k = j
 ·subst e; exact ⟨u, by simp [hl, hj], by simpa using hu⟩
 ·obtain ⟨v, h1, h2⟩ := h j hj
  refine ⟨v, by rw [List.getElem?_set_ne e]; exact h1, ?_⟩
  have : ¬ j = k := fun h => e h.symm
  simpa [this] using h2
theorem C1.congr {xs : List Value} {n : Nat} {f g : Nat -> Nat} {D : Nat -> Prop} {w : World} (h : C1 xs n f D w) (e : ∀ k, k < n -> f k = g k) : C1 xs n g D w := fun k hk => by rw [<- e k hk]; exact h k hk
theorem ty_sets : Bd Tryz.prog 220 39 1 24 := ⟨Tryz.underlying220, by kernel_rfl⟩
theorem ty_rows : Bd Tryz.prog 238 74 1 24 := ⟨Tryz.underlying238, by kernel_rfl⟩
theorem mk_nils (n : Nat) : (madeCells #[Value.slice none 0 0] (n * 1)).toList = List.replicate n (.slice none 0 0) := by rw [Nat.mul_one, toList_madeCells_one]
structure Two where
 a : Option Nat
 b : Option Nat
 s : Bool
 t : Bool
def Fe (n : Nat) : Option Nat -> List Ac
 | some g => [.own (.slice (some ⟨g, 0, none⟩) n n) 39 1 n (List.replicate n (.slice none 0 0))]
 | none => []
def F9 (n : Nat) : Option Nat -> Bool -> Value
 | some g, true => .slice (some ⟨g, 0, none⟩) n n
 | _, _ => .slice none 0 0
def Two.F (q n : Nat) (pv sv : Value) (x : Two) : List Ac := .box q 222 #[.int .i64 (n : Nat), pv, F9 n x.a x.s, F9 n x.b x.t, sv] :: (Fe n x.a ++ Fe n x.b)
section
variable {w0 : World} {K : (Nat -> Prop) -> World -> Prop} {Y : List Ac} {q n : Nat} {pv sv : Value} {p p' : World × Two}
def En (w0 : World) (K : (Nat -> Prop) -> World -> Prop) (Y : List Ac) (q n : Nat) (pv sv : Value) (p : World × Two) : Prop := St w0 p.1 (Two.F q n pv sv p.2 ++ Y) K
def TwoR (w0 : World) (K : (Nat -> Prop) -> World -> Prop) (Y : List Ac) (q n : Nat) (pv sv : Value) (p p' : World × Two) : Prop :=
 (En w0 K Y q n pv sv p -> En w0 K Y q n pv sv p') /\ (∀ g, p.2.a = some g -> p'.2.a = some g) /\ (∀ g, p.2.b = some g -> p'.2.b = some g) /\ (p.2.s = true -> p'.2.s = true) /\ (p.2.t = true -> p'.2.t = true)
theorem TwoR.refl (p : World × Two) : TwoR w0 K Y q n pv sv p p := ⟨id, fun _ h => h, fun _ h => h, id, id⟩
theorem TwoR.trans (a b c : World × Two) (h : TwoR w0 K Y q n pv sv a b) (k : TwoR w0 K Y q n pv sv b c) : TwoR w0 K Y q n pv sv a c :=
 ⟨fun x => k.1 (h.1 x), fun g x => k.2.1 g (h.2.1 g x), fun g x => k.2.2.1 g (h.2.2.1 g x), fun x => k.2.2.2.1 (h.2.2.2.1 x), fun x => k.2.2.2.2 (h.2.2.2.2 x)⟩
theorem En.bq (h : En w0 K Y q n pv sv p) : BS p.1 q 222 #[.int .i64 (n : Nat), pv, F9 n p.2.a p.2.s, F9 n p.2.b p.2.t, sv] := (St.holds h (.box q 222 _) (by simp [Two.F])).2
theorem En.y (h : En w0 K Y q n pv sv p) {g : Nat} {t : TypeId} {cs : Array Value} (hy : Ac.box g t cs ∈ Y) : BS p.1 g t cs := (St.holds h (.box g t cs) (by simp [hy])).2
theorem En.mkA {w' : World} {g : Nat} (h : En w0 K Y q n pv sv p) (ha : p.2.a = none /\ p.2.s = false) (hb : Below p.1.heap.size p.1 w') (ho : w'.ownsRow p.1.heap.size 39 1 (.slice (some ⟨g, 0, none⟩) n n) n (List.replicate n (.slice none 0 0))) :
  En w0 K Y q n pv sv (w', { p.2 with a := some g }) := by
 obtain ⟨w, a, b, s, t⟩ := p
 obtain ⟨rfl, rfl⟩ := ha
 have h1 := St.new h hb (.own (.slice (some ⟨g, 0, none⟩) n n) 39 1 n (List.replicate n (.slice none 0 0))) ho
 refine h1.perm ?_
 simp only [Two.F, Fe, F9, List.nil_append, List.cons_append]
 exact List.Perm.swap ..
theorem En.mkB {w' : World} {g : Nat} (h : En w0 K Y q n pv sv p) (ha : p.2.b = none /\ p.2.t = false) (hb : Below p.1.heap.size p.1 w') (ho : w'.ownsRow p.1.heap.size 39 1 (.slice (some ⟨g, 0, none⟩) n n) n (List.replicate n (.slice none 0 0))) :
  En w0 K Y q n pv sv (w', { p.2 with b := some g }) := by
 obtain ⟨w, a, b, s, t⟩ := p
 obtain ⟨rfl, rfl⟩ := ha
 have h1 := St.new h hb (.own (.slice (some ⟨g, 0, none⟩) n n) 39 1 n (List.replicate n (.slice none 0 0))) ho
 refine h1.perm ?_
 cases a with
 | none => simp only [Two.F, Fe, F9, List.nil_append, List.cons_append]; exact List.Perm.swap ..
 | some g' =>
  simp only [Two.F, Fe, F9, List.nil_append, List.cons_append]
  exact ((List.Perm.swap ..).cons _).trans (List.Perm.swap ..)
theorem En.stA {w' : World} {g : Nat} (h : En w0 K Y q n pv sv p) (ha : p.2.a = some g) (hX : BS w' q 222 #[.int .i64 (n : Nat), pv, .slice (some ⟨g, 0, none⟩) n n, F9 n p.2.b p.2.t, sv]) (hU : Hr q p.1 w') : En w0 K Y q n pv sv (w', { p.2 with s := true }) := by
 obtain ⟨w, a, b, s, t⟩ := p
 dsimp only at ha
 subst ha
 have h0 : St w0 w (.box q 222 #[.int .i64 (n : Nat), pv, F9 n (some g) s, F9 n b t, sv] :: ((Fe n (some g) ++ Fe n b) ++ Y)) K := h
 exact h0.upd 0 rfl (.box q 222 #[.int .i64 (n : Nat), pv, .slice (some ⟨g, 0, none⟩) n n, F9 n b t, sv]) (Bh hU) ⟨(h0.holds _ (.head _)).1, hX⟩ fun _ e => .inl e
theorem En.stB {w' : World} {g : Nat} (h : En w0 K Y q n pv sv p) (ha : p.2.b = some g) (hX : BS w' q 222 #[.int .i64 (n : Nat), pv, F9 n p.2.a p.2.s, .slice (some ⟨g, 0, none⟩) n n, sv]) (hU : Hr q p.1 w') : En w0 K Y q n pv sv (w', { p.2 with t := true }) := by
 obtain ⟨w, a, b, s, t⟩ := p
 dsimp only at ha
 subst ha
 have h0 : St w0 w (.box q 222 #[.int .i64 (n : Nat), pv, F9 n a s, F9 n (some g) t, sv] :: ((Fe n a ++ Fe n (some g)) ++ Y)) K := h
 exact h0.upd 0 rfl (.box q 222 #[.int .i64 (n : Nat), pv, F9 n a s, .slice (some ⟨g, 0, none⟩) n n, sv]) (Bh hU) ⟨(h0.holds _ (.head _)).1, hX⟩ fun _ e => .inl e
end
def FR (q n : Nat) (pv sv av bv : Value) (g1 g2 : Nat) (S : List Nat) (ds xa xb : List Value) (X : List Ac) : List Ac :=
 [.own (.slice (some ⟨g2, 0, none⟩) n n) 74 1 n ds, .box q 222 #[.int .i64 (n : Nat), pv, av, bv, sv], .own av 39 1 n xa, .own bv 39 1 n xb, .box g1 179 #[.pointer (some ⟨q, 0, none⟩)], .own sv 3 1 S.length (Be (Ae S))] ++ X
theorem Ft (T : Array Value) (p : Tmp) (v : Value) : (Array.zip #[p] #[v]).foldl (fun t (x : Tmp × Value) => match x with | (p, v) => t.setIfInBounds p v) T = T.setIfInBounds p v := by
 have h : Array.zip #[p] #[v] = #[(p, v)] := by
  apply Array.ext
  ·simp
  ·intro i h1 h2
   simp at h2
   subst h2
   simp
 rw [h]; simp
theorem perm_mark (A B C M : List Ac) (o : Ac) : ((A ++ (B ++ (C ++ M))) ++ [o]).Perm (A ++ (B ++ (C ++ (o :: M)))) := by
 simp only [List.append_assoc]
 exact (List.Perm.refl A).append ((List.Perm.refl B).append ((List.Perm.refl C).append (List.perm_append_singleton o M)))
theorem G2 {ws : List Nat} (hw : AW ws) {k : Nat} : ((k : Nat) : Int) ∈ AV ws ↔ (val ws).testBit k = true := by
 have h1 : ((k : Nat) : Int) ∈ AV ws ↔ k ∈ Bp (val ws) (64 * ws.length) := by
  simp only [AV, Ae, List.mem_map]
  exact ⟨fun ⟨a, ha, e⟩ => by have : a = k := by omega
                              exact this ▸ ha, fun h => ⟨k, h, rfl⟩⟩
 rw [h1, Bp, List.mem_filter]
 refine ⟨fun h => h.2, fun h => ⟨List.mem_range.2 ?_, h⟩⟩
 rw [B3 hw] at h
 rcases Nat.lt_or_ge (k / 64) ws.length with h2 | h2
 ·omega
 ·rw [List.getD_eq_getElem?_getD, List.getElem?_eq_none h2] at h; simp at h
theorem memL_nat {ws : List Nat} {x : Int} (h : x ∈ AV ws) : ∃ k : Nat, x = (k : Int) := by
 simp only [AV, Ae, List.mem_map] at h
 obtain ⟨a, _, e⟩ := h
 exact ⟨a, e.symm⟩
theorem St.dom {w0 w : World} {F : List Ac} {K : (Nat -> Prop) -> World -> Prop} (h : St w0 w F K) : ∃ DD : Nat -> Prop, DD = DW F /\ K DD w := ⟨_, rfl, h.ro⟩
theorem Ey {F : Fence} {n : Nat} {P : Program} {c : Code} {Q : Exit -> Act -> World -> Prop} {a : Act} {w : World} (h : ∀ act, act = a -> c.wpIn F n P Q act w) : c.wpIn F n P Q a w := h a rfl
def relK (K : (Nat -> Prop) -> World -> Prop) (n : Nat) (L : List (Nat × Nat)) (S : List Nat) (i : Nat) (xa xb : List Value) (D : Nat -> Prop) (w : World) : Prop :=
 K D w /\ C1 xa n (fun k => if k ∈ S.take i then aboveM n L k else 0) D w /\ C1 xb n (blP n L (S.take i)) D w
theorem stable_relK {K : (Nat -> Prop) -> World -> Prop} (hK : AC K) (n : Nat) (L : List (Nat × Nat)) (S : List Nat) (i : Nat) (xa xb : List Value) : AC (relK K n L S i xa xb) := hK.and (Bf.and Bf)
structure RelI (w0 : World) (K : (Nat -> Prop) -> World -> Prop) (F0 : List Ac) (q n : Nat) (pv sv av bv : Value) (g1 g2 : Nat) (L : List (Nat × Nat)) (S : List Nat) (dv : Nat -> Value) (m : Nat) (a : Act) (w : World) (i : Nat) (ds : List Nat) (xa xb : List Value) : Prop where
 im : i + m = n
 size : a.tmps.size = 121
 s1 : a.tmps.getD 1 undef = .pointer (some ⟨g1, 0, none⟩)
 s2 : a.tmps.getD 2 undef = .slice (some ⟨g2, 0, none⟩) n n
 s57 : a.tmps.getD 57 undef = sv
 s58 : a.tmps.getD 58 undef = .int .i64 (S.length : Nat)
 s59 : a.tmps.getD 59 undef = .int .i64 (i : Nat)
 df : a.defers = marksD ds
 xal : xa.length = n
 xbl : xb.length = n
 st : St w0 w (FR q n pv sv av bv g1 g2 S ((List.range n).map dv) xa xb (D7 dv (Cg L) n ++ (F0 ++ Ce ds))) (relK K n L S i xa xb)
set_option maxHeartbeats 1000000 in
theorem orelate_any {w0 w : World} {F0 : List Ac} {K : (Nat -> Prop) -> World -> Prop} (q n : Nat) (L : List (Nat × Nat)) (S : List Nat) (pv sv : Value) (hn : n <= 256) (hL : Ew n L) (hl : L.length <= 1000000) (hT : Gi L S) (hSn : S.length = n) (hSb : ∀ y ∈ S, y < n)
  (hS : St w0 w (.own sv 3 1 S.length (Be (Ae S)) :: .box q 222 #[.int .i64 (n : Nat), pv, .slice none 0 0, .slice none 0 0, sv] :: F0) K)
  (kp : ∀ D w, K D w -> Sl w D 2 pv L.length (Ad L)) (kt : ∀ D w, K D w -> Bl w /\ D 0) :
  Calls Tryz.prog 183 #[.pointer (some ⟨q, 0, none⟩)] w fun e w' => ∃ (av bv : Value) (xa xb : List Value), e = .returned (.tuple #[]) /\
   St w0 w' (.box q 222 #[.int .i64 (n : Nat), pv, av, bv, sv] :: F0) fun D w => K D w /\ (Sl w D 1 av n xa /\ C1 xa n (aboveM n L) D w) /\ (Sl w D 1 bv n xb /\ C1 xb n (belowM n L) D w) := by
 obtain ⟨A, c, rfl, _, _⟩ := (kp _ _ hS.ro).shape
 have HL := Lib.hid hL
 have KS := hS.stable
 have HT := Lib.hid hT
 have HSB := Lib.hid hSb
 have hSn1 : S.length <= n := Nat.le_of_eq hSn
 have hSn2 : n <= S.length := Nat.le_of_eq hSn.symm
 obtain ⟨As, cs, rfl, _, _⟩ := B7 (hS.own 0 rfl)
 obtain ⟨sv, hsv⟩ : ∃ sv : Value, sv = .slice As S.length cs := ⟨_, rfl⟩
 rw [<- hsv] at hS ⊢
 clear hL hT hSb hSn
 refine (callsIn_wide (n := 6)).1 (callsIn_of_wp_marks Tryz.func183 rfl trivial ?_ rfl)
 simp only [Tryz.ntmps183, List.size_toArray, List.length_cons, List.length_nil, Nat.reduceAdd, Nat.reduceSub, Array.replicate_succ, Array.replicate_zero, List.push_toArray, List.append_toArray, List.nil_append, List.cons_append]
 refine wpIn_wide.2 ?_
 go_wp2_with (first
  | ((with_reducible refine qA 1 ?_); refine Aw hS rfl _ _ rfl (.pointer (some ⟨q, 0, none⟩)) _ rfl rfl ?_; clear hS; intro g1 w_ hS; (try simp only [Act.put, Act.eval, zz, Value.cells] at hS)))
 obtain ⟨Y, hY⟩ : ∃ Y : List Ac, Y = .box g1 179 #[.pointer (some ⟨q, 0, none⟩)] :: .own sv 3 1 S.length (Be (Ae S)) :: F0 := ⟨_, rfl⟩
 have hJ0 : En w0 K Y q n (.slice A L.length c) sv (w_.drew, ⟨none, none, false, false⟩) := by
  rw [hY]
  refine hS.drew.perm ?_
  simp only [Two.F, Fe, F9, List.nil_append, List.cons_append]
  exact (List.Perm.swap ..).trans ((List.Perm.swap ..).cons _)
 have HY1 := Lib.hid (show Ac.box g1 179 #[.pointer (some ⟨q, 0, none⟩)] ∈ Y by rw [hY]; simp)
 have HY := Lib.hid hY
 clear hY hS
 have hRr := @TwoR.refl w0 K Y q n (.slice A L.length c) sv
 have hRt := @TwoR.trans w0 K Y q n (.slice A L.length c) sv
 refine Ex (TwoR w0 K Y q n (.slice A L.length c) sv) (fun i p => match i with | 6 => p.2.a = none /\ p.2.s = false | 11 => p.2.b = none /\ p.2.t = false | _ => True) (⟨none, none, false, false⟩) hRr hRt [.q q 0, .q q 0, .q q 0, .q q 0, .q q 0, .n (n : Nat), .s (fun v w => ∃ g, w.2.a = some g /\ v = .slice (some ⟨g, 0, none⟩) n n) fun v w w' h hb => ⟨_, hb.2.1 _ h.choose_spec.1, h.choose_spec.2⟩, .q q 0, .q q 0, .q q 0, .n (n : Nat), .s (fun v w => ∃ g, w.2.b = some g /\ v = .slice (some ⟨g, 0, none⟩) n n) fun v w w' h hb => ⟨_, hb.2.2.1 _ h.choose_spec.1, h.choose_spec.2⟩, .q q 0, .q q 2, .s (fun v w => w.2.s = true) fun v w w' h hb => hb.2.2.2.1 h, .q q 0, .q q 3, .s (fun v w => w.2.t = true) fun v w w' h hb => hb.2.2.2.2 h] ?_ ⟨uC (h := fun w hW hN => ((hW.1 hJ0).y HY1.out).cell 0), uC (h := fun w hW hN => ((hW.1 hJ0).y HY1.out).cell 0), uC (h := fun w hW hN => ((hW.1 hJ0).y HY1.out).cell 0), uN, uF, uC (h := fun w hW hN => (hW.1 hJ0).bq.cell 0), ?_, uC (h := fun w hW hN => ((hW.1 hJ0).y HY1.out).cell 0), uN, uF, uC (h := fun w hW hN => (hW.1 hJ0).bq.cell 0), ?_, uN, uF, ?_, uN, uF, ?_, trivial⟩ ?_
 ·first | assumption | (intro i; (try dsimp only); split <;> first | trivial | assumption | (left; assumption))
 ·refine uG fun b__ w hW hN hE K hK => ?_
  have e15 := hE 15
  exact opw_mk _ _ _ rfl ty_sets .i64 .i64 n #[.slice none 0 0] e15 e15 (by kernel_rfl) (by omega) (by omega) fun w' ho hb => hK _ (w', { w.2 with a := some w.1.heap.size }) ⟨_, rfl, rfl⟩ ⟨⟨fun hj => hj.mkA hN hb (by rw [<- mk_nils]; exact ho), (fun g h => by rw [hN.1] at h; cases h), (fun _ h => h), id, id⟩, fun j hj hn => by split <;> first | exact absurd rfl hj | exact hn | trivial⟩
 ·refine uG fun b__ w hW hN hE K hK => ?_
  have e20 := hE 20
  exact opw_mk _ _ _ rfl ty_sets .i64 .i64 n #[.slice none 0 0] e20 e20 (by kernel_rfl) (by omega) (by omega) fun w' ho hb => hK _ (w', { w.2 with b := some w.1.heap.size }) ⟨_, rfl, rfl⟩ ⟨⟨fun hj => hj.mkB hN hb (by rw [<- mk_nils]; exact ho), (fun _ h => h), (fun g h => by rw [hN.1] at h; cases h), id, id⟩, fun j hj hn => by split <;> first | exact absurd rfl hj | exact hn | trivial⟩
 ·refine uG fun b__ w hW hN hE K hK => ?_
  have e23 := hE 23
  have e16 := hE 16
  obtain ⟨ga, ha, ev⟩ := e16
  exact BE rfl e23 ev (hW.1 hJ0).bq (by simp) rfl rfl (by kernel_rfl) fun w' hX hU => hK undef (w', { w.2 with s := true }) rfl ⟨⟨fun hj => hj.stA ha hX hU, (fun _ h => h), (fun _ h => h), (fun _ => rfl), id⟩, fun j hj hn => by split <;> first | (exfalso; rw [hn.1] at ha; cases ha) | exact hn | trivial⟩
 ·refine uG fun b__ w hW hN hE K hK => ?_
  have e25 := hE 25
  have e21 := hE 21
  obtain ⟨ga, ha, ev⟩ := e21
  exact BE rfl e25 ev (hW.1 hJ0).bq (by simp) rfl rfl (by kernel_rfl) fun w' hX hU => hK undef (w', { w.2 with t := true }) rfl ⟨⟨fun hj => hj.stB ha hX hU, (fun _ h => h), (fun _ h => h), id, (fun _ => rfl)⟩, fun j hj hn => by split <;> first | (exfalso; rw [hn.1] at ha; cases ha) | exact hn | trivial⟩
 ·intro vs wz hW hT
  obtain ⟨e10, e11, e12, e13, e14, e15, e16, e17, e18, e19, e20, e21, e22, e23, z14, e24, e25, z17, -⟩ := hT
  have bx : (fun _ : Nat => True) 0 := trivial
  simp only [Ak, Act.put, zz, ze]
  obtain ⟨g6, ha6, -⟩ := e16
  obtain ⟨g11, ha11, -⟩ := e21
  obtain ⟨_, hs14⟩ := z14
  obtain ⟨_, ht17⟩ := z17
  have hJ := hW.1 hJ0
  obtain ⟨W2, ⟨ta, tb, ts, tt⟩⟩ := wz
  dsimp only at ha6 ha11 hs14 ht17
  subst ha6 ha11 hs14 ht17
  have hS : St w0 W2 (.box q 222 #[.int .i64 (n : Nat), .slice A L.length c, .slice (some ⟨g6, 0, none⟩) n n, .slice (some ⟨g11, 0, none⟩) n n, sv] :: .own (.slice (some ⟨g6, 0, none⟩) n n) 39 1 n (List.replicate n (.slice none 0 0)) :: .own (.slice (some ⟨g11, 0, none⟩) n n) 39 1 n (List.replicate n (.slice none 0 0)) :: .box g1 179 #[.pointer (some ⟨q, 0, none⟩)] :: .own sv 3 1 S.length (Be (Ae S)) :: F0) K := by
   have h : St w0 W2 (Two.F q n (.slice A L.length c) sv ⟨some g6, some g11, true, true⟩ ++ Y) K := hJ
   rw [HY.out] at h; exact h
  clear hJ hJ0 HY HY1 hW hRr hRt
  go_wp2_with (first
   | ((with_reducible refine qK ?_); refine qC hS ?_)
   | ((with_reducible show wpList _ _ _ (⟨_, .makeSlice _ _ _, _, _, _, _⟩ :: _) _ _); refine st_mk hS rfl _ _ _ rfl ty_rows .i64 .i64 n #[.slice none 0 0] rfl rfl (by kernel_rfl) (by omega) (by omega) ?_; clear hS; intro g2 w_ hS))
  rw [mk_nils] at hS
  have hS1 : St w0 w_ (FR q n (.slice A L.length c) sv (.slice (some ⟨g6, 0, none⟩) n n) (.slice (some ⟨g11, 0, none⟩) n n) g1 g2 S ((List.range n).map fun _ => .slice none 0 0) (List.replicate n (.slice none 0 0)) (List.replicate n (.slice none 0 0)) (D7 (fun _ => .slice none 0 0) (Cg (L.take 0)) n ++ F0)) K := by
   have e : (List.range n).map (fun _ => Value.slice none 0 0) = List.replicate n (.slice none 0 0) := by apply List.ext_getElem <;> simp
   rw [e, dirs_take, fam_nil]
   refine (hS.nils 3 1 n).perm ?_
   exact List.perm_append_comm_assoc ..
  clear hS
  go_loopw [36] (fun i wr => ∃ (j : Nat) (dv : Nat -> Value), j <= L.length /\ i = .int .i64 j /\ St w0 wr (FR q n (.slice A L.length c) sv (.slice (some ⟨g6, 0, none⟩) n n) (.slice (some ⟨g11, 0, none⟩) n n) g1 g2 S ((List.range n).map dv) (List.replicate n (.slice none 0 0)) (List.replicate n (.slice none 0 0)) (D7 dv (Cg (L.take j)) n ++ F0)) K) (fun i _ => L.length - (intOf i).toNat)
  case atStart => exact ⟨0, _, by omega, rfl, hS1⟩
  case round =>
   clear hS1
   obtain ⟨j, dv, hj, rfl, hS⟩ := hrel
   by_cases hlj : j < L.length
   ·obtain ⟨f1, f2⟩ := Bj L j hlj
    have HG := Lib.hid (C4 (0, 0) hlj)
    have hm := HL.out (L.getD j (0, 0)) (by rw [List.getD_eq_getElem?_getD, List.getElem?_eq_getElem hlj]; exact List.getElem_mem hlj)
    generalize L.getD j (0, 0) = x at *
    obtain ⟨xa, xb⟩ := x
    dsimp only at f1 f2 hm
    obtain ⟨ha, hxb⟩ := hm
    have HC := Lib.hid (show Cg (L.take (j + 1)) = fun y => if y = xb then Cg (L.take j) xb ++ [xa] else Cg (L.take j) y from funext fun y => by
     rw [dirs_step HG.out]
     by_cases e : y = xb
     ·subst e; simp
     ·rw [if_neg e, if_neg (fun h => e h.symm)])
    go_wp2_with (first
     | ((with_reducible refine qB ?_); refine qc ?_ ?_ <;> intro h_ <;> go_prune)
     | ((with_reducible refine qI ?_); refine qj hS Tryz.underlying25 ?_; intro b_ j_ hc0_ hc1_)
     | ((with_reducible refine qA 4 ?_); refine AO hS rfl _ rfl (by kernel_rfl) ?_; clear hS; intro g4 w_ hS; (try simp only [Act.put, Act.eval, zz, Value.cells] at hS))
     | ((with_reducible refine qM ?_); (first | refine qS hS ?_ | refine qT hS ?_); clear hS; intro w_ hS; (try simp only [Act.put, Act.eval, zz, Value.cells] at hS))
     | ((with_reducible refine qK ?_); refine qC hS ?_))
    have hdl := dirs_le (L.take j) xb
    have hdt : (L.take j).length <= 1000000 := by rw [List.length_take]; omega
    replace hS := hS.drew
    refine wp_zS [10, 11, 13] [some (.slice (some ⟨g2, 0, none⟩) n n), some (.pointer (some ⟨g4, 1, none⟩)), some (.int .i64 ((xb : Nat) : Int)), some (.slice (some ⟨g2, 0, none⟩) n n), some (.pointer (some ⟨g4, 1, none⟩)), some (.int .i64 ((xb : Nat) : Int)), some (.pointer (some ⟨g2, 0 + (xb) * 1, none⟩)), some (dv xb), some (.pointer (some ⟨g4, 0, none⟩)), some (.int .i64 ((xa : Nat) : Int)), none, none, some (.pointer (some ⟨g2, 0 + (xb) * 1, none⟩)), none] (fun vs w => match vs with | [] => St w0 w (.box g4 107 #[.int .i64 ((xa : Nat) : Int), .int .i64 ((xb : Nat) : Int)] :: FR q n (.slice A L.length c) sv (.slice (some ⟨g6, 0, none⟩) n n) (.slice (some ⟨g11, 0, none⟩) n n) g1 g2 S ((List.range n).map dv) (List.replicate n (.slice none 0 0)) (List.replicate n (.slice none 0 0)) (D7 dv (Cg (L.take j)) n ++ F0)) K | [v] => St w0 w (.box g4 107 #[.int .i64 ((xa : Nat) : Int), .int .i64 ((xb : Nat) : Int)] :: FR q n (.slice A L.length c) sv (.slice (some ⟨g6, 0, none⟩) n n) (.slice (some ⟨g11, 0, none⟩) n n) g1 g2 S ((List.range n).map dv) (List.replicate n (.slice none 0 0)) (List.replicate n (.slice none 0 0)) (D7 dv (Cg (L.take j)) n ++ F0)) (fun D w => K D w /\ Sl w D 1 v 1 [.int .i64 ((xa : Nat) : Int)]) | [_, u] => St w0 w (.box g4 107 #[.int .i64 ((xa : Nat) : Int), .int .i64 ((xb : Nat) : Int)] :: FR q n (.slice A L.length c) sv (.slice (some ⟨g6, 0, none⟩) n n) (.slice (some ⟨g11, 0, none⟩) n n) g1 g2 S ((List.range n).map dv) (List.replicate n (.slice none 0 0)) (List.replicate n (.slice none 0 0)) (D7 (fun k => if k = xb then u else dv k) (Cg (L.take (j + 1))) n ++ F0)) K | [_, u, _] => St w0 w (.box g4 107 #[.int .i64 ((xa : Nat) : Int), .int .i64 ((xb : Nat) : Int)] :: FR q n (.slice A L.length c) sv (.slice (some ⟨g6, 0, none⟩) n n) (.slice (some ⟨g11, 0, none⟩) n n) g1 g2 S ((List.range n).map (fun k => if k = xb then u else dv k)) (List.replicate n (.slice none 0 0)) (List.replicate n (.slice none 0 0)) (D7 (fun k => if k = xb then u else dv k) (Cg (L.take (j + 1))) n ++ F0)) K | _ => False) ?_ ⟨vM, ?_, ?_, vM, ?_, ?_, ?_, ?_, ?_, ?_, ?_, ?_, ?_, ?_, trivial⟩ ?_
    ·first | assumption | (dsimp only; assumption)
    ·refine vR 0 2 fun b__ w vs hS h1 h2 hE K hK => ?_
     rcases vs with _ | ⟨x0, _ | ⟨x1, _ | ⟨x2, vs⟩⟩⟩ <;> first | (exfalso; first | exact hS | (revert h1 h2; simp <;> omega); done) | ((have e4 : b__.eval (.tmp 4) = .pointer (some ⟨g4, 0, none⟩) := hE 4); (exact Cy rfl e4 rfl (by kernel_rfl) (hK _ rfl)))
    ·refine vR 0 2 fun b__ w vs hS h1 h2 hE K hK => ?_
     rcases vs with _ | ⟨x0, _ | ⟨x1, _ | ⟨x2, vs⟩⟩⟩ <;> first | (exfalso; first | exact hS | (revert h1 h2; simp <;> omega); done) | ((have e41 := hE 41); (exact Az rfl e41 (by kernel_rfl) ((St.box hS 0 rfl).cell 1) (hK _ rfl)))
    ·refine vR 0 1 fun b__ w vs hS h1 h2 hE K hK => ?_
     rcases vs with _ | ⟨x0, _ | ⟨x1, vs⟩⟩ <;> first | (exfalso; first | exact hS | (revert h1 h2; simp <;> omega); done) | ((have e4 : b__.eval (.tmp 4) = .pointer (some ⟨g4, 0, none⟩) := hE 4); (exact Cy rfl e4 rfl (by kernel_rfl) (hK _ rfl)))
    ·refine vR 0 1 fun b__ w vs hS h1 h2 hE K hK => ?_
     rcases vs with _ | ⟨x0, _ | ⟨x1, vs⟩⟩ <;> first | (exfalso; first | exact hS | (revert h1 h2; simp <;> omega); done) | ((have e44 := hE 44); (exact Az rfl e44 (by kernel_rfl) ((St.box hS 0 rfl).cell 1) (hK _ rfl)))
    ·refine vR 0 1 fun b__ w vs hS h1 h2 hE K hK => ?_
     rcases vs with _ | ⟨x0, _ | ⟨x1, vs⟩⟩ <;> first | (exfalso; first | exact hS | (revert h1 h2; simp <;> omega); done) | ((have e43 := hE 43); (have e45 := hE 45); (exact Cy rfl e43 e45 (Af (m := xb) Tryz.underlying238 (by kernel_rfl) (by omega) (by omega)) (hK _ rfl)))
    ·refine vR 0 1 fun b__ w vs hS h1 h2 hE K hK => ?_
     rcases vs with _ | ⟨x0, _ | ⟨x1, vs⟩⟩ <;> first | (exfalso; first | exact hS | (revert h1 h2; simp <;> omega); done) | ((have e46 := hE 46); (exact Az rfl e46 (by kernel_rfl) (by rw [Nat.zero_add, Nat.mul_one]; exact BJ (St.own hS 1 rfl) xb _ (dv_at hxb)) (hK _ rfl)))
    ·refine vR 0 0 fun b__ w vs hS h1 h2 hE K hK => ?_
     rcases vs with _ | ⟨x0, vs⟩ <;> first | (exfalso; first | exact hS | (revert h1 h2; simp <;> omega); done) | ((have e4 : b__.eval (.tmp 4) = .pointer (some ⟨g4, 0, none⟩) := hE 4); (exact Cy rfl e4 rfl (by kernel_rfl) (hK _ rfl)))
    ·refine vR 0 0 fun b__ w vs hS h1 h2 hE K hK => ?_
     rcases vs with _ | ⟨x0, vs⟩ <;> first | (exfalso; first | exact hS | (revert h1 h2; simp <;> omega); done) | ((have e48 := hE 48); (exact Az rfl e48 (by kernel_rfl) ((St.box hS 0 rfl).cell 0) (hK _ rfl)))
    ·refine vX 0 fun b__ w vs hS hl hE K hK => ?_
     obtain rfl := Hu hl
     have e49 := hE 49
     exact AX rfl Tryz.underlying74 (ps := [(0, .int .i64 ((xa : Nat) : Int))]) (cells := #[.int .i64 ((xa : Nat) : Int)]) (by simp [e49]) (by kernel_rfl) fun w' hbx hbel => hK _ w' (St.ret hS hbel (Av (by decide)) ((Sl.of_box (n := 1) (size := 1) hbx rfl (by decide)).imp fun b hb _ => Nat.le_of_eq hb.symm))
    ·refine vX 1 fun b__ w vs hS hl hE K hK => ?_
     obtain ⟨x0, rfl⟩ := FA hl
     have e47 := hE 47
     have e50 := hE 50
     refine CF (n := (Cg (L.take j) xb).length) (m := 1) rfl ER e47 (St.fam (H := [_, _, _, _, _, _, _]) hS hxb) e50 hS.ro.2 (by intro u hu; simp at hu; subst hu; rfl) (by omega) (by omega) hS.size fun v' w4 a1 a2 a3 => ?_
     have h := St.updFam (H := [_, _, _, _, _, _, _]) hS hxb v' (Cg (L.take j) xb ++ [xa]) a2 (by simpa [Be, Ae] using a1) a3
     rw [<- HC.out] at h
     exact hK v' w4 (h.mono KS fun _ _ h => h.1)
    ·refine vR 2 2 fun b__ w vs hS h1 h2 hE K hK => ?_
     rcases vs with _ | ⟨x0, _ | ⟨x1, _ | ⟨x2, vs⟩⟩⟩ <;> first | (exfalso; first | exact hS | (revert h1 h2; simp <;> omega); done) | ((have e40 := hE 40); (have e42 := hE 42); (exact Cy rfl e40 e42 (Af (m := xb) Tryz.underlying238 (by kernel_rfl) (by omega) (by omega)) (hK _ rfl)))
    ·refine vX 2 fun b__ w vs hS hl hE K hK => ?_
     obtain ⟨x0, x1, rfl⟩ := Fz hl
     have e52 := hE 52
     have e51 := hE 51
     obtain ⟨Au, cu, hu, _, _⟩ := B7 (St.fam (H := [_, _, _, _, _, _, _]) hS hxb)
     rw [if_pos rfl] at hu
     exact Ej rfl (g := g2) (i := xb) (e52.trans (by rw [Nat.zero_add, Nat.mul_one])) e51 (St.own hS 1 rfl) (by omega) (by rw [hu]; rfl) (by rw [hu]; rfl) (by kernel_rfl) fun w4 h1 hU => hK undef w4 (St.upd hS 1 rfl (.own (.slice (some ⟨g2, 0, none⟩) n n) 74 1 n ((List.range n).map fun k => if k = xb then x1 else dv k)) (by simpa [Ac.blk, Value.ownBlock] using Bh hU) (by have h2 := h1; rw [dv_set] at h2; exact h2) fun _ e => .inl e)
    ·intro us wz vs hS hl hT
     obtain ⟨x0, x1, x2, rfl⟩ := Ht hl
     obtain ⟨e40, e41, e42, e43, e44, e45, e46, e47, e48, e49, e50, e51, e52, -⟩ := hT
     clear hl
     simp only [Ak, Act.put, zz, ze]
     clear e40 e41 e42 e43 e44 e45 e46 e47 e48 e49 e50 e51 e52
     go_wp2_with fail
     exact ⟨⟨j + 1, _, hlj, by go_num, St.sub hS (.cons _ (.refl _))⟩, by simp [intOf]; omega⟩
   ·obtain rfl : j = L.length := by omega
    rw [List.take_length] at hS
    clear hlj hj
    have HSV := Lib.hid hsv
    subst hsv
    go_wp2_with (first | ((with_reducible refine qB ?_); refine qc ?_ ?_ <;> intro h_ <;> go_prune) | ((with_reducible refine qK ?_); refine qC hS ?_))
    have hz : (List.replicate n (Value.slice none 0 0)).length = n := List.length_replicate
    replace hS := hS.add (r := fun D w => C1 (List.replicate n (.slice none 0 0)) n (fun k => if k ∈ S.take 0 then aboveM n L k else 0) D w /\ C1 (List.replicate n (.slice none 0 0)) n (blP n L (S.take 0)) D w) (Bf.and Bf) (D := fun _ => False) ⟨by simpa using C1.zero n _ wr, by
     have : blP n L (S.take 0) = fun _ => 0 := funext fun b => by rw [List.take_zero]; exact blP_nil n L b
     rw [this]; exact C1.zero n _ wr⟩ fun _ h _ => h.elim
    refine wp_loop_ghost (fun m a w => ∃ i ds xa xb, RelI w0 K F0 q n (.slice A L.length c) (.slice As S.length cs) (.slice (some ⟨g6, 0, none⟩) n n) (.slice (some ⟨g11, 0, none⟩) n n) g1 g2 L S dv m a w i ds xa xb) n ⟨0, [], _, _, ⟨by omega, rfl, rfl, rfl, rfl, rfl, rfl, rfl, hz, hz, by
     have e : F0 ++ Ce [] = F0 := by simp [Ce]
     rw [e]; exact hS⟩⟩ ?_
    clear hS hz
    rintro m ⟨tm, df⟩ wr ⟨i, ds, xa, xb, hI⟩
    obtain ⟨him, hsz, s1, s2, s57, s58, s59, hdf, hxa, hxb, hS⟩ := hI
    dsimp only at hsz s1 s2 s57 s58 s59 hdf
    subst hdf
    have e : tm = #[tm.getD 0 undef, tm.getD 1 undef, tm.getD 2 undef, tm.getD 3 undef, tm.getD 4 undef, tm.getD 5 undef, tm.getD 6 undef, tm.getD 7 undef, tm.getD 8 undef, tm.getD 9 undef, tm.getD 10 undef, tm.getD 11 undef, tm.getD 12 undef, tm.getD 13 undef, tm.getD 14 undef, tm.getD 15 undef, tm.getD 16 undef, tm.getD 17 undef, tm.getD 18 undef, tm.getD 19 undef, tm.getD 20 undef, tm.getD 21 undef, tm.getD 22 undef, tm.getD 23 undef, tm.getD 24 undef, tm.getD 25 undef, tm.getD 26 undef, tm.getD 27 undef, tm.getD 28 undef, tm.getD 29 undef, tm.getD 30 undef, tm.getD 31 undef, tm.getD 32 undef, tm.getD 33 undef, tm.getD 34 undef, tm.getD 35 undef, tm.getD 36 undef, tm.getD 37 undef, tm.getD 38 undef, tm.getD 39 undef, tm.getD 40 undef, tm.getD 41 undef, tm.getD 42 undef, tm.getD 43 undef, tm.getD 44 undef, tm.getD 45 undef, tm.getD 46 undef, tm.getD 47 undef, tm.getD 48 undef, tm.getD 49 undef, tm.getD 50 undef, tm.getD 51 undef, tm.getD 52 undef, tm.getD 53 undef, tm.getD 54 undef, tm.getD 55 undef, tm.getD 56 undef, tm.getD 57 undef, tm.getD 58 undef, tm.getD 59 undef, tm.getD 60 undef, tm.getD 61 undef, tm.getD 62 undef, tm.getD 63 undef, tm.getD 64 undef, tm.getD 65 undef, tm.getD 66 undef, tm.getD 67 undef, tm.getD 68 undef, tm.getD 69 undef, tm.getD 70 undef, tm.getD 71 undef, tm.getD 72 undef, tm.getD 73 undef, tm.getD 74 undef, tm.getD 75 undef, tm.getD 76 undef, tm.getD 77 undef, tm.getD 78 undef, tm.getD 79 undef, tm.getD 80 undef, tm.getD 81 undef, tm.getD 82 undef, tm.getD 83 undef, tm.getD 84 undef, tm.getD 85 undef, tm.getD 86 undef, tm.getD 87 undef, tm.getD 88 undef, tm.getD 89 undef, tm.getD 90 undef, tm.getD 91 undef, tm.getD 92 undef, tm.getD 93 undef, tm.getD 94 undef, tm.getD 95 undef, tm.getD 96 undef, tm.getD 97 undef, tm.getD 98 undef, tm.getD 99 undef, tm.getD 100 undef, tm.getD 101 undef, tm.getD 102 undef, tm.getD 103 undef, tm.getD 104 undef, tm.getD 105 undef, tm.getD 106 undef, tm.getD 107 undef, tm.getD 108 undef, tm.getD 109 undef, tm.getD 110 undef, tm.getD 111 undef, tm.getD 112 undef, tm.getD 113 undef, tm.getD 114 undef, tm.getD 115 undef, tm.getD 116 undef, tm.getD 117 undef, tm.getD 118 undef, tm.getD 119 undef, tm.getD 120 undef] := (lit_of hsz).trans rfl
    obtain ⟨us, hus⟩ : ∃ us : Nat -> Value, ∀ k, tm.getD k undef = us k := ⟨_, fun _ => rfl⟩
    rw [s1, s2, s57, s58, s59] at e
    simp only [hus] at e
    clear hus s1 s2 s57 s58 s59 hsz
    subst e
    by_cases hlt : i < S.length
    ·obtain ⟨gs, cas, es, _, _⟩ := Ei (hS.own 5 rfl) (by omega)
     injection es with es1 es2 es3
     subst es1 es3
     have hbS : S.getD i 0 ∈ S := by rw [List.getD_eq_getElem?_getD, List.getElem?_eq_getElem hlt]; exact List.getElem_mem hlt
     have hb := HSB.out _ hbS
     have HGi := Lib.hid (C4 0 hlt)
     have hcell := ints_natA S i hlt
     generalize S.getD i 0 = b at *
     have HCell := Lib.hid hcell
     clear hcell hbS
     obtain ⟨A', c', hdv, _, _⟩ := B7 (St.fam (H := [_, _, _, _, _, _]) hS hb)
     have HDV := Lib.hid ((dv_at hb).trans (congrArg some hdv))
     have HDV2 := Lib.hid hdv
     clear hdv
     go_wp2_with (first
      | ((with_reducible refine qB ?_); refine qc ?_ ?_ <;> intro h_ <;> go_prune)
      | ((with_reducible refine qA 62 ?_); refine BigFrame.wpList_want rfl fun _ hK => Az rfl rfl (by kernel_rfl) (BJ (hS.own 5 rfl) _ _ (HCell.out)) (hK _ _ ?_))
      | ((with_reducible refine qA 66 ?_); refine BigFrame.wpList_want rfl fun _ hK => Az rfl rfl (by kernel_rfl) (BJ (hS.own 1 rfl) _ _ (HDV.out)) (hK _ _ ?_))
      | ((with_reducible refine qA 6 ?_); refine AO hS rfl _ rfl (by kernel_rfl) ?_; clear hS; intro g6b w_ hS; (try simp only [Act.put, Act.eval, zz, Value.cells] at hS))
      | ((with_reducible refine qM ?_); (first | refine qS hS ?_ | refine qT hS ?_); clear hS; intro w_ hS; (try simp only [Act.put, Act.eval, zz, Value.cells] at hS))
      | ((with_reducible refine qK ?_); refine qC hS ?_))
     have hbn : b ∉ S.take i := fun h => by
      obtain ⟨j, hj⟩ := List.mem_iff_getElem?.1 h
      rw [List.getElem?_take] at hj
      split at hj
      ·have := nodup_inj HT.out.1 hj HGi.out; omega
      ·cases hj
     have HBN := Lib.hid hbn
     have hS0 : St w0 w_ (.box g6b 3 #[.int .i64 (b : Nat)] :: FR q n (.slice A L.length c) (.slice (some ⟨gs, 0, none⟩) S.length cs) (.slice (some ⟨g6, 0, none⟩) n n) (.slice (some ⟨g11, 0, none⟩) n n) g1 g2 S ((List.range n).map dv) xa xb (D7 dv (Cg L) n ++ (F0 ++ Ce ds))) (fun D w => K D w /\ C1 xa n (fun k => if k = b then abTo n L b 0 else if k ∈ S.take i then aboveM n L k else 0) D w /\ C1 xb n (blP n L (S.take i)) D w) := hS.mono (KS.and (Bf.and Bf)) fun D w h => ⟨h.1, h.2.1.congr fun k _ => by
      by_cases e : k = b
      ·subst e; rw [if_neg HBN.out, if_pos rfl, abTo_zero]
      ·rw [if_neg e], h.2.2⟩
     clear hS hbn
     go_loopw [68] (fun jv wr => ∃ (j : Nat) (xa' : List Value), j <= (Cg L b).length /\ jv = .int .i64 j /\ Hid (xa'.length = n) /\ St w0 wr (.box g6b 3 #[.int .i64 (b : Nat)] :: FR q n (.slice A L.length c) (.slice (some ⟨gs, 0, none⟩) S.length cs) (.slice (some ⟨g6, 0, none⟩) n n) (.slice (some ⟨g11, 0, none⟩) n n) g1 g2 S ((List.range n).map dv) xa' xb (D7 dv (Cg L) n ++ (F0 ++ Ce ds))) (fun D w => K D w /\ C1 xa' n (fun k => if k = b then abTo n L b j else if k ∈ S.take i then aboveM n L k else 0) D w /\ C1 xb n (blP n L (S.take i)) D w)) (fun jv _ => (Cg L b).length - (intOf jv).toNat)
     case atStart => exact ⟨0, xa, by omega, rfl, Lib.hid hxa, hS0⟩
     case round =>
      clear hS0
      obtain ⟨j, xa', hj, rfl, HXA, hS⟩ := hrel
      by_cases hlj : j < (Cg L b).length
      ·have ho := St.fam (H := [_, _, _, _, _, _, _]) hS hb
       rw [HDV2.out] at ho
       obtain ⟨gd, cd, ed, _, _⟩ := Ei ho (by omega)
       injection ed with ed1 ed2 ed3
       subst ed1 ed3
       have HO := Lib.hid ho
       have HYc := Lib.hid (ints_natA (Cg L b) j hlj)
       have HY := Lib.hid (C4 0 hlj)
       generalize (Cg L b).getD j 0 = y at *
       have hyL : (y, b) ∈ L := G3.1 (List.mem_of_getElem? HY.out)
       have hy := (HL.out _ hyL).1
       dsimp only at hy
       have hyS := HT.out.2 i b HGi.out y hyL
       have hyb : y ≠ b := fun e => HBN.out (e ▸ hyS)
       have HST := Lib.hid (show C6 (abTo n L b j ||| aboveM n L y) (y : Int) = abTo n L b (j + 1) by
        rw [C6, if_pos (by omega), Int.toNat_natCast]; exact abTo_step HL.out HY.out)
       obtain ⟨ub, hub, -⟩ := hS.ro.2.1 b hb
       obtain ⟨uy, huy, -⟩ := hS.ro.2.1 y hy
       have HU1 : Hid (∀ w, Below wr.heap.size wr w -> ∃ D, Aa w D (.agg #[ub]) (abTo n L b j)) := Lib.hid fun w h => by
        obtain ⟨u, h1, h2⟩ := (hS.ext h).ro.2.1 b hb
        rw [hub] at h1; injection h1 with h1; subst h1
        dsimp only at h2; rw [if_pos rfl] at h2; exact ⟨_, h2⟩
       have HU2 : Hid (∀ w, Below wr.heap.size wr w -> ∃ D, Aa w D (.agg #[uy]) (aboveM n L y)) := Lib.hid fun w h => by
        obtain ⟨u, h1, h2⟩ := (hS.ext h).ro.2.1 y hy
        rw [huy] at h1; injection h1 with h1; subst h1
        dsimp only at h2; rw [if_neg hyb, if_pos hyS] at h2; exact ⟨_, h2⟩
       have HUB := Lib.hid hub
       have HUY := Lib.hid huy
       clear hub huy ho hyL hyS
       go_wp2_with (first
        | ((with_reducible refine qB ?_); refine qc ?_ ?_ <;> intro h_ <;> go_prune)
        | ((with_reducible refine qA 71 ?_); refine BigFrame.wpList_want rfl fun _ hK => Az rfl rfl (by kernel_rfl) (BJ HO.out _ _ HYc.out) (hK _ _ ?_)))
       refine Fa 23 [] [.q q 0, .q q 0, .q q 2, .i (.slice (some ⟨g6, 0, none⟩) n n), .n ((b : Nat) : Int), .q q 0, .q q 0, .q q 2, .i (.slice (some ⟨g6, 0, none⟩) n n), .n ((b : Nat) : Int), .q g6 (0 + (b) * 1), .i (.agg #[ub]), .q q 0, .q q 0, .q q 2, .i (.slice (some ⟨g6, 0, none⟩) n n), .n ((y : Nat) : Int), .q g6 (0 + (y) * 1), .i (.agg #[uy]), .s (fun v w => ∃ u, v = .agg #[u] /\ Aa w (fun z => wr.heap.size <= z) (.agg #[u]) (abTo n L b j ||| aboveM n L y)) fun v w w' h hb => ⟨_, h.choose_spec.1, h.choose_spec.2.ext hb⟩, .n ((y : Nat) : Int), .s (fun v w => ∃ u, v = .agg #[u] /\ u.oneCell' = true /\ Aa w (fun z => wr.heap.size <= z) (.agg #[u]) (abTo n L b (j + 1))) fun v w w' h hb => ⟨_, h.choose_spec.1, h.choose_spec.2.1, h.choose_spec.2.2.ext hb⟩, .q g6 (0 + (b) * 1), .t] ⟨uC (h := fun w hW hN => ((hS.ext hW).box 5 rfl).cell 0), uN, uF, uC (h := fun w hW hN => ((hS.ext hW).box 2 rfl).cell 2), uC (h := fun w hW hN => ((hS.ext hW).box 0 rfl).cell 0), uC (h := fun w hW hN => ((hS.ext hW).box 5 rfl).cell 0), uN, uF, uC (h := fun w hW hN => ((hS.ext hW).box 2 rfl).cell 2), uC (h := fun w hW hN => ((hS.ext hW).box 0 rfl).cell 0), uI (h := fun w hW hN => Af (m := b) Tryz.underlying220 (by kernel_rfl) (by omega) (by omega)), ?_, uC (h := fun w hW hN => ((hS.ext hW).box 5 rfl).cell 0), uN, uF, uC (h := fun w hW hN => ((hS.ext hW).box 2 rfl).cell 2), uM, uI (h := fun w hW hN => Af (m := y) Tryz.underlying220 (by kernel_rfl) (by omega) (by omega)), ?_, ?_, uM, ?_, uI (h := fun w hW hN => Af (m := b) Tryz.underlying220 (by kernel_rfl) (by omega) (by omega)), trivial⟩ ?_
       ·refine uT fun b__ w hW hE K hK => ?_
        have e82 := hE 82
        exact Ek rfl (e82.trans (by rw [Nat.zero_add, Nat.mul_one])) ((hS.ext hW).own 3 rfl) HUB.out Tryz.underlying39 rfl (by kernel_rfl) (hK _ _ rfl (Below.refl _ _))
       ·refine uT fun b__ w hW hE K hK => ?_
        have e89 := hE 89
        exact Ek rfl (e89.trans (by rw [Nat.zero_add, Nat.mul_one])) ((hS.ext hW).own 3 rfl) HUY.out Tryz.underlying39 rfl (by kernel_rfl) (hK _ _ rfl (Below.refl _ _))
       ·refine uT fun b__ w hW hE K hK => ?_
        have e83 := hE 83
        have e90 := hE 90
        obtain ⟨D1, hd1⟩ := HU1.out w hW
        obtain ⟨D2, hd2⟩ := HU2.out w hW
        refine Ai rfl (by kernel_rfl) (by simp [e83, e90]) (Iw (.agg #[ub]) (.agg #[uy]) _ _ w _ _ hd1 hd2) fun v w' h hb => ?_
        obtain ⟨u, rfl, _⟩ := EU h
        exact hK _ w' ⟨u, rfl, h.imp fun z hz _ => Nat.le_trans hW.size hz⟩ hb
       ·refine uT fun b__ w hW hE K hK => ?_
        have e91 := hE 91
        have e92 := hE 92
        obtain ⟨uo, ho, hso⟩ := e91
        refine Ai rfl (by kernel_rfl) (by simp only [List.map_cons, List.map_nil, ho, e92]) (Di (.agg #[uo]) _ (y : Int) w _ hso) fun v w' h hb => ?_
        rw [HST.out] at h
        obtain ⟨u, rfl, h1⟩ := EU h
        exact hK _ w' ⟨u, rfl, h1, h.imp fun z hz _ => hz.elim id fun hz => Nat.le_trans hW.size hz⟩ hb
       ·intro vs wz hW hT
        obtain ⟨e72, e73, e74, e75, e76, e77, e78, e79, e80, e81, e82, e83, e84, e85, e86, e87, e88, e89, e90, e91, e92, e93, e94, -⟩ := hT
        have bx : (fun _ : Nat => True) 0 := trivial
        simp only [Ak, Act.put, zz, ze]
        (intro o_ ho_; simp only [List.getElem?_toArray, List.getElem?_cons_succ, List.getElem?_cons_zero, Option.some.injEq] at ho_; subst ho_)
        obtain ⟨un, e93, hu1, hun⟩ := e93
        have hS1 := hS.ret hW (Ab (v := .agg #[un]) (N := abTo n L b (j + 1))) hun
        refine GZ rfl (e94.trans (by rw [Nat.zero_add, Nat.mul_one])) e93 (hS1.own 3 rfl) (by omega) hu1 (by kernel_rfl) fun w4 h1 hU => ?_
        replace hS := (hS1.upd 3 rfl (.own (.slice (some ⟨g6, 0, none⟩) n n) 39 1 n (xa'.set b un)) (by simpa [Ac.blk, Value.ownBlock] using Bh hU) h1 fun _ e => .inl e)
        clear hS1
        simp only [Cz]
        simp only [Act.put, List.setIfInBounds_toArray, List.set_cons_zero, List.set_cons_succ]
        clear e93 e94 h1 hU hW hun
        go_wp2_with fail
        refine ⟨⟨j + 1, xa'.set b un, hlj, by go_num, Lib.hid (by rw [List.length_set]; exact HXA.out), ?_⟩, by simp [intOf]; omega⟩
        refine hS.mono (KS.and (Bf.and Bf)) fun D w h => ⟨h.1.1, (h.1.2.1.set HXA.out h.2).congr fun k _ => ?_, h.1.2.2⟩
        by_cases e : k = b
        ·simp [e]
        ·simp [e]
      ·obtain rfl : j = (Cg L b).length := by omega
       have HTK := Lib.hid (show S.take (i + 1) = S.take i ++ [b] by rw [List.take_add_one, HGi.out]; rfl)
       obtain ⟨ub, hub, hset⟩ := hS.ro.2.1 b hb
       dsimp only at hset
       rw [if_pos rfl, abTo_full] at hset
       obtain ⟨A1, c1, ws, hube, hcn, hvN, _, _, hsl⟩ := hset.parts
       injection hube with hube
       injection hube with hube
       injection hube with hube
       subst hube
       have HUB := Lib.hid hub
       have HSL := Lib.hid hsl
       have HCN := Lib.hid hcn
       have HVN := Lib.hid hvN
       have HAll : Hid (∀ w, Below wr.heap.size wr w -> Calls Tryz.prog 72 #[.agg #[.slice A1 ws.length c1]] w (AF (fun x w' => ∃ Bs, x = .func (.func 142) #[] #[.pointer (some ⟨Bs, 0, none⟩)] /\ w.heap.size <= Bs /\ BS w' Bs 39 #[.slice A1 ws.length c1]) w)) := Lib.hid fun w hw => by
        obtain ⟨u, h1, h2⟩ := (hS.ext hw).ro.2.1 b hb
        rw [HUB.out] at h1; injection h1 with h1; subst h1
        refine (E6 _ _ _ w h2).mono ?_
        rintro e w' ⟨v, rfl, ⟨Bs, A2, c2, ws2, rfl, e1, _, _, _, hBs, hX⟩, hb2⟩
        injection e1 with e1
        rw [<- e1] at hX
        exact ⟨_, rfl, ⟨Bs, rfl, hBs, hX⟩, hb2⟩
       clear hub hset hsl hcn hvN hlj hj
       go_wp2_with (first | ((with_reducible refine qB ?_); refine qc ?_ ?_ <;> intro h_ <;> go_prune))
       refine C5 [.q q 0, .q q 0, .q q 2, .i (.slice (some ⟨g6, 0, none⟩) n n), .n ((b : Nat) : Int), .q g6 (0 + (b) * 1), .i (.agg #[.slice A1 ws.length c1]), .s (fun v w => ∃ Bs, v = .func (.func 142) #[] #[.pointer (some ⟨Bs, 0, none⟩)] /\ wr.heap.size <= Bs /\ BS w Bs 39 #[.slice A1 ws.length c1]) fun v w w' h hb => ⟨_, h.choose_spec.1, h.choose_spec.2.1, h.choose_spec.2.2.ext hb⟩] ⟨uC (h := fun w hW hN => ((hS.ext hW).box 5 rfl).cell 0), uN, uF, uC (h := fun w hW hN => ((hS.ext hW).box 2 rfl).cell 2), uC (h := fun w hW hN => ((hS.ext hW).box 0 rfl).cell 0), uI (h := fun w hW hN => Af (m := b) Tryz.underlying220 (by kernel_rfl) (by omega) (by omega)), ?_, ?_, trivial⟩ ?_
       ·refine uT fun b__ w hW hE K hK => ?_
        have e101 := hE 101
        exact Ek rfl (e101.trans (by rw [Nat.zero_add, Nat.mul_one])) ((hS.ext hW).own 3 rfl) HUB.out Tryz.underlying39 rfl (by kernel_rfl) (hK _ _ rfl (Below.refl _ _))
       ·refine uT fun b__ w hW hE K hK => ?_
        have e102 := hE 102
        refine Ai rfl (by kernel_rfl) (by simp [e102]) (HAll.out w hW) fun v w' h hb => ?_
        obtain ⟨Bs, h1, h2, h3⟩ := h
        exact hK v w' ⟨Bs, h1, Nat.le_trans hW.size h2, h3⟩ hb
       ·intro vs wz hW hT
        obtain ⟨e96, e97, e98, e99, e100, e101, e102, e103, -⟩ := hT
        have bx : (fun _ : Nat => True) 0 := trivial
        simp only [Ak, Act.put, zz, ze]
        obtain ⟨Bs, e103, hBs, hX⟩ := e103
        have hkt := kt _ _ hS.ro.1
        replace hS := hS.good hW HSL.out hkt.1 hkt.2 hBs hX
        obtain ⟨KK, k1, k2, k3, k4, KKS, hS⟩ : ∃ KK : (Nat -> Prop) -> World -> Prop, (∀ D w, KK D w -> K D w) /\ (∀ D w, KK D w -> C1 xa' n (fun k => if k ∈ S.take (i + 1) then aboveM n L k else 0) D w) /\ (∀ D w, KK D w -> C1 xb n (blP n L (S.take i)) D w) /\ (∀ D w, KK D w -> CV Bs A1 c1 ws w) /\ AC KK /\ St w0 wz (.box g6b 3 #[.int .i64 (b : Nat)] :: FR q n (.slice A L.length c) (.slice (some ⟨gs, 0, none⟩) S.length cs) (.slice (some ⟨g6, 0, none⟩) n n) (.slice (some ⟨g11, 0, none⟩) n n) g1 g2 S ((List.range n).map dv) xa' xb (D7 dv (Cg L) n ++ (F0 ++ Ce ds))) KK :=
         ⟨_, fun _ _ h => h.1.1, fun _ _ h => h.1.2.1.congr fun k _ => by
          rw [HTK.out]
          by_cases e : k = b
          ·subst e; simp [abTo_full]
          ·simp [e], fun _ _ h => h.1.2.2, fun _ _ h => h.2.1, hS.stable, hS⟩
        have HLow : Hid (∀ xb' : List Value, ∀ f ∈ (Ac.box g6b 3 #[.int .i64 (b : Nat)] :: FR q n (.slice A L.length c) (.slice (some ⟨gs, 0, none⟩) S.length cs) (.slice (some ⟨g6, 0, none⟩) n n) (.slice (some ⟨g11, 0, none⟩) n n) g1 g2 S ((List.range n).map dv) xa' xb' (D7 dv (Cg L) n ++ (F0 ++ Ce ds))), f.low wz.heap.size) := Lib.hid fun xb' f hf => by
         have h0 := low_of hS
         rcases List.mem_cons.1 hf with rfl | hf
         ·exact .inl rfl
         unfold FR at hf
         rcases List.mem_append.1 hf with hf | hf
         ·simp only [List.mem_cons, List.not_mem_nil, or_false] at hf
          rcases hf with rfl | rfl | rfl | rfl | rfl | rfl <;> exact .inl rfl
         ·exact h0 f (List.mem_cons_of_mem _ (by unfold FR; exact List.mem_append_right _ hf))
        have hsz := hS.size
        clear hW hX hkt
        rw [e103]
        clear e103
        go_wp2_with fail
        refine (wpIn_wide (n := 6)).1 ?_
        refine Ey fun act hact => ?_
        refine Fm hS HCN.out.1 HCN.out.2.2 k4 (by rw [hact]; rfl) rfl
         (fun pre F' K' => ∃ xb', xb'.length = n /\ F' = .box g6b 3 #[.int .i64 (b : Nat)] :: FR q n (.slice A L.length c) (.slice (some ⟨gs, 0, none⟩) S.length cs) (.slice (some ⟨g6, 0, none⟩) n n) (.slice (some ⟨g11, 0, none⟩) n n) g1 g2 S ((List.range n).map dv) xa' xb' (D7 dv (Cg L) n ++ (F0 ++ Ce ds)) /\ AC K' /\ ∀ D w, K' D w -> KK D w /\ C1 xb' n (fun k => if ((k : Nat) : Int) ∈ pre then blP n L (S.take i) k ||| 2 ^ b else blP n L (S.take i) k) D w)
         (fun _ _ _ _ => False) (fun s F K' h D w hk => by obtain ⟨_, _, _, _, h4⟩ := h; exact (h4 D w hk).1) ?hr (fun _ _ _ _ h => h.elim) ⟨xb, hxb, rfl, KKS, fun D w h => ⟨h, by simpa using k3 D w h⟩⟩
         (fun x => { tmps := (act.tmps.setIfInBounds 104 (.int .i64 x)).setIfInBounds 9 (.int .i64 x), defers := [] }) ?assign ?body ?done (fun _ _ _ _ _ _ _ _ h _ _ => h.elim)
        case hr =>
         rintro s F K' ⟨xb', h1, rfl, _⟩ f hf
         exact HLow.out xb' f hf
        case assign =>
         intro l x W K hK
         subst hact
         rw [Ft]
         refine wpIn_region_lit ?_
         refine Cd (by intro _ _ h; exact h) _ _ _ (by rfl) _ _ ?_
         refine wpList_plain rfl fun _ hK' => Cn (v := .int .i64 x) rfl (by rfl) (hK' _ _ ?_)
         exact wpList_nil hK
        case body =>
         rintro l pre x hx W F' Xo K' ⟨xb', hxl, rfl, hKs, hk'⟩ hS hlt
         subst hact
         obtain ⟨xk, rfl⟩ := memL_nat hx
         have htc : TC L xk b := by
          have h0 := (G2 HCN.out.1).1 hx
          rw [<- HVN.out] at h0; exact (EB HL.out).1 h0
         have hxk := (htc.lt HL.out).1
         obtain ⟨DD, hDD, hro⟩ := hS.dom
         obtain ⟨ub, hub, hset⟩ := (hk' _ _ hro.1).2 xk hxk
         dsimp only at hset
         have HW := Lib.hid (show C6 (if ((xk : Nat) : Int) ∈ pre then blP n L (S.take i) xk ||| 2 ^ b else blP n L (S.take i) xk) (b : Int) = blP n L (S.take i) xk ||| 2 ^ b by
          rw [C6, if_pos (by omega), Int.toNat_natCast]
          split
          ·rw [Nat.or_assoc, Nat.or_self]
          ·rfl)
         generalize (if ((xk : Nat) : Int) ∈ pre then blP n L (S.take i) xk ||| 2 ^ b else blP n L (S.take i) xk) = N0 at *
         have HUB2 := Lib.hid hub
         have HSET := Lib.hid hset
         have HDD := Lib.hid hDD
         have HKP := Lib.hid hk'
         have HXL := Lib.hid hxl
         have hWs : W.heap.size <= W.heap.size := Nat.le_refl _
         clear hub hset hx htc hDD hro hk' hxl
         simp only [Act.put, List.setIfInBounds_toArray, List.set_cons_zero, List.set_cons_succ]
         refine wpIn_block ?_
         refine Ci (by kernel_rfl) (by intro _ _ h; exact h) (by rfl) ?_
         refine IV 15 [] [.q q 0, .q q 0, .q q 3, .i (.slice (some ⟨g11, 0, none⟩) n n), .n ((xk : Nat) : Int), .q q 0, .q q 0, .q q 3, .i (.slice (some ⟨g11, 0, none⟩) n n), .n ((xk : Nat) : Int), .q g11 (0 + (xk) * 1), .i (.agg #[ub]), .n ((b : Nat) : Int), .s (fun v w => ∃ u, v = .agg #[u] /\ u.oneCell' = true /\ Aa w (fun z => DD z \/ W.heap.size <= z) (.agg #[u]) (blP n L (S.take i) xk ||| 2 ^ b)) fun v w w' h hb => ⟨_, h.choose_spec.1, h.choose_spec.2.1, h.choose_spec.2.2.ext hb⟩, .q g11 (0 + (xk) * 1), .t] ⟨uC (h := fun w hW hN => ((hS.ext hW).box 5 rfl).cell 0), uN, uF, uC (h := fun w hW hN => ((hS.ext hW).box 2 rfl).cell 3), uM, uC (h := fun w hW hN => ((hS.ext hW).box 5 rfl).cell 0), uN, uF, uC (h := fun w hW hN => ((hS.ext hW).box 2 rfl).cell 3), uM, uI (h := fun w hW hN => Af (m := xk) Tryz.underlying220 (by kernel_rfl) (by omega) (by omega)), ?_, uC (h := fun w hW hN => ((hS.ext hW).box 0 rfl).cell 0), ?_, uI (h := fun w hW hN => Af (m := xk) Tryz.underlying220 (by kernel_rfl) (by omega) (by omega)), trivial⟩ ?_
         ·refine uT fun b__ w hW hE K hK => ?_
          have e115 := hE 115
          exact Ek rfl (e115.trans (by rw [Nat.zero_add, Nat.mul_one])) ((hS.ext hW).own 4 rfl) HUB2.out Tryz.underlying39 rfl (by kernel_rfl) (hK _ _ rfl (Below.refl _ _))
         ·refine uT fun b__ w hW hE K hK => ?_
          have e116 := hE 116
          have e117 := hE 117
          refine Ai rfl (by kernel_rfl) (by simp only [List.map_cons, List.map_nil, e116, e117]) (Di (.agg #[ub]) N0 (b : Int) w _ (HSET.out.ext hW)) fun v w' h hb => ?_
          rw [HW.out] at h
          obtain ⟨u, rfl, h1⟩ := EU h
          exact hK _ w' ⟨u, rfl, h1, h.imp fun z hz _ => hz.imp id fun hz => Nat.le_trans hW.size hz⟩ hb
         ·intro vs wz hW hT
          obtain ⟨e105, e106, e107, e108, e109, e110, e111, e112, e113, e114, e115, e116, e117, e118, e119, -⟩ := hT
          have bx : (fun _ : Nat => True) 0 := trivial
          simp only [Ak, Act.put, zz, ze]
          (intro o_ ho_; simp only [List.getElem?_toArray, List.getElem?_cons_succ, List.getElem?_cons_zero, Option.some.injEq] at ho_; subst ho_)
          obtain ⟨un, e118, hu1, hun⟩ := e118
          rw [HDD.out] at hun
          have hS1 := hS.ret2 hW (Ab (v := .agg #[un]) (N := blP n L (S.take i) xk ||| 2 ^ b)) hun
          refine GZ rfl (e119.trans (by rw [Nat.zero_add, Nat.mul_one])) e118 (hS1.own 4 rfl) (by omega) hu1 (by kernel_rfl) fun w4 h1 hU => ?_
          have hS2 := (hS1.upd 4 rfl (.own (.slice (some ⟨g11, 0, none⟩) n n) 39 1 n (xb'.set xk un)) (by simpa [Ac.blk, Value.ownBlock] using Bh hU) h1 fun _ e => .inl e)
          refine ⟨_, _, ⟨xb'.set xk un, by rw [List.length_set]; exact HXL.out, rfl, hS2.stable, fun D w h => ⟨(HKP.out D w h.1.1).1, ((HKP.out D w h.1.1).2.set HXL.out h.2).congr fun k _ => ?_⟩⟩, by rw [hU.size]; exact hW.size, hS2⟩
          by_cases e : k = xk
          ·subst e; simp
          ·have e2 : ¬ ((k : Nat) : Int) = ((xk : Nat) : Int) := by omega
           simp [e, e2]
        case done =>
         rintro D W F' K' hD ⟨xb', hxl, rfl, hKs, hk'⟩ hS hK
         subst hact
         have hM := hS.mark hsz hD (HLow.out xb') hK rfl
         have HKP := Lib.hid hk'
         clear hk' hS hK
         go_wp2_with fail
         refine ⟨m - 1, by omega, i + 1, D :: ds, xa', xb', ⟨by omega, rfl, rfl, rfl, rfl, rfl, congrArg (Value.int .i64) (by omega), rfl, HXA.out, hxl, ?_⟩⟩
         refine ((hM.sub (List.sublist_cons_self _ _)).perm ?_).mono (stable_relK KS _ _ _ _ _ _) fun D w h => ⟨k1 _ _ (HKP.out D w h).1, k2 _ _ (HKP.out D w h).1, (HKP.out D w h).2.congr fun k _ => ?_⟩
         ·exact (perm_mark [_, _, _, _, _, _] _ _ _ _).symm
         ·have hmem : ((k : Nat) : Int) ∈ AV ws ↔ TC L k b := by rw [G2 HCN.out.1, <- HVN.out]; exact EB HL.out
          rw [HTK.out]
          by_cases h : TC L k b
          ·rw [if_pos (hmem.2 h)]; exact blP_in HL.out h
          ·rw [if_neg (fun h2 => h (hmem.1 h2))]; exact blP_out h
    ·go_wp2_with (first | ((with_reducible refine qB ?_); refine qc ?_ ?_ <;> intro h_ <;> go_prune))
     have hS1 := hS.sub (F' := (.box q 222 #[.int .i64 (n : Nat), .slice A L.length c, .slice (some ⟨g6, 0, none⟩) n n, .slice (some ⟨g11, 0, none⟩) n n, .slice As S.length cs] :: .own (.slice (some ⟨g6, 0, none⟩) n n) 39 1 n xa :: .own (.slice (some ⟨g11, 0, none⟩) n n) 39 1 n xb :: F0) ++ Ce ds) (.cons _ (.cons_cons _ (.cons_cons _ (.cons_cons _ (.cons _ (.cons _ (List.sublist_append_right _ _)))))))
     refine CQ ?_ ds wr hS1
     intro w' h
     refine ⟨_, results_none rfl _ _ _, rfl, .slice (some ⟨g6, 0, none⟩) n n, .slice (some ⟨g11, 0, none⟩) n n, xa, xb, ?_⟩
     have hall : ∀ k, k < n -> k ∈ S := Iy HT.out.1 HSB.out hSn2
     have ht : S.take i = S := List.take_of_length_le (by omega)
     refine ((h.freeze 1 (by decide) rfl).freeze 1 (by decide) rfl).mono (KS.and (((Av (by decide)).and Bf).and ((Av (by decide)).and Bf))) fun D w hk => ?_
     obtain ⟨⟨⟨h1, h2, h3⟩, h4⟩, h5⟩ := hk
     rw [ht] at h2 h3
     exact ⟨h1, ⟨h4, h2.congr fun k hk => by rw [if_pos (hall k hk)]⟩, h5, h3.congr fun k _ => blP_full hall k⟩
end
section
open Go.RowKit
theorem FL {P : Program} (w : World) {e : TypeId} {k : IntKind} (hu : P.underlying e = some (.int k)) (xs : List Value) (off : Nat) (v : Value) (h : xs[off]? = some v) : (part e xs.toArray off).run P w = .ok v w := by
 have : (isAgg e).run P w = .ok false w := by unfold isAgg; rw [Sem.run_bind, run_underlying hu w]; simp
 simp [part, this, h]
theorem E7 {P : Program} (w : World) (d : Nat) {e : TypeId} {k : IntKind} (hu : P.underlying e = some (.int k)) (xs ys : List Int) (is : List Nat) (hx : ∀ i ∈ is, i < xs.length /\ i < ys.length) :
  (Op.eqItems (d + 1) e 1 (xs.map (Value.int k)).toArray (ys.map (Value.int k)).toArray is).run P w = .ok (is.all fun i => xs.getD i 0 == ys.getD i 0) w := by
 induction is with
 | nil => simp [Op.eqItems]
 | cons i is ih =>
  have h1 := hx i (by simp)
  have p1 := FL (P := P) w hu (xs.map (Value.int k)) (i * 1) (.int k (xs.getD i 0)) (by simp [List.getElem?_eq_getElem h1.1])
  have p2 := FL (P := P) w hu (ys.map (Value.int k)) (i * 1) (.int k (ys.getD i 0)) (by simp [List.getElem?_eq_getElem h1.2])
  have ih := ih (fun j hj => hx j (by simp [hj]))
  simp only [Op.eqItems, Sem.run_bind, p1, p2, Result.andThen_ok, run_equalIn_int w d e k k _ _ hu, List.all_cons]
  cases hb : (xs.getD i 0 == ys.getD i 0)
  ·simp
  ·simpa using ih
theorem Gf (xs ys : List Int) (h : xs.length = ys.length) : ((List.range xs.length).all fun i => xs.getD i 0 == ys.getD i 0) = (xs == ys) := by
 rw [Bool.eq_iff_iff, List.all_eq_true, beq_iff_eq]
 constructor
 ·intro h1
  apply List.ext_getElem h
  intro i h2 h3
  have := h1 i (by simpa using h2)
  simpa [List.getD_eq_getElem?_getD, List.getElem?_eq_getElem h2, List.getElem?_eq_getElem h3] using this
 ·rintro rfl i _; simp
theorem run_eql_ints {P : Program} (w : World) (t e : TypeId) (n : Nat) (k : IntKind) (hu : P.underlying t = some (.array n e)) (i : TypeInfo) (hi : P.info? e = some i) (he : P.underlying e = some (.int k)) (hc : P.cellsOf e = 1) (xs ys : List Int) (hx : xs.length = n) (hy : ys.length = n) :
  (binOp .eql t (.agg (xs.map (Value.int k)).toArray) (.agg (ys.map (Value.int k)).toArray)).run P w = .ok (.bool (xs == ys)) w := by
 rw [run_eql_struct, run_equalIn_array w 9999 _ _ hu hi, hc, E7 w 9998 he xs ys _ (by intro j hj; simp at hj; omega), <- hx, Gf xs ys (by omega)]
 rfl
theorem run_neq_ints {P : Program} (w : World) (t e : TypeId) (n : Nat) (k : IntKind) (hu : P.underlying t = some (.array n e)) (i : TypeInfo) (hi : P.info? e = some i) (he : P.underlying e = some (.int k)) (hc : P.cellsOf e = 1) (xs ys : List Int) (hx : xs.length = n) (hy : ys.length = n) :
  (binOp .neq t (.agg (xs.map (Value.int k)).toArray) (.agg (ys.map (Value.int k)).toArray)).run P w = .ok (.bool (xs != ys)) w := by
 rw [run_neq_struct, run_equalIn_array w 9999 _ _ hu hi, hc, E7 w 9998 he xs ys _ (by intro j hj; simp at hj; omega), <- hx, Gf xs ys (by omega)]
 rfl
end
section
open Go.RowKit
attribute [local go_sem ↓] Go.wp_at_zero Go.wp_at_succ
set_option maxRecDepth 20000
set_option exponentiation.threshold 5000
abbrev FP := Fin 256 × Fin 256
def FV (x : FP) : Nat × Nat := (x.1.1, x.2.1)
def encF (x : FP) : List Value := [.int .i64 (x.1.1 : Nat), .int .i64 (x.2.1 : Nat)]
def cfF (x y : FP) : Int := if x.1.1 = y.1.1 then (x.2.1 : Int) - (y.2.1 : Int) else (x.1.1 : Int) - (y.1.1 : Int)
theorem ltF (x y : FP) : ltOf cfF x y = decide (GX (FV x) (FV y)) := by
 rw [Bool.eq_iff_iff, decide_eq_true_eq]
 unfold ltOf cfF GX FV
 rw [decide_eq_true_eq]
 dsimp only
 split <;> omega
theorem swoF : Sort.SWO (ltOf cfF) where
 irrefl x := by rw [ltF]; simp [Do]
 trans x y z h1 h2 := by rw [ltF] at *; simp only [decide_eq_true_eq] at *; exact EX h1 h2
 ntrans x y z h1 h2 := by
  rw [ltF] at *; simp only [decide_eq_false_iff_not] at *
  intro h3
  rcases EY h1 with h4 | h4
  ·exact h2 (EX h4 h3)
  ·rw [<- h4] at h2; exact h2 h3
theorem EH (d : Array FP) : (Sort.flatK encF 2 d).toList = Ad (d.toList.map FV) := by
 refine List.ext_getElem? fun t => ?_
 by_cases ht : t < d.size * 2
 ·have h1 : t / 2 < d.size := by omega
  have h2 := Bj (d.toList.map FV) (t / 2) (by simpa using h1)
  have h3 : (d.toList.map FV).getD (t / 2) (0, 0) = FV d[t / 2]! := by
   simp [List.getD_eq_getElem?_getD, h1]
  rw [h3] at h2
  have h4 : (Sort.flatK encF 2 d).toList[t]? = some ((Sort.flatK encF 2 d)[t]!) := by
   rw [getElem!_pos _ t (by simpa using ht)]; simp [ht]
  rw [h4, Sort.get_flatK _ _ _ _ ht]
  rcases Nat.mod_two_eq_zero_or_one t with h5 | h5
  ·rw [h5]; rw [show t / 2 * 2 = t by omega] at h2; rw [h2.1]; rfl
  ·rw [h5]; rw [show t / 2 * 2 + 1 = t by omega] at h2; rw [h2.2]; rfl
 ·rw [List.getElem?_eq_none (by simp; omega), List.getElem?_eq_none (by rw [Eh]; simp; omega)]
theorem Dm {α : Type} [Inhabited α] {enc : α -> List Value} {k : Nat} {w : World} {base g n c : Nat} {e : TypeId} {xs : List Value} (h : w.ownsRow base e k (.slice (some ⟨g, 0, none⟩) n c) n xs) (d d' : Array α) (hd : d.size = n) (hd' : d'.size = n) (hx : (Sort.flatK enc k d).toList = xs) (m : Nat) (os : Array Obj) :
  Sort.HoldsK enc k w g 0 d /\ g < w.heap.size /\ w.grownBy (sortWorldK enc k w g 0 m d' os) (some g) /\ (sortWorldK enc k w g 0 m d' os).ownsRow base e k (.slice (some ⟨g, 0, none⟩) n c) n (Sort.flatK enc k d').toList := by
 obtain ⟨h1, h2⟩ := h
 obtain ⟨h2, _⟩ | ⟨g2, cap, cur, h3, h4, h5, h6, h7, h8, h9⟩ := h2
 ·injection h2 with h2; exact absurd h2 (by simp)
 ·injection h3 with h3 h10 h11
  injection h3 with h3; injection h3 with h3
  subst h3; subst h11
  have hlt : g < w.heap.size := (Array.getElem?_eq_some_iff.1 h5).1
  have hnk : n * k <= cur.size := by rw [h8]; exact Nat.mul_le_mul_right _ h6
  refine ⟨fun j hj => ?_, hlt, ⟨rfl, rfl, rfl, ?_, fun b hb hbn => ?_⟩, ?_, .inr ⟨g, c, Sort.putCells id 0 (Sort.flatK enc k d') cur, rfl, h4, ?_, h6, h7, ?_, ?_⟩⟩
  ·have hj2 : j < n * k := by simpa [hd] using hj
   have e1 : (Sort.flatK enc k d)[j]! = cur[j]'(by omega) := by
    have : (Sort.flatK enc k d).toList[j]? = cur.toList[j]? := by rw [hx, <- h9, List.getElem?_take_of_lt hj2]
    rw [getElem!_pos _ j hj]
    rw [List.getElem?_eq_getElem (by simpa using hj), List.getElem?_eq_getElem (by simp; omega)] at this
    simpa using this
   constructor
   ·rw [id, e1]; simp [World.cell?, h5, show j < cur.size by omega]
   ·simp [World.frozen?, h5]
  ·exact size_sortWorldK_c ..
  ·unfold sortWorldK Sort.grow Sort.putRowK Sort.putRow Sort.mapBlock Sort.ahead
   dsimp only
   rw [Array.getElem?_append_left (by simpa using hb), Array.getElem?_modify, if_neg (fun e => hbn (by rw [e]))]
  ·simp [hd']
  ·unfold sortWorldK Sort.grow Sort.putRowK Sort.putRow Sort.mapBlock Sort.ahead
   dsimp only
   rw [Array.getElem?_append_left (by simpa using hlt), Array.getElem?_modify, if_pos rfl, h5]; rfl
  ·simp [Sort.putCells, h8]
  ·refine List.ext_getElem? fun t => ?_
   by_cases ht : t < n * k
   ·rw [List.getElem?_take_of_lt ht]
    simp [Sort.putCells, show t < cur.size by omega, hd', ht]
   ·rw [List.getElem?_eq_none (by rw [List.length_take]; omega), List.getElem?_eq_none (by simp [hd']; omega)]
theorem compare_any (x y : FP) (W : World) : Calls Tryz.prog 179 #[.agg #[.int .i64 (x.1.1 : Nat), .int .i64 (x.2.1 : Nat)], .agg #[.int .i64 (y.1.1 : Nat), .int .i64 (y.2.1 : Nat)]] W fun e w' => e = .returned (.int .i64 (cfF x y)) /\ ∃ q os', w' = Sort.grow (W.drewN q) os' := by
 have h1 := x.1.2
 have h2 := x.2.2
 have h3 := y.1.2
 have h4 := y.2.2
 unfold cfF
 generalize x.1.1 = a at *
 generalize x.2.1 = b at *
 generalize y.1.1 = c at *
 generalize y.2.1 = d at *
 by_cases he : a = c
 ·subst he
  rw [if_pos rfl]
  go_enter Tryz.func179, Tryz.ntmps179
  go_wp2
  go_ret
  exact ⟨rfl, 0, _, by rw [Sort.alloc_eq_grow, Sort.alloc_eq_grow, Sort.grow_grow]; rfl⟩
 ·rw [if_neg he]
  go_enter Tryz.func179, Tryz.ntmps179
  go_wp2
  go_ret
  exact ⟨rfl, 0, _, by rw [Sort.alloc_eq_grow, Sort.alloc_eq_grow, Sort.grow_grow]; rfl⟩
theorem sortp_any {w0 w : World} {F : List Ac} {K : (Nat -> Prop) -> World -> Prop} (i g n cap : Nat) (L : List (Nat × Nat)) (hL : Ew 256 L) (hl : L.length = n) (hn : n < 4611686018427387904) (hS : St w0 w F K) (hi : F[i]? = some (.own (.slice (some ⟨g, 0, none⟩) n cap) 107 2 n (Ad L))) :
  Calls Tryz.prog 178 #[.slice (some ⟨g, 0, none⟩) n cap, .func (.func 179) #[] #[]] w fun e w' => ∃ M : List (Nat × Nat), e = .returned (.tuple #[]) /\ M.Perm L /\ M.Pairwise (fun x y => ¬ GX y x) /\ St w0 w' (F.set i (.own (.slice (some ⟨g, 0, none⟩) n cap) 107 2 n (Ad M))) K := by
 have ho := hS.own i hi
 obtain ⟨d, rfl⟩ : ∃ d : Array FP, L = d.toList.map FV := by
  refine ⟨(L.map fun x => ((⟨x.1 % 256, Nat.mod_lt _ (by decide)⟩, ⟨x.2 % 256, Nat.mod_lt _ (by decide)⟩) : FP)).toArray, ?_⟩
  rw [List.map_map]
  refine (List.map_id _).symm.trans (List.map_congr_left fun x hx => ?_)
  have := hL x hx
  exact Prod.ext (Nat.mod_eq_of_lt this.1).symm (Nat.mod_eq_of_lt this.2).symm
 have hd : d.size = n := by simpa using hl
 have eg : ∀ args w, (callFunc 179 args).run Tryz.prog w = .ok (.enter 179 args) w := enters_of Tryz.func179 (by kernel_rfl) rfl
 obtain ⟨hH, hb, _, _⟩ := Dm ho d d hd hd (EH d) 0 #[]
 have hcon := AnyQ.slices_SortFunc Tryz.sortPairs 2 Tryz.isAgg107 Tryz.sizeOf107 encF (fun _ => rfl) (fun x v hv => by simp [encF] at hv; rcases hv with rfl | rfl <;> rfl) cfF swoF 179 #[] g 0 cap d w eg (fun _ _ _ _ x y => compare_any x y _) hH hb (by omega)
 rw [hd] at hcon
 refine hcon.mono ?_
 rintro e w' ⟨rfl, d', m, os, hp, hs, rfl⟩
 have hd' : d'.size = n := hp.1.trans hd
 obtain ⟨_, _, hg, ho'⟩ := Dm ho d d' hd hd' (EH d) m os
 refine ⟨d'.toList.map FV, rfl, ?_, ?_, ?_⟩
 ·have := hp.2.2
  rw [show d'.extract 0 n = d' by rw [<- hd']; simp, show d.extract 0 n = d by rw [<- hd]; simp] at this
  exact this.map _
 ·rw [List.pairwise_iff_getElem]
  intro a b ha hb hab
  have hb' : b < n := by simpa [hd'] using hb
  have := hs a b (Nat.zero_le _) hab hb'
  rw [ltF] at this
  simp only [decide_eq_false_iff_not] at this
  rw [getElem!_pos _ a (by omega), getElem!_pos _ b (by omega)] at this
  simpa using this
 ·rw [EH] at ho'
  exact hS.upd i hi _ hg ho' fun k hk => .inl hk
section
variable {P : Program} {o : Oper} {a : Act} {w w' : World} {K : Act -> World -> Prop} {Q : Exit -> Act -> World -> Prop}
theorem CP {base g n cap k : Nat} {e : TypeId} {R : List (Nat × Nat)} (h : w.ownsRow base e 2 (.slice (some ⟨g, 0, none⟩) n cap) n (Ad R)) (hk : k < R.length) : w.rangeAt g (k * 2) [.int .i64 ((R.getD k (0, 0)).1 : Nat), .int .i64 ((R.getD k (0, 0)).2 : Nat)] := by
 have h2 := Bj R k hk
 intro j v hj
 match j, hj with
 | 0, hj => simp at hj; subst hj; exact BJ h _ _ h2.1
 | 1, hj => simp at hj; subst hj; exact BJ h _ _ h2.2
 | j + 2, hj => simp at hj
theorem pairs_eql {t e : TypeId} (hu : P.underlying t = some (.array 2 e)) (i : TypeInfo) (hi : P.info? e = some i) (he : P.underlying e = some (.int .i64)) (hc : P.cellsOf e = 1) (x y : Nat × Nat) :
  (binOp .eql t (.agg #[.int .i64 (x.1 : Nat), .int .i64 (x.2 : Nat)]) (.agg #[.int .i64 (y.1 : Nat), .int .i64 (y.2 : Nat)])).run P w = .ok (.bool (decide (x = y))) w := by
 have := run_eql_ints w t e 2 .i64 hu i hi he hc [(x.1 : Int), (x.2 : Int)] [(y.1 : Int), (y.2 : Int)] rfl rfl
 rw [show decide (x = y) = ([(x.1 : Int), (x.2 : Int)] == [(y.1 : Int), (y.2 : Int)]) by rw [Bool.eq_iff_iff]; simp [Prod.ext_iff]; omega]
 exact this
theorem pairs_neq {t e : TypeId} (hu : P.underlying t = some (.array 2 e)) (i : TypeInfo) (hi : P.info? e = some i) (he : P.underlying e = some (.int .i64)) (hc : P.cellsOf e = 1) (x y : Nat × Nat) :
  (binOp .neq t (.agg #[.int .i64 (x.1 : Nat), .int .i64 (x.2 : Nat)]) (.agg #[.int .i64 (y.1 : Nat), .int .i64 (y.2 : Nat)])).run P w = .ok (.bool (decide (x ≠ y))) w := by
 have := run_neq_ints w t e 2 .i64 hu i hi he hc [(x.1 : Int), (x.2 : Int)] [(y.1 : Int), (y.2 : Int)] rfl rfl
 rw [show decide (x ≠ y) = ([(x.1 : Int), (x.2 : Int)] != [(y.1 : Int), (y.2 : Int)]) by rw [Bool.eq_iff_iff]; simp [Prod.ext_iff]; omega]
 exact this
theorem Hr.trans {g : Nat} {u v w : World} (h : Hr g u v) (k : Hr g v w) : Hr g u w :=
 ⟨k.os.trans h.os, k.tape.trans h.tape, k.output.trans h.output, k.size.trans h.size, fun b hb => (k.other b hb).trans (h.other b hb)⟩
theorem FW {base g n cap size : Nat} {e : TypeId} : ∀ (vs : List Value) (i : Nat) (w : World) (xs : List Value), w.ownsRow base e size (.slice (some ⟨g, 0, none⟩) n cap) n xs ->
  ∃ ys, (w.setCells g i vs).ownsRow base e size (.slice (some ⟨g, 0, none⟩) n cap) n ys /\ ys.take i = xs.take i /\ Hr g w (w.setCells g i vs)
 | [], i, w, xs, h => ⟨xs, h, rfl, ⟨rfl, rfl, rfl, rfl, fun _ _ => rfl⟩⟩
 | v :: vs, i, w, xs, h => by
  obtain ⟨ys, h1, h2, h3⟩ := FW vs (i + 1) (w.setCell ⟨g, i, none⟩ v) _ (h.stored i v).1
  refine ⟨ys, h1, ?_, Hr.trans (BA w g i v) h3⟩
  have := congrArg (List.take i) h2
  rw [List.take_take, List.take_take, show min i (i + 1) = i by omega] at this
  rw [this, List.take_set_of_le (Nat.le_refl _)]
theorem own_short {base g n cap size k : Nat} {e : TypeId} {xs : List Value} (h : w.ownsRow base e size (.slice (some ⟨g, 0, none⟩) n cap) n xs) (hk : k <= n) : w.ownsRow base e size (.slice (some ⟨g, 0, none⟩) k cap) k (xs.take (k * size)) := by
 obtain ⟨h1, h2⟩ := h
 have hkn : k * size <= n * size := Nat.mul_le_mul_right _ hk
 refine ⟨by rw [List.length_take]; omega, .inr ?_⟩
 obtain ⟨h2, _⟩ | ⟨g2, c2, cur, h3, h4, h5, h6, h7, h8, h9⟩ := h2
 ·injection h2 with h2; exact absurd h2 (by simp)
 ·injection h3 with h3 h10 h11
  injection h3 with h3; injection h3 with h3
  subst h3; subst h11
  exact ⟨g, cap, cur, rfl, h4, h5, by omega, h7, h8, by rw [<- h9, List.take_take, Nat.min_eq_left hkn]⟩
theorem Ih {base g n cap size i : Nat} {e ty : TypeId} {xs : List Value} {u v : Value} (h : w.ownsRow base e size (.slice (some ⟨g, 0, none⟩) n cap) n xs) (hi : i + 1 < n * size) (h1 : u.oneCell' = true) (h2 : v.oneCell' = true) (hs : (P.info? ty).map (·.size) = some 2) :
  (Instr.storeAt ty (.pointer (some ⟨g, i, none⟩)) (.agg #[u, v])).run P w = .ok () ((w.setCell ⟨g, i, none⟩ u).setCell ⟨g, i + 1, none⟩ v) := by
 obtain ⟨cs, h3, h4, _⟩ := FY h
 have := run_storeCells_cells (P := P) g i [u, v] 0 w (fun j hj => by have hc := h3.cell (i + j); simp at hj; simp [hc]; omega) (fun j hj => h3.free _) (by simpa using ⟨h1, h2⟩)
 cases hq : P.info? ty with
 | none => simp [hq] at hs
 | some inf =>
  have hs' : inf.size = 2 := by simpa [hq] using hs
  simp only [Nat.add_zero] at this
  simp [Instr.storeAt, Instr.sureAddr, storeVar, sizeOf, typeInfo, hq, Value.cells, hs', this, World.setCells]
theorem GY {ty e : TypeId} {x y : Operand} {g i base n cap size : Nat} {u v : Value} {xs : List Value} (ho : o.op = .store ty x y) (hx : a.eval x = .pointer (some ⟨g, i, none⟩)) (hy : a.eval y = .agg #[u, v]) (hown : w.ownsRow base e size (.slice (some ⟨g, 0, none⟩) n cap) n xs) (hi : i + 1 < n * size)
  (h1 : u.oneCell' = true) (h2 : v.oneCell' = true) (hs : (P.info? ty).map (·.size) = some 2) (hk : ∀ w', w'.ownsRow base e size (.slice (some ⟨g, 0, none⟩) n cap) n ((xs.set i u).set (i + 1) v) -> Hr g w w' -> K (a.put o.dst undef) w') : o.wp P a w K Q := by
 unfold Oper.wp execOp
 simp only [ho, hx, hy, Sem.run_bind, Ih hown hi h1 h2 hs, Result.andThen_ok]
 exact hk _ ((hown.stored i u).1.stored (i + 1) v).1 (Hr.trans (BA w g i u) (BA _ g (i + 1) v))
theorem Fd {base g n cap k m c : Nat} {t e ty : TypeId} {zs : Array Value} {xs : List Value} (h : w.ownsRow base e 2 (.slice (some ⟨g, 0, none⟩) n cap) n xs) (ht : P.underlying t = some (.slice e)) (hz : (zeroValue e).run P w = .ok (.agg zs) w) (hzs : zs.size = 2) (h1 : ∀ x ∈ zs.toList, x.oneCell' = true) (hk : k + m = n) :
  ∃ w' ys, (Builtin.clear_ #[t] ty #[.slice (some ⟨g, k * 2, none⟩) m c]).run P w = .ok (.tuple #[]) w' /\ w'.ownsRow base e 2 (.slice (some ⟨g, 0, none⟩) n cap) n ys /\ ys.take (k * 2) = xs.take (k * 2) /\ w.grownBy w' (some g) := by
 rcases Nat.eq_zero_or_pos m with h0 | h0
 ·subst h0
  refine ⟨w, xs, ?_, h, rfl, ⟨rfl, rfl, rfl, Nat.le_refl _, fun _ _ _ => rfl⟩⟩
  simp [Builtin.clear_, run_underlying ht w]
 ·obtain ⟨cs, h3, h4, _⟩ := FY h
  have hlen : (Builtin.zeroCells zs m).toList.length = m * 2 := by simp [Builtin.zeroCells, hzs]
  obtain ⟨ys, h5, h6, h7⟩ := FW (Builtin.zeroCells zs m).toList (k * 2) w xs h
  have := run_storeCells_cells (P := P) g (k * 2) (Builtin.zeroCells zs m).toList 0 w (fun j hj => by have hc := h3.cell (k * 2 + j); rw [hlen] at hj; simp [hc]; omega) (fun j hj => h3.free _) (fun x hx => by
   simp only [Builtin.zeroCells, Array.toList_map, List.mem_map, Array.toList_range, List.mem_range] at hx
   obtain ⟨i, hi, rfl⟩ := hx
   refine h1 _ ?_
   rw [getElem!_pos zs (i % zs.size) (Nat.mod_lt _ (by omega))]
   simp)
  simp only [Nat.add_zero] at this
  refine ⟨_, ys, ?_, h5, h6, Bh h7⟩
  obtain ⟨m', rfl⟩ : ∃ m', m = m' + 1 := ⟨m - 1, by omega⟩
  simp [Builtin.clear_, run_underlying ht w, hz, Value.cells, this]
end
end
section
open Go.RowKit
def Gr (w w' : World) : Prop := Below w.heap.size w w' /\ w.drawn <= w'.drawn
theorem Gr.refl (w : World) : Gr w w := ⟨Below.refl _ _, Nat.le_refl _⟩
theorem Gr.trans {a b c : World} (h : Gr a b) (k : Gr b c) : Gr a c := ⟨h.1.trans (k.1.mono h.1.size), Nat.le_trans h.2 k.2⟩
theorem Gr.alloc {a b : World} (h : Gr a b) (o : Obj) : Gr a (b.alloc o) := ⟨h.1.alloc h.1.size _, h.2⟩
theorem Gr.drew {a b : World} (h : Gr a b) : Gr a b.drew := ⟨h.1.drew, Nat.le_succ_of_le h.2⟩
theorem Gr.grow {w w' : World} (h : Gr w w') : ∃ q os, w' = Sort.grow (w.drewN q) os := by
 refine ⟨w'.drawn - w.drawn, w'.heap.extract w.heap.size w'.heap.size, ?_⟩
 obtain ⟨h, hd⟩ := h
 obtain ⟨heap', tape', drawn', os', output'⟩ := w'
 have e1 : os' = w.os := h.os
 have e2 : tape' = w.tape := h.tape
 have e3 : output' = w.output := h.output
 have hs : w.heap.size <= heap'.size := h.size
 have hb : ∀ k, k < w.heap.size -> heap'[k]? = w.heap[k]? := h.block
 have hd' : w.drawn <= drawn' := hd
 subst e1 e2 e3
 have eh : heap' = w.heap ++ heap'.extract w.heap.size heap'.size := by
  apply Array.ext_getElem?
  intro k
  by_cases hk : k < w.heap.size
  ·rw [Array.getElem?_append_left hk]; exact hb k hk
  ·rw [Array.getElem?_append_right (by omega), Array.getElem?_extract]
   by_cases hk2 : k < heap'.size
   ·rw [if_pos (by omega)]; congr 1; omega
   ·rw [if_neg (by omega), Array.getElem?_eq_none (by omega)]
 simp only [Sort.grow, World.drewN]
 have ed : drawn' = w.drawn + (drawn' - w.drawn) := by omega
 congr 1
def CN (R : Value -> World -> Prop) (w : World) (e : Ending) (w' : World) : Prop := ∃ v, e = .returned v /\ R v w' /\ Gr w w'
theorem CN.mk {R : Value -> World -> Prop} {w : World} {v : Value} {w' : World} (h : R v w') (hb : Gr w w') : CN R w (.returned v) w' := ⟨v, rfl, h, hb⟩
theorem sortg_any {P : Program} {ρ : Shelf.Ren} (L : SlLaysF0.n6 P ρ) (k : Nat) (aE : ∀ w, (isAgg (ρ.t 24)).run P w = .ok true w) (zE : ∀ w, (Go.sizeOf (ρ.t 24)).run P w = .ok k w) (enc : Nat -> List Value) (hk : ∀ x, (enc x).length = k) (h1 : ∀ x, ∀ v ∈ enc x, v.oneCell' = true) (cf : Nat -> Nat -> Int) (hO : Sort.SWO (ltOf cf)) (gf : Nat)
  (eg : ∀ args w, (callFunc gf args).run P w = .ok (.enter gf args) w) {w0 w : World} {F : List Ac} {K : (Nat -> Prop) -> World -> Prop} (i g n cap : Nat) (e : TypeId) (xs : List Value) (hS : St w0 w F K) (hi : F[i]? = some (.own (.slice (some ⟨g, 0, none⟩) n cap) e k n xs))
  (hx : (Sort.flatK enc k (Array.range n)).toList = xs) (hn : n < 4611686018427387904)
  (hC : ∀ w1 F1, St w0 w1 F1 K -> ∀ x y, Calls P gf #[.agg (enc x).toArray, .agg (enc y).toArray] w1 (CN (fun u _ => u = .int .i64 (cf x y)) w1)) :
  Calls P (ρ.f 6) #[.slice (some ⟨g, 0, none⟩) n cap, .func (.func gf) #[] #[]] w fun r w' => ∃ M : List Nat, r = .returned (.tuple #[]) /\ M.Perm (List.range n) /\ M.Pairwise (fun x y => ¬ cf y x < 0) /\ St w0 w' (F.set i (.own (.slice (some ⟨g, 0, none⟩) n cap) e k n (Sort.flatK enc k M.toArray).toList)) K := by
 have ho := hS.own i hi
 have hd : (Array.range n).size = n := by simp
 obtain ⟨hH, hb, _, _⟩ := Dm ho (Array.range n) (Array.range n) hd hd hx 0 #[]
 have hcon := AnyQ.slices_SortFunc L k aE zE enc hk h1 cf hO gf #[] g 0 cap (Array.range n) w eg (fun m os dk hdk x y => by
  obtain ⟨_, _, hg, ho'⟩ := Dm ho (Array.range n) dk hd (hdk.trans hd) hx m os
  have hS1 := hS.upd i hi (.own (.slice (some ⟨g, 0, none⟩) n cap) e k n (Sort.flatK enc k dk).toList) hg ho' fun k hk => .inl hk
  exact (hC _ _ hS1 x y).mono fun _ _ ⟨v, h1, h2, h3⟩ => ⟨by rw [h1, h2], h3.grow⟩) hH hb (by omega)
 rw [hd] at hcon
 refine hcon.mono ?_
 rintro r w' ⟨rfl, d', m, os, hp, hs, rfl⟩
 have hd' : d'.size = n := hp.1.trans hd
 obtain ⟨_, _, hg, ho'⟩ := Dm ho (Array.range n) d' hd hd' hx m os
 refine ⟨d'.toList, rfl, ?_, ?_, ?_⟩
 ·have := hp.2.2
  rw [show d'.extract 0 n = d' by rw [<- hd']; simp, show (Array.range n).extract 0 n = Array.range n by rw [show n = (Array.range n).size from hd.symm]; simp] at this
  simpa using this
 ·rw [List.pairwise_iff_getElem]
  intro a b ha hb hab
  have hb' : b < n := by simpa [hd'] using hb
  have := hs a b (Nat.zero_le _) hab hb'
  unfold ltOf at this
  simp only [decide_eq_false_iff_not] at this
  rw [getElem!_pos _ a (by omega), getElem!_pos _ b (by omega)] at this
  simpa using this
 ·exact hS.upd i hi _ hg ho' fun k hk => .inl hk
end
section
open Go.RowKit
def keyF : Nat -> Nat -> Nat
 | 0, _ => 0
 | f + 1, s => if s = 0 then 0 else if s % 2 = 1 then 1 + keyF f (s / 2) else 2 ^ f + keyF f (s / 2)
def Dq (s : Nat) : Nat := keyF 6 s
def Hp (N i : Nat) : Bool := N != 0 && decide (i < N.log2)
def Du (A B : Nat) : Int := if A = B then 0 else if (A.testBit (DX (A ^^^ B)) && Hp B (DX (A ^^^ B))) || (B.testBit (DX (A ^^^ B)) && !Hp A (DX (A ^^^ B))) then -1 else 1
theorem key_dec : ∀ a, a < 64 -> ∀ b, b < 64 -> decide (Du a b < 0) = decide (Dq a < Dq b) := by decide +kernel
theorem cmp_zero : ∀ a, a < 64 -> ∀ b, b < 64 -> decide (Du a b = 0) = decide (a = b) := by decide +kernel
theorem key_inj : ∀ a, a < 64 -> ∀ b, b < 64 -> Dq a = Dq b -> a = b := by decide +kernel
end
section
open Go.RowKit
attribute [local go_sem ↓] Go.wp_at_zero Go.wp_at_succ
set_option maxRecDepth 20000
theorem word_gr (v : Value) (N : Nat) (k : Int) (w : World) (D : Nat -> Prop) (hv : Aa w D v N) (h0 : 0 <= k) :
  Calls Tryz.prog 141 #[v, .int .i64 k] w (CN (fun u _ => u = .int .u64 (wd N k.toNat)) w) := by
 obtain ⟨u, l, rfl, hl, rfl, hlen, A, c, rfl, hc1, hc2, hcell⟩ := hv
 obtain ⟨k, rfl⟩ := Int.eq_ofNat_of_zero_le h0
 have hw := BD hl.1 k
 simp only [Int.toNat_natCast]
 have hl64 := hl.2.2
 unfold maxLen at hc2
 by_cases hk : k < l.length
 ·obtain ⟨b, o, rfl, _, hb, hx⟩ := hcell (by omega)
  have hc3 : (w.alloc (.cells #[.slice (some ⟨b, o, none⟩) l.length c] 39)).cell? ⟨b, o + k, none⟩ = some (.int .u64 (wd (val l) k)) := by
   rw [World.cell?_alloc_lt _ _ _ hb, hw]
   exact hx k _ (Cr l k hk)
  clear hcell hx hw hlen hl
  go_enter Tryz.func141, Tryz.ntmps141
  go_wp2
  go_ret
  exact CN.mk rfl ((Gr.refl _).alloc _)
 ·have hz : wd (val l) k = 0 := I1 hl.1 (by omega)
  rw [hz]
  clear hcell hw hlen hl hz
  go_enter Tryz.func141, Tryz.ntmps141
  go_wp2
  go_ret
  exact CN.mk rfl ((Gr.refl _).alloc _)
theorem empty_gr (v : Value) (N : Nat) (w : World) (D : Nat -> Prop) (hv : Aa w D v N) :
  Calls Tryz.prog 62 #[v] w (CN (fun u _ => u = .bool (N == 0)) w) := by
 obtain ⟨u, l, rfl, hl, rfl, hlen, A, c, rfl, hc1, hc2, hcell⟩ := hv
 rw [IJ hl]
 clear hcell hlen hl
 go_enter Tryz.func62, Tryz.ntmps62
 go_wp2
 go_ret
 exact CN.mk rfl ((Gr.refl _).alloc _)
theorem has_gr (v : Value) (N : Nat) (i : Int) (w : World) (D : Nat -> Prop) (hv : Aa w D v N) :
  Calls Tryz.prog 89 #[v, .int .i64 i] w (CN (fun u _ => u = .bool (Bv N i)) w) := by
 have hN : N < 2 ^ 4096 := hv.bound
 have hv0 := hv
 obtain ⟨u, l, rfl, _, _, _, A, c, rfl, _, _, _⟩ := hv0
 by_cases h0 : 0 <= i
 ·by_cases h1 : i <= 4095
  ·clear hN
   have HC := Lib.hid (has_calc N i h0)
   go_enter Tryz.func89, Tryz.ntmps89
   go_wp2_with fail
   refine (word_gr _ N _ _ D (hv.alloc _) (by omega)).mono ?_
   rintro e w1 ⟨u, rfl, rfl, hb⟩
   go_wp2_with fail
   rw [HC.out]
   go_ret
   exact CN.mk rfl (((Gr.refl _).alloc _).trans hb)
  ·rw [has_big N i hN h1]
   clear hN
   go_enter Tryz.func89, Tryz.ntmps89
   go_wp2
   go_ret
   exact CN.mk rfl ((Gr.refl _).alloc _)
 ·rw [has_neg N i h0]
  clear hN
  go_enter Tryz.func89, Tryz.ntmps89
  go_wp2
  go_ret
  exact CN.mk rfl ((Gr.refl _).alloc _)
theorem Hb (v : Value) (N : Nat) (w : World) (D : Nat -> Prop) (hv : Aa w D v N) :
  Calls Tryz.prog 175 #[v] w (CN (fun x _ => x = gtst N) w) := by
 obtain ⟨A, c, l, rfl, hl, rfl, hc1, hc2, hs⟩ := hv.parts
 have hl64 := hl.2.2
 have hv1 := hv.alloc (.cells #[.slice A l.length c] 39)
 have hbw : Gr w (w.alloc (.cells #[.slice A l.length c] 39)) := (Gr.refl _).alloc _
 by_cases h0 : l.length = 0
 ·obtain rfl : l = [] := List.eq_nil_of_length_eq_zero h0
  have HR := Lib.hid (show (val [] == 0) = true by rfl)
  clear hl hs hc1 hl64 h0
  go_enter Tryz.func175, Tryz.ntmps175
  go_wp2_with fail
  refine (empty_gr _ _ _ D hv1).mono ?_
  rintro e w1 ⟨_, rfl, rfl, hb1⟩
  rw [HR.out]
  go_wp2_with fail
  go_ret2
  exact CN.mk rfl (hbw.trans hb1)
 ·obtain ⟨hlog, hne⟩ := log2_val hl (by omega)
  have HR := Lib.hid (show (val l == 0) = false by simp [hne])
  have HE := Lib.hid (show gtst (val l) = .tuple #[.int .i64 (64 * ((l.length : Int) - 1) + ((l.getD (l.length - 1) 0).log2 + 1) - 1), .bool true] by
   have h1 : (((if val l = 0 then 0 else (val l).log2 : Nat)) : Int) = 64 * ((l.length : Int) - 1) + ((l.getD (l.length - 1) 0).log2 + 1) - 1 := by rw [if_neg hne, hlog]; omega
   have h2 : (val l != 0) = true := by simp [hne]
   rw [gtst, h1, h2])
  obtain ⟨b, o, rfl, _, hb, hc⟩ := hs.word (k := l.length - 1) (by omega)
  have hx := hc (l.length - 1) (by omega)
  have HB := Lib.hid (bitLen_log2 (hl.1.getD (l.length - 1)) (BG hl (by omega)))
  have HT := Lib.hid (hl.1.getD (l.length - 1))
  have hlg : (l.getD (l.length - 1) 0).log2 < 64 := (Nat.log2_lt (BG hl (by omega))).2 (hl.1.getD _)
  clear hl hs hc hlog hne
  generalize l.getD (l.length - 1) 0 = x at *
  obtain ⟨q, hq⟩ : ∃ q, l.length = q + 1 := ⟨l.length - 1, by omega⟩
  rw [hq] at hx hc1 hl64 h0 HE
  simp only [Nat.add_sub_cancel] at hx
  rw [hq] at hv1 hbw
  rw [hq]
  generalize val l = N at *
  clear hq hv
  go_enter Tryz.func175, Tryz.ntmps175
  go_wp2_with fail
  refine (empty_gr _ N _ D hv1).mono ?_
  rintro e w1 ⟨_, rfl, rfl, hb1⟩
  rw [HR.out]
  have hbw1 := hbw.trans hb1
  have hk1 : w1.cell? ⟨w.heap.size, 0, none⟩ = some (.slice (some ⟨b, o, none⟩) (q + 1) c) := (hb1.1.cell (p := ⟨w.heap.size, 0, none⟩) (by simp)).trans (by go_simp)
  have hx1 := (hbw1.1.cell (p := ⟨b, o + q, none⟩) hb).trans hx
  go_wp2_with fail
  refine (Tryz.bits_Len64 _ _ (by omega) (by have := HT.out; unfold AM at this; omega)).mono ?_
  rintro e w2 ⟨rfl, rfl⟩
  rw [Int.toNat_natCast, HB.out]
  go_wp2_with fail
  go_ret2
  refine CN.mk ?_ hbw1
  rw [HE.out]
  simp
end
section
open Go.RowKit
attribute [local go_sem ↓] Go.wp_at_zero Go.wp_at_succ
set_option maxRecDepth 20000
set_option exponentiation.threshold 5000
theorem F6 (v : Value) (N i : Nat) (w : World) (D : Nat -> Prop) (hv : Aa w D v N) :
  Calls Tryz.prog 219 #[v, .int .i64 (i : Nat)] w (CN (fun u _ => u = .bool (Hp N i)) w) := by
 have hv1 := hv.alloc (.cells v.cells 39)
 obtain ⟨A, c, l, rfl, hl, rfl, hc1, hc2, hs⟩ := hv.parts
 generalize val l = N at *
 by_cases h0 : N = 0
 ·subst h0
  have hg : Hid (gtst 0 = .tuple #[.int .i64 0, .bool false]) := Lib.hid rfl
  clear hl hs hc1
  go_enter Tryz.func219, Tryz.ntmps219
  go_wp2_with fail
  refine (Hb _ _ _ D hv1).mono ?_
  rintro e w1 ⟨_, rfl, rfl, hb1⟩
  rw [hg.out]
  go_wp2_with fail
  go_ret
  exact CN.mk rfl (((Gr.refl _).alloc _).trans hb1)
 ·have hg : Hid (gtst N = .tuple #[.int .i64 (N.log2 : Nat), .bool true]) := Lib.hid (by
   have : (N != 0) = true := by simpa using h0
   unfold gtst; rw [if_neg h0, this])
  have HB : Hid (Hp N i = decide (i < N.log2)) := Lib.hid (by
   have : (N != 0) = true := by simpa using h0
   unfold Hp; rw [this, Bool.true_and])
  clear hl hs hc1 h0
  generalize N.log2 = g at *
  generalize Hp N i = bb at *
  go_enter Tryz.func219, Tryz.ntmps219
  go_wp2_with fail
  refine (Hb _ _ _ D hv1).mono ?_
  rintro e w1 ⟨_, rfl, rfl, hb1⟩
  rw [hg.out]
  by_cases hi : i < g
  ·obtain rfl : bb = true := HB.out.trans (decide_eq_true hi)
   go_wp2_with (first | ((with_reducible refine qB ?_); refine qc ?_ ?_ <;> intro h_ <;> go_prune))
   go_ret
   exact CN.mk rfl (((Gr.refl _).alloc _).trans hb1)
  ·obtain rfl : bb = false := HB.out.trans (decide_eq_false hi)
   go_wp2_with (first | ((with_reducible refine qB ?_); refine qc ?_ ?_ <;> intro h_ <;> go_prune))
   go_ret
   exact CN.mk rfl (((Gr.refl _).alloc _).trans hb1)
theorem wd_zero {N : Nat} (h : N < AM) : wd N 0 = N := by unfold wd; rw [Nat.mul_zero, Nat.shiftRight_zero, Nat.mod_eq_of_lt h]
theorem one_word {l : List Nat} (hl : Bw l) (h : val l < AM) : l.length <= 1 := by
 rcases Nat.lt_or_ge 1 l.length with h1 | h1
 ·exfalso
  have h2 := BG hl (by omega)
  have h3 := BD hl.1 (l.length - 1)
  have : wd (val l) (l.length - 1) = 0 := by
   unfold wd
   rw [Nat.shiftRight_eq_div_pow, Nat.div_eq_of_lt (Nat.lt_of_lt_of_le h ?_), Nat.zero_mod]
   rw [Cq]
   exact Nat.pow_le_pow_right (by decide) (by omega)
  rw [this] at h3
  exact h2 h3.symm
 ·exact h1
theorem tz_diff {A B : Nat} (hA : A < AM) (hB : B < AM) (h : A ≠ B) : A.testBit (DX (A ^^^ B)) ≠ B.testBit (DX (A ^^^ B)) /\ DX (A ^^^ B) < 64 := by
 have hx : A ^^^ B < AM := Nat.xor_lt_two_pow (n := 64) hA hB
 have h0 : A ^^^ B ≠ 0 := fun e => h (Nat.eq_of_testBit_eq fun i => by
  have := congrArg (·.testBit i) e
  simp only [Nat.testBit_xor, Nat.zero_testBit] at this
  cases h1 : A.testBit i <;> cases h2 : B.testBit i <;> simp_all)
 have hl := tzN_lt hx h0
 refine ⟨fun e => ?_, hl⟩
 have h1 := low_pow hx h0
 have h2 : ((A ^^^ B) &&& (AM - (A ^^^ B))).testBit (DX (A ^^^ B)) = true := by rw [h1]; exact Nat.testBit_two_pow_self
 rw [Nat.testBit_and, Nat.testBit_xor, e] at h2
 simp at h2
theorem hasB_natG (N i : Nat) : Bv N (i : Nat) = N.testBit i := by unfold Bv; simp
theorem run_xorW {P : Program} {w : World} {t : TypeId} {x y : Nat} (hx : x < AM) (hy : y < AM) : (binOp .xor t (.int .u64 (x : Nat)) (.int .u64 (y : Nat))).run P w = .ok (.int .u64 ((x ^^^ y : Nat) : Int)) w := by
 go_simp
 rw [xor64 hx hy]
theorem cmpS_tf {A B t : Nat} {y : Bool} (h : A ≠ B) (ht : DX (A ^^^ B) = t) (ha : A.testBit t = true) (hb : B.testBit t = false) (hy : Hp B t = y) : Du A B = if y then -1 else 1 := by
 unfold Du; rw [if_neg h, ht, ha, hb, hy]; simp
theorem cmpS_ft {A B t : Nat} {y : Bool} (h : A ≠ B) (ht : DX (A ^^^ B) = t) (ha : A.testBit t = false) (hb : B.testBit t = true) (hy : Hp A t = y) : Du A B = if y then 1 else -1 := by
 unfold Du; rw [if_neg h, ht, ha, hb, hy]; cases y <;> simp
set_option maxHeartbeats 8000000 in
theorem setcmp_gr {w : World} {D E : Nat -> Prop} {v u : Value} {A B : Nat} (hv : Aa w D v A) (hu : Aa w E u B) (hA : A < AM) (hB : B < AM) (hT : Bl w) :
  Calls Tryz.prog 192 #[v, u] w (CN (fun x _ => x = .int .i64 (Du A B)) w) := by
 obtain ⟨A1, c1, l1, rfl, hl1, hv1, hcc1, hcd1, hs1⟩ := hv.parts
 obtain ⟨A2, c2, l2, rfl, hl2, hv2, hcc2, hcd2, hs2⟩ := hu.parts
 have hn1 : l1.length <= 1 := one_word hl1 (by rw [<- hv1]; exact hA)
 have hn2 : l2.length <= 1 := one_word hl2 (by rw [<- hv2]; exact hB)
 have hE0 : A = B -> Hid (Du A B = 0) := fun e => Lib.hid (by unfold Du; rw [if_pos e])
 have hEmp : l1.length = 0 -> l2.length = 0 -> A = B := fun h1 h2 => by
  rw [List.length_eq_zero_iff] at h1 h2
  rw [hv1, hv2, h1, h2]
 have HXL : Hid (A ^^^ B < AM) := Lib.hid (Nat.xor_lt_two_pow (n := 64) hA hB)
 have HX0 : Hid (A ^^^ B = 0 ↔ A = B) := Lib.hid ⟨fun e => Nat.eq_of_testBit_eq fun i => by
  have := congrArg (·.testBit i) e
  simp only [Nat.testBit_xor, Nat.zero_testBit] at this
  cases h1 : A.testBit i <;> cases h2 : B.testBit i <;> simp_all, fun e => by rw [e, Nat.xor_self]⟩
 have HTD := Lib.hid (tz_diff hA hB)
 have hB0 : Hid (Du A B = if A = B then 0 else if (A.testBit (DX (A ^^^ B)) && Hp B (DX (A ^^^ B))) || (B.testBit (DX (A ^^^ B)) && !Hp A (DX (A ^^^ B))) then -1 else 1) := Lib.hid rfl
 have hgr : Gr w ((w.alloc (.cells #[.slice A1 l1.length c1] 39)).alloc (.cells #[.slice A2 l2.length c2] 39)) := ((Gr.refl _).alloc _).alloc _
 have hk1 : BS ((w.alloc (.cells #[.slice A1 l1.length c1] 39)).alloc (.cells #[.slice A2 l2.length c2] 39)) w.heap.size 39 #[.slice A1 l1.length c1] := (BS.new _ _ _).alloc _
 have hk2 : BS ((w.alloc (.cells #[.slice A1 l1.length c1] 39)).alloc (.cells #[.slice A2 l2.length c2] 39)) (w.heap.size + 1) 39 #[.slice A2 l2.length c2] := by
  have := BS.new (w.alloc (.cells #[.slice A1 l1.length c1] 39)) 39 #[.slice A2 l2.length c2]
  rwa [World.size_alloc] at this
 generalize hn : l1.length = n1 at *
 generalize hm : l2.length = n2 at *
 clear hn hm hl1 hl2 hv1 hv2 hs1 hs2 l1 l2
 go_enter Tryz.func192, Tryz.ntmps192
 go_wp2_with fail
 obtain ⟨M, hM, hM1, hM0⟩ : ∃ M : Nat, max (n1 : Int) (n2 : Int) = (M : Int) /\ M <= 1 /\ (M = 0 -> n1 = 0 /\ n2 = 0) := ⟨max n1 n2, by omega, by omega, by omega⟩
 rw [hM]
 clear hM
 have hv1 := hv.ext hgr.1
 have hv2 := hu.ext hgr.1
 have hTW := hT.ext hgr.1
 have hsz : w.heap.size + 1 < ((w.alloc (.cells #[.slice A1 n1 c1] 39)).alloc (.cells #[.slice A2 n2 c2] 39)).heap.size := by simp
 generalize hW0 : (w.alloc (.cells #[.slice A1 n1 c1] 39)).alloc (.cells #[.slice A2 n2 c2] 39) = W at *
 clear hW0 hv hu hT hsz
 generalize w.heap.size + 1 = g2 at *
 generalize w.heap.size = g1 at *
 obtain ⟨x, hx⟩ : ∃ x, x = A ^^^ B := ⟨_, rfl⟩
 rw [<- hx] at HXL HX0 HTD
 have HX := Lib.hid hx
 clear hx
 have HM0 : Hid (M = 0 -> A = B) := Lib.hid fun h => hEmp (hM0 h).1 (hM0 h).2
 have HE0 := Lib.hid hE0
 clear hE0 hEmp hM0 hn1 hn2
 go_loopw [15] (fun i wr => ∃ k : Nat, i = .int .i64 (k : Nat) /\ k <= M /\ Gr W wr /\ Hid (k = 1 -> A = B)) (fun i _ => M - (intOf i).toNat)
 case atStart => exact ⟨0, rfl, by omega, Gr.refl _, Lib.hid fun h => by omega⟩
 case round =>
  obtain ⟨k, rfl, hk, hG, HK1⟩ := hrel
  by_cases hkM : k < M
  ·obtain rfl : k = 0 := by omega
   clear HK1
   go_wp2_with (first | ((with_reducible refine qB ?_); refine qc ?_ ?_ <;> intro h_ <;> go_prune))
   have hRr : ∀ a : World × Unit, Gr a.1 a.1 := fun a => Gr.refl _
   have hRt : ∀ a b c : World × Unit, Gr a.1 b.1 -> Gr b.1 c.1 -> Gr a.1 c.1 := fun _ _ _ h k => h.trans k
   have hN0 : ∀ _ : Nat, True := fun _ => trivial
   have hW1 := Lib.hid hv1
   have hW2 := Lib.hid hv2
   refine Ex (fun (a b : World × Unit) => Gr a.1 b.1) (fun _ _ => True) (()) hRr hRt [.i (.agg #[.slice A1 n1 c1]), .n 0, .i (.int .u64 (A : Nat)), .i (.agg #[.slice A2 n2 c2]), .n 0, .i (.int .u64 (B : Nat)), .i (.int .u64 (x : Nat)), .i (.int .u64 (x : Nat))] ?_ ⟨uR (h := fun w hW hN => hk1.ext (hG.trans ((Gr.refl _).drew.trans hW)).1), uM, ?_, uR (h := fun w hW hN => hk2.ext (hG.trans ((Gr.refl _).drew.trans hW)).1), uM, ?_, uB (h := fun w hW hN => by rw [HX.out]; exact run_xorW hA hB), uA, trivial⟩ ?_
   ·first | assumption | (intro i; (try dsimp only); split <;> first | trivial | assumption | (left; assumption))
   ·refine uG fun b__ w hW hN hE K hK => ?_
    have e18 := hE 18
    have e19 := hE 19
    refine Br rfl (by kernel_rfl) (by simp only [List.map_cons, List.map_nil, e18, e19]) (word_gr _ A 0 _ _ (hW1.out.ext (hG.trans ((Gr.refl _).drew.trans hW)).1) (by decide)) fun e w' ⟨z, he, hz, hg⟩ => ⟨z, he, ?_⟩
    exact hK _ (w', ()) (by rw [hz, Int.toNat_zero, wd_zero hA]) ⟨hg, fun _ _ h => h⟩
   ·refine uG fun b__ w hW hN hE K hK => ?_
    have e21 := hE 21
    have e22 := hE 22
    refine Br rfl (by kernel_rfl) (by simp only [List.map_cons, List.map_nil, e21, e22]) (word_gr _ B 0 _ _ (hW2.out.ext (hG.trans ((Gr.refl _).drew.trans hW)).1) (by decide)) fun e w' ⟨z, he, hz, hg⟩ => ⟨z, he, ?_⟩
    exact hK _ (w', ()) (by rw [hz, Int.toNat_zero, wd_zero hB]) ⟨hg, fun _ _ h => h⟩
   ·intro vs wz hW hT
    obtain ⟨e18, e19, e20, e21, e22, e23, e24, e6, -⟩ := hT
    simp only [Ak, Act.put, zz, ze]
    replace hG := hG.trans ((Gr.refl _).drew.trans hW)
    rw [e6]
    generalize wz.1 = w2 at *
    generalize vs 18 = s18, vs 19 = s19, vs 20 = s20, vs 21 = s21, vs 22 = s22, vs 23 = s23, vs 24 = s24
    clear hW hRr hRt hN0 e18 e19 e20 e21 e22 e23 e24 e6
    by_cases hx0 : x = 0
    ·subst hx0
     go_wp2_with (first | ((with_reducible refine qB ?_); refine qc ?_ ?_ <;> intro h_ <;> go_prune))
     exact ⟨⟨1, by go_num, by omega, hG, Lib.hid fun _ => HX0.out.1 rfl⟩, by simp [intOf]; omega⟩
    ·have hab : A ≠ B := fun e => hx0 (HX0.out.2 e)
     obtain ⟨hd, ht64⟩ := HTD.out hab
     obtain ⟨t, ht⟩ : ∃ t, DX x = t := ⟨_, rfl⟩
     have HTZ := Lib.hid ht
     rw [ht] at hd ht64
     have HAB := Lib.hid hab
     have HTT : Hid (DX (A ^^^ B) = t) := Lib.hid (by rw [<- HX.out]; exact ht)
     clear ht hab HTD HX0 HE0 HM0 hB0
     obtain ⟨a, ha⟩ : ∃ a, A.testBit t = a := ⟨_, rfl⟩
     obtain ⟨b, hb⟩ : ∃ b, B.testBit t = b := ⟨_, rfl⟩
     obtain ⟨ya, hya⟩ : ∃ y, Hp A t = y := ⟨_, rfl⟩
     obtain ⟨yb, hyb⟩ : ∃ y, Hp B t = y := ⟨_, rfl⟩
     rw [ha, hb] at hd
     have HHA : Hid (∀ w : World, Aa w D (.agg #[.slice A1 n1 c1]) A -> Calls Tryz.prog 89 #[.agg #[.slice A1 n1 c1], .int .i64 (t : Nat)] w (CN (fun x _ => x = .bool a) w)) := Lib.hid fun w h => by have := has_gr _ A (t : Nat) w _ h; rwa [hasB_natG, ha] at this
     have HHB : Hid (∀ w : World, Aa w E (.agg #[.slice A2 n2 c2]) B -> Calls Tryz.prog 89 #[.agg #[.slice A2 n2 c2], .int .i64 (t : Nat)] w (CN (fun x _ => x = .bool b) w)) := Lib.hid fun w h => by have := has_gr _ B (t : Nat) w _ h; rwa [hasB_natG, hb] at this
     have HYA := Lib.hid hya
     have HYB := Lib.hid hyb
     have HRS : Hid (Du A B = if a then (if yb then -1 else 1) else (if ya then 1 else -1)) := Lib.hid (by
      cases a
      ·obtain rfl : b = true := by cases b; exact absurd rfl hd; rfl
       exact cmpS_ft HAB.out HTT.out ha hb hya
      ·obtain rfl : b = false := by cases b; rfl; exact absurd rfl hd
       exact cmpS_tf HAB.out HTT.out ha hb hyb)
     clear ha hb hya hyb
     go_wp2_with (first
      | (go_at_call 143; refine (tz_any x HXL.out _ (hTW.ext hG.1)).mono ?_; rw [HTZ.out]; rintro e w_ ⟨rfl, rfl⟩)
      | ((with_reducible refine qB ?_); refine qc ?_ ?_ <;> intro h_ <;> go_prune))
     have hRr : ∀ a : World × Unit, Gr a.1 a.1 := fun a => Gr.refl _
     have hRt : ∀ a b c : World × Unit, Gr a.1 b.1 -> Gr b.1 c.1 -> Gr a.1 c.1 := fun _ _ _ h k => h.trans k
     have hN0 : ∀ _ : Nat, True := fun _ => trivial
     refine Ex (fun (a b : World × Unit) => Gr a.1 b.1) (fun _ _ => True) (()) hRr hRt [.i (.agg #[.slice A1 n1 c1]), .n (t : Nat), .i (.bool a), .i (.agg #[.slice A2 n2 c2]), .n (t : Nat), .i (.bool b), .b false] ?_ ⟨uR (h := fun w hW hN => hk1.ext (hG.trans ((Gr.refl _).drew.trans hW)).1), uM, ?_, uR (h := fun w hW hN => hk2.ext (hG.trans ((Gr.refl _).drew.trans hW)).1), uM, ?_, uB (h := fun w hW hN => by revert hd; cases a <;> cases b <;> intro hd <;> first | rfl | exact absurd rfl hd), trivial⟩ ?_
     ·first | assumption | (intro i; (try dsimp only); split <;> first | trivial | assumption | (left; assumption))
     ·refine uG fun b__ w hW hN hE K hK => ?_
      have e32 := hE 32
      have e33 := hE 33
      refine Br rfl (by kernel_rfl) (by simp only [List.map_cons, List.map_nil, e32, e33]) (HHA.out _ (hW1.out.ext (hG.trans ((Gr.refl _).drew.trans hW)).1)) fun e w' ⟨z, he, hz, hg⟩ => ⟨z, he, ?_⟩
      exact hK _ (w', ()) hz ⟨hg, fun _ _ h => h⟩
     ·refine uG fun b__ w hW hN hE K hK => ?_
      have e35 := hE 35
      have e36 := hE 36
      refine Br rfl (by kernel_rfl) (by simp only [List.map_cons, List.map_nil, e35, e36]) (HHB.out _ (hW2.out.ext (hG.trans ((Gr.refl _).drew.trans hW)).1)) fun e w' ⟨z, he, hz, hg⟩ => ⟨z, he, ?_⟩
      exact hK _ (w', ()) hz ⟨hg, fun _ _ h => h⟩
     ·intro vs wz hW hT
      obtain ⟨e32, e33, e34, e35, e36, e37, e38, -⟩ := hT
      simp only [Ak, Act.put, zz, ze]
      replace hG := hG.trans ((Gr.refl _).drew.trans hW)
      rw [e38]
      generalize wz.1 = w3 at *
      generalize vs 32 = s32, vs 33 = s33, vs 34 = s34, vs 35 = s35, vs 36 = s36, vs 37 = s37
      clear hW hRr hRt hN0 e32 e33 e34 e35 e36 e37 e38
      have HQ1 : Hid (∀ w : World, Gr W w -> w.cell? ⟨g1, 0, none⟩ = some (.slice A1 n1 c1)) := Lib.hid fun w h => ((hk1.ext h.1).cell 0).trans rfl
      have HQ2 : Hid (∀ w : World, Gr W w -> w.cell? ⟨g2, 0, none⟩ = some (.slice A2 n2 c2)) := Lib.hid fun w h => ((hk2.ext h.1).cell 0).trans rfl
      have q1 := HQ1.out _ hG
      have q2 := HQ2.out _ hG
      clear hk1 hk2 hTW
      cases a
      ·obtain rfl : b = true := by cases b; exact absurd rfl hd; rfl
       clear hd
       cases ya
       all_goals
        go_wp2_with (first
         | (go_at_call 89; first | ((with_reducible show Calls _ _ #[.agg #[.slice A1 n1 c1], _] _ _); refine (HHA.out _ (hv1.ext hG.1)).mono ?_; rintro e w_ ⟨_, rfl, rfl, hg⟩; replace hG := hG.trans hg; clear hg; clear q1 q2; have q1 := HQ1.out _ hG; have q2 := HQ2.out _ hG) | (refine (HHB.out _ (hv2.ext hG.1)).mono ?_; rintro e w_ ⟨_, rfl, rfl, hg⟩; replace hG := hG.trans hg; clear hg; clear q1 q2; have q1 := HQ1.out _ hG; have q2 := HQ2.out _ hG))
         | (go_at_call 219; first | ((with_reducible show Calls _ _ #[.agg #[.slice A1 n1 c1], _] _ _); refine (F6 _ A t _ _ (hv1.ext hG.1)).mono ?_; rw [HYA.out]; rintro e w_ ⟨_, rfl, rfl, hg⟩; replace hG := hG.trans hg; clear hg; clear q1 q2; have q1 := HQ1.out _ hG; have q2 := HQ2.out _ hG) | (refine (F6 _ B t _ _ (hv2.ext hG.1)).mono ?_; rw [HYB.out]; rintro e w_ ⟨_, rfl, rfl, hg⟩; replace hG := hG.trans hg; clear hg; clear q1 q2; have q1 := HQ1.out _ hG; have q2 := HQ2.out _ hG))
         | ((with_reducible refine qB ?_); refine qc ?_ ?_ <;> intro h_ <;> go_prune))
        go_ret
        rw [HRS.out]
        exact CN.mk rfl (hgr.trans hG)
      ·obtain rfl : b = false := by cases b; rfl; exact absurd rfl hd
       clear hd
       cases yb
       all_goals
        go_wp2_with (first
         | (go_at_call 89; first | ((with_reducible show Calls _ _ #[.agg #[.slice A1 n1 c1], _] _ _); refine (HHA.out _ (hv1.ext hG.1)).mono ?_; rintro e w_ ⟨_, rfl, rfl, hg⟩; replace hG := hG.trans hg; clear hg; clear q1 q2; have q1 := HQ1.out _ hG; have q2 := HQ2.out _ hG) | (refine (HHB.out _ (hv2.ext hG.1)).mono ?_; rintro e w_ ⟨_, rfl, rfl, hg⟩; replace hG := hG.trans hg; clear hg; clear q1 q2; have q1 := HQ1.out _ hG; have q2 := HQ2.out _ hG))
         | (go_at_call 219; first | ((with_reducible show Calls _ _ #[.agg #[.slice A1 n1 c1], _] _ _); refine (F6 _ A t _ _ (hv1.ext hG.1)).mono ?_; rw [HYA.out]; rintro e w_ ⟨_, rfl, rfl, hg⟩; replace hG := hG.trans hg; clear hg; clear q1 q2; have q1 := HQ1.out _ hG; have q2 := HQ2.out _ hG) | (refine (F6 _ B t _ _ (hv2.ext hG.1)).mono ?_; rw [HYB.out]; rintro e w_ ⟨_, rfl, rfl, hg⟩; replace hG := hG.trans hg; clear hg; clear q1 q2; have q1 := HQ1.out _ hG; have q2 := HQ2.out _ hG))
         | ((with_reducible refine qB ?_); refine qc ?_ ?_ <;> intro h_ <;> go_prune))
        go_ret
        rw [HRS.out]
        exact CN.mk rfl (hgr.trans hG)
  ·obtain rfl : k = M := by omega
   have hAB : Hid (A = B) := Lib.hid <| by
    rcases Nat.lt_or_ge 0 k with h | h
    ·exact HK1.out (by omega)
    ·exact HM0.out (by omega)
   have HE := HE0.out hAB.out
   go_wp2_with (first | ((with_reducible refine qB ?_); refine qc ?_ ?_ <;> intro h_ <;> go_prune))
   go_ret
   rw [HE.out]
   exact CN.mk rfl (hgr.trans hG)
def cmpC (a b : Nat × Nat) : Int := if Du a.1 b.1 = 0 then Du a.2 b.2 else Du a.1 b.1
theorem cubecmp_gr {w : World} {D E : Nat -> Prop} {v1 v2 u1 u2 : Value} {A1 A2 B1 B2 : Nat} (hv1 : Aa w D (.agg #[v1]) A1) (hv2 : Aa w D (.agg #[v2]) A2) (hu1 : Aa w E (.agg #[u1]) B1) (hu2 : Aa w E (.agg #[u2]) B2)
  (hA1 : A1 < AM) (hA2 : A2 < AM) (hB1 : B1 < AM) (hB2 : B2 < AM) (hT : Bl w) :
  Calls Tryz.prog 146 #[.agg #[v1, v2], .agg #[u1, u2]] w (CN (fun x _ => x = .int .i64 (cmpC (A1, A2) (B1, B2))) w) := by
 obtain ⟨a1, n1, c1, rfl⟩ := hv1.shape
 obtain ⟨a2, n2, c2, rfl⟩ := hv2.shape
 obtain ⟨b1, m1, d1, rfl⟩ := hu1.shape
 obtain ⟨b2, m2, d2, rfl⟩ := hu2.shape
 have hgr : Gr w ((w.alloc (.cells #[.slice a1 n1 c1, .slice a2 n2 c2] 56)).alloc (.cells #[.slice b1 m1 d1, .slice b2 m2 d2] 56)) := ((Gr.refl _).alloc _).alloc _
 have hk1 : BS ((w.alloc (.cells #[.slice a1 n1 c1, .slice a2 n2 c2] 56)).alloc (.cells #[.slice b1 m1 d1, .slice b2 m2 d2] 56)) w.heap.size 56 #[.slice a1 n1 c1, .slice a2 n2 c2] := (BS.new _ _ _).alloc _
 have hk2 : BS ((w.alloc (.cells #[.slice a1 n1 c1, .slice a2 n2 c2] 56)).alloc (.cells #[.slice b1 m1 d1, .slice b2 m2 d2] 56)) (w.heap.size + 1) 56 #[.slice b1 m1 d1, .slice b2 m2 d2] := by
  have := BS.new (w.alloc (.cells #[.slice a1 n1 c1, .slice a2 n2 c2] 56)) 56 #[.slice b1 m1 d1, .slice b2 m2 d2]
  rwa [World.size_alloc] at this
 have HC1 : Hid (∀ w' : World, Gr w w' -> Calls Tryz.prog 192 #[.agg #[.slice a1 n1 c1], .agg #[.slice b1 m1 d1]] w' (CN (fun x _ => x = .int .i64 (Du A1 B1)) w')) := Lib.hid fun w' h => setcmp_gr (hv1.ext h.1) (hu1.ext h.1) hA1 hB1 (hT.ext h.1)
 have HC2 : Hid (∀ w' : World, Gr w w' -> Calls Tryz.prog 192 #[.agg #[.slice a2 n2 c2], .agg #[.slice b2 m2 d2]] w' (CN (fun x _ => x = .int .i64 (Du A2 B2)) w')) := Lib.hid fun w' h => setcmp_gr (hv2.ext h.1) (hu2.ext h.1) hA2 hB2 (hT.ext h.1)
 have HR : Hid (cmpC (A1, A2) (B1, B2) = if Du A1 B1 = 0 then Du A2 B2 else Du A1 B1) := Lib.hid rfl
 clear hv1 hv2 hu1 hu2 hA1 hA2 hB1 hB2 hT
 obtain ⟨x1, hx1⟩ : ∃ x, Du A1 B1 = x := ⟨_, rfl⟩
 obtain ⟨x2, hx2⟩ : ∃ x, Du A2 B2 = x := ⟨_, rfl⟩
 rw [hx1] at HC1 HR
 rw [hx2] at HC2 HR
 clear hx1 hx2
 go_enter Tryz.func146, Tryz.ntmps146
 go_wp2_with fail
 refine (HC1.out _ hgr).mono ?_
 rintro e w1 ⟨_, rfl, rfl, hg⟩
 have hG := hgr.trans hg
 have q1 : w1.cell? ⟨w.heap.size, 1, none⟩ = some (.slice a2 n2 c2) := ((hk1.ext hg.1).cell 1).trans rfl
 have q2 : w1.cell? ⟨w.heap.size + 1, 1, none⟩ = some (.slice b2 m2 d2) := ((hk2.ext hg.1).cell 1).trans rfl
 clear hk1 hk2 hg
 by_cases h0 : x1 = 0
 ·have HR2 : Hid (cmpC (A1, A2) (B1, B2) = x2) := Lib.hid (by rw [HR.out, if_pos h0])
  clear HR
  subst h0
  go_wp2_with (first | ((with_reducible refine qB ?_); refine qc ?_ ?_ <;> intro h_ <;> go_prune))
  refine (HC2.out _ hG).mono ?_
  rintro e w2 ⟨_, rfl, rfl, hg⟩
  go_wp2_with fail
  go_ret
  rw [HR2.out]
  exact CN.mk rfl (hG.trans hg)
 ·have HR2 : Hid (cmpC (A1, A2) (B1, B2) = x1) := Lib.hid (by rw [HR.out, if_neg h0])
  clear HR
  go_wp2_with (first | ((with_reducible refine qB ?_); refine qc ?_ ?_ <;> intro h_ <;> go_prune))
  go_ret
  rw [HR2.out]
  exact CN.mk rfl hG
end
section
open Go.RowKit
attribute [local go_sem ↓] Go.wp_at_zero Go.wp_at_succ
set_option maxRecDepth 20000
set_option exponentiation.threshold 5000
def Cmp (M C : List (Nat × Nat)) (j : Nat) : Prop := Asc C /\ ∀ x, x ∈ C ↔ x ∈ M.take j
theorem Dd {M : List (Nat × Nat)} {j : Nat} (hj : j < M.length) : M.take (j + 1) = M.take j ++ [M.getD j (0, 0)] := by
 rw [List.take_add_one, C4 (0, 0) hj]; rfl
theorem Cmp.one {M : List (Nat × Nat)} (h : 0 < M.length) : Cmp M (M.take 1) 1 := by
 refine ⟨?_, fun x => Iff.rfl⟩
 rw [show M.take 1 = M.take 0 ++ [M.getD 0 (0, 0)] from Dd h]
 simp [Asc]
theorem mem_takeD {M : List (Nat × Nat)} {j : Nat} (h0 : 0 < j) (hj : j <= M.length) : M.getD (j - 1) (0, 0) ∈ M.take j := by
 obtain ⟨k, rfl⟩ : ∃ k, j = k + 1 := ⟨j - 1, by omega⟩
 rw [Dd (by omega)]
 simp
theorem Cmp.same {M C : List (Nat × Nat)} {j : Nat} (h : Cmp M C j) (h0 : 0 < j) (hj : j < M.length) (he : M.getD j (0, 0) = M.getD (j - 1) (0, 0)) : Cmp M C (j + 1) := by
 refine ⟨h.1, fun x => ?_⟩
 rw [Dd hj, List.mem_append, h.2, List.mem_singleton]
 constructor
 ·exact .inl
 ·rintro (h1 | rfl)
  ·exact h1
  ·rw [he]; exact mem_takeD h0 (by omega)
theorem Cmp.step {M C : List (Nat × Nat)} {j : Nat} (hM : M.Pairwise fun x y => ¬ GX y x) (h : Cmp M C j) (h0 : 0 < j) (hj : j < M.length) (he : M.getD j (0, 0) ≠ M.getD (j - 1) (0, 0)) : Cmp M (C ++ [M.getD j (0, 0)]) (j + 1) := by
 have hp : ∀ a b, a < b -> b < M.length -> ¬ GX (M.getD b (0, 0)) (M.getD a (0, 0)) := fun a b hab hb => by
  have := List.pairwise_iff_getElem.1 hM a b (by omega) hb hab
  rw [List.getD_eq_getElem?_getD, List.getD_eq_getElem?_getD, List.getElem?_eq_getElem hb, List.getElem?_eq_getElem (by omega)]
  exact this
 refine ⟨?_, fun x => by rw [Dd hj, List.mem_append, List.mem_append, h.2]⟩
 refine List.pairwise_append.2 ⟨h.1, by simp, fun x hx y hy => ?_⟩
 rw [List.mem_singleton] at hy
 subst hy
 obtain ⟨i, hi⟩ := List.mem_iff_getElem?.1 ((h.2 x).1 hx)
 have hij : i < j := by
  have := (List.getElem?_eq_some_iff.1 hi).1
  rw [List.length_take] at this; omega
 have hx2 : x = M.getD i (0, 0) := by
  rw [List.getElem?_take_of_lt hij] at hi
  rw [List.getD_eq_getElem?_getD, hi]; rfl
 rcases EY (hp i j hij hj) with h1 | h1
 ·rw [hx2]; exact h1
 ·exfalso
  have h2 : i ≠ j - 1 := fun e => he (by rw [h1, e])
  have h3 := hp i (j - 1) (by omega) (by omega)
  have h4 := hp (j - 1) j (by omega) hj
  rw [h1] at h4
  rcases EY h3 with h5 | h5
  ·exact h4 h5
  ·exact he (by rw [h1, <- h5])
theorem It : ∀ (L : List (Nat × Nat)) (k : Nat) (x : Nat × Nat), ((Ad L).set (k * 2) (.int .i64 (x.1 : Nat))).set (k * 2 + 1) (.int .i64 (x.2 : Nat)) = Ad (L.set k x)
 | [], k, x => by simp [Ad]
 | y :: L, 0, x => by simp [Ad]
 | y :: L, k + 1, x => by
  rw [DI, show (k + 1) * 2 = k * 2 + 1 + 1 by omega, show k * 2 + 1 + 1 + 1 = k * 2 + 1 + 1 + 1 from rfl]
  simp only [List.set_cons_succ, DI]
  rw [It L k x]
theorem DH (L : List (Nat × Nat)) (k : Nat) : (Ad L).take (k * 2) = Ad (L.take k) := by
 refine List.ext_getElem? fun t => ?_
 by_cases ht : t < k * 2
 ·rw [List.getElem?_take_of_lt ht]
  by_cases h1 : t / 2 < L.length
  ·have h2 := Bj L (t / 2) h1
   have h3 := Bj (L.take k) (t / 2) (by rw [List.length_take]; omega)
   rw [show (L.take k).getD (t / 2) (0, 0) = L.getD (t / 2) (0, 0) by rw [List.getD_eq_getElem?_getD, List.getD_eq_getElem?_getD, List.getElem?_take_of_lt (by omega)]] at h3
   rcases Nat.mod_two_eq_zero_or_one t with h5 | h5
   ·rw [show t / 2 * 2 = t by omega] at h2 h3; rw [h2.1, h3.1]
   ·rw [show t / 2 * 2 + 1 = t by omega] at h2 h3; rw [h2.2, h3.2]
  ·rw [List.getElem?_eq_none (by rw [Eh]; omega), List.getElem?_eq_none (by rw [Eh, List.length_take]; omega)]
 ·rw [List.getElem?_eq_none (by rw [List.length_take]; omega), List.getElem?_eq_none (by rw [Eh, List.length_take]; omega)]
theorem G9 (w : World) (x y : Nat × Nat) : (binOp .eql 107 (.agg #[.int .i64 (x.1 : Nat), .int .i64 (x.2 : Nat)]) (.agg #[.int .i64 (y.1 : Nat), .int .i64 (y.2 : Nat)])).run Tryz.prog w = .ok (.bool (decide (x = y))) w := by
 obtain ⟨i, hi⟩ : ∃ i, Tryz.prog.info? 3 = some i := Option.isSome_iff_exists.1 (show (Tryz.prog.info? 3).isSome = true by kernel_rfl)
 exact pairs_eql Tryz.underlying107 i hi Tryz.underlying3 (by kernel_rfl) x y
theorem Iz (w : World) (x y : Nat × Nat) : (binOp .neq 107 (.agg #[.int .i64 (x.1 : Nat), .int .i64 (x.2 : Nat)]) (.agg #[.int .i64 (y.1 : Nat), .int .i64 (y.2 : Nat)])).run Tryz.prog w = .ok (.bool (decide (x ≠ y))) w := by
 obtain ⟨i, hi⟩ : ∃ i, Tryz.prog.info? 3 = some i := Option.isSome_iff_exists.1 (show (Tryz.prog.info? 3).isSome = true by kernel_rfl)
 exact pairs_neq Tryz.underlying107 i hi Tryz.underlying3 (by kernel_rfl) x y
theorem opw_clear {P : Program} {o : Oper} {a : Act} {w w' : World} {K : Act -> World -> Prop} {Q : Exit -> Act -> World -> Prop} {t : TypeId} {x : Operand} {u v : Value} (ho : o.op = .call { callee := .builtin .clear, args := #[x], argTypes := #[t] }) (hx : a.eval x = u) (hr : (Builtin.clear_ #[t] o.type #[u]).run P w = .ok v w') (hk : K (a.put o.dst v) w') : o.wp P a w K Q := by
 unfold Oper.wp execOp
 simp only [ho, resolve, invoke, builtin, Sem.run_bind, Sem.run_pure, Result.andThen_ok, List.map_toArray, List.map_cons, List.map_nil, hx, hr]
 exact hk
theorem compactp_any {w0 w : World} {F0 : List Ac} {K : (Nat -> Prop) -> World -> Prop} (g n cap : Nat) (M : List (Nat × Nat)) (hl : M.length = n) (hn : n <= 1000000) (hM : M.Pairwise fun x y => ¬ GX y x) (hS : St w0 w (.own (.slice (some ⟨g, 0, none⟩) n cap) 107 2 n (Ad M) :: F0) K) :
  Calls Tryz.prog 181 #[.slice (some ⟨g, 0, none⟩) n cap] w fun e w' => ∃ (C : List (Nat × Nat)), e = .returned (.slice (some ⟨g, 0, none⟩) C.length cap) /\ Cmp M C n /\ C.length <= n /\ St w0 w' (.own (.slice (some ⟨g, 0, none⟩) C.length cap) 107 2 C.length (Ad C) :: F0) K := by
 have HM := Lib.hid hM
 clear hM
 obtain ⟨hc1, hc2⟩ : n <= cap /\ cap <= 9223372036854775807 := by
  obtain ⟨A, c, he, h1, h2⟩ := B7 (hS.own 0 rfl)
  injection he with _ _ he
  subst he
  exact ⟨h1, h2⟩
 by_cases hn2 : n < 2
 ·have H1 : Hid (Cmp M M n) := Lib.hid ⟨by
   match M, hl with
   | [], _ => exact List.Pairwise.nil
   | [x], _ => simp [Asc]
   | x :: y :: r, h => simp at h; omega, fun x => by rw [<- hl, List.take_length]⟩
  go_enter Tryz.func181, Tryz.ntmps181
  go_wp2_with (first | ((with_reducible refine qB ?_); refine qc ?_ ?_ <;> intro h_ <;> go_prune))
  go_ret
  subst hl
  exact ⟨M, rfl, H1.out, Nat.le_refl _, hS⟩
 ·have H1 := Lib.hid (Cmp.one (M := M) (by omega))
  go_enter Tryz.func181, Tryz.ntmps181
  go_wp2_with (first | ((with_reducible refine qB ?_); refine qc ?_ ?_ <;> intro h_ <;> go_prune))
  go_loopw [3] (fun i wr => ∃ j : Nat, 1 <= j /\ j <= n /\ i = .int .i64 j /\ Hid (Cmp M (M.take j) j) /\ St w0 wr (.own (.slice (some ⟨g, 0, none⟩) n cap) 107 2 n (Ad M) :: F0) K) (fun i _ => n - (intOf i).toNat)
  case atStart => exact ⟨1, by omega, by omega, rfl, H1, hS⟩
  case round =>
   clear hS H1
   obtain ⟨j, hj1, hj, rfl, HC, hS⟩ := hrel
   by_cases hlj : j < n
   ·have e1 := Lib.hid (fun w => G9 w (M.getD j (0, 0)) (M.getD (j - 1) (0, 0)))
    by_cases hx : M.getD j (0, 0) = M.getD (j - 1) (0, 0)
    ·have HC2 := Lib.hid (HC.out.same hj1 (by omega) hx)
     go_wp2_with (first | ((with_reducible refine qB ?_); refine qc ?_ ?_ <;> intro h_ <;> go_prune))
     refine C5 [.i (.slice (some ⟨g, 0, none⟩) n cap), .n ((j : Nat) : Int), .q g (0 + (j) * 2), .i (.agg #[.int .i64 ((M.getD j (0, 0)).1 : Nat), .int .i64 ((M.getD j (0, 0)).2 : Nat)]), .i (.slice (some ⟨g, 0, none⟩) n cap), .n ((j : Nat) : Int), .n (((j : Nat) : Int) - (1 : Int)), .q g (0 + (j - 1) * 2), .i (.agg #[.int .i64 ((M.getD (j - 1) (0, 0)).1 : Nat), .int .i64 ((M.getD (j - 1) (0, 0)).2 : Nat)]), .i (.bool (decide (M.getD j (0, 0) = M.getD (j - 1) (0, 0))))] ⟨uM, uM, uI (h := fun w hW hN => Af (m := j) Tryz.underlying25 (by kernel_rfl) (by omega) (by omega)), uD (h := fun w hW hN => by rw [Nat.zero_add]; exact CP ((hS.ext hW).own 0 rfl) (by omega)), uM, uM, uB (h := fun w hW hN => Cu (by omega) (by omega)), uI (h := fun w hW hN => Af (m := j - 1) Tryz.underlying25 (by kernel_rfl) (by omega) (by omega)), uD (h := fun w hW hN => by rw [Nat.zero_add]; exact CP ((hS.ext hW).own 0 rfl) (by omega)), uB (h := fun w hW hN => G9 _ _ _), trivial⟩ ?_
     ·intro vs wz hW hT
      obtain ⟨e16, e17, e18, e19, e20, e21, e22, e23, e24, e25, -⟩ := hT
      simp only [Ak, Act.put, zz, ze]
      replace hS := hS.ext hW
      rw [e25, decide_eq_true hx]
      clear hW e25 e1 hx HC e16 e17 e18 e19 e20 e21 e22 e23 e24
      go_wp2_with (first | ((with_reducible refine qB ?_); refine qc ?_ ?_ <;> intro h_ <;> go_prune))
      have hCl : (M.take j).length = j := by rw [List.length_take]; omega
      go_loopw [3, 5] (fun i kv wr => ∃ (k : Nat) (R C : List (Nat × Nat)), 1 <= k /\ k <= n - j /\ i = .int .i64 (C.length : Nat) /\ kv = .int .i64 (k : Nat) /\ C.length <= j + k - 1 /\ R.length = n /\ Hid (Cmp M C (j + k) /\ R.take C.length = C /\ ∀ t, j + k - 1 <= t -> R.getD t (0, 0) = M.getD t (0, 0)) /\ St w0 wr (.own (.slice (some ⟨g, 0, none⟩) n cap) 107 2 n (Ad R) :: F0) K) (fun _ kv _ => n - j - (intOf kv).toNat)
      case atStart => exact ⟨1, M, M.take j, by omega, by omega, by rw [hCl], rfl, by omega, hl, Lib.hid ⟨HC2.out, by rw [hCl], fun _ _ => rfl⟩, hS⟩
      case round =>
       clear hS HC2 hCl
       obtain ⟨k, R, C, hk1, hk, rfl, rfl, hCl, hR, HI, hS⟩ := hrel
       by_cases hkj : k < n - j
       ·have e2 := Lib.hid (fun w => Iz w (R.getD (j + k) (0, 0)) (R.getD (j + k - 1) (0, 0)))
        have HE1 := Lib.hid (HI.out.2.2 (j + k) (by omega))
        have HE2 := Lib.hid (HI.out.2.2 (j + k - 1) (by omega))
        by_cases hx : R.getD (j + k) (0, 0) = R.getD (j + k - 1) (0, 0)
        ·have HI2 := Lib.hid (show Cmp M C (j + (k + 1)) /\ R.take C.length = C /\ ∀ t, j + (k + 1) - 1 <= t -> R.getD t (0, 0) = M.getD t (0, 0) from ⟨HI.out.1.same (by omega) (by omega) (by rw [<- HE1.out, <- HE2.out]; exact hx), HI.out.2.1, fun t ht => HI.out.2.2 t (by omega)⟩)
         clear HI HE1 HE2
         go_wp2_with (first | ((with_reducible refine qB ?_); refine qc ?_ ?_ <;> intro h_ <;> go_prune))
         refine C5 [.i (.slice (some ⟨g, j * 2, none⟩) (n - j) (cap - j)), .n ((k : Nat) : Int), .q g (j * 2 + (k) * 2), .i (.agg #[.int .i64 ((R.getD (j + k) (0, 0)).1 : Nat), .int .i64 ((R.getD (j + k) (0, 0)).2 : Nat)]), .i (.slice (some ⟨g, j * 2, none⟩) (n - j) (cap - j)), .n ((k : Nat) : Int), .n (((k : Nat) : Int) - (1 : Int)), .q g (j * 2 + (k - 1) * 2), .i (.agg #[.int .i64 ((R.getD (j + k - 1) (0, 0)).1 : Nat), .int .i64 ((R.getD (j + k - 1) (0, 0)).2 : Nat)]), .i (.bool (decide (R.getD (j + k) (0, 0) ≠ R.getD (j + k - 1) (0, 0))))] ⟨uM, uM, uI (h := fun w hW hN => Af (m := k) Tryz.underlying25 (by kernel_rfl) (by omega) (by omega)), uD (h := fun w hW hN => by rw [<- Nat.add_mul]; exact CP ((hS.ext hW).own 0 rfl) (by omega)), uM, uM, uB (h := fun w hW hN => Cu (by omega) (by omega)), uI (h := fun w hW hN => Af (m := k - 1) Tryz.underlying25 (by kernel_rfl) (by omega) (by omega)), uD (h := fun w hW hN => by rw [<- Nat.add_mul, show j + (k - 1) = j + k - 1 by omega]; exact CP ((hS.ext hW).own 0 rfl) (by omega)), uB (h := fun w hW hN => Iz _ _ _), trivial⟩ ?_
         ·intro vs wz hW hT
          obtain ⟨e35, e36, e37, e38, e39, e40, e41, e42, e43, e44, -⟩ := hT
          simp only [Ak, Act.put, zz, ze]
          replace hS := hS.ext hW
          rw [e44, decide_eq_false (fun h => h hx)]
          clear hW e44 e2 hx e35 e36 e37 e38 e39 e40 e41 e42 e43
          go_wp2_with (first | ((with_reducible refine qB ?_); refine qc ?_ ?_ <;> intro h_ <;> go_prune))
          exact ⟨⟨k + 1, R, C, by omega, by omega, rfl, by go_num, by omega, hR, HI2, hS⟩, by simp [intOf]; omega⟩
        ·have HI2 := Lib.hid (show Cmp M (C ++ [R.getD (j + k) (0, 0)]) (j + (k + 1)) /\ (R.set C.length (R.getD (j + k) (0, 0))).take (C.length + 1) = C ++ [R.getD (j + k) (0, 0)] /\ ∀ t, j + (k + 1) - 1 <= t -> (R.set C.length (R.getD (j + k) (0, 0))).getD t (0, 0) = M.getD t (0, 0) from by
          refine ⟨?_, ?_, fun t ht => ?_⟩
          ·rw [HE1.out]; exact HI.out.1.step HM.out (by omega) (by omega) (by rw [<- HE1.out, <- HE2.out]; exact hx)
          ·rw [Dd (by rw [List.length_set]; omega), List.take_set_of_le (Nat.le_refl _), HI.out.2.1]
           simp [List.getD_eq_getElem?_getD, show C.length < R.length by omega]
          ·rw [<- HI.out.2.2 t (by omega), List.getD_eq_getElem?_getD, List.getElem?_set_ne (by omega), List.getD_eq_getElem?_getD])
         clear HI HE1 HE2
         go_wp2_with (first | ((with_reducible refine qB ?_); refine qc ?_ ?_ <;> intro h_ <;> go_prune))
         refine C5 [.i (.slice (some ⟨g, j * 2, none⟩) (n - j) (cap - j)), .n ((k : Nat) : Int), .q g (j * 2 + (k) * 2), .i (.agg #[.int .i64 ((R.getD (j + k) (0, 0)).1 : Nat), .int .i64 ((R.getD (j + k) (0, 0)).2 : Nat)]), .i (.slice (some ⟨g, j * 2, none⟩) (n - j) (cap - j)), .n ((k : Nat) : Int), .n (((k : Nat) : Int) - (1 : Int)), .q g (j * 2 + (k - 1) * 2), .i (.agg #[.int .i64 ((R.getD (j + k - 1) (0, 0)).1 : Nat), .int .i64 ((R.getD (j + k - 1) (0, 0)).2 : Nat)]), .i (.bool (decide (R.getD (j + k) (0, 0) ≠ R.getD (j + k - 1) (0, 0))))] ⟨uM, uM, uI (h := fun w hW hN => Af (m := k) Tryz.underlying25 (by kernel_rfl) (by omega) (by omega)), uD (h := fun w hW hN => by rw [<- Nat.add_mul]; exact CP ((hS.ext hW).own 0 rfl) (by omega)), uM, uM, uB (h := fun w hW hN => Cu (by omega) (by omega)), uI (h := fun w hW hN => Af (m := k - 1) Tryz.underlying25 (by kernel_rfl) (by omega) (by omega)), uD (h := fun w hW hN => by rw [<- Nat.add_mul, show j + (k - 1) = j + k - 1 by omega]; exact CP ((hS.ext hW).own 0 rfl) (by omega)), uB (h := fun w hW hN => Iz _ _ _), trivial⟩ ?_
         ·intro vs wz hW hT
          obtain ⟨e35, e36, e37, e38, e39, e40, e41, e42, e43, e44, -⟩ := hT
          simp only [Ak, Act.put, zz, ze]
          replace hS := hS.ext hW
          rw [e44, decide_eq_true hx]
          clear hW e44 e2 hx e35 e36 e37 e38 e39 e40 e41 e42 e43
          obtain ⟨x, hxd⟩ : ∃ x, Hid (x = R.getD (j + k) (0, 0)) := ⟨_, Lib.hid rfl⟩
          rw [<- hxd.out] at HI2
          go_wp2_with (first
           | ((with_reducible refine qB ?_); refine qc ?_ ?_ <;> intro h_ <;> go_prune)
           | ((with_reducible refine qA 50 ?_); refine BigFrame.wpList_want rfl fun _ hK => AU (cs := [.int .i64 (x.1 : Nat), .int .i64 (x.2 : Nat)]) rfl rfl (by rw [<- Nat.add_mul, hxd.out]; exact CP (hS.own 0 rfl) (by omega)) Tryz.underlying107 rfl (by kernel_rfl) (hK _ _ ?_))
           | ((with_reducible refine qM ?_); refine BigFrame.wpList_want rfl fun _ hK => GY (i := C.length * 2) rfl rfl rfl (hS.own 0 rfl) (by omega) rfl rfl (by kernel_rfl) fun w3 hX hU => hK _ _ ?_; replace hS := hS.upd 0 rfl (.own (.slice (some ⟨g, 0, none⟩) n cap) 107 2 n _) (Bh hU) hX (fun _ e => .inl e)))
          rw [It] at hS
          exact ⟨⟨k + 1, R.set C.length x, C ++ [x], by omega, by omega, by simp, by go_num, by simp; omega, by simp [hR], by rw [List.length_append, List.length_singleton]; exact HI2, hS⟩, by simp [intOf]; omega⟩
       ·obtain rfl : k = n - j := by omega
        have HC := Lib.hid (show Cmp M C n from by have := HI.out.1; rwa [show j + (n - j) = n by omega] at this)
        have HT := Lib.hid HI.out.2.1
        obtain ⟨w2, ys, hrun, hX, hys, hG⟩ := Fd (ty := 0) (c := cap - C.length) (hS.own 0 rfl) Tryz.underlying25 (Tryz.zeroValue107 wr) rfl (by simp [Value.oneCell']) (show C.length + (n - C.length) = n by omega)
        replace hS := hS.upd 0 rfl (.own (.slice (some ⟨g, 0, none⟩) C.length cap) 107 2 C.length (Ad C)) hG (by
         have := own_short hX (show C.length <= n by omega)
         rwa [hys, DH, HT.out] at this) (fun _ e => .inl e)
        clear hX hG hys HI
        go_wp2_with (first | ((with_reducible refine qB ?_); refine qc ?_ ?_ <;> intro h_ <;> go_prune) | ((with_reducible show wpList _ _ _ (⟨_, .call _, _, _, _, _⟩ :: _) _ _); refine BigFrame.wpList_want rfl fun _ hK => opw_clear (w' := w2) rfl rfl hrun (hK _ _ ?_)))
        go_ret
        exact ⟨C, rfl, HC.out, by omega, hS⟩
    ·have HC2 := Lib.hid (HC.out.step HM.out hj1 (by omega) hx)
     rw [<- Dd (by omega)] at HC2
     go_wp2_with (first | ((with_reducible refine qB ?_); refine qc ?_ ?_ <;> intro h_ <;> go_prune))
     refine C5 [.i (.slice (some ⟨g, 0, none⟩) n cap), .n ((j : Nat) : Int), .q g (0 + (j) * 2), .i (.agg #[.int .i64 ((M.getD j (0, 0)).1 : Nat), .int .i64 ((M.getD j (0, 0)).2 : Nat)]), .i (.slice (some ⟨g, 0, none⟩) n cap), .n ((j : Nat) : Int), .n (((j : Nat) : Int) - (1 : Int)), .q g (0 + (j - 1) * 2), .i (.agg #[.int .i64 ((M.getD (j - 1) (0, 0)).1 : Nat), .int .i64 ((M.getD (j - 1) (0, 0)).2 : Nat)]), .i (.bool (decide (M.getD j (0, 0) = M.getD (j - 1) (0, 0))))] ⟨uM, uM, uI (h := fun w hW hN => Af (m := j) Tryz.underlying25 (by kernel_rfl) (by omega) (by omega)), uD (h := fun w hW hN => by rw [Nat.zero_add]; exact CP ((hS.ext hW).own 0 rfl) (by omega)), uM, uM, uB (h := fun w hW hN => Cu (by omega) (by omega)), uI (h := fun w hW hN => Af (m := j - 1) Tryz.underlying25 (by kernel_rfl) (by omega) (by omega)), uD (h := fun w hW hN => by rw [Nat.zero_add]; exact CP ((hS.ext hW).own 0 rfl) (by omega)), uB (h := fun w hW hN => G9 _ _ _), trivial⟩ ?_
     ·intro vs wz hW hT
      obtain ⟨e16, e17, e18, e19, e20, e21, e22, e23, e24, e25, -⟩ := hT
      simp only [Ak, Act.put, zz, ze]
      replace hS := hS.ext hW
      rw [e25, decide_eq_false hx]
      clear hW e25 e1 hx e16 e17 e18 e19 e20 e21 e22 e23 e24
      go_wp2_with (first | ((with_reducible refine qB ?_); refine qc ?_ ?_ <;> intro h_ <;> go_prune))
      exact ⟨⟨j + 1, by omega, hlj, by go_num, HC2, hS⟩, by simp [intOf]; omega⟩
   ·obtain rfl : j = n := by omega
    go_wp2_with (first | ((with_reducible refine qB ?_); refine qc ?_ ?_ <;> intro h_ <;> go_prune))
    go_ret
    have hM : M.take j = M := by rw [<- hl, List.take_length]
    rw [hM] at HC
    subst hl
    exact ⟨M, rfl, HC.out, Nat.le_refl _, hS⟩
end
end Go.Proofs.YtchjigffejhmfaaGreatDoor
