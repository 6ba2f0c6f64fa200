/-
  A region that draws its order, each operation looked at once: what each operation gives is told by a predicate that stays true in later worlds; all operations only read or make memory.
  Laws at single operations over an open frame, for regions whose operations are looked at one by one.
-/
import Derived.Test.YtenpkgdnlogfiaaGreatDoorOp
import Derived.RegionTactic
import Derived.Eval
import Derived.Test.YtenpkgdnlogfiaaGreatDoorAcc
import Derived.BigCall
namespace Go.Proofs.YtenpkgdnlogfiaaGreatDoor
open Go.RowKit

/-- what holds of the frame while the operations `listed` have been carried out -/
structure TInv (ops : Array Oper) (T : Nat → Value → World → Prop) (a0 : Act) (W : World) (listed : Array Bool) (a : Act) (w : World) : Prop where
  bel : Below W.heap.size W w
  defers : a.defers = a0.defers
  size : a.tmps.size = a0.tmps.size
  old : ∀ t, (∀ (i : Nat) (o : Oper), ops[i]? = some o → o.dst ≠ some t) → a.tmps.getD t undef = a0.tmps.getD t undef
  typ : ∀ (i : Nat) (o : Oper) (d : Tmp), ops[i]? = some o → listed.getD i false = true → o.dst = some d → T i (a.tmps.getD d undef) w
/-- the operation o at place i gives what T says, wherever what it hangs on is as T says -/
def TRule (P : Program) (ops : Array Oper) (T : Nat → Value → World → Prop) (a0 : Act) (W : World) (Q : Exit → Act → World → Prop) (i : Nat) (o : Oper) : Prop :=
  ∀ a w, Below W.heap.size W w → (∀ t, (∀ (i : Nat) (o : Oper), ops[i]? = some o → o.dst ≠ some t) → a.tmps.getD t undef = a0.tmps.getD t undef) →
    (∀ e ∈ o.after, Region.binds .any e = true → ∀ (oj : Oper) (d : Tmp), ops[e.on]? = some oj → oj.dst = some d → T e.on (a.tmps.getD d undef) w) →
    (Region.wanted o (yielded ops a.tmps) = true → ∀ K : Act → World → Prop, (∀ v w', T i v w' → Below w.heap.size w w' → K (a.put o.dst v) w') → o.wp P a w K Q) ∧
    (Region.wanted o (yielded ops a.tmps) = false → T i undef w)
def TRules (P : Program) (ops : Array Oper) (T : Nat → Value → World → Prop) (a0 : Act) (W : World) (Q : Exit → Act → World → Prop) : Nat → List Oper → Prop
  | _, [] => True
  | i, o :: r => TRule P ops T a0 W Q i o ∧ TRules P ops T a0 W Q (i + 1) r
theorem TRules.at {P : Program} {ops : Array Oper} {T : Nat → Value → World → Prop} {a0 : Act} {W : World} {Q : Exit → Act → World → Prop} :
    ∀ (l : List Oper) (k : Nat), TRules P ops T a0 W Q k l → ∀ i o, l[i]? = some o → TRule P ops T a0 W Q (k + i) o
  | [], _, _, i, o, h => by simp at h
  | x :: r, k, hr, 0, o, h => by simp at h; subst h; exact hr.1
  | x :: r, k, hr, i + 1, o, h => by
    have := TRules.at r (k + 1) hr.2 i o (by simpa using h)
    rwa [show k + 1 + i = k + (i + 1) by omega] at this
/-- no two operations write one slot, each slot is one of the frame, and each operation comes behind those that it names -/
def tOk (ops : Array Oper) (n : Nat) : Bool :=
  (List.range ops.size).all fun i => match ops[i]? with
    | none => true
    | some o => (match o.dst with
      | none => true
      | some d => decide (d < n) && (List.range i).all fun j => match ops[j]? with
        | none => true
        | some oj => oj.dst != some d) && o.after.all fun e => decide (e.on < i)

section
variable {P : Program} {ops : Array Oper} {T : Nat → Value → World → Prop} {a0 : Act} {W : World} {Q : Exit → Act → World → Prop}
theorem tOk_dst {n : Nat} (h : tOk ops n = true) {i : Nat} {o : Oper} (ho : ops[i]? = some o) : (∀ d, o.dst = some d → d < n) ∧ (∀ e ∈ o.after, e.on < i) ∧ ∀ (j : Nat) (oj : Oper) (d : Tmp), j ≠ i → ops[j]? = some oj → o.dst = some d → oj.dst ≠ some d := by
  have hlt : ∀ (i : Nat) (o : Oper), ops[i]? = some o → i < ops.size := fun i o h => (Array.getElem?_eq_some_iff.1 h).1
  have key : ∀ (i : Nat) (o : Oper), ops[i]? = some o → (∀ d, o.dst = some d → d < n ∧ ∀ j, j < i → ∀ oj : Oper, ops[j]? = some oj → oj.dst ≠ some d) ∧ ∀ e ∈ o.after, e.on < i := by
    intro i o ho
    have h1 := (List.all_eq_true.1 h) i (by simpa using hlt i o ho)
    simp only [ho, Bool.and_eq_true] at h1
    refine ⟨fun d hd => ?_, fun e he => by have := (Array.all_eq_true_iff_forall_mem.1 h1.2) e he; simpa using this⟩
    have h2 := h1.1
    simp only [hd, Bool.and_eq_true, decide_eq_true_eq] at h2
    refine ⟨h2.1, fun j hj oj hoj => ?_⟩
    have h3 := (List.all_eq_true.1 h2.2) j (by simpa using hj)
    simp only [hoj, bne_iff_ne] at h3
    exact h3
  refine ⟨fun d hd => ((key i o ho).1 d hd).1, (key i o ho).2, fun j oj d hne hj hd => ?_⟩
  rcases Nat.lt_trichotomy j i with hl | hl | hl
  · exact ((key i o ho).1 d hd).2 j hl oj hj
  · exact absurd hl hne
  · intro e
    exact ((key j oj hj).1 d e).2 i hl o ho hd
def unlisted (ops : Array Oper) (listed : Array Bool) : Nat := ((List.range ops.size).filter fun i => !listed.getD i true).length
theorem filter_len_lt {α : Type} (p q : α → Bool) (l : List α) (x : α) (hx : x ∈ l) (hp : p x = true) (hq : q x = false) (hs : ∀ y, q y = true → p y = true) : (l.filter q).length < (l.filter p).length := by
  induction l with
  | nil => simp at hx
  | cons y r ih =>
    have hle : (r.filter q).length ≤ (r.filter p).length := by
      clear ih hx
      induction r with
      | nil => simp
      | cons z r ih =>
        simp only [List.filter_cons]
        cases hq' : q z
        · cases hp' : p z <;> simp <;> omega
        · rw [hs _ hq']; simpa using ih
    rcases List.mem_cons.1 hx with rfl | hx
    · simp [List.filter_cons, hp, hq]; omega
    · have := ih hx
      simp only [List.filter_cons]
      cases hq' : q y
      · cases hp' : p y <;> simp <;> omega
      · rw [hs _ hq']; simpa using this
theorem unlisted_set {listed : Array Bool} {i : Nat} (hi : i < ops.size) (h : listed.getD i true = false) : unlisted ops (listed.setIfInBounds i true) < unlisted ops listed := by
  refine filter_len_lt (fun i => !listed.getD i true) (fun j => !(listed.setIfInBounds i true).getD j true) _ i (by simpa using hi) (by rw [h]; rfl) ?_ (fun y hy => ?_)
  · have : i < listed.size := by
      rcases Nat.lt_or_ge i listed.size with h' | h'
      · exact h'
      · simp [Array.getElem?_eq_none h'] at h
    simp [Array.getElem?_setIfInBounds, this]
  · by_cases e : i = y
    · subst e
      have : i < listed.size := by
        rcases Nat.lt_or_ge i listed.size with h' | h'
        · exact h'
        · simp [Array.getElem?_eq_none h'] at h
      simp [Array.getElem?_setIfInBounds, this] at hy
    · rwa [getD_set_ne true e] at hy
theorem ready_nil {listed : Array Bool} {n : Nat} (hk : tOk ops n = true) (h : Region.ready .any ops listed = []) (i : Nat) (hi : i < ops.size) : listed.getD i true = true := by
  induction i using Nat.strongRecOn with
  | _ i ih =>
    cases hl : listed.getD i true with
    | true => rfl
    | false =>
      exfalso
      have hm : i ∈ Region.ready .any ops listed := by
        rw [mem_ready]
        refine ⟨hl, ops[i], by simp [hi], fun e he _ => ?_⟩
        have h1 := ((tOk_dst hk (i := i) (o := ops[i]) (by simp [hi])).2.1) e he
        have h2 := ih e.on h1 (by omega)
        have hsz : i < listed.size := by
          rcases Nat.lt_or_ge i listed.size with h' | h'
          · exact h'
          · simp [Array.getElem?_eq_none h'] at hl
        simpa [Array.getD_eq_getD_getElem?, Array.getElem?_eq_getElem (show e.on < listed.size by omega)] using h2
      rw [h] at hm
      cases hm
theorem wpAny_typed (hmono : ∀ i v w w', T i v w → Below w.heap.size w w' → T i v w') (hk : tOk ops a0.tmps.size = true) (hr : TRules P ops T a0 W Q 0 ops.toList)
    (hpost : ∀ a w, Below W.heap.size W w → a.defers = a0.defers → a.tmps.size = a0.tmps.size → (∀ t, (∀ (i : Nat) (o : Oper), ops[i]? = some o → o.dst ≠ some t) → a.tmps.getD t undef = a0.tmps.getD t undef) →
      (∀ (i : Nat) (o : Oper) (d : Tmp), ops[i]? = some o → o.dst = some d → T i (a.tmps.getD d undef) w) → Q .normal a w) :
    ∀ (fuel : Nat) (listed : Array Bool) (a : Act) (w : World), listed.size = ops.size → unlisted ops listed ≤ fuel → TInv ops T a0 W listed a w → wpAny P .any ops Q fuel listed a w := by
  have hall : ∀ listed a w, listed.size = ops.size → Region.ready .any ops listed = [] → TInv ops T a0 W listed a w → Q .normal a w := by
    intro listed a w hsz h hI
    refine hpost a w hI.bel hI.defers hI.size hI.old fun i o d ho hd => ?_
    have hlt := (Array.getElem?_eq_some_iff.1 ho).1
    refine hI.typ i o d ho ?_ hd
    have := ready_nil hk h i hlt
    simpa [Array.getD_eq_getD_getElem?, Array.getElem?_eq_getElem (show i < listed.size by omega)] using this
  intro fuel
  induction fuel with
  | zero =>
    intro listed a w hsz hu hI
    have hrd : Region.ready .any ops listed = [] := by
      rw [List.eq_nil_iff_forall_not_mem]
      intro i hi
      rw [mem_ready] at hi
      obtain ⟨h0, o, ho, _⟩ := hi
      have := unlisted_set (ops := ops) (Array.getElem?_eq_some_iff.1 ho).1 h0
      omega
    exact ⟨hrd, hall listed a w hsz hrd hI⟩
  | succ fuel ih =>
    intro listed a w hsz hu hI
    refine ⟨fun h => hall listed a w hsz h hI, fun i hi => ?_⟩
    rw [mem_ready] at hi
    obtain ⟨h0, o, ho, haf⟩ := hi
    have hlt := (Array.getElem?_eq_some_iff.1 ho).1
    have hdst := tOk_dst hk ho
    have hrule := TRules.at ops.toList 0 hr i o (by simpa using ho) a w hI.bel hI.old (fun e he hbd oj d hoj hd => hI.typ e.on oj d hoj (haf e he hbd) hd)
    rw [Nat.zero_add] at hrule
    have next : ∀ v w', T i v w' → Below w.heap.size w w' → wpAny P .any ops Q fuel (listed.setIfInBounds i true) (a.put o.dst v) w' := by
      intro v w' hT hb
      refine ih _ _ _ (by simpa using hsz) (by have := unlisted_set (ops := ops) hlt h0; omega) ⟨hI.bel.trans (hb.mono hI.bel.size), ?_, ?_, ?_, ?_⟩
      · rw [← hI.defers]; cases o.dst <;> rfl
      · rw [← hI.size]; cases o.dst <;> simp [Act.put]
      · intro t ht
        rw [← hI.old t ht]
        have h2 := ht i o ho
        cases hd : o.dst with
        | none => rfl
        | some d =>
          have : d ≠ t := fun e => h2 (by rw [hd, e])
          simp [Act.put, Array.getElem?_setIfInBounds_ne this]
      · intro j oj d hj hlj hdj
        by_cases e : j = i
        · subst e
          obtain rfl : oj = o := by rw [ho] at hj; exact (Option.some.inj hj).symm
          have hd1 := hdst.1 d hdj
          rw [hdj]
          have hlt2 : d < a.tmps.size := by rw [hI.size]; exact hd1
          simpa [Act.put, hlt2] using hT
        · have hlj' : listed.getD j false = true := by rwa [getD_set_ne false (Ne.symm e)] at hlj
          have h3 := hmono j _ w w' (hI.typ j oj d hj hlj' hdj) hb
          have h4 : (a.put o.dst v).tmps.getD d undef = a.tmps.getD d undef := by
            cases hd : o.dst with
            | none => rfl
            | some d' =>
              have : d' ≠ d := fun e2 => hdst.2.2 j oj d' e hj hd (by rw [hdj, e2])
              simp [Act.put, Array.getElem?_setIfInBounds_ne this]
          rw [h4]; exact h3
    unfold wpOp
    simp only [ho]
    split
    · rename_i hw
      exact .inl (hrule.1 hw _ next)
    · rename_i hw
      exact next undef w (hrule.2 (by simpa using hw)) (Below.refl _ _)
end
end Go.Proofs.YtenpkgdnlogfiaaGreatDoor
namespace Go.Proofs.YtenpkgdnlogfiaaGreatDoor
open Go.RowKit

def noDst (ops : Array Oper) (t : Tmp) : Bool := ops.all fun o => o.dst != some t
theorem noDst_spec {ops : Array Oper} {t : Tmp} (h : noDst ops t = true) (i : Nat) (o : Oper) (ho : ops[i]? = some o) : o.dst ≠ some t := by
  have := (Array.all_eq_true_iff_forall_mem.1 h) o (Array.mem_of_getElem? ho)
  simpa using this
theorem put_eval_ne {a : Act} {d t : Tmp} {v : Value} (h : d ≠ t) : (a.put (some d) v).eval (.tmp t) = a.eval (.tmp t) := by
  simp [Act.put, Act.eval, Array.getElem?_setIfInBounds_ne h]
theorem put_eval_eq {a : Act} {d : Tmp} {v : Value} (h : d < a.tmps.size) : (a.put (some d) v).eval (.tmp d) = v := by
  simp [Act.put, Act.eval, h]
section
variable {P : Program} {ops : Array Oper} {o : Oper} {a : Act} {w : World} {K : Act → World → Prop} {Q : Exit → Act → World → Prop}
theorem want_none (h : o.guard = none) : Region.wanted o (yielded ops a.tmps) = true := by simp [Region.wanted, h]
theorem yield_of {j : Nat} {oj : Oper} {d : Tmp} {b : Bool} (hj : ops[j]? = some oj) (hd : oj.dst = some d) (ht : a.tmps.getD d undef = .bool b) : yielded ops a.tmps j = some b := by
  have : a.tmps[d]? = some (.bool b) := by
    cases h : a.tmps[d]? with
    | none => simp [h, undef] at ht
    | some v => simp [h] at ht; rw [ht]
  simp [yielded, hj, hd, this]
theorem want_some {j : Nat} {oj : Oper} {d : Tmp} {b c : Bool} (h : o.guard = some (j, c)) (hj : ops[j]? = some oj) (hd : oj.dst = some d) (ht : a.tmps.getD d undef = .bool b) : Region.wanted o (yielded ops a.tmps) = (b == c) := by
  simp [Region.wanted, h, yield_of hj hd ht]
theorem opw_val {v : Value} (h : (execOp a.eval o).run P w = .ok (.value v) w) (hk : K (a.put o.dst v) w) : o.wp P a w K Q := by
  unfold Oper.wp; rw [h]; exact hk
theorem opw_move {x : Operand} {v : Value} (ho : o.op = .move x) (hx : a.eval x = v) (hk : K (a.put o.dst v) w) : o.wp P a w K Q := opw_val (by simp [execOp, ho, hx]) hk
theorem opw_assign {x : Operand} {v : Value} (ho : o.op = .assign x) (hx : a.eval x = v) (hk : K (a.put o.dst v) w) : o.wp P a w K Q := opw_val (by simp [execOp, ho, hx]) hk
theorem opw_pick {c x y : Operand} {b : Bool} {v : Value} (ho : o.op = .pick c x y) (hc : a.eval c = .bool b) (hv : (if b then a.eval x else a.eval y) = v) (hk : K (a.put o.dst v) w) : o.wp P a w K Q :=
  opw_val (by cases b <;> simp [execOp, ho, hc, asBool] <;> simpa using hv) hk
theorem opw_bin {op : BinOp} {t t2 : TypeId} {x y : Operand} {vx vy v : Value} (ho : o.op = .binOp op t x y t2) (hx : a.eval x = vx) (hy : a.eval y = vy) (hg : (eqGuard op t x y vx vy).run P w = .ok () w) (hr : (binOp op t vx vy).run P w = .ok v w) (hk : K (a.put o.dst v) w) : o.wp P a w K Q :=
  opw_val (by simp [execOp, ho, hx, hy, hg, hr]) hk
theorem opw_un {op : UnOp} {t : TypeId} {x : Operand} {vx v : Value} (ho : o.op = .unOp op t x) (hx : a.eval x = vx) (hr : (Op.unary op vx).run P w = .ok v w) (hk : K (a.put o.dst v) w) : o.wp P a w K Q :=
  opw_val (by simp [execOp, ho, hx, hr]) hk
theorem opw_conv {s d : TypeId} {x : Operand} {vx v : Value} (ho : o.op = .convert s d x) (hx : a.eval x = vx) (hr : (convert s d vx).run P w = .ok v w) (hk : K (a.put o.dst v) w) : o.wp P a w K Q :=
  opw_val (by simp [execOp, ho, hx, hr]) hk
theorem opw_row {t : TypeId} {x : Operand} {g : Nat} {ty : TypeId} {cs : Array Value} {d : TypeDesc} (ho : o.op = .load t x) (hx : a.eval x = .pointer (some ⟨g, 0, none⟩)) (hb : Box w g ty cs) (hu : P.underlying t = some d) (hd : (match d with | .struct _ | .array _ _ => true | _ => false) = true)
    (hi : (P.info? t).map (·.size) = some cs.size) (hk : K (a.put o.dst (.agg cs)) w) : o.wp P a w K Q := wp_load_row t x ho g hx ty cs (0, 0) d hb hu hd hi hk
theorem opw_built {t : TypeId} {parts : Array (Nat × Operand)} {ps : List (Nat × Value)} {cells : Array Value} (ho : o.op = .build t parts) (hp : (parts.map fun (i, x) => (i, a.eval x)).toList = ps) (hb : P.built t ps = some cells) (hk : K (a.put o.dst (.agg cells)) w) : o.wp P a w K Q :=
  wp_build t parts ho (by rw [hp, hb]; rfl) (by rw [hp, hb]; exact hk)
theorem opw_slice {t e : TypeId} {len : Nat} {parts : Array (Nat × Operand)} {ps : List (Nat × Value)} {cells : Array Value} (ho : o.op = .buildSlice t len parts) (ht : P.underlying t = some (.slice e)) (hp : (parts.map fun (i, x) => (i, a.eval x)).toList = ps) (hb : builtSlice P e len ps = some cells)
    (hk : ∀ w', Box w' w.heap.size e cells → Below w.heap.size w w' → K (a.put o.dst (.slice (some ⟨w.heap.size, 0, none⟩) len len)) w') : o.wp P a w K Q := by
  have hr := run_buildSlice (P := P) w t e len (parts.map fun (i, x) => (i, a.eval x)) cells ht (by rw [hp]; exact hb)
  unfold Oper.wp execOp
  simp only [ho, Sem.run_bind, hr, Result.andThen_ok]
  exact hk _ (Box.new _ _ _) ((Below.refl _ _).alloc (Nat.le_refl _) _)
theorem opw_store {ty : TypeId} {x y : Operand} {g : Nat} {cells old : Array Value} {t : TypeId} (ho : o.op = .store ty x y) (hx : a.eval x = .pointer (some ⟨g, 0, none⟩)) (hy : a.eval y = .agg cells) (hb : Box w g t old) (hi : (P.info? ty).map (·.size) = some cells.size)
    (hold : old.size = cells.size) (h1 : cells.all (·.oneCell') = true) (hk : ∀ w', Box w' g t cells → Upd g w w' → K (a.put o.dst undef) w') : o.wp P a w K Q :=
  wp_store_row ty x y ho g cells hx hy t old hb hi hold h1 (hk _ (setRow_heap _ _ _ _ _ _ hb) ⟨rfl, rfl, rfl, by simp, fun k hk => setRow_other _ _ _ _ hk⟩)
theorem opw_cstore {ty : TypeId} {x y : Operand} {g i : Nat} {v : Value} {t : TypeId} {cs : Array Value} (ho : o.op = .store ty x y) (hx : a.eval x = .pointer (some ⟨g, i, none⟩)) (hy : a.eval y = v) (hb : Box w g t cs) (hi : i < cs.size)
    (hv : v.cells = #[v]) (h1 : v.oneCell' = true) (hs : (P.info? ty).map (·.size) = some 1) (hk : ∀ w', Box w' g t (cs.setIfInBounds i v) → Upd g w w' → K (a.put o.dst undef) w') : o.wp P a w K Q := by
  unfold Oper.wp execOp
  simp only [ho, hx, hy, Sem.run_bind, run_store_box hb hi hv h1 hs, Result.andThen_ok]
  exact hk _ (hb.setC v) (upd_setCell w g i v)
theorem opw_app {s x : Operand} {t e : TypeId} {size bytes base n m : Nat} {v y : Value} {xs news : List Value} {D : Nat → Prop} (ho : o.op = .call { callee := .builtin .append, args := #[s, x], argTypes := #[t, t] }) (hT : SliceTy P t e size bytes)
    (hs : a.eval s = v) (hown : w.ownsRow base e size v n xs) (hx : a.eval x = y) (hr : Sl w D size y m news) (h1 : ∀ u ∈ news, u.oneCell' = true) (hb : n + m ≤ 1000000000000) (hbytes : (n + m) * bytes ≤ 140737488355328) (hbase : base ≤ w.heap.size)
    (hk : ∀ v' w', w'.ownsRow base e size v' (n + m) (xs ++ news) → w.grownBy w' v.ownBlock → (∀ k, v'.ownBlock = some k → v.ownBlock = some k ∨ w.heap.size ≤ k) → K (a.put o.dst v') w') : o.wp P a w K Q := by
  obtain ⟨i, z, hi, hz, h2, h3, h4, h5⟩ := hT.get
  exact wp_append_sl w s x t ho base e i z size bytes hT.under hi hz h2 h3 h4 h5 v n xs hs hown D y m news hx hr h1 (by unfold maxLen; omega) hbytes hbase fun v' w' a1 a2 a3 => hk v' w' a1 a2 fun k hk => by
    rcases a3 with h | h
    · left; rw [← h]; exact hk
    · right; rw [hk] at h; injection h with h; omega
theorem opw_ostore {ty e : TypeId} {x y : Operand} {g i base n cap size : Nat} {v : Value} {xs : List Value} (ho : o.op = .store ty x y) (hx : a.eval x = .pointer (some ⟨g, i, none⟩)) (hy : a.eval y = v) (hown : w.ownsRow base e size (.slice (some ⟨g, 0, none⟩) n cap) n xs) (hi : i < n * size)
    (hv : v.cells = #[v]) (h1 : v.oneCell' = true) (hs : (P.info? ty).map (·.size) = some 1) (hk : ∀ w', w'.ownsRow base e size (.slice (some ⟨g, 0, none⟩) n cap) n (xs.set i v) → Upd g w w' → K (a.put o.dst undef) w') : o.wp P a w K Q := by
  unfold Oper.wp execOp
  simp only [ho, hx, hy, Sem.run_bind, run_store_own hown hi hv h1 hs, Result.andThen_ok]
  exact hk _ (hown.stored i v).1 (upd_setCell w g i v)
theorem opw_fresh {s x : Operand} {t e : TypeId} {size bytes g m : Nat} {y : Value} {news : List Value} {D : Nat → Prop} (ho : o.op = .call { callee := .builtin .append, args := #[s, x], argTypes := #[t, t] }) (hT : SliceTy P t e size bytes)
    (hs : a.eval s = .slice (some ⟨g, 0, none⟩) 0 0) (hx : a.eval x = y) (hr : Sl w D size y m news) (hm : m ≤ 1000000000000) (hbytes : m * bytes ≤ 140737488355328)
    (hk : ∀ v' w', Sl w' (w.heap.size ≤ ·) size v' m news → Below w.heap.size w w' → K (a.put o.dst v') w') : o.wp P a w K Q := by
  obtain ⟨v', w', hrun, h2, h3⟩ := run_append_fresh (P := P) (ty := o.type) (g := g) hT hr hm hbytes
  unfold Oper.wp execOp
  simp only [ho, resolve, invoke, builtin, Sem.run_bind, Sem.run_pure, Result.andThen_ok, List.map_toArray, List.map_cons, List.map_nil, hs, hx, hrun]
  exact hk v' w' h3 h2
theorem opw_mid {t : TypeId} {x : Operand} {g i : Nat} {cs : List Value} {d : TypeDesc} (ho : o.op = .load t x) (hx : a.eval x = .pointer (some ⟨g, i, none⟩)) (hc : w.rangeAt g i cs) (hu : P.underlying t = some d) (hd : d.isRow = true) (hi : (P.info? t).map (·.size) = some cs.length)
    (hk : K (a.put o.dst (.agg cs.toArray)) w) : o.wp P a w K Q := wp_load_mid t x ho g i hx cs d hc hu hd hi hk
theorem opw_faddr {s : TypeId} {x : Operand} {f : Nat} {vx v : Value} (ho : o.op = .fieldAddr s x f) (hx : a.eval x = vx) (hr : (Instr.fieldAt s vx f).run P w = .ok v w) (hk : K (a.put o.dst v) w) : o.wp P a w K Q := opw_val (by simp [execOp, ho, hx, hr]) hk
theorem opw_field {s : TypeId} {x : Operand} {f : Nat} {vx v : Value} (ho : o.op = .field s x f) (hx : a.eval x = vx) (hr : (Instr.field s vx f).run P w = .ok v w) (hk : K (a.put o.dst v) w) : o.wp P a w K Q := opw_val (by simp [execOp, ho, hx, hr]) hk
theorem opw_extract {x : Operand} {i : Nat} {vx v : Value} (ho : o.op = .extract x i) (hx : a.eval x = vx) (hr : (Instr.extract vx i).run P w = .ok v w) (hk : K (a.put o.dst v) w) : o.wp P a w K Q := opw_val (by simp [execOp, ho, hx, hr]) hk
theorem opw_iaddr {t : TypeId} {x i : Operand} {vx vi v : Value} (ho : o.op = .indexAddr t x i) (hx : a.eval x = vx) (hi : a.eval i = vi) (hr : (Instr.indexAt t vx vi).run P w = .ok v w) (hk : K (a.put o.dst v) w) : o.wp P a w K Q := opw_val (by simp [execOp, ho, hx, hi, hr]) hk
theorem opw_index {t : TypeId} {x i : Operand} {vx vi v : Value} (ho : o.op = .index t x i) (hx : a.eval x = vx) (hi : a.eval i = vi) (hr : (Instr.index t vx vi).run P w = .ok v w) (hk : K (a.put o.dst v) w) : o.wp P a w K Q := opw_val (by simp [execOp, ho, hx, hi, hr]) hk
theorem opw_nil {x : Operand} {A : Addr} (ho : o.op = .nilCheck x) (hx : a.eval x = .pointer (some A)) (hk : K (a.put o.dst (.pointer (some A))) w) : o.wp P a w K Q := opw_val (by simp [execOp, ho, hx]) hk
/-- is t a type whose values take one cell? -/
def cellTy (P : Program) (t : TypeId) : Bool := match P.underlying t with
  | some (.struct _) | some (.array _ _) | none => false
  | some _ => true
theorem run_load_cell {t : TypeId} {A : Addr} {v : Value} (hu : cellTy P t = true) (hc : w.cell? A = some v) : (Instr.loadAt t (.pointer (some A))).run P w = .ok v w := by
  unfold cellTy at hu
  cases h : P.underlying t with
  | none => simp [h] at hu
  | some d =>
    have hagg : (isAgg t).run P w = .ok false w := by
      unfold isAgg
      rw [Sem.run_bind, run_underlying h w]
      rw [h] at hu
      cases d <;> simp_all
    simp [Instr.loadAt, Instr.sureAddr, loadVar, hagg, hc]
theorem opw_cell {t : TypeId} {x : Operand} {A : Addr} {v : Value} (ho : o.op = .load t x) (hx : a.eval x = .pointer (some A)) (hu : cellTy P t = true) (hc : w.cell? A = some v) (hk : K (a.put o.dst v) w) : o.wp P a w K Q :=
  opw_val (by simp [execOp, ho, hx, run_load_cell hu hc]) hk
/-- is function f one that has a text of its own? -/
def callsGo (P : Program) (f : FuncId) : Bool := match P.funcs[f]? with
  | some fn => !(fn.name == "runtime.NumGoroutine") && !fn.body.isNone
  | none => false
theorem run_callFunc (f : FuncId) (args : Array Value) (hc : callsGo P f = true) : (callFunc f args).run P w = .ok (.enter f args) w := by
  unfold callsGo at hc
  cases hf : P.funcs[f]? with
  | none => simp [hf] at hc
  | some fn =>
    simp [hf] at hc
    have h2 : fn.body.isNone = false := by cases h : fn.body <;> simp_all
    simp [callFunc, run_program, hf, hc.1]
    intro h; simp [h] at h2
theorem opw_callw {f : FuncId} {xs : Array Operand} {ts : Array TypeId} {vs : List Value} {R : Ending → World → Prop} (ho : o.op = .call { callee := .value (.func f), args := xs, argTypes := ts }) (hc : callsGo P f = true) (hv : xs.toList.map a.eval = vs)
    (h : Calls P f vs.toArray w R) (hk : ∀ e w', R e w' → ∃ v, e = .returned v ∧ K (a.put o.dst v) w') : o.wp P a w K Q := by
  have he : execOp a.eval o = callFunc f vs.toArray := by
    cases o with
    | mk dst op ty pos after guard =>
      simp only at ho
      subst ho
      rw [execOp_call_go, ← hv]; simp only [Array.empty_append, Array.append_empty]; rw [← Array.toList_map]
  unfold Oper.wp
  rw [he, run_callFunc f vs.toArray hc]
  refine h.mono fun e w' hR => ?_
  obtain ⟨v, rfl, hk⟩ := hk e w' hR
  exact hk
theorem opw_call {f : FuncId} {xs : Array Operand} {ts : Array TypeId} {vs : List Value} {R : Value → World → Prop} (ho : o.op = .call { callee := .value (.func f), args := xs, argTypes := ts }) (hc : callsGo P f = true) (hv : xs.toList.map a.eval = vs)
    (h : Calls P f vs.toArray w (Ret R w)) (hk : ∀ v w', R v w' → Below w.heap.size w w' → K (a.put o.dst v) w') : o.wp P a w K Q :=
  opw_callw ho hc hv h fun _ w' ⟨v, he, hR, hb⟩ => ⟨v, he, hk v w' hR hb⟩
theorem opw_callq {f : FuncId} {xs : Array Operand} {ts : Array TypeId} {vs : List Value} {v : Value} (ho : o.op = .call { callee := .value (.func f), args := xs, argTypes := ts }) (hc : callsGo P f = true) (hv : xs.toList.map a.eval = vs)
    (h : Calls P f vs.toArray w fun e w' => e = .returned v ∧ w = w') (hk : K (a.put o.dst v) w) : o.wp P a w K Q :=
  opw_callw ho hc hv h fun _ w' ⟨he, hw⟩ => ⟨v, he, by subst hw; exact hk⟩
/-- a region whose operations only read or make memory: each looked at once, in whatever order they come -/
theorem wp_region_typed {id : Nat} {W : World} (T : Nat → Value → World → Prop) (hm : P.follows .mixedOrders = true) (hk : tOk ops a.tmps.size = true) (hmono : ∀ i v w w', T i v w → Below w.heap.size w w' → T i v w')
    (hr : TRules P ops T a W.drew Q 0 ops.toList)
    (hpost : ∀ (b : Act) (w : World), Below W.heap.size W w → b.defers = a.defers → b.tmps.size = a.tmps.size → (∀ t, noDst ops t = true → b.tmps.getD t undef = a.tmps.getD t undef) →
      (∀ (i : Nat) (o : Oper) (d : Tmp), ops[i]? = some o → o.dst = some d → T i (b.tmps.getD d undef) w) → Q .normal b w) : (Code.region id ops true).wp P Q a W := by
  refine wp_region_any hm ?_
  refine wpAny_typed (T := T) (W := W.drew) (a0 := a) hmono hk hr (fun b w h1 h2 h3 h4 h5 => hpost b w (undrew h1) h2 h3 (fun t ht => h4 t (noDst_spec ht)) h5) _ _ _ _ (by simp) ?_ ⟨Below.refl _ _, rfl, rfl, fun _ _ => rfl, fun i o d ho hl _ => ?_⟩
  · unfold unlisted; exact Nat.le_trans (List.length_filter_le _ _) (by simp)
  · exfalso
    have hlt := (Array.getElem?_eq_some_iff.1 ho).1
    simp [hlt] at hl
/-- does the last operation come behind all others, by its own edges? -/
def tLast (ops : Array Oper) (m : Nat) (o : Oper) : Bool := decide (ops.size = m + 1) && o.guard.isNone && (List.range m).all fun j => o.after.any fun e => Region.binds .any e && e.on == j
theorem wpAny_typed_last {T : Nat → Value → World → Prop} {a0 : Act} {W : World} {m : Nat} {oL : Oper} (hL : ops[m]? = some oL) (hcov : tLast ops m oL = true)
    (hmono : ∀ i v w w', T i v w → Below w.heap.size w w' → T i v w') (hk : tOk ops a0.tmps.size = true) (hr : TRules P ops T a0 W Q 0 (ops.toList.take m))
    (hpost : ∀ (b : Act) (w : World), Below W.heap.size W w → b.defers = a0.defers → b.tmps.size = a0.tmps.size → (∀ t, (∀ (i : Nat) (o : Oper), ops[i]? = some o → o.dst ≠ some t) → b.tmps.getD t undef = a0.tmps.getD t undef) →
      (∀ (i : Nat) (o : Oper) (d : Tmp), i < m → ops[i]? = some o → o.dst = some d → T i (b.tmps.getD d undef) w) → oL.wp P b w (Q .normal) Q) :
    ∀ (fuel : Nat) (listed : Array Bool) (b : Act) (w : World), listed.size = ops.size → listed.getD m true = false → unlisted ops listed ≤ fuel → TInv ops T a0 W listed b w → wpAny P .any ops Q fuel listed b w := by
  simp only [tLast, Bool.and_eq_true, decide_eq_true_eq] at hcov
  obtain ⟨⟨hsize, hguard⟩, hcov⟩ := hcov
  intro fuel
  induction fuel with
  | zero =>
    intro listed b w hsz hm hu hI
    exfalso
    have := unlisted_set (ops := ops) (i := m) (by omega) hm
    omega
  | succ fuel ih =>
    intro listed b w hsz hm hu hI
    refine ⟨fun h => ?_, fun i hi => ?_⟩
    · exfalso
      have := ready_nil hk h m (by omega)
      rw [hm] at this
      cases this
    rw [mem_ready] at hi
    obtain ⟨h0, o, ho, haf⟩ := hi
    have hlt := (Array.getElem?_eq_some_iff.1 ho).1
    by_cases him : i = m
    · subst him
      obtain rfl : o = oL := by rw [hL] at ho; exact (Option.some.inj ho).symm
      have hall : ∀ j, j < i → listed.getD j false = true := by
        intro j hj
        have h1 := (List.all_eq_true.1 hcov) j (by simpa using hj)
        obtain ⟨e, he, h2⟩ : ∃ e, e ∈ o.after ∧ (Region.binds .any e && e.on == j) = true := by
          rw [← Array.any_toList, List.any_eq_true] at h1
          obtain ⟨e, he, h2⟩ := h1
          exact ⟨e, by simpa using he, h2⟩
        simp only [Bool.and_eq_true, beq_iff_eq] at h2
        rw [← h2.2]
        exact haf e he h2.1
      have hw : Region.wanted o (yielded ops b.tmps) = true := want_none (by cases hg : o.guard with | none => rfl | some x => simp [hg] at hguard)
      unfold wpOp
      simp only [ho, hw, if_true]
      refine .inl (Oper.wp_mono (K := Q .normal) (fun b' w' hq => ?_) (hpost b w hI.bel hI.defers hI.size hI.old fun j oj d hj hoj hd => hI.typ j oj d hoj (hall j hj) hd))
      have hnil : Region.ready .any ops (listed.setIfInBounds i true) = [] := by
        rw [List.eq_nil_iff_forall_not_mem]
        intro j hj
        rw [mem_ready] at hj
        obtain ⟨g0, oj, hoj, _⟩ := hj
        have hjl := (Array.getElem?_eq_some_iff.1 hoj).1
        by_cases e : i = j
        · subst e
          have hsz2 : i < listed.size := by omega
          simp [Array.getElem?_setIfInBounds, hsz2] at g0
        · rw [getD_set_ne true e] at g0
          have := hall j (by omega)
          have hsz2 : j < listed.size := by omega
          simp [Array.getElem?_eq_getElem hsz2] at g0 this
          rw [g0] at this
          cases this
      cases fuel with
      | zero => exact ⟨hnil, hq⟩
      | succ f => exact ⟨fun _ => hq, fun j hj => by rw [hnil] at hj; cases hj⟩
    · have hdst := tOk_dst hk ho
      have hrule := TRules.at (ops.toList.take m) 0 hr i o (by rw [List.getElem?_take_of_lt (by omega)]; simpa using ho) b w hI.bel hI.old (fun e he hbd oj d hoj hd => hI.typ e.on oj d hoj (haf e he hbd) hd)
      rw [Nat.zero_add] at hrule
      have next : ∀ v w', T i v w' → Below w.heap.size w w' → wpAny P .any ops Q fuel (listed.setIfInBounds i true) (b.put o.dst v) w' := by
        intro v w' hT hb
        refine ih _ _ _ (by simpa using hsz) (by rw [getD_set_ne true him]; exact hm) (by have := unlisted_set (ops := ops) hlt h0; omega) ⟨hI.bel.trans (hb.mono hI.bel.size), ?_, ?_, ?_, ?_⟩
        · rw [← hI.defers]; cases o.dst <;> rfl
        · rw [← hI.size]; cases o.dst <;> simp [Act.put]
        · intro t ht
          rw [← hI.old t ht]
          have h2 := ht i o ho
          cases hd : o.dst with
          | none => rfl
          | some d =>
            have : d ≠ t := fun e => h2 (by rw [hd, e])
            simp [Act.put, Array.getElem?_setIfInBounds_ne this]
        · intro j oj d hj hlj hdj
          by_cases e : j = i
          · subst e
            obtain rfl : oj = o := by rw [ho] at hj; exact (Option.some.inj hj).symm
            have hd1 := hdst.1 d hdj
            rw [hdj]
            have hlt2 : d < b.tmps.size := by rw [hI.size]; exact hd1
            simpa [Act.put, hlt2] using hT
          · have hlj' : listed.getD j false = true := by rwa [getD_set_ne false (Ne.symm e)] at hlj
            have h3 := hmono j _ w w' (hI.typ j oj d hj hlj' hdj) hb
            have h4 : (b.put o.dst v).tmps.getD d undef = b.tmps.getD d undef := by
              cases hd : o.dst with
              | none => rfl
              | some d' =>
                have : d' ≠ d := fun e2 => hdst.2.2 j oj d' e hj hd (by rw [hdj, e2])
                simp [Act.put, Array.getElem?_setIfInBounds_ne this]
            rw [h4]; exact h3
      unfold wpOp
      simp only [ho]
      split
      · rename_i hw
        exact .inl (hrule.1 hw _ next)
      · rename_i hw
        exact next undef w (hrule.2 (by simpa using hw)) (Below.refl _ _)
/-- such a region that ends in one operation of another kind (a store) -/
theorem wp_region_last {id : Nat} {W : World} (T : Nat → Value → World → Prop) (m : Nat) (oL : Oper) (hm : P.follows .mixedOrders = true) (hL : ops[m]? = some oL) (hcov : tLast ops m oL = true) (hk : tOk ops a.tmps.size = true)
    (hmono : ∀ i v w w', T i v w → Below w.heap.size w w' → T i v w') (hr : TRules P ops T a W.drew Q 0 (ops.toList.take m))
    (hpost : ∀ (b : Act) (w : World), Below W.heap.size W w → b.defers = a.defers → b.tmps.size = a.tmps.size → (∀ t, noDst ops t = true → b.tmps.getD t undef = a.tmps.getD t undef) →
      (∀ (i : Nat) (o : Oper) (d : Tmp), i < m → ops[i]? = some o → o.dst = some d → T i (b.tmps.getD d undef) w) → oL.wp P b w (Q .normal) Q) : (Code.region id ops true).wp P Q a W := by
  refine wp_region_any hm ?_
  have hlt := (Array.getElem?_eq_some_iff.1 hL).1
  refine wpAny_typed_last (T := T) (W := W.drew) (a0 := a) hL hcov hmono hk hr (fun b w h1 h2 h3 h4 h5 => hpost b w (undrew h1) h2 h3 (fun t ht => h4 t (noDst_spec ht)) h5) _ _ _ _ (by simp) (by simp [hlt]) ?_ ⟨Below.refl _ _, rfl, rfl, fun _ _ => rfl, fun i o d ho hl _ => ?_⟩
  · unfold unlisted; exact Nat.le_trans (List.length_filter_le _ _) (by simp)
  · exfalso
    have hlt := (Array.getElem?_eq_some_iff.1 ho).1
    simp [hlt] at hl
/-- one operation of such a region -/
theorem trule {T : Nat → Value → World → Prop} {W : World} {i : Nat}
    (h : ∀ (b : Act) (w : World), Below W.heap.size W w → (∀ t, noDst ops t = true → b.eval (.tmp t) = a.eval (.tmp t)) →
      (∀ e ∈ o.after, Region.binds .any e = true → ∀ (oj : Oper) (d : Tmp), ops[e.on]? = some oj → oj.dst = some d → T e.on (b.eval (.tmp d)) w) →
      (Region.wanted o (yielded ops b.tmps) = true → ∀ K : Act → World → Prop, (∀ v w', T i v w' → Below w.heap.size w w' → K (b.put o.dst v) w') → o.wp P b w K Q) ∧ (Region.wanted o (yielded ops b.tmps) = false → T i undef w)) :
    TRule P ops T a W Q i o := fun b w h1 h2 h3 => h b w h1 (fun t ht => h2 t (noDst_spec ht)) h3
end

/-- the frame with new values in the slots that the operations write -/
def setAll (vs : Nat → Value) : List Oper → Array Value → Array Value
  | [], tm => tm
  | o :: r, tm => setAll vs r (match o.dst with | some d => tm.setIfInBounds d (vs d) | none => tm)
theorem setAll_size (vs : Nat → Value) (l : List Oper) : ∀ tm, (setAll vs l tm).size = tm.size := by
  induction l with
  | nil => intro tm; rfl
  | cons o r ih => intro tm; rw [setAll, ih]; cases o.dst <;> simp
theorem setAll_at (vs : Nat → Value) (l : List Oper) : ∀ (tm : Array Value) (t : Nat) (v : Value), t < tm.size → ((∃ o ∈ l, o.dst = some t) → vs t = v) → ((∀ o ∈ l, o.dst ≠ some t) → tm[t]? = some v) → (setAll vs l tm)[t]? = some v := by
  induction l with
  | nil => intro tm t v _ _ h; exact h (by simp)
  | cons o r ih =>
    intro tm t v ht h1 h2
    rw [setAll]
    by_cases hr : ∃ o' ∈ r, o'.dst = some t
    · refine ih _ t v (by cases o.dst <;> simpa using ht) (fun _ => h1 (by obtain ⟨o', a, b⟩ := hr; exact ⟨o', by simp [a], b⟩)) (fun hn => ?_)
      obtain ⟨o', a, b⟩ := hr
      exact absurd b (hn o' a)
    · refine ih _ t v (by cases o.dst <;> simpa using ht) (fun hh => absurd hh hr) (fun hn => ?_)
      by_cases ho : o.dst = some t
      · have := h1 ⟨o, by simp, ho⟩
        simp [ho, ht, this]
      · have h3 := h2 (by intro o' ho'; rcases List.mem_cons.1 ho' with rfl | h; exact ho; exact hn _ h)
        cases hd : o.dst with
        | none => simpa using h3
        | some d =>
          have : d ≠ t := fun e => ho (by rw [hd, e])
          simpa [Array.getElem?_setIfInBounds_ne this] using h3
theorem frame_of {ops : Array Oper} {a b : Act} (hdf : b.defers = a.defers) (hsz : b.tmps.size = a.tmps.size) (hold : ∀ t, noDst ops t = true → b.tmps.getD t undef = a.tmps.getD t undef) :
    ∃ vs : Nat → Value, (∀ d, b.eval (.tmp d) = vs d) ∧ b = ⟨setAll vs ops.toList a.tmps, a.defers⟩ := by
  refine ⟨fun d => b.tmps.getD d undef, fun d => rfl, ?_⟩
  obtain ⟨bt, bd⟩ := b
  dsimp only at *
  subst hdf
  congr 1
  apply Array.ext_getElem?
  intro t
  rcases Nat.lt_or_ge t bt.size with ht | ht
  · rw [Array.getElem?_eq_getElem ht]
    refine (setAll_at _ _ _ t _ (by omega) (fun _ => by simp [ht]) (fun hn => ?_)).symm
    have := hold t (by
      unfold noDst
      rw [Array.all_eq_true_iff_forall_mem]
      intro o ho
      simpa using hn o (by simpa using ho))
    simp [ht] at this
    rw [this]
    simp [show t < a.tmps.size by omega]
  · rw [Array.getElem?_eq_none ht, Array.getElem?_eq_none (by rw [setAll_size]; omega)]
end Go.Proofs.YtenpkgdnlogfiaaGreatDoor
