/-
  What the statement needs, part 4.
-/
import Derived.Deep.LoopGhost
import Derived.Lib.MinMax
import Derived.Laws.BitsAllLaws
import Derived.Test.YtjjhcdkamohgnaaGreatDoorTse3
namespace Go.Proofs.YtjjhcdkamohgnaaGreatDoor
section
open Go.RowKit
set_option exponentiation.threshold 5000
def Cp (a b : Nat) : Prop := ∀ i, a.testBit i = true -> b.testBit i = true
theorem Cp.refl (a : Nat) : Cp a a := fun _ h => h
theorem Cp.trans {a b c : Nat} (h : Cp a b) (k : Cp b c) : Cp a c := fun i hi => k i (h i hi)
theorem Cp.left (a b : Nat) : Cp a (a ||| b) := fun i h => Dq.2 (.inl h)
theorem Cp.right (a b : Nat) : Cp b (a ||| b) := fun i h => Dq.2 (.inr h)
theorem Cp.or {a b c : Nat} (h : Cp a c) (k : Cp b c) : Cp (a ||| b) c := fun i hi => (Dq.1 hi).elim (h i) (k i)
theorem Cp.anti {a b : Nat} (h : Cp a b) (k : Cp b a) : a = b := AY fun i => ⟨h i, k i⟩
theorem Cp.has {a b : Nat} (h : Cp a b) {i : Int} (k : Bo a i = true) : Bo b i = true := by
 unfold Bo at *
 simp only [Bool.and_eq_true, decide_eq_true_eq] at *
 exact ⟨k.1, h _ k.2⟩
theorem meets_iff {a b : Nat} : (a &&& b != 0) = true ↔ ∃ i, a.testBit i = true /\ b.testBit i = true := by
 rw [bne_iff_ne]
 constructor
 ·intro h
  obtain ⟨i, hi⟩ := Nat.exists_testBit_of_ne_zero h
  rw [Nat.testBit_and, Bool.and_eq_true] at hi
  exact ⟨i, hi⟩
 ·rintro ⟨i, h1, h2⟩ e
  have : (a &&& b).testBit i = true := by rw [Nat.testBit_and, h1, h2]; rfl
  rw [e, Nat.zero_testBit] at this
  cases this
theorem Cp.meets {a b c : Nat} (h : Cp b c) (k : (a &&& b != 0) = true) : (a &&& c != 0) = true := by
 obtain ⟨i, h1, h2⟩ := meets_iff.1 k
 exact meets_iff.2 ⟨i, h1, h i h2⟩
noncomputable def depC (L : List (Nat × Nat)) (z : Nat × Nat) : Nat := depM L (z.1 ||| z.2)
noncomputable def depR (L : List (Nat × Nat)) (r : AK) : Nat := depM L (r.yes ||| r.no)
structure Hm (L : List (Nat × Nat)) (p : Ae) (S : Nat) : Prop where
 goal : ∀ c ∈ p.goal, Cp (depC L c) S
 rules : ∀ r ∈ p.rules, r.revoke = false -> Bo S r.target = true -> Cp (depR L r) S
 never : ∀ c ∈ p.never, (depC L c &&& S != 0) = true -> Cp (depC L c) S
noncomputable def relM (L : List (Nat × Nat)) (p : Ae) : Nat := maskOf 64 fun i => ∀ T, Hm L p T -> T.testBit i = true
def GT (L : List (Nat × Nat)) (p : Ae) (N : Nat) : Prop := (∀ T, Hm L p T -> Cp N T) /\ N < 2 ^ 64
theorem Ir (L : List (Nat × Nat)) (N : Nat) : depM L N < 2 ^ 64 := by
 refine Nat.lt_pow_two_of_testBit _ fun i hi => ?_
 by_cases h : (depM L N).testBit i = true
 ·rw [depM, Bh] at h; omega
 ·simpa using h
theorem GT.zero (L : List (Nat × Nat)) (p : Ae) : GT L p 0 := ⟨fun T _ i hi => (by rw [Nat.zero_testBit] at hi; cases hi), by decide⟩
theorem GT.goal {L : List (Nat × Nat)} {p : Ae} {N : Nat} (h : GT L p N) {c : Nat × Nat} (hc : c ∈ p.goal) : GT L p (N ||| depC L c) :=
 ⟨fun T hT => (h.1 T hT).or (hT.goal c hc), Nat.or_lt_two_pow h.2 (Ir _ _)⟩
theorem GT.rule {L : List (Nat × Nat)} {p : Ae} {N : Nat} (h : GT L p N) {r : AK} (hr : r ∈ p.rules) (h1 : r.revoke = false) (h2 : Bo N r.target = true) : GT L p (N ||| depR L r) :=
 ⟨fun T hT => (h.1 T hT).or (hT.rules r hr h1 ((h.1 T hT).has h2)), Nat.or_lt_two_pow h.2 (Ir _ _)⟩
theorem GT.never {L : List (Nat × Nat)} {p : Ae} {N : Nat} (h : GT L p N) {c : Nat × Nat} (hc : c ∈ p.never) (h2 : (depC L c &&& N != 0) = true) : GT L p (N ||| depC L c) :=
 ⟨fun T hT => (h.1 T hT).or (hT.never c hc ((h.1 T hT).meets h2)), Nat.or_lt_two_pow h.2 (Ir _ _)⟩
theorem GT.eq {L : List (Nat × Nat)} {p : Ae} {N : Nat} (h : GT L p N) (k : Hm L p N) : N = relM L p := AY fun i => by
 rw [relM, Bh]
 refine ⟨fun hi => ⟨?_, fun T hT => h.1 T hT i hi⟩, fun hi => hi.2 N k⟩
 rcases Nat.lt_or_ge i 64 with h1 | h1
 ·exact h1
 ·have := Nat.testBit_lt_two_pow (Nat.lt_of_lt_of_le h.2 (Nat.pow_le_pow_right (by decide) h1))
  rw [this] at hi; cases hi
structure CF (L : List (Nat × Nat)) (p : Ae) (B N i j : Nat) : Prop where
 low : GT L p N
 sub : Cp B N
 goal : ∀ c ∈ p.goal, Cp (depC L c) N
 rules : ∀ r ∈ p.rules.take i, r.revoke = false -> Bo B r.target = true -> Cp (depR L r) N
 never : ∀ c ∈ p.never.take j, (depC L c &&& B != 0) = true -> Cp (depC L c) N
theorem CF.more {L : List (Nat × Nat)} {p : Ae} {B N N' i j : Nat} (h : CF L p B N i j) (hs : Cp N N') (hl : GT L p N') : CF L p B N' i j :=
 ⟨hl, h.sub.trans hs, fun c hc => (h.goal c hc).trans hs, fun r hr a b => (h.rules r hr a b).trans hs, fun c hc a => (h.never c hc a).trans hs⟩
theorem Cu {α : Type} {l : List α} {k : Nat} {x y : α} (hk : l[k]? = some x) (h : y ∈ l.take (k + 1)) : y ∈ l.take k \/ y = x := by
 rw [List.take_add_one, hk, List.mem_append] at h
 exact h.imp id fun h => by simpa using h
theorem CF.ruleY {L : List (Nat × Nat)} {p : Ae} {B N i j : Nat} (h : CF L p B N i j) {r : AK} (hi : p.rules[i]? = some r) (h1 : r.revoke = false) (h2 : Bo N r.target = true) : CF L p B (N ||| depR L r) (i + 1) j :=
 have h' := h.more (Cp.left N (depR L r)) (h.low.rule (List.mem_of_getElem? hi) h1 h2)
 ⟨h'.low, h'.sub, h'.goal, fun x hx a b => (Cu hi hx).elim (fun hx => h'.rules x hx a b) fun e => by subst e; exact Cp.right _ _, h'.never⟩
theorem CF.ruleN {L : List (Nat × Nat)} {p : Ae} {B N i j : Nat} (h : CF L p B N i j) {r : AK} (hi : p.rules[i]? = some r) (h1 : r.revoke = true \/ Bo N r.target = false) : CF L p B N (i + 1) j :=
 ⟨h.low, h.sub, h.goal, fun x hx a b => (Cu hi hx).elim (fun hx => h.rules x hx a b) fun e => (by
  subst e
  rcases h1 with h1 | h1
  ·rw [h1] at a; cases a
  ·rw [h.sub.has b] at h1; cases h1), h.never⟩
theorem CF.neverY {L : List (Nat × Nat)} {p : Ae} {B N i j : Nat} (h : CF L p B N i j) {c : Nat × Nat} (hj : p.never[j]? = some c) (h2 : (depC L c &&& N != 0) = true) : CF L p B (N ||| depC L c) i (j + 1) :=
 have h' := h.more (Cp.left N (depC L c)) (h.low.never (List.mem_of_getElem? hj) h2)
 ⟨h'.low, h'.sub, h'.goal, h'.rules, fun x hx a => (Cu hj hx).elim (fun hx => h'.never x hx a) fun e => by subst e; exact Cp.right _ _⟩
theorem CF.neverN {L : List (Nat × Nat)} {p : Ae} {B N i j : Nat} (h : CF L p B N i j) {c : Nat × Nat} (hj : p.never[j]? = some c) (h2 : (depC L c &&& N != 0) = false) : CF L p B N i (j + 1) :=
 ⟨h.low, h.sub, h.goal, h.rules, fun x hx a => (Cu hj hx).elim (fun hx => h.never x hx a) fun e => by
  subst e
  rw [h.sub.meets a] at h2; cases h2⟩
theorem CF.start {L : List (Nat × Nat)} {p : Ae} {N : Nat} (h : GT L p N) (k : ∀ c ∈ p.goal, Cp (depC L c) N) : CF L p N N 0 0 :=
 ⟨h, Cp.refl _, k, fun _ h => by simp at h, fun _ h => by simp at h⟩
theorem CF.done {L : List (Nat × Nat)} {p : Ae} {N : Nat} (h : CF L p N N p.rules.length p.never.length) : N = relM L p :=
 h.low.eq ⟨h.goal, fun r hr => h.rules r (by rw [List.take_length]; exact hr), fun c hc => h.never c (by rw [List.take_length]; exact hc)⟩
theorem CF.lt {L : List (Nat × Nat)} {p : Ae} {B N i j : Nat} (h : CF L p B N i j) (hne : ¬ N = B) : 2 ^ 64 - N < 2 ^ 64 - B := by
 have h1 : B ||| N = N := AY fun k => ⟨fun hk => (Dq.1 hk).elim (h.sub k) id, fun hk => Dq.2 (.inr hk)⟩
 have h2 : B <= N := by rw [<- h1]; exact Nat.left_le_or
 have := h.low.2
 omega
end
section
open Go.RowKit
attribute [local go_sem ↓] Go.wp_at_zero Go.wp_at_succ
set_option maxRecDepth 20000
set_option exponentiation.threshold 5000
noncomputable def relS (p : Ae) : Nat := if checkE p = 0 then (match p.links with | none => 0 | some L => relM L p) else 0
set_option maxHeartbeats 4000000 in
theorem relevant_any {w0 : World} {D : Nat -> Prop} {v : Value} {p : Ae} (hp : Bt w0 D v p) (hP : p.Ok) (hT : Bp w0) : Calls Tryz.prog 63 #[v] w0 (AC (fun x w' => A6 w' (w0.heap.size <= ·) x (relS p)) w0) := by
 obtain ⟨R, lk, st, rl, nl, gl⟩ := p
 have HP := Lib.hid hP
 have hP1 := hP.rules
 have hP2 := hP.never
 have hP3 := hP.goal
 dsimp only at hP1 hP2 hP3
 clear hP
 obtain ⟨lp, s, rv, nv, gv, rfl, h1, h2, h3, h4, h5⟩ := hp
 dsimp only at h1 h2 h3 h4 h5 ⊢
 obtain ⟨Cs, ns, cs, rfl⟩ := h2.shape
 obtain ⟨Ar, cr, rfl, _, _⟩ := h3.shape
 obtain ⟨An, cn, rfl, _, _⟩ := h4.shape
 obtain ⟨Ag, cg, rfl, _, _⟩ := h5.shape
 obtain ⟨K, kp, kh, kr, kn, kg, kt, hS⟩ : ∃ K : (Nat -> Prop) -> World -> Prop, (∀ D w, K D w -> Bt w D (.agg #[.int .i64 R, lp, .slice Cs ns cs, .slice Ar rl.length cr, .slice An nl.length cn, .slice Ag gl.length cg]) ⟨R, lk, st, rl, nl, gl⟩) /\ (∀ D w, K D w -> GU w D lp lk) /\ (∀ D w, K D w -> Bm w D (.slice Ar rl.length cr) rl) /\ (∀ D w, K D w -> Ai w D (.slice An nl.length cn) nl) /\ (∀ D w, K D w -> Ai w D (.slice Ag gl.length cg) gl) /\ (∀ D w, K D w -> Bp w) /\ St w0 w0 [] K :=
  ⟨fun D w => ((GU w D lp lk /\ A6 w D (.agg #[.slice Cs ns cs]) st) /\ Bm w D (.slice Ar rl.length cr) rl /\ Ai w D (.slice An nl.length cn) nl /\ Ai w D (.slice Ag gl.length cg) gl) /\ (Bp w /\ D 0), fun _ _ h => ⟨_, _, _, _, _, rfl, h.1.1.1, h.1.1.2, h.1.2.1, h.1.2.2.1, h.1.2.2.2⟩, fun _ _ h => h.1.1.1, fun _ _ h => h.1.2.1, fun _ _ h => h.1.2.2.1, fun _ _ h => h.1.2.2.2, fun _ _ h => h.2.1,
   St.start (D := fun _ => True) (((BZ.and A5).and (Be.and (AP.and AP))).and BA) ⟨⟨⟨BZ D _ w0 w0 h1 (Nat.le_refl _) (fun _ _ _ _ h => h) fun _ _ _ _ => trivial, h2.imp fun _ _ _ => trivial⟩, Be D _ w0 w0 h3 (Nat.le_refl _) (fun _ _ _ _ h => h) fun _ _ _ _ => trivial, h4.imp fun _ _ _ => trivial, h5.imp fun _ _ _ => trivial⟩, hT, trivial⟩⟩
 clear h1 h2 h3 h4 h5 hT
 have KS := Lib.hid hS.stable
 obtain ⟨e, he⟩ : ∃ e, e = checkE ⟨R, lk, st, rl, nl, gl⟩ := ⟨_, rfl⟩
 have HE := Lib.hid he
 clear he
 by_cases h0 : e = 0
 ·subst h0
  cases lk with
  | none => have := HE.out; cases this
  | some L =>
   have HH := Lib.hid (HP.out.links L rfl).1
   have HRS : Hid (relS ⟨R, some L, st, rl, nl, gl⟩ = relM L ⟨R, some L, st, rl, nl, gl⟩) := Lib.hid (by unfold relS; rw [if_pos HE.out.symm])
   rw [HRS.out]
   obtain ⟨q, o, rfl, -⟩ := id (kh _ _ hS.ro)
   go_enter Tryz.func63, Tryz.ntmps63
   go_wp2_with (first
    | ((with_reducible refine qA 1 ?_); refine Ak hS rfl _ _ rfl (.agg #[.int .i64 R, .pointer (some ⟨q, 0, none⟩), .slice Cs ns cs, .slice Ar rl.length cr, .slice An nl.length cn, .slice Ag gl.length cg]) _ rfl rfl ?_; clear hS; intro g1 w_ hS; (try simp only [Act.put, Act.eval, zz, Value.cells] at hS))
    | ((with_reducible refine qA 2 ?_); refine qa hS #[.slice none 0 0] ?_; clear hS; intro g2 w_ hS)
    | ((with_reducible refine qA 3 ?_); refine qa hS #[.slice none 0 0] ?_; clear hS; intro g3 w_ hS)
    | ((with_reducible refine qK ?_); refine qL hS Tryz.underlying31 ?_)
    | (go_at_call 31; refine (CI (kp _ _ hS.ro) HP.out (kt _ _ hS.ro)).mono ?_; rw [<- HE.out]; rintro r_ w_ ⟨_, rfl, rfl, hb_⟩; replace hS := hS.ext hb_; clear hb_)
    | ((with_reducible refine qK ?_); refine qC hS ?_))
   go_loopw [19] (fun i wr => ∃ (j : Nat) (u : Value) (N : Nat), i = .int .i64 (j : Nat) /\ j <= gl.length /\ Hid (GT L ⟨R, some L, st, rl, nl, gl⟩ N /\ ∀ c ∈ gl.take j, Cp (depC L c) N) /\ St w0 wr [.box g3 27 #[u], .box g2 27 #[.slice none 0 0], .box g1 31 #[.int .i64 R, .pointer (some ⟨q, 0, none⟩), .slice Cs ns cs, .slice Ar rl.length cr, .slice An nl.length cn, .slice Ag gl.length cg]] (fun D w => K D w /\ A6 w (fun z => D z /\ w0.heap.size <= z) (.agg #[u]) N)) (fun i _ => gl.length - (intOf i).toNat)
   case atStart => exact ⟨0, _, 0, rfl, by omega, Lib.hid ⟨GT.zero _ _, by simp⟩, hS.mono (KS.out.and (AO A5 fun z => w0.heap.size <= z)) fun D w h => ⟨h, A6.empty⟩⟩
   case round =>
    clear hS
    obtain ⟨j, u, N0, rfl, hj, HI, hS⟩ := hrel
    by_cases hlj : j < gl.length
    ·obtain ⟨b, o2, y, n, rfl, _, hb, c0, c1, hy, hn⟩ := (kg _ _ hS.ro.1).at_ hlj
     obtain ⟨Ay, my, cy, rfl⟩ := hy.shape
     obtain ⟨Am, mn, cm, rfl⟩ := hn.shape
     have HI2 : Hid (GT L ⟨R, some L, st, rl, nl, gl⟩ (N0 ||| depC L (gl.getD j (0, 0))) /\ ∀ c ∈ gl.take (j + 1), Cp (depC L c) (N0 ||| depC L (gl.getD j (0, 0)))) := Lib.hid ⟨HI.out.1.goal (List.mem_of_getElem? (AZ (0, 0) hlj)), fun c hc => (Cu (AZ (0, 0) hlj) hc).elim (fun h => (HI.out.2 c h).trans (Cp.left _ _)) fun e => by rw [e]; exact Cp.right _ _⟩
     obtain ⟨KC, kc, hS2⟩ : ∃ KC : (Nat -> Prop) -> World -> Prop, Hid (∀ D w, KC D w -> K D w /\ A6 w (fun z => D z /\ w0.heap.size <= z) (.agg #[u]) N0 /\ AL w D (.agg #[.slice Ay my cy, .slice Am mn cm]) (gl.getD j (0, 0))) /\ St w0 wr [.box g3 27 #[u], .box g2 27 #[.slice none 0 0], .box g1 31 #[.int .i64 R, .pointer (some ⟨q, 0, none⟩), .slice Cs ns cs, .slice Ar rl.length cr, .slice An nl.length cn, .slice (some ⟨b, o2, none⟩) gl.length cg]] KC := ⟨_, Lib.hid fun D w h => ⟨h.1.1, h.1.2, h.2⟩, hS.add (D := D8 _) Bx ⟨_, _, rfl, hy, hn⟩ fun _ h _ => h⟩
     clear hS hy hn
     have hS := hS2
     clear hS2
     generalize gl.getD j (0, 0) = z at *
     go_wp2_with (first
      | ((with_reducible refine qB ?_); refine qc ?_ ?_ <;> intro h_ <;> go_prune)
      | ((with_reducible refine qA 22 ?_); refine BigFrame.wpList_want rfl fun _ hK => AM (cs := [.slice Ay my cy, .slice Am mn cm]) rfl rfl (Id c0 c1) Tryz.underlying54 rfl (by kernel_rfl) (hK _ _ ?_))
      | ((with_reducible refine qA 5 ?_); refine qa hS #[.slice none 0 0, .slice none 0 0] ?_; clear hS; intro g5 w_ hS)
      | ((with_reducible refine qM ?_); (first | refine qS hS ?_ | refine qT hS ?_); clear hS; intro w_ hS; (try simp only [Act.put, Act.eval, zz, Value.cells] at hS)))
     refine Ho 5 [] [.i (.agg #[u]), .i (.agg #[.int .i64 R, .pointer (some ⟨q, 0, none⟩), .slice Cs ns cs, .slice Ar rl.length cr, .slice An nl.length cn, .slice (some ⟨b, o2, none⟩) gl.length cg]), .i (.agg #[.slice Ay my cy, .slice Am mn cm]), .s (fun v w => A6 w (fun _ => True) v (depC L z)) fun v w w' h hb => h.ext hb, .s (fun v w => ∃ u, v = .agg #[u] /\ u.oneCell' = true /\ A6 w (fun z => w_.heap.size <= z) (.agg #[u]) (N0 ||| depC L z)) fun v w w' h hb => ⟨_, h.choose_spec.1, h.choose_spec.2.1, h.choose_spec.2.2.ext hb⟩, .t] ⟨uR (h := fun w hW hN => (hS.ext hW).box 1 rfl), uR (h := fun w hW hN => (hS.ext hW).box 3 rfl), uR (h := fun w hW hN => (hS.ext hW).box 0 rfl), ?_, ?_, trivial⟩ ?_
     ·refine uT fun b__ w hW hE K hK => ?_
      have e24 := hE 24
      have e25 := hE 25
      refine Aq rfl (by kernel_rfl) (by simp only [List.map_cons, List.map_nil, e24, e25]) (DW (kp _ _ (kc.out _ _ (hS.ext hW).ro).1) rfl HH.out (kt _ _ (kc.out _ _ (hS.ext hW).ro).1) (kc.out _ _ (hS.ext hW).ro).2.2) fun v w' h hb => ?_
      exact hK v w' (h.imp fun _ _ _ => trivial) hb
     ·refine uT fun b__ w hW hE K hK => ?_
      have e23 := hE 23
      have e26 := hE 26
      refine Aq rfl (by kernel_rfl) (by simp only [List.map_cons, List.map_nil, e23]) (EY (.agg #[u]) _ N0 _ w _ _ (kc.out _ _ (hS.ext hW).ro).2.1 e26) fun v w' h hb => ?_
      obtain ⟨u, rfl, h1⟩ := Cg h
      exact hK _ w' ⟨u, rfl, h1, h.imp fun z hz _ => Nat.le_trans hW.size hz⟩ hb
     ·intro vs wz hW hT
      obtain ⟨e23, e24, e25, e26, e27, -⟩ := hT
      have bx : (fun _ : Nat => True) 0 := trivial
      simp only [AB, Act.put, zz, ze]
      (intro o_ ho_; simp only [List.getElem?_toArray, List.getElem?_cons_succ, List.getElem?_cons_zero, Option.some.injEq] at ho_; subst ho_)
      obtain ⟨un, e27, hu1, hun⟩ := e27
      have hsW := hS.size
      have hS1 := hS.ret hW (AO (A5 (v := .agg #[un]) (N := N0 ||| depC L z)) fun z => w0.heap.size <= z) (hun.imp fun z hz _ => ⟨hz, Nat.le_trans hsW hz⟩)
      refine BS rfl rfl e27 (hS1.box 1 rfl) (by kernel_rfl) rfl (by simpa using hu1) fun w4 h1 hU => ?_
      have hS2 := (hS1.upd 1 rfl (.box g3 27 #[un]) (Bn hU) ⟨(hS1.holds (.box g3 27 #[u]) (by simp)).1, h1⟩ fun _ e => .inl e)
      simp only [Cc]
      simp only [Act.put, List.setIfInBounds_toArray, List.set_cons_zero, List.set_cons_succ]
      clear hS hS1 h1 hU hW hun e27
      have hS := hS2
      clear hS2
      go_wp2_with fail
      exact ⟨⟨j + 1, un, N0 ||| depC L z, by go_num, hlj, HI2, (hS.sub (List.sublist_cons_self _ _)).mono (KS.out.and (AO A5 fun z => w0.heap.size <= z)) fun D w h => ⟨(kc.out _ _ h.1).1, h.2⟩⟩, by simp [intOf]; omega⟩
    ·obtain rfl : gl.length = j := by omega
     have HI2 : Hid (GT L ⟨R, some L, st, rl, nl, gl⟩ N0 /\ ∀ c ∈ gl, Cp (depC L c) N0) := Lib.hid ⟨HI.out.1, fun c hc => HI.out.2 c (by rw [List.take_length]; exact hc)⟩
     clear HI
     go_wp2_with (first | ((with_reducible refine qB ?_); refine qc ?_ ?_ <;> intro h_ <;> go_prune))
     go_loopg [] (2 ^ 64 - N0) (fun k wr => ∃ (u : Value) (B : Nat), 2 ^ 64 - B <= k /\ Hid (GT L ⟨R, some L, st, rl, nl, gl⟩ B /\ ∀ c ∈ gl, Cp (depC L c) B) /\ St w0 wr [.box g3 27 #[u], .box g2 27 #[.slice none 0 0], .box g1 31 #[.int .i64 R, .pointer (some ⟨q, 0, none⟩), .slice Cs ns cs, .slice Ar rl.length cr, .slice An nl.length cn, .slice Ag gl.length cg]] (fun D w => K D w /\ A6 w (fun z => D z /\ w0.heap.size <= z) (.agg #[u]) B))
     case atStart => exact ⟨u, N0, Nat.le_refl _, HI2, hS⟩
     case round =>
      clear hS HI2
      obtain ⟨uB8, B, hgk, HI, hS⟩ := hrel
      obtain ⟨Ab, cb, lb, he, -⟩ := hS.ro.2.parts
      obtain rfl : uB8 = .slice Ab lb.length cb := by injection he with he; simpa using he
      clear he
      obtain ⟨nb, hnb⟩ : ∃ nb, nb = lb.length := ⟨_, rfl⟩
      rw [<- hnb] at hS
      clear hnb
      have HGK := Lib.hid hgk
      clear hgk
      go_wp2_with (first
       | ((with_reducible refine qk 27 ?_); first | (refine A7 hS 0 rfl _ _ rfl _ _ rfl _ _ rfl _ (by first | rfl | assumption) Tryz.underlying27 rfl (by kernel_rfl) ?_) | (refine A7 hS 1 rfl _ _ rfl _ _ rfl _ _ rfl _ (by first | rfl | assumption) Tryz.underlying27 rfl (by kernel_rfl) ?_) | (refine A7 hS 2 rfl _ _ rfl _ _ rfl _ _ rfl _ (by first | rfl | assumption) Tryz.underlying27 rfl (by kernel_rfl) ?_) | (refine A7 hS 3 rfl _ _ rfl _ _ rfl _ _ rfl _ (by first | rfl | assumption) Tryz.underlying27 rfl (by kernel_rfl) ?_) | (refine A7 hS 4 rfl _ _ rfl _ _ rfl _ _ rfl _ (by first | rfl | assumption) Tryz.underlying27 rfl (by kernel_rfl) ?_) | (refine A7 hS 5 rfl _ _ rfl _ _ rfl _ _ rfl _ (by first | rfl | assumption) Tryz.underlying27 rfl (by kernel_rfl) ?_))
       | ((with_reducible refine qA 6 ?_); refine qa hS #[.slice none 0 0] ?_; clear hS; intro g6 w_ hS)
       | ((with_reducible refine qM ?_); (first | refine qS hS ?_ | refine qT hS ?_); clear hS; intro w_ hS; (try simp only [Act.put, Act.eval, zz, Value.cells] at hS))
       | ((with_reducible refine qK ?_); refine qC hS ?_))
      go_loopw [33] (fun i wr => ∃ (j : Nat) (u : Value) (N : Nat), i = .int .i64 (j : Nat) /\ j <= rl.length /\ Hid (CF L ⟨R, some L, st, rl, nl, gl⟩ B N j 0) /\ St w0 wr [.box g6 27 #[.slice Ab nb cb], .box g3 27 #[u], .box g2 27 #[.slice none 0 0], .box g1 31 #[.int .i64 R, .pointer (some ⟨q, 0, none⟩), .slice Cs ns cs, .slice Ar rl.length cr, .slice An nl.length cn, .slice Ag gl.length cg]] (fun D w => (K D w /\ A6 w D (.agg #[.slice Ab nb cb]) B) /\ A6 w (fun z => D z /\ w0.heap.size <= z) (.agg #[u]) N)) (fun i _ => rl.length - (intOf i).toNat)
      case atStart => exact ⟨0, _, B, rfl, by omega, Lib.hid (CF.start HI.out.1 HI.out.2), hS.mono ((KS.out.and A5).and (AO A5 fun z => w0.heap.size <= z)) fun D w h => ⟨⟨h.1, h.2.imp fun z hz _ => hz.1⟩, h.2⟩⟩
      case round =>
       clear hS HI
       obtain ⟨j, u, N0, rfl, hj, HI, hS⟩ := hrel
       by_cases hlj : j < rl.length
       ·obtain ⟨b, o2, y, n, rfl, _, hb, c0, c1, c2, c3, c4, hy, hn⟩ := (kr _ _ hS.ro.1.1).at_ hlj
        obtain ⟨Ay, my, cy, rfl⟩ := hy.shape
        obtain ⟨Am, mn, cm, rfl⟩ := hn.shape
        have HGj := Lib.hid (AZ Az hlj)
        obtain ⟨KC, kc, hS2⟩ : ∃ KC : (Nat -> Prop) -> World -> Prop, Hid (∀ D w, KC D w -> (K D w /\ A6 w D (.agg #[.slice Ab nb cb]) B) /\ A6 w (fun z => D z /\ w0.heap.size <= z) (.agg #[u]) N0 /\ A6 w D (.agg #[.slice Ay my cy]) (rl.getD j Az).yes /\ A6 w D (.agg #[.slice Am mn cm]) (rl.getD j Az).no) /\ St w0 wr [.box g6 27 #[.slice Ab nb cb], .box g3 27 #[u], .box g2 27 #[.slice none 0 0], .box g1 31 #[.int .i64 R, .pointer (some ⟨q, 0, none⟩), .slice Cs ns cs, .slice (some ⟨b, o2, none⟩) rl.length cr, .slice An nl.length cn, .slice Ag gl.length cg]] KC := ⟨_, Lib.hid fun D w h => ⟨h.1.1, h.1.2, h.2.1, h.2.2⟩, hS.add (D := D8 _) (A5.and A5) ⟨hy, hn⟩ fun _ h _ => h⟩
        clear hS hy hn
        have hS := hS2
        clear hS2
        generalize rl.getD j Az = z at *
        obtain ⟨rv, ry, rn, rt, ro⟩ := z
        dsimp only at kc c0 c1 c2 c3 c4
        obtain ⟨b1, hb1⟩ : ∃ b, b = Bo N0 rt := ⟨_, rfl⟩
        have HB1 := Lib.hid hb1
        cases rv
        ·cases b1
         ·have HI2 := Lib.hid (HI.out.ruleN HGj.out (.inr hb1.symm))
          clear hb1 HI
          go_wp2_with (first
           | ((with_reducible refine qB ?_); refine qc ?_ ?_ <;> intro h_ <;> go_prune)
           | ((with_reducible refine qA 36 ?_); refine BigFrame.wpList_want rfl fun _ hK => AM (cs := [.bool _, .slice Ay my cy, .slice Am mn cm, .int .i64 rt, .int .i64 ro]) rfl rfl (FC c0 c1 c2 c3 c4) Tryz.underlying58 rfl (by kernel_rfl) (hK _ _ ?_))
           | ((with_reducible refine qA 8 ?_); refine qa hS #[.bool false, .slice none 0 0, .slice none 0 0, .int .i64 0, .int .i64 0] ?_; clear hS; intro g8 w_ hS)
           | ((with_reducible refine qM ?_); (first | refine qS hS ?_ | refine qT hS ?_); clear hS; intro w_ hS; (try simp only [Act.put, Act.eval, zz, Value.cells] at hS))
           | ((with_reducible refine qk 27 ?_); first | (refine A7 hS 0 rfl _ _ rfl _ _ rfl _ _ rfl _ (by first | rfl | assumption) Tryz.underlying27 rfl (by kernel_rfl) ?_) | (refine A7 hS 1 rfl _ _ rfl _ _ rfl _ _ rfl _ (by first | rfl | assumption) Tryz.underlying27 rfl (by kernel_rfl) ?_) | (refine A7 hS 2 rfl _ _ rfl _ _ rfl _ _ rfl _ (by first | rfl | assumption) Tryz.underlying27 rfl (by kernel_rfl) ?_) | (refine A7 hS 3 rfl _ _ rfl _ _ rfl _ _ rfl _ (by first | rfl | assumption) Tryz.underlying27 rfl (by kernel_rfl) ?_) | (refine A7 hS 4 rfl _ _ rfl _ _ rfl _ _ rfl _ (by first | rfl | assumption) Tryz.underlying27 rfl (by kernel_rfl) ?_) | (refine A7 hS 5 rfl _ _ rfl _ _ rfl _ _ rfl _ (by first | rfl | assumption) Tryz.underlying27 rfl (by kernel_rfl) ?_))
           | ((with_reducible refine qK ?_); refine qC hS ?_)
           | (go_at_call 47; refine (CE _ N0 rt _ _ (kc.out _ _ hS.ro).2.1).mono ?_; rw [<- HB1.out]; rintro r_ w_ ⟨_, rfl, rfl, hb_⟩; replace hS := hS.ext hb_; clear hb_))
          exact ⟨⟨j + 1, u, N0, by go_num, hlj, HI2, (hS.sub (List.sublist_cons_self _ _)).mono ((KS.out.and A5).and (AO A5 fun z => w0.heap.size <= z)) fun D w h => ⟨(kc.out _ _ h).1, (kc.out _ _ h).2.1⟩⟩, by simp [intOf]; omega⟩
         ·have HI2 := Lib.hid (HI.out.ruleY HGj.out rfl hb1.symm)
          have HZ : Hid (depR L ⟨false, ry, rn, rt, ro⟩ = depM L (ry ||| rn)) := Lib.hid rfl
          generalize depR L ⟨false, ry, rn, rt, ro⟩ = dz at *
          clear hb1 HI
          go_wp2_with (first
           | ((with_reducible refine qB ?_); refine qc ?_ ?_ <;> intro h_ <;> go_prune)
           | ((with_reducible refine qA 36 ?_); refine BigFrame.wpList_want rfl fun _ hK => AM (cs := [.bool _, .slice Ay my cy, .slice Am mn cm, .int .i64 rt, .int .i64 ro]) rfl rfl (FC c0 c1 c2 c3 c4) Tryz.underlying58 rfl (by kernel_rfl) (hK _ _ ?_))
           | ((with_reducible refine qA 8 ?_); refine qa hS #[.bool false, .slice none 0 0, .slice none 0 0, .int .i64 0, .int .i64 0] ?_; clear hS; intro g8 w_ hS)
           | ((with_reducible refine qM ?_); (first | refine qS hS ?_ | refine qT hS ?_); clear hS; intro w_ hS; (try simp only [Act.put, Act.eval, zz, Value.cells] at hS))
           | ((with_reducible refine qk 27 ?_); first | (refine A7 hS 0 rfl _ _ rfl _ _ rfl _ _ rfl _ (by first | rfl | assumption) Tryz.underlying27 rfl (by kernel_rfl) ?_) | (refine A7 hS 1 rfl _ _ rfl _ _ rfl _ _ rfl _ (by first | rfl | assumption) Tryz.underlying27 rfl (by kernel_rfl) ?_) | (refine A7 hS 2 rfl _ _ rfl _ _ rfl _ _ rfl _ (by first | rfl | assumption) Tryz.underlying27 rfl (by kernel_rfl) ?_) | (refine A7 hS 3 rfl _ _ rfl _ _ rfl _ _ rfl _ (by first | rfl | assumption) Tryz.underlying27 rfl (by kernel_rfl) ?_) | (refine A7 hS 4 rfl _ _ rfl _ _ rfl _ _ rfl _ (by first | rfl | assumption) Tryz.underlying27 rfl (by kernel_rfl) ?_) | (refine A7 hS 5 rfl _ _ rfl _ _ rfl _ _ rfl _ (by first | rfl | assumption) Tryz.underlying27 rfl (by kernel_rfl) ?_))
           | ((with_reducible refine qK ?_); refine qC hS ?_)
           | (go_at_call 47; refine (CE _ N0 rt _ _ (kc.out _ _ hS.ro).2.1).mono ?_; rw [<- HB1.out]; rintro r_ w_ ⟨_, rfl, rfl, hb_⟩; replace hS := hS.ext hb_; clear hb_))
          refine Ho 6 [] [.i (.agg #[u]), .i (.agg #[.int .i64 R, .pointer (some ⟨q, 0, none⟩), .slice Cs ns cs, .slice (some ⟨b, o2, none⟩) rl.length cr, .slice An nl.length cn, .slice Ag gl.length cg]), .q g8 1, .i (.agg #[.slice Ay my cy, .slice Am mn cm]), .s (fun v w => A6 w (fun _ => True) v (dz)) fun v w w' h hb => h.ext hb, .s (fun v w => ∃ u, v = .agg #[u] /\ u.oneCell' = true /\ A6 w (fun z => w_.heap.size <= z) (.agg #[u]) (N0 ||| dz)) fun v w w' h hb => ⟨_, h.choose_spec.1, h.choose_spec.2.1, h.choose_spec.2.2.ext hb⟩, .t] ⟨uR (h := fun w hW hN => (hS.ext hW).box 2 rfl), uR (h := fun w hW hN => (hS.ext hW).box 4 rfl), uF, uD (h := fun w hW hN => Id (((hS.ext hW).box 0 rfl).cell 1) (((hS.ext hW).box 0 rfl).cell 2)), ?_, ?_, trivial⟩ ?_
          ·refine uT fun b__ w hW hE K hK => ?_
           have e47 := hE 47
           have e49 := hE 49
           refine Aq rfl (by kernel_rfl) (by simp only [List.map_cons, List.map_nil, e47, e49]) (DW (kp _ _ (kc.out _ _ (hS.ext hW).ro).1.1) rfl HH.out (kt _ _ (kc.out _ _ (hS.ext hW).ro).1.1) (show AL _ _ (.agg #[.slice Ay my cy, .slice Am mn cm]) (ry, rn) from ⟨_, _, rfl, (kc.out _ _ (hS.ext hW).ro).2.2⟩)) fun v w' h hb => ?_
           exact hK v w' (by rw [HZ.out]; exact h.imp fun _ _ _ => trivial) hb
          ·refine uT fun b__ w hW hE K hK => ?_
           have e46 := hE 46
           have e50 := hE 50
           refine Aq rfl (by kernel_rfl) (by simp only [List.map_cons, List.map_nil, e46]) (EY (.agg #[u]) _ N0 _ w _ _ (kc.out _ _ (hS.ext hW).ro).2.1 e50) fun v w' h hb => ?_
           obtain ⟨u, rfl, h1⟩ := Cg h
           exact hK _ w' ⟨u, rfl, h1, h.imp fun z hz _ => Nat.le_trans hW.size hz⟩ hb
          ·intro vs wz hW hT
           obtain ⟨e46, e47, e48, e49, e50, e51, -⟩ := hT
           have bx : (fun _ : Nat => True) 0 := trivial
           simp only [AB, Act.put, zz, ze]
           (intro o_ ho_; simp only [List.getElem?_toArray, List.getElem?_cons_succ, List.getElem?_cons_zero, Option.some.injEq] at ho_; subst ho_)
           obtain ⟨un, e51, hu1, hun⟩ := e51
           have hsW := hS.size
           have hS1 := hS.ret hW (AO (A5 (v := .agg #[un]) (N := N0 ||| dz)) fun z => w0.heap.size <= z) (hun.imp fun z hz _ => ⟨hz, Nat.le_trans hsW hz⟩)
           refine BS rfl rfl e51 (hS1.box 2 rfl) (by kernel_rfl) rfl (by simpa using hu1) fun w4 h1 hU => ?_
           have hS2 := (hS1.upd 2 rfl (.box g3 27 #[un]) (Bn hU) ⟨(hS1.holds (.box g3 27 #[u]) (by simp)).1, h1⟩ fun _ e => .inl e)
           simp only [Cc]
           simp only [Act.put, List.setIfInBounds_toArray, List.set_cons_zero, List.set_cons_succ]
           clear hS hS1 h1 hU hW hun e51
           have hS := hS2
           clear hS2
           go_wp2_with fail
           exact ⟨⟨j + 1, un, N0 ||| dz, by go_num, hlj, HI2, (hS.sub (List.sublist_cons_self _ _)).mono ((KS.out.and A5).and (AO A5 fun z => w0.heap.size <= z)) fun D w h => ⟨(kc.out _ _ h.1).1, h.2⟩⟩, by simp [intOf]; omega⟩
        ·have HI2 := Lib.hid (HI.out.ruleN HGj.out (.inl rfl))
         clear hb1 HI
         go_wp2_with (first
          | ((with_reducible refine qB ?_); refine qc ?_ ?_ <;> intro h_ <;> go_prune)
          | ((with_reducible refine qA 36 ?_); refine BigFrame.wpList_want rfl fun _ hK => AM (cs := [.bool _, .slice Ay my cy, .slice Am mn cm, .int .i64 rt, .int .i64 ro]) rfl rfl (FC c0 c1 c2 c3 c4) Tryz.underlying58 rfl (by kernel_rfl) (hK _ _ ?_))
          | ((with_reducible refine qA 8 ?_); refine qa hS #[.bool false, .slice none 0 0, .slice none 0 0, .int .i64 0, .int .i64 0] ?_; clear hS; intro g8 w_ hS)
          | ((with_reducible refine qM ?_); (first | refine qS hS ?_ | refine qT hS ?_); clear hS; intro w_ hS; (try simp only [Act.put, Act.eval, zz, Value.cells] at hS))
          | ((with_reducible refine qk 27 ?_); first | (refine A7 hS 0 rfl _ _ rfl _ _ rfl _ _ rfl _ (by first | rfl | assumption) Tryz.underlying27 rfl (by kernel_rfl) ?_) | (refine A7 hS 1 rfl _ _ rfl _ _ rfl _ _ rfl _ (by first | rfl | assumption) Tryz.underlying27 rfl (by kernel_rfl) ?_) | (refine A7 hS 2 rfl _ _ rfl _ _ rfl _ _ rfl _ (by first | rfl | assumption) Tryz.underlying27 rfl (by kernel_rfl) ?_) | (refine A7 hS 3 rfl _ _ rfl _ _ rfl _ _ rfl _ (by first | rfl | assumption) Tryz.underlying27 rfl (by kernel_rfl) ?_) | (refine A7 hS 4 rfl _ _ rfl _ _ rfl _ _ rfl _ (by first | rfl | assumption) Tryz.underlying27 rfl (by kernel_rfl) ?_) | (refine A7 hS 5 rfl _ _ rfl _ _ rfl _ _ rfl _ (by first | rfl | assumption) Tryz.underlying27 rfl (by kernel_rfl) ?_))
          | ((with_reducible refine qK ?_); refine qC hS ?_)
          | (go_at_call 47; refine (CE _ N0 rt _ _ (kc.out _ _ hS.ro).2.1).mono ?_; rw [<- HB1.out]; rintro r_ w_ ⟨_, rfl, rfl, hb_⟩; replace hS := hS.ext hb_; clear hb_))
         exact ⟨⟨j + 1, u, N0, by go_num, hlj, HI2, (hS.sub (List.sublist_cons_self _ _)).mono ((KS.out.and A5).and (AO A5 fun z => w0.heap.size <= z)) fun D w h => ⟨(kc.out _ _ h).1, (kc.out _ _ h).2.1⟩⟩, by simp [intOf]; omega⟩
       ·obtain rfl : rl.length = j := by omega
        go_wp2_with (first | ((with_reducible refine qB ?_); refine qc ?_ ?_ <;> intro h_ <;> go_prune) | ((with_reducible refine qK ?_); refine qC hS ?_))
        go_loopw [56] (fun i wr => ∃ (j : Nat) (u : Value) (N : Nat), i = .int .i64 (j : Nat) /\ j <= nl.length /\ Hid (CF L ⟨R, some L, st, rl, nl, gl⟩ B N rl.length j) /\ St w0 wr [.box g6 27 #[.slice Ab nb cb], .box g3 27 #[u], .box g2 27 #[.slice none 0 0], .box g1 31 #[.int .i64 R, .pointer (some ⟨q, 0, none⟩), .slice Cs ns cs, .slice Ar rl.length cr, .slice An nl.length cn, .slice Ag gl.length cg]] (fun D w => (K D w /\ A6 w D (.agg #[.slice Ab nb cb]) B) /\ A6 w (fun z => D z /\ w0.heap.size <= z) (.agg #[u]) N)) (fun i _ => nl.length - (intOf i).toNat)
        case atStart => exact ⟨0, u, N0, rfl, by omega, HI, hS⟩
        case round =>
         clear hS HI
         obtain ⟨j, u, N0, rfl, hj, HI, hS⟩ := hrel
         by_cases hlj : j < nl.length
         ·obtain ⟨b, o2, y, n, rfl, _, hb, c0, c1, hy, hn⟩ := (kn _ _ hS.ro.1.1).at_ hlj
          obtain ⟨Ay, my, cy, rfl⟩ := hy.shape
          obtain ⟨Am, mn, cm, rfl⟩ := hn.shape
          have HGj := Lib.hid (AZ (0, 0) hlj)
          obtain ⟨KC, kc, hS2⟩ : ∃ KC : (Nat -> Prop) -> World -> Prop, Hid (∀ D w, KC D w -> (K D w /\ A6 w D (.agg #[.slice Ab nb cb]) B) /\ A6 w (fun z => D z /\ w0.heap.size <= z) (.agg #[u]) N0 /\ AL w D (.agg #[.slice Ay my cy, .slice Am mn cm]) (nl.getD j (0, 0))) /\ St w0 wr [.box g6 27 #[.slice Ab nb cb], .box g3 27 #[u], .box g2 27 #[.slice none 0 0], .box g1 31 #[.int .i64 R, .pointer (some ⟨q, 0, none⟩), .slice Cs ns cs, .slice Ar rl.length cr, .slice (some ⟨b, o2, none⟩) nl.length cn, .slice Ag gl.length cg]] KC := ⟨_, Lib.hid fun D w h => ⟨h.1.1, h.1.2, h.2⟩, hS.add (D := D8 _) Bx ⟨_, _, rfl, hy, hn⟩ fun _ h _ => h⟩
          clear hS hy hn
          have hS := hS2
          clear hS2
          generalize nl.getD j (0, 0) = z at *
          obtain ⟨b1, hb1⟩ : ∃ b, b = (depC L z &&& N0 != 0) := ⟨_, rfl⟩
          have HB1 := Lib.hid hb1
          have HDZ : Hid (depM L (z.1 ||| z.2) = depC L z) := Lib.hid rfl
          cases b1
          ·have HI2 := Lib.hid (HI.out.neverN HGj.out hb1.symm)
           clear hb1 HI
           go_wp2_with (first
            | ((with_reducible refine qB ?_); refine qc ?_ ?_ <;> intro h_ <;> go_prune)
            | ((with_reducible refine qA 59 ?_); refine BigFrame.wpList_want rfl fun _ hK => AM (cs := [.slice Ay my cy, .slice Am mn cm]) rfl rfl (Id c0 c1) Tryz.underlying54 rfl (by kernel_rfl) (hK _ _ ?_))
            | ((with_reducible refine qA 10 ?_); refine qa hS #[.slice none 0 0, .slice none 0 0] ?_; clear hS; intro g10 w_ hS)
            | ((with_reducible refine qA 11 ?_); refine qa hS #[.slice none 0 0] ?_; clear hS; intro g11 w_ hS)
            | ((with_reducible refine qM ?_); (first | refine qS hS ?_ | refine qT hS ?_); clear hS; intro w_ hS; (try simp only [Act.put, Act.eval, zz, Value.cells] at hS))
            | ((with_reducible refine qA 60 ?_); refine BigFrame.wpList_want rfl fun _ hK => AV rfl rfl (hS.box 4 rfl) Tryz.underlying31 rfl (by kernel_rfl) (hK _ _ ?_))
            | ((with_reducible refine qK ?_); refine qL hS Tryz.underlying54 ?_)
            | ((with_reducible refine qk 27 ?_); first | (refine A7 hS 0 rfl _ _ rfl _ _ rfl _ _ rfl _ (by first | rfl | assumption) Tryz.underlying27 rfl (by kernel_rfl) ?_) | (refine A7 hS 1 rfl _ _ rfl _ _ rfl _ _ rfl _ (by first | rfl | assumption) Tryz.underlying27 rfl (by kernel_rfl) ?_) | (refine A7 hS 2 rfl _ _ rfl _ _ rfl _ _ rfl _ (by first | rfl | assumption) Tryz.underlying27 rfl (by kernel_rfl) ?_) | (refine A7 hS 3 rfl _ _ rfl _ _ rfl _ _ rfl _ (by first | rfl | assumption) Tryz.underlying27 rfl (by kernel_rfl) ?_) | (refine A7 hS 4 rfl _ _ rfl _ _ rfl _ _ rfl _ (by first | rfl | assumption) Tryz.underlying27 rfl (by kernel_rfl) ?_) | (refine A7 hS 5 rfl _ _ rfl _ _ rfl _ _ rfl _ (by first | rfl | assumption) Tryz.underlying27 rfl (by kernel_rfl) ?_))
            | (go_at_call 79; have hsW := hS.size; refine (DW (kp _ _ (kc.out _ _ hS.ro).1.1) rfl HH.out (kt _ _ (kc.out _ _ hS.ro).1.1) (kc.out _ _ hS.ro).2.2).mono ?_; rw [HDZ.out]; rintro r_ w_ ⟨_, rfl, h1, hb_⟩; replace hS := hS.ret hb_ A5 h1; obtain ⟨Ad, cd, ld, rfl, -⟩ := hS.ro.2.parts; clear h1 hb_ hsW)
            | (go_at_call 80; refine (Fr _ _ (depC L z) N0 _ _ _ hS.ro.2 (kc.out _ _ hS.ro.1).2.1).mono ?_; rw [<- HB1.out]; rintro r_ w_ ⟨_, rfl, rfl, hb_⟩; replace hS := hS.ext hb_; clear hb_)
            )
           exact ⟨⟨j + 1, u, N0, by go_num, hlj, HI2, (hS.sub ((List.sublist_cons_self _ _).trans (List.sublist_cons_self _ _))).mono ((KS.out.and A5).and (AO A5 fun z => w0.heap.size <= z)) fun D w h => ⟨(kc.out _ _ h.1).1, (kc.out _ _ h.1).2.1⟩⟩, by simp [intOf]; omega⟩
          ·have HI2 := Lib.hid (HI.out.neverY HGj.out hb1.symm)
           clear hb1 HI
           go_wp2_with (first
            | ((with_reducible refine qB ?_); refine qc ?_ ?_ <;> intro h_ <;> go_prune)
            | ((with_reducible refine qA 59 ?_); refine BigFrame.wpList_want rfl fun _ hK => AM (cs := [.slice Ay my cy, .slice Am mn cm]) rfl rfl (Id c0 c1) Tryz.underlying54 rfl (by kernel_rfl) (hK _ _ ?_))
            | ((with_reducible refine qA 10 ?_); refine qa hS #[.slice none 0 0, .slice none 0 0] ?_; clear hS; intro g10 w_ hS)
            | ((with_reducible refine qA 11 ?_); refine qa hS #[.slice none 0 0] ?_; clear hS; intro g11 w_ hS)
            | ((with_reducible refine qM ?_); (first | refine qS hS ?_ | refine qT hS ?_); clear hS; intro w_ hS; (try simp only [Act.put, Act.eval, zz, Value.cells] at hS))
            | ((with_reducible refine qA 60 ?_); refine BigFrame.wpList_want rfl fun _ hK => AV rfl rfl (hS.box 4 rfl) Tryz.underlying31 rfl (by kernel_rfl) (hK _ _ ?_))
            | ((with_reducible refine qK ?_); refine qL hS Tryz.underlying54 ?_)
            | ((with_reducible refine qk 27 ?_); first | (refine A7 hS 0 rfl _ _ rfl _ _ rfl _ _ rfl _ (by first | rfl | assumption) Tryz.underlying27 rfl (by kernel_rfl) ?_) | (refine A7 hS 1 rfl _ _ rfl _ _ rfl _ _ rfl _ (by first | rfl | assumption) Tryz.underlying27 rfl (by kernel_rfl) ?_) | (refine A7 hS 2 rfl _ _ rfl _ _ rfl _ _ rfl _ (by first | rfl | assumption) Tryz.underlying27 rfl (by kernel_rfl) ?_) | (refine A7 hS 3 rfl _ _ rfl _ _ rfl _ _ rfl _ (by first | rfl | assumption) Tryz.underlying27 rfl (by kernel_rfl) ?_) | (refine A7 hS 4 rfl _ _ rfl _ _ rfl _ _ rfl _ (by first | rfl | assumption) Tryz.underlying27 rfl (by kernel_rfl) ?_) | (refine A7 hS 5 rfl _ _ rfl _ _ rfl _ _ rfl _ (by first | rfl | assumption) Tryz.underlying27 rfl (by kernel_rfl) ?_))
            | (go_at_call 79; have hsW := hS.size; refine (DW (kp _ _ (kc.out _ _ hS.ro).1.1) rfl HH.out (kt _ _ (kc.out _ _ hS.ro).1.1) (kc.out _ _ hS.ro).2.2).mono ?_; rw [HDZ.out]; rintro r_ w_ ⟨_, rfl, h1, hb_⟩; replace hS := hS.ret hb_ A5 h1; obtain ⟨Ad, cd, ld, rfl, -⟩ := hS.ro.2.parts; clear h1 hb_ hsW)
            | (go_at_call 80; refine (Fr _ _ (depC L z) N0 _ _ _ hS.ro.2 (kc.out _ _ hS.ro.1).2.1).mono ?_; rw [<- HB1.out]; rintro r_ w_ ⟨_, rfl, rfl, hb_⟩; replace hS := hS.ext hb_; clear hb_)
            | (go_at_call 32; have hsW := hS.size; refine (EY _ _ N0 (depC L z) _ _ _ (kc.out _ _ hS.ro.1).2.1 hS.ro.2).mono ?_; rintro r_ w_ ⟨_, rfl, h1, hb_⟩; replace hS := hS.ret hb_ (AO A5 fun z => w0.heap.size <= z) (h1.imp fun z hz _ => ⟨hz, Nat.le_trans hsW hz⟩); obtain ⟨Ao, co, lo, rfl, -⟩ := hS.ro.2.parts; clear h1 hb_ hsW))
           exact ⟨⟨j + 1, _, N0 ||| depC L z, by go_num, hlj, HI2, (hS.sub ((List.sublist_cons_self _ _).trans (List.sublist_cons_self _ _))).mono ((KS.out.and A5).and (AO A5 fun z => w0.heap.size <= z)) fun D w h => ⟨(kc.out _ _ h.1.1).1, h.2⟩⟩, by simp [intOf]; omega⟩
         ·obtain rfl : nl.length = j := by omega
          obtain ⟨b1, hb1⟩ : ∃ b, b = (N0 == B) := ⟨_, rfl⟩
          have HB1 := Lib.hid hb1
          obtain ⟨Ao, co, lo, he, -⟩ := hS.ro.2.parts
          obtain rfl : u = .slice Ao lo.length co := by injection he with he; simpa using he
          clear he
          cases b1
          ·have hne : ¬ N0 = B := fun e => by rw [e, beq_self_eq_true] at hb1; cases hb1
           have HLT := Lib.hid (HI.out.lt hne)
           have HI2 : Hid (GT L ⟨R, some L, st, rl, nl, gl⟩ N0 /\ ∀ c ∈ gl, Cp (depC L c) N0) := Lib.hid ⟨HI.out.low, HI.out.goal⟩
           clear hb1 hne HI
           go_wp2_with (first
            | ((with_reducible refine qB ?_); refine qc ?_ ?_ <;> intro h_ <;> go_prune)
            | ((with_reducible refine qk 27 ?_); first | (refine A7 hS 0 rfl _ _ rfl _ _ rfl _ _ rfl _ (by first | rfl | assumption) Tryz.underlying27 rfl (by kernel_rfl) ?_) | (refine A7 hS 1 rfl _ _ rfl _ _ rfl _ _ rfl _ (by first | rfl | assumption) Tryz.underlying27 rfl (by kernel_rfl) ?_) | (refine A7 hS 2 rfl _ _ rfl _ _ rfl _ _ rfl _ (by first | rfl | assumption) Tryz.underlying27 rfl (by kernel_rfl) ?_) | (refine A7 hS 3 rfl _ _ rfl _ _ rfl _ _ rfl _ (by first | rfl | assumption) Tryz.underlying27 rfl (by kernel_rfl) ?_) | (refine A7 hS 4 rfl _ _ rfl _ _ rfl _ _ rfl _ (by first | rfl | assumption) Tryz.underlying27 rfl (by kernel_rfl) ?_) | (refine A7 hS 5 rfl _ _ rfl _ _ rfl _ _ rfl _ (by first | rfl | assumption) Tryz.underlying27 rfl (by kernel_rfl) ?_))
            | (go_at_call 19; refine (Ek _ _ N0 B _ _ _ hS.ro.2 hS.ro.1.2).mono ?_; rw [<- HB1.out]; rintro r_ w_ ⟨_, rfl, rfl, hb_⟩; replace hS := hS.ext hb_; clear hb_))
           go_roundg (2 ^ 64 - N0)
           case measure => have := HLT.out; have := HGK.out; omega
           case rel => exact ⟨_, N0, Nat.le_refl _, HI2, (hS.sub (List.sublist_cons_self _ _)).mono (KS.out.and (AO A5 fun z => w0.heap.size <= z)) fun D w h => ⟨h.1.1, h.2⟩⟩
          ·obtain rfl : N0 = B := by simpa using hb1.symm
           have HFIN := Lib.hid HI.out.done
           clear hb1 HI
           go_wp2_with (first
            | ((with_reducible refine qB ?_); refine qc ?_ ?_ <;> intro h_ <;> go_prune)
            | ((with_reducible refine qk 27 ?_); first | (refine A7 hS 0 rfl _ _ rfl _ _ rfl _ _ rfl _ (by first | rfl | assumption) Tryz.underlying27 rfl (by kernel_rfl) ?_) | (refine A7 hS 1 rfl _ _ rfl _ _ rfl _ _ rfl _ (by first | rfl | assumption) Tryz.underlying27 rfl (by kernel_rfl) ?_) | (refine A7 hS 2 rfl _ _ rfl _ _ rfl _ _ rfl _ (by first | rfl | assumption) Tryz.underlying27 rfl (by kernel_rfl) ?_) | (refine A7 hS 3 rfl _ _ rfl _ _ rfl _ _ rfl _ (by first | rfl | assumption) Tryz.underlying27 rfl (by kernel_rfl) ?_) | (refine A7 hS 4 rfl _ _ rfl _ _ rfl _ _ rfl _ (by first | rfl | assumption) Tryz.underlying27 rfl (by kernel_rfl) ?_) | (refine A7 hS 5 rfl _ _ rfl _ _ rfl _ _ rfl _ (by first | rfl | assumption) Tryz.underlying27 rfl (by kernel_rfl) ?_))
            | ((with_reducible refine qM ?_); (first | refine qS hS ?_ | refine qT hS ?_); clear hS; intro w_ hS; (try simp only [Act.put, Act.eval, zz, Value.cells] at hS))
            | (go_at_call 19; refine (Ek _ _ N0 N0 _ _ _ hS.ro.2 hS.ro.1.2).mono ?_; rw [<- HB1.out]; rintro r_ w_ ⟨_, rfl, rfl, hb_⟩; replace hS := hS.ext hb_; clear hb_))
           refine Bj Tryz.results63 rfl (hS.box 2 rfl) Tryz.underlying27 rfl (by kernel_rfl) rfl ?_
           exact AC.mk (by rw [<- HFIN.out]; exact hS.ro.2.imp fun z hz _ => hz.2) hS.below
 ·have HRS : Hid (relS ⟨R, lk, st, rl, nl, gl⟩ = 0) := Lib.hid (by unfold relS; rw [if_neg (fun h => h0 (HE.out.trans h))])
  rw [HRS.out]
  go_enter Tryz.func63, Tryz.ntmps63
  go_wp2_with (first
   | ((with_reducible refine qA 1 ?_); refine Ak hS rfl _ _ rfl (.agg #[.int .i64 R, lp, .slice Cs ns cs, .slice Ar rl.length cr, .slice An nl.length cn, .slice Ag gl.length cg]) _ rfl rfl ?_; clear hS; intro g1 w_ hS; (try simp only [Act.put, Act.eval, zz, Value.cells] at hS))
   | ((with_reducible refine qA 2 ?_); refine qa hS #[.slice none 0 0] ?_; clear hS; intro g2 w_ hS)
   | ((with_reducible refine qA 3 ?_); refine qa hS #[.slice none 0 0] ?_; clear hS; intro g3 w_ hS)
   | ((with_reducible refine qB ?_); refine qc ?_ ?_ <;> intro h_ <;> go_prune)
   | ((with_reducible refine qK ?_); refine qL hS Tryz.underlying31 ?_)
   | ((with_reducible refine qk 27 ?_); first | (refine A7 hS 0 rfl _ _ rfl _ _ rfl _ _ rfl _ (by first | rfl | assumption) Tryz.underlying27 rfl (by kernel_rfl) ?_) | (refine A7 hS 1 rfl _ _ rfl _ _ rfl _ _ rfl _ (by first | rfl | assumption) Tryz.underlying27 rfl (by kernel_rfl) ?_) | (refine A7 hS 2 rfl _ _ rfl _ _ rfl _ _ rfl _ (by first | rfl | assumption) Tryz.underlying27 rfl (by kernel_rfl) ?_) | (refine A7 hS 3 rfl _ _ rfl _ _ rfl _ _ rfl _ (by first | rfl | assumption) Tryz.underlying27 rfl (by kernel_rfl) ?_) | (refine A7 hS 4 rfl _ _ rfl _ _ rfl _ _ rfl _ (by first | rfl | assumption) Tryz.underlying27 rfl (by kernel_rfl) ?_) | (refine A7 hS 5 rfl _ _ rfl _ _ rfl _ _ rfl _ (by first | rfl | assumption) Tryz.underlying27 rfl (by kernel_rfl) ?_))
   | ((with_reducible refine qM ?_); (first | refine qS hS ?_ | refine qT hS ?_); clear hS; intro w_ hS; (try simp only [Act.put, Act.eval, zz, Value.cells] at hS))
   | (go_at_call 31; refine (CI (kp _ _ hS.ro) HP.out (kt _ _ hS.ro)).mono ?_; rw [<- HE.out]; rintro r_ w_ ⟨_, rfl, rfl, hb_⟩; replace hS := hS.ext hb_; clear hb_))
  refine Bj Tryz.results63 rfl (hS.box 1 rfl) Tryz.underlying27 rfl (by kernel_rfl) rfl ?_
  exact AC.mk A6.empty hS.below
end
section
open Go.RowKit
attribute [local go_sem ↓] Go.wp_at_zero Go.wp_at_succ
set_option maxRecDepth 20000
set_option exponentiation.threshold 5000
theorem ty_rules : Bu Tryz.prog 28 58 5 72 := ⟨Tryz.underlying28, by kernel_rfl⟩
theorem vs_len5 {vs : List Value} (h : vs.length = 5) : ∃ x0 x1 x2 x3 x4, vs = [x0, x1, x2, x3, x4] := by
 obtain ⟨x, vs', rfl, h'⟩ := Il h
 obtain ⟨y, z, u, t, rfl⟩ := vs_len4 h'
 exact ⟨x, y, z, u, t, rfl⟩
end
section
open Go.RowKit
attribute [local go_sem ↓] Go.wp_at_zero Go.wp_at_succ
set_option maxRecDepth 20000
set_option exponentiation.threshold 5000
theorem rolesN_lt (r : Nat) : D5 r < 2 ^ (r + 1) := by
 have h1 : 2 ^ (r + 1) - 1 < 2 ^ (r + 1) := by have := Nat.two_pow_pos (r + 1); omega
 unfold D5 del
 split
 ·exact Nat.xor_lt_two_pow h1 (Nat.pow_lt_pow_right (by decide) (by simp))
 ·exact h1
theorem has_roles {r : Nat} {i : Int} (h : Bo (D5 r) i = true) : ∃ t : Nat, i = (t : Int) /\ t <= r := by
 unfold Bo at h
 simp only [Bool.and_eq_true, decide_eq_true_eq] at h
 refine ⟨i.toNat, by omega, ?_⟩
 rcases Nat.lt_or_ge i.toNat (r + 1) with h1 | h1
 ·omega
 ·have := Nat.testBit_lt_two_pow (Nat.lt_of_lt_of_le (rolesN_lt r) (Nat.pow_le_pow_right (by decide) h1))
  rw [this] at h; cases h.2
theorem checkE_known {p : Ae} {L : List (Nat × Nat)} (h : checkE p = 0) (hl : p.links = some L) : (1 <= p.roles /\ p.roles <= 63) /\ DM p L (D5 p.roles.toNat) = true := by
 unfold checkE at h
 rw [hl] at h
 dsimp only at h
 split at h
 ·cases h
 ·rename_i h1
  split at h
  ·cases h
  ·split at h
   ·cases h
   ·rename_i h2
    exact ⟨by omega, by simpa using h2⟩
theorem target_nat {p : Ae} {L : List (Nat × Nat)} (h : checkE p = 0) (hl : p.links = some L) {r : AK} (hr : r ∈ p.rules) : ∃ t : Nat, r.target = (t : Int) /\ t < 64 := by
 obtain ⟨h1, h2⟩ := checkE_known h hl
 unfold DM at h2
 simp only [Bool.and_eq_true] at h2
 obtain ⟨t, e, ht⟩ := has_roles (List.all_eq_true.1 h2.2.2.1 r hr)
 exact ⟨t, e, by omega⟩
theorem cnt_lt {α : Type} {p q : α -> Bool} (h : ∀ x, q x = true -> p x = true) {r : α} (hp : p r = true) (hq : q r = false) : ∀ {l : List α}, r ∈ l -> (l.filter q).length < (l.filter p).length
 | x :: l, hr => by
  have hle : ∀ l : List α, (l.filter q).length <= (l.filter p).length := fun l => by
   induction l with
   | nil => simp
   | cons y l ih =>
    rw [List.filter_cons, List.filter_cons]
    by_cases hy : q y = true
    ·rw [if_pos hy, if_pos (h y hy)]; simpa using ih
    ·rw [if_neg hy]; split
     ·simp; omega
     ·exact ih
  rcases List.mem_cons.1 hr with rfl | hr
  ·rw [List.filter_cons, List.filter_cons, if_neg (by rw [hq]; decide), if_pos hp]
   have := hle l
   simp; omega
  ·have ih := cnt_lt h hp hq hr
   rw [List.filter_cons, List.filter_cons]
   by_cases hy : q x = true
   ·rw [if_pos hy, if_pos (h x hy)]; simpa using ih
   ·rw [if_neg hy]; split
    ·simp; omega
    ·exact ih
theorem IA {L : List (Nat × Nat)} {s i : Nat} : (closM L s).testBit i = true ↔ ∃ r, r < 64 /\ 1 <= r /\ s.testBit r = true /\ (junM L r).testBit i = true := by
 unfold closM; exact Fj
theorem Cp.clos {L : List (Nat × Nat)} {a b : Nat} (h : Cp a b) : Cp (closM L a) (closM L b) := fun i hi => by
 obtain ⟨r, h1, h2, h3, h4⟩ := IA.1 hi
 exact IA.2 ⟨r, h1, h2, h r h3, h4⟩
theorem C2 {a b : Nat} : (a &&& b == a) = true ↔ Cp a b := by
 rw [beq_iff_eq]
 constructor
 ·intro h i hi
  rw [<- h, Nat.testBit_and, Bool.and_eq_true] at hi
  exact hi.2
 ·intro h
  refine AY fun i => ?_
  rw [Nat.testBit_and, Bool.and_eq_true]
  exact ⟨fun h => h.1, fun hi => ⟨hi, h i hi⟩⟩
structure UCl (L : List (Nat × Nat)) (p : Ae) (T : Nat) : Prop where
 start : Cp p.start T
 rules : ∀ r ∈ p.rules, r.revoke = false -> (r.yes &&& closM L T == r.yes) = true -> Bo T r.target = true
def ULow (L : List (Nat × Nat)) (p : Ae) (N : Nat) : Prop := Cp p.start N /\ ∀ T, UCl L p T -> Cp N T
def G0 (L : List (Nat × Nat)) (p : Ae) (N : Nat) : Prop := UCl L p N /\ ∀ T, UCl L p T -> Cp N T
open Classical in
noncomputable def uppM (L : List (Nat × Nat)) (p : Ae) : Nat := if h : ∃ N, G0 L p N then Classical.choose h else 0
theorem G0.eq {L : List (Nat × Nat)} {p : Ae} {N : Nat} (h : G0 L p N) : N = uppM L p := by
 have hx : ∃ N, G0 L p N := ⟨N, h⟩
 have k : G0 L p (uppM L p) := by unfold uppM; rw [dif_pos hx]; exact Classical.choose_spec hx
 exact (h.2 _ k.1).anti (k.2 _ h.1)
theorem ULow.add {L : List (Nat × Nat)} {p : Ae} {N t : Nat} (h : ULow L p N) {r : AK} (hr : r ∈ p.rules) (h1 : r.revoke = false) (h2 : (r.yes &&& closM L N == r.yes) = true) (ht : r.target = (t : Int)) : ULow L p (N ||| 2 ^ t) :=
 ⟨h.1.trans (Cp.left _ _), fun T hT => (h.2 T hT).or fun i hi => by
  have e : i = t := E0.1 hi
  subst e
  have := hT.rules r hr h1 (C2.2 ((C2.1 h2).trans (h.2 T hT).clos))
  rw [ht] at this
  unfold Bo at this
  simp only [Bool.and_eq_true] at this
  simpa using this.2⟩
def Dr (N : Nat) (l : List AK) : Nat := (l.filter fun r => !Bo N r.target).length
theorem J9 {N t : Nat} {l : List AK} {r : AK} (hr : r ∈ l) (ht : r.target = (t : Int)) (hn : Bo N r.target = false) : Dr (N ||| 2 ^ t) l < Dr N l := by
 refine cnt_lt (r := r) (fun x hx => ?_) (by rw [hn]; rfl) ?_ hr
 ·cases hb : Bo N x.target with
  | false => rfl
  | true => rw [(Cp.left N (2 ^ t)).has hb] at hx; cases hx
 ·rw [ht]; simp [Bo]
end
section
open Go.RowKit
set_option exponentiation.threshold 5000
def Hz (N : Nat) (r : AK) : Nat := if r.revoke then del N r.target else Bw N r.target
noncomputable def closP (p : Ae) (N : Nat) : Nat := match p.links with
 | some L => closM L N
 | none => 0
noncomputable def stepB (p : Ae) (N : Nat) (r : AK) : Bool := !(((Bo N r.target != r.revoke) || (!r.revoke && !Bd (r.yes, r.no) (closP p N))) || !goodB p (Hz N r))
noncomputable def stepM (p : Ae) (N : Nat) (k : Int) : Option Nat :=
 if 0 <= k /\ k < p.rules.length /\ p.links.isSome = true then (if stepB p N (p.rules.getD k.toNat Az) = true then some (Hz N (p.rules.getD k.toNat Az)) else none) else none
theorem stepM_none {p : Ae} {N : Nat} {k : Int} (h : ¬ (0 <= k /\ k < p.rules.length /\ p.links.isSome = true)) : stepM p N k = none := if_neg h
theorem stepM_at {p : Ae} {L : List (Nat × Nat)} {N j : Nat} (hl : p.links = some L) (hj : j < p.rules.length) : stepM p N (j : Nat) = if stepB p N (p.rules.getD j Az) = true then some (Hz N (p.rules.getD j Az)) else none := by
 unfold stepM
 rw [if_pos ⟨by omega, by omega, by rw [hl]; rfl⟩, Int.toNat_natCast]
inductive Rch (p : Ae) : Nat -> Prop
 | start : Rch p p.start
 | step {N M : Nat} {k : Int} : Rch p N -> stepM p N k = some M -> Rch p M
theorem sl_pos {w : World} {D : Nat -> Prop} {size n c : Nat} {A : Option Addr} {xs : List Value} (h : Sl w D size (.slice A n c) n xs) (hn : 0 < n) : ∃ b o, A = some ⟨b, o, none⟩ := by
 obtain ⟨_, A', c', e, _, _, h3⟩ := h
 injection e with e _ _
 subst e
 obtain ⟨b, o, e, _⟩ := h3 hn
 exact ⟨b, o, e⟩
end
section
open Go.RowKit
attribute [local go_sem ↓] Go.wp_at_zero Go.wp_at_succ
set_option maxRecDepth 20000
theorem opw_lenS {P : Program} {o : Oper} {a : Act} {w : World} {K : Act -> World -> Prop} {Q : Exit -> Act -> World -> Prop} {t e : TypeId} {x : Operand} {n c : Nat} {A : Option Addr} (ho : o.op = .call { callee := .builtin .len, args := #[x], argTypes := #[t] }) (hx : a.eval x = .slice A n c) (h : P.underlying t = some (.slice e)) (hk : K (a.put o.dst (.int .i64 (n : Nat))) w) : o.wp P a w K Q := by
 have hr : (Builtin.len_ #[t] o.type #[.slice A n c]).run P w = .ok (.int .i64 (n : Nat)) w := by
  simp [Builtin.len_, run_underlying h]; rfl
 unfold Oper.wp execOp
 simp only [ho, resolve, invoke, builtin, Sem.run_bind, Sem.run_pure, Result.andThen_ok, List.map_toArray, List.map_cons, List.map_nil, hx, hr]
 exact hk
end
section
open Go.RowKit
attribute [local go_sem ↓] Go.wp_at_zero Go.wp_at_succ
set_option maxRecDepth 20000
set_option exponentiation.threshold 5000
theorem perm_at : ∀ (F : List Af) (i : Nat) (f g : Af), F[i]? = some f -> (g :: F.eraseIdx i).Perm (F.set i g)
 | [], i, f, g, h => by simp at h
 | x :: F, 0, f, g, h => List.Perm.refl _
 | x :: F, i + 1, f, g, h => (List.Perm.swap x g _).trans ((perm_at F i f g (by simpa using h)).cons x)
theorem set_sameF : ∀ (F : List Af) (i : Nat) (f : Af), F[i]? = some f -> F.set i f = F
 | [], i, f, h => rfl
 | x :: F, 0, f, h => by simp at h; subst h; rfl
 | x :: F, i + 1, f, h => by rw [List.set_cons_succ, set_sameF F i f (by simpa using h)]
theorem St.front {w0 w : World} {F : List Af} {K : (Nat -> Prop) -> World -> Prop} {i : Nat} {f : Af} (h : St w0 w F K) (hi : F[i]? = some f) : St w0 w (f :: F.eraseIdx i) K := h.perm (by
 have h1 := perm_at F i f f hi
 rwa [set_sameF F i f hi] at h1)
section
variable {P : Program} {ops : Array Oper} {rest : List Oper} {o : Oper} {a : Act} {Q : Exit -> Act -> World -> Prop} {w : World}
theorem Gb (hg : Region.wanted o (yielded ops a.tmps) = true) (t t2 : TypeId) (x y : Operand) (ho : o.op = .binOp .and t x y t2) (X Y : Int) (hx : a.eval x = .int .u8 X) (hy : a.eval y = .int .u8 Y) (h1 : 0 <= X /\ X < 256) (h2 : 0 <= Y /\ Y < 256)
  (hk : ∀ z : Nat, z < 256 -> Hid (z = X.toNat &&& Y.toNat) -> wpList P ops Q rest (a.put o.dst (.int .u8 (z : Nat))) w) : wpList P ops Q (o :: rest) a w := by
 refine BigFrame.wpList_want hg fun _ hK => B5 (v := .int .u8 ((X.toNat &&& Y.toNat : Nat) : Int)) ho hx hy rfl ?_ (hK _ _ (hk _ (Nat.lt_of_le_of_lt Nat.and_le_left (by omega)) (Lib.hid rfl)))
 go_simp
 exact u8_and X Y h1.1 h1.2 h2.1 h2.2
theorem st_andnot8 (hg : Region.wanted o (yielded ops a.tmps) = true) (t t2 : TypeId) (x y : Operand) (ho : o.op = .binOp .andNot t x y t2) (X Y : Int) (hx : a.eval x = .int .u8 X) (hy : a.eval y = .int .u8 Y) (h1 : 0 <= X /\ X < 256) (h2 : 0 <= Y /\ Y < 256)
  (hk : ∀ z : Nat, z < 256 -> Hid (z = X.toNat &&& (255 - Y.toNat)) -> wpList P ops Q rest (a.put o.dst (.int .u8 (z : Nat))) w) : wpList P ops Q (o :: rest) a w := by
 refine BigFrame.wpList_want hg fun _ hK => B5 (v := .int .u8 ((X.toNat &&& (255 - Y.toNat) : Nat) : Int)) ho hx hy rfl ?_ (hK _ _ (hk _ (Nat.lt_of_le_of_lt Nat.and_le_left (by omega)) (Lib.hid rfl)))
 go_simp
 exact u8_andNot X Y h1.1 h1.2 h2.1 h2.2
end
theorem and_not8 {a b : Nat} (ha : a < 256) : a &&& (b &&& (255 - a)) = 0 := by
 apply Nat.eq_of_testBit_eq
 intro i
 rw [Nat.testBit_and, Nat.testBit_and, Nat.zero_testBit, show 255 - a = 2 ^ 8 - (a + 1) by omega, Nat.testBit_two_pow_sub_succ (by omega)]
 cases a.testBit i <;> cases b.testBit i <;> simp
theorem Jk {a m : Nat} : a &&& m &&& m = a &&& m := by rw [Nat.and_assoc, Nat.and_self]
theorem Hb (y n m : Nat) (hm : m < 256) (w0 : World) :
  Calls Tryz.prog 91 #[.int .i64 (y : Nat), .int .i64 (n : Nat), .int .u8 (m : Nat)] w0 (AC (fun x _ => ∃ a b : Nat, x = .agg #[.int .u64 (a : Nat), .int .u64 (b : Nat)] /\ a &&& m = a /\ b &&& m = b /\ a &&& b = 0 /\ a < 256 /\ b < 256) w0) := by
 have hS : St w0 w0 [] fun _ _ => True := St.start0
 go_enter Tryz.func91, Tryz.ntmps91
 go_wp2_with (first
  | ((with_reducible refine qA 6 ?_); refine qa hS #[.int .u64 0, .int .u64 0] ?_; clear hS; intro g6 w_ hS)
  | ((with_reducible refine qA 17 ?_); refine Gb rfl _ _ _ _ rfl _ _ rfl rfl (by omega) (by omega) ?_; intro z17 h17 _)
  | ((with_reducible refine qA 19 ?_); refine Gb rfl _ _ _ _ rfl _ _ rfl rfl (by omega) (by omega) ?_; intro z19 h19 e19)
  | ((with_reducible refine qA 28 ?_); refine Gb rfl _ _ _ _ rfl _ _ rfl rfl (by omega) (by omega) ?_; intro z28 h28 _)
  | ((with_reducible refine qA 30 ?_); refine Gb rfl _ _ _ _ rfl _ _ rfl rfl (by omega) (by omega) ?_; intro z30 h30 e30)
  | ((with_reducible refine qA 32 ?_); refine st_andnot8 rfl _ _ _ _ rfl _ _ rfl rfl (by omega) (by omega) ?_; intro z32 h32 e32)
  | ((with_reducible refine qM ?_); (first | refine qS hS ?_ | refine qT hS ?_); clear hS; intro w_ hS; (try simp only [Act.put, Act.eval, zz, Value.cells] at hS)))
 refine Bj Tryz.results91 rfl (hS.box 0 rfl) Tryz.underlying94 rfl (by kernel_rfl) rfl ?_
 have e1 := e19.out
 have e2 := e30.out
 have e3 := e32.out
 simp only [Int.toNat_natCast] at e1 e2 e3
 refine AC.mk ⟨z19, z32, rfl, ?_, ?_, ?_, h19, h32⟩ hS.below
 ·rw [e1, Jk]
 ·rw [e3, e2, Nat.and_assoc, Nat.and_comm (255 - z19), <- Nat.and_assoc, Jk]
 ·rw [e3]; exact and_not8 h19
theorem Sl.byteAt {w : World} {D : Nat -> Prop} {A : Option Addr} {c : Nat} {l : List Nat} (h : Sl w D 1 (.slice A l.length c) l.length (u8s l)) {k : Nat} (hk : k < l.length) : ∃ b o, A = some ⟨b, o, none⟩ /\ w.cell? ⟨b, o + k, none⟩ = some (.int .u8 (l.getD k 0 : Nat)) := by
 obtain ⟨b, o, h1, _, _, h2⟩ := h.byte hk
 exact ⟨b, o, h1, h2 k hk⟩
theorem next_any {w0 w : World} {F : List Af} {K : (Nat -> Prop) -> World -> Prop} {q c at_ : Nat} {A : Option Addr} {l : List Nat} (hl : ∀ x ∈ l, x < 256) (ha : at_ < 1000000) (hS : St w0 w (.box q 144 #[.slice A l.length c, .int .i64 (at_ : Nat)] :: F) K) (kp : ∀ D w, K D w -> Sl w D 1 (.slice A l.length c) l.length (u8s l)) :
  Calls Tryz.prog 89 #[.pointer (some ⟨q, 0, none⟩)] w fun e w' => ∃ b : Nat, b < 256 /\ e = .returned (.int .i64 (b : Nat)) /\ St w0 w' (.box q 144 #[.slice A l.length c, .int .i64 ((at_ + 1 : Nat) : Int)] :: F) K := by
 go_enter Tryz.func89, Tryz.ntmps89
 go_wp2_with (first
  | ((with_reducible refine qK ?_); refine qC hS ?_)
  | ((with_reducible refine qM ?_); (first | refine qS hS ?_ | refine qT hS ?_); clear hS; intro w_ hS; (try simp only [Act.put, Act.eval, zz, Value.cells] at hS)))
 obtain ⟨bo, hbo⟩ : ∃ bo : Bool, decide (((at_ + 1 : Nat) : Int) > (l.length : Nat)) = bo := ⟨_, rfl⟩
 have HBO := Lib.hid hbo
 clear hbo
 refine Cr [.q q 0, .q q 0, .q q 1, .n ((at_ + 1 : Nat) : Int), .q q 0, .q q 0, .q q 0, .i (.slice A l.length c), .n (l.length : Nat), .i (.bool bo)] ⟨uM, uN, uF, uC (h := fun w hW hN => (hS.ext hW).shut 0 rfl 1 rfl), uM, uN, uF, uC (h := fun w hW hN => (hS.ext hW).shut 0 rfl 0 rfl), ?_, uB (h := fun w hW hN => run_gtB HBO.out), trivial⟩ ?_
 ·refine uT fun b__ w hW hE K hK => ?_
  have e17 := hE 17
  exact opw_lenS rfl e17 Tryz.underlying22 (hK _ _ rfl (Below.refl _ _))
 ·intro vs wz hW hT
  obtain ⟨e10, e11, e12, e13, e14, e15, e16, e17, e18, e19, -⟩ := hT
  simp only [AB, Act.put, zz, ze]
  replace hS := hS.ext hW
  clear hW e10 e11 e12 e13 e14 e15 e16 e17 e18
  rw [e19]
  clear e19
  generalize vs 10 = s10, vs 11 = s11, vs 12 = s12, vs 13 = s13, vs 14 = s14, vs 15 = s15, vs 16 = s16, vs 17 = s17, vs 18 = s18
  cases bo with
  | true =>
   go_wp2_with fail
   go_ret
   exact ⟨0, by decide, rfl, hS⟩
  | false =>
   have hlt : at_ < l.length := by have := HBO.out; simp at this; omega
   obtain ⟨b, o, rfl, hb⟩ := (kp _ _ hS.ro).byteAt hlt
   have hB : l.getD at_ 0 < 256 := by rw [List.getD_eq_getElem?_getD, List.getElem?_eq_getElem hlt]; exact hl _ (List.getElem_mem hlt)
   have hk2 : ∀ D w, K D w -> w.cell? ⟨b, o + at_, none⟩ = some (.int .u8 (l.getD at_ 0 : Nat)) := fun D w h => by
    obtain ⟨b', o', e, h2⟩ := (kp D w h).byteAt hlt
    injection e with e
    injection e with e1 e2
    subst e1; subst e2
    exact h2
   clear hb
   generalize l.getD at_ 0 = x at *
   go_wp2_with fail
   refine Cr [.q q 0, .q q 0, .q q 0, .i (.slice (some ⟨b, o, none⟩) l.length c), .q q 0, .q q 0, .q q 1, .n ((at_ + 1 : Nat) : Int), .n (at_ : Nat), .q b (o + (at_) * 1), .i (.int .u8 (x : Nat)), .n (x : Nat), .n (x : Nat)] ⟨uM, uN, uF, uC (h := fun w hW hN => (hS.ext hW).shut 0 rfl 0 rfl), uM, uN, uF, uC (h := fun w hW hN => (hS.ext hW).shut 0 rfl 1 rfl), uB (h := fun w hW hN => by rw [Ec (by omega) (by omega)]; congr 2; omega), uI (h := fun w hW hN => At (m := at_) Tryz.underlying22 (by kernel_rfl) (by omega) (by omega)), uC (h := fun w hW hN => by rw [Nat.mul_one]; exact hk2 _ _ (hS.ext hW).ro), uE (h := fun w hW hN => by go_simp; exact IntWalk.i64_in _ (by omega)), uA, trivial⟩ ?_
   ·intro vs wz hW hT
    obtain ⟨e20, e21, e22, e23, e24, e25, e26, e27, e28, e29, e30, e31, e2, -⟩ := hT
    simp only [AB, Act.put, zz, ze]
    replace hS := hS.ext hW
    rw [e2]
    clear hW
    go_wp2_with fail
    go_ret
    exact ⟨x, hB, rfl, hS⟩
end
section
open Go.RowKit
attribute [local go_sem ↓] Go.wp_at_zero Go.wp_at_succ
set_option maxRecDepth 20000
set_option exponentiation.threshold 5000
theorem st_and64 {P : Program} {ops : Array Oper} {rest : List Oper} {o : Oper} {a : Act} {Q : Exit -> Act -> World -> Prop} {w : World} (hg : Region.wanted o (yielded ops a.tmps) = true) (t t2 : TypeId) (x y : Operand) (ho : o.op = .binOp .and t x y t2) (X Y : Nat) (hx : a.eval x = .int .u64 (X : Nat)) (hy : a.eval y = .int .u64 (Y : Nat)) (h1 : X < B7) (h2 : Y < B7)
  (hk : wpList P ops Q rest (a.put o.dst (.int .u64 ((X &&& Y : Nat) : Int))) w) : wpList P ops Q (o :: rest) a w :=
 BigFrame.wpList_want hg fun _ hK => B5 ho hx hy rfl (run_and64 h1 h2) (hK _ _ hk)
theorem FU {y n s : Nat} (hy : y < B7) (hn : n < B7) (hs : s < B7) (w0 : World) : Calls Tryz.prog 92 #[.agg #[.int .u64 (y : Nat), .int .u64 (n : Nat)], .int .u64 (s : Nat)] w0 (AC (fun x _ => x = .bool (Bd (y, n) s)) w0) := by
 have hS : St w0 w0 [] fun _ _ => True := St.start0
 have e : Bd (y, n) s = (decide ((s &&& y : Nat) = y) && decide ((s &&& n : Nat) = 0)) := by
  unfold Bd
  rw [Nat.and_comm s y, Nat.and_comm s n]
  generalize y &&& s = a
  generalize n &&& s = b
  by_cases h1 : a = y <;> by_cases h2 : b = 0 <;> simp [h1, h2]
 rw [e]
 clear e
 go_enter Tryz.func92, Tryz.ntmps92
 go_wp2_with (first
  | ((with_reducible refine qA 2 ?_); refine Ak hS rfl _ _ rfl (.agg #[.int .u64 (y : Nat), .int .u64 (n : Nat)]) _ rfl rfl ?_; clear hS; intro g2 w_ hS; (try simp only [Act.put, Act.eval, zz, Value.cells] at hS))
  | ((with_reducible refine qK ?_); refine qC hS ?_)
  | ((with_reducible refine qb .and ?_); refine st_and64 rfl _ _ _ _ rfl _ _ rfl rfl (by assumption) (by assumption) ?_)
  | ((with_reducible refine qB ?_); refine qc ?_ ?_ <;> intro h_ <;> go_prune))
 all_goals (go_ret; refine AC.mk ?_ hS.below; congr 1; simp_all; try omega)
theorem rsome_any {w0 : World} {D : Nat -> Prop} {v : Value} {l : List (Nat × Nat)} {s : Nat} (h : BX w0 D v l) (hsm : Small l) (hs : s < B7) : Calls Tryz.prog 81 #[v, .int .u64 (s : Nat)] w0 (AC (fun x _ => x = .bool (l.any fun z => Bd z s)) w0) := by
 obtain ⟨A, c, rfl, _, _⟩ := h.shape
 obtain ⟨K, k1, hS⟩ : ∃ K : (Nat -> Prop) -> World -> Prop, (∀ D w, K D w -> Sl w D 2 (.slice A l.length c) l.length (B0 l)) /\ St w0 w0 [] K := ⟨_, fun _ _ h => h, St.start (AA (by decide)) h⟩
 have HSm := Lib.hid hsm
 clear h hsm
 go_enter Tryz.func81, Tryz.ntmps81
 go_wp2_with fail
 go_loopw [9] (fun i wr => ∃ j : Nat, i = .int .i64 (j : Nat) /\ j <= l.length /\ Hid ((l.take j).any (fun z => Bd z s) = false) /\ St w0 wr [] K) (fun i _ => l.length - (intOf i).toNat)
 case atStart => exact ⟨0, rfl, by omega, Lib.hid (by simp), hS⟩
 case round =>
  clear hS
  obtain ⟨j, rfl, hj, HN, hS⟩ := hrel
  by_cases hlj : j < l.length
  ·obtain ⟨f0, f1⟩ := Da l j hlj
   have hM : l.getD j (0, 0) ∈ l := by rw [List.getD_eq_getElem?_getD, List.getElem?_eq_getElem hlj]; exact List.getElem_mem hlj
   have hz := HSm.out _ hM
   have HT : Hid ((l.take (j + 1)).any (fun z => Bd z s) = Bd (l.getD j (0, 0)) s) := Lib.hid (by rw [Fk l j (0, 0) hlj, List.any_append, HN.out]; simp)
   have HB : Hid (Bd (l.getD j (0, 0)) s = true -> l.any (fun z => Bd z s) = true) := Lib.hid fun h => List.any_eq_true.2 ⟨_, hM, h⟩
   clear hM
   generalize l.getD j (0, 0) = z at *
   obtain ⟨y, n⟩ := z
   dsimp only at f0 f1 hz
   have HH := Lib.hid (fun w => FU hz.1 hz.2 hs w)
   cases hb : Bd (y, n) s with
   | true =>
    have e := HB.out hb
    rw [hb] at HH
    clear hb HB HT HN
    go_wp2_with (first | ((with_reducible refine qB ?_); refine qc ?_ ?_ <;> intro h_ <;> go_prune) | ((with_reducible refine qI ?_); refine qj hS Tryz.underlying35 ?_; intro b_ j_ hc0_ hc1_) | ((with_reducible refine qA 6 ?_); refine Bf hS rfl _ rfl (by kernel_rfl) ?_; clear hS; intro g6 w_ hS; (try simp only [Act.put, Act.eval, zz, Value.cells] at hS)) | ((with_reducible refine qM ?_); (first | refine qS hS ?_ | refine qT hS ?_); clear hS; intro w_ hS; (try simp only [Act.put, Act.eval, zz, Value.cells] at hS)) | ((with_reducible refine qK ?_); refine qL hS Tryz.underlying94 ?_) | (go_at_call 92; refine (HH.out _).mono ?_; rintro r_ w_ ⟨_, rfl, rfl, hb_⟩; replace hS := hS.ext hb_; clear hb_))
    go_ret
    exact AC.mk (show Value.bool true = .bool (l.any fun z => Bd z s) by rw [e]) hS.below
   | false =>
    rw [hb] at HH HT
    clear hb HB HN
    go_wp2_with (first | ((with_reducible refine qB ?_); refine qc ?_ ?_ <;> intro h_ <;> go_prune) | ((with_reducible refine qI ?_); refine qj hS Tryz.underlying35 ?_; intro b_ j_ hc0_ hc1_) | ((with_reducible refine qA 6 ?_); refine Bf hS rfl _ rfl (by kernel_rfl) ?_; clear hS; intro g6 w_ hS; (try simp only [Act.put, Act.eval, zz, Value.cells] at hS)) | ((with_reducible refine qM ?_); (first | refine qS hS ?_ | refine qT hS ?_); clear hS; intro w_ hS; (try simp only [Act.put, Act.eval, zz, Value.cells] at hS)) | ((with_reducible refine qK ?_); refine qL hS Tryz.underlying94 ?_) | (go_at_call 92; refine (HH.out _).mono ?_; rintro r_ w_ ⟨_, rfl, rfl, hb_⟩; replace hS := hS.ext hb_; clear hb_))
    exact ⟨⟨j + 1, by go_num, hlj, HT, hS.sub (List.nil_sublist _)⟩, by simp [intOf]; omega⟩
  ·obtain rfl : l.length = j := by omega
   have e := HN.out
   rw [List.take_length] at e
   go_wp2_with (first | ((with_reducible refine qB ?_); refine qc ?_ ?_ <;> intro h_ <;> go_prune))
   go_ret
   refine AC.mk ?_ hS.below
   rfl
theorem RLinkP.some2 {w0 w' : World} {pv : Value} {L : List (Nat × Nat)} {x y : Nat} {e : Ending} (h : RLinkP w0 pv L (x : Nat) (y : Nat) e w') (ht : twoR (x : Nat) (y : Nat)) :
  ((x, y) ∈ L /\ e = .returned (.tuple #[pv, .int .i64 5]) /\ Below w0.heap.size w0 w') \/ ((x, y) ∉ L /\ TC L y x /\ e = .returned (.tuple #[pv, .int .i64 16]) /\ Below w0.heap.size w0 w') \/
   ((x, y) ∉ L /\ ¬ TC L y x /\ ∃ v, e = .returned (.tuple #[v, .int .i64 0]) /\ St w0 w' [.own v 151 2 (L.length + 1) (A9 (ins L (x, y)))] fun _ _ => True) := by
 rcases h with ⟨h, _⟩ | ⟨a, b, h1, h2, _, _, _, h⟩
 ·exact absurd ht h
 ·obtain rfl : x = a := by omega
  obtain rfl : y = b := by omega
  exact h
def Jn (R : Nat) (L : List (Nat × Nat)) : Prop := ∀ z ∈ L, 1 <= z.1 /\ z.1 < z.2 /\ z.2 <= R
theorem rlink_st {w0 w : World} {F : List Af} {K : (Nat -> Prop) -> World -> Prop} {pv : Value} {L : List (Nat × Nat)} {x y R : Nat} (hH : FO L) (hR : Jn R L) (h1 : 1 <= x) (h2 : x < y) (h3 : y <= R) (h4 : R < 64) (hl : L.length <= 1000) (hS : St w0 w F K) (kp : ∀ D w, K D w -> Sl w D 2 pv L.length (A9 L)) :
  Calls Tryz.prog 90 #[pv, .int .i64 (x : Nat), .int .i64 (y : Nat)] w fun e w' => ∃ (v : Value) (z : Int) (L' : List (Nat × Nat)), e = .returned (.tuple #[v, .int .i64 z]) /\ FO L' /\ Jn R L' /\ L'.length <= L.length + 1 /\ St w0 w' F fun D w => K D w /\ Sl w D 2 v L'.length (A9 L') := by
 have KS := hS.stable
 refine (rlink_any (kp _ _ hS.ro) hH.inr (by omega) x y).mono ?_
 intro e w' h
 have hsame : ∀ z : Int, e = .returned (.tuple #[pv, .int .i64 z]) -> Below w.heap.size w w' -> ∃ (v : Value) (z : Int) (L' : List (Nat × Nat)), e = .returned (.tuple #[v, .int .i64 z]) /\ FO L' /\ Jn R L' /\ L'.length <= L.length + 1 /\ St w0 w' F fun D w => K D w /\ Sl w D 2 v L'.length (A9 L') :=
  fun z h hb => ⟨pv, z, L, h, hH, hR, by omega, (hS.ext hb).mono (KS.and (AA (by decide))) fun D w h => ⟨h, kp D w h⟩⟩
 rcases h.some2 ⟨⟨by omega, by omega⟩, ⟨by omega, by omega⟩, by omega⟩ with ⟨-, a, b⟩ | ⟨-, -, a, b⟩ | ⟨k1, k2, v, a, b⟩
 ·exact hsame _ a b
 ·exact hsame _ a b
 ·refine ⟨v, 0, _, a, hH.ins ⟨h1, by omega⟩ ⟨by omega, by omega⟩ (by omega) k1 k2, fun z hz => ?_, by rw [ins_len]; omega, ?_⟩
  ·rcases (Ip.1 hz) with h | h
   ·subst h; exact ⟨h1, h2, h3⟩
   ·exact hR z h
  ·have hn := (hS.new b.below (.own v 151 2 (L.length + 1) (A9 (ins L (x, y)))) (b.own 0 rfl)).freeze 0 (by decide) rfl
   rw [ins_len]
   exact hn
def AQ (l : List AK) : List Value := l.flatMap fun z => [.bool z.revoke, .int .u64 (z.yes : Nat), .int .u64 (z.no : Nat), .int .i64 z.target, .int .i64 z.origin]
theorem EV (a b : List AK) : AQ (a ++ b) = AQ a ++ AQ b := by simp [AQ]
theorem rrcells_at (l : List AK) (k : Nat) (z : AK) (h : l[k]? = some z) : (AQ l)[k * 5]? = some (.bool z.revoke) /\ (AQ l)[k * 5 + 1]? = some (.int .u64 (z.yes : Nat)) /\ (AQ l)[k * 5 + 2]? = some (.int .u64 (z.no : Nat)) /\ (AQ l)[k * 5 + 3]? = some (.int .i64 z.target) /\ (AQ l)[k * 5 + 4]? = some (.int .i64 z.origin) := by
 induction l generalizing k with
 | nil => simp at h
 | cons y r ih =>
  cases k with
  | zero => simp at h; subst h; simp [AQ]
  | succ k =>
   have := ih k (by simpa using h)
   rw [show (k + 1) * 5 = k * 5 + 5 by omega]
   simpa [AQ] using this
def Bb (w : World) (D : Nat -> Prop) (v : Value) (p : Ae) : Prop :=
 ∃ lv rv nv gv L, v = .agg #[.int .i64 p.roles, lv, .int .u64 (p.start : Nat), rv, nv, gv] /\ p.links = some L /\ Sl w D 2 lv L.length (A9 L) /\ Sl w D 5 rv p.rules.length (AQ p.rules) /\ BX w D nv p.never /\ BX w D gv p.goal
theorem Dg {v : Value} {l : List (Nat × Nat)} : AH fun D w => BX w D v l := AA (by decide)
theorem Bg {v : Value} {p : Ae} : AH fun D w => Bb w D v p := fun D D' w w' h a b c => by
 obtain ⟨lv, rv, nv, gv, L, h1, h2, h3, h4, h5, h6⟩ := h
 exact ⟨lv, rv, nv, gv, L, h1, h2, AA (by decide) D D' w w' h3 a b c, AA (by decide) D D' w w' h4 a b c, Dg D D' w w' h5 a b c, Dg D D' w w' h6 a b c⟩
end
section
open Go.RowKit
attribute [local go_sem ↓] Go.wp_at_zero Go.wp_at_succ
set_option maxRecDepth 20000
set_option exponentiation.threshold 5000
section
variable {P : Program} {ops : Array Oper} {rest : List Oper} {o : Oper} {a : Act} {Q : Exit -> Act -> World -> Prop} {w : World}
theorem Ea (hg : Region.wanted o (yielded ops a.tmps) = true) (op : BinOp) (t t2 : TypeId) (x y : Operand) (ho : o.op = .binOp op t x y t2) {vx vy : Value} (hx : a.eval x = vx) (hy : a.eval y = vy) {k : IntKind} (p : Nat -> Prop) {z : Nat} (he : (eqGuard op t x y vx vy).run P w = .ok () w) (hr : (binOp op t vx vy).run P w = .ok (.int k (z : Nat)) w) (hp : p z)
  (hk : ∀ z : Nat, p z -> wpList P ops Q rest (a.put o.dst (.int k (z : Nat))) w) : wpList P ops Q (o :: rest) a w :=
 BigFrame.wpList_want hg fun _ hK => B5 ho hx hy he hr (hK _ _ (hk z hp))
theorem Dh (hg : Region.wanted o (yielded ops a.tmps) = true) (t t2 : TypeId) (x y : Operand) (ho : o.op = .binOp .rem t x y t2) {n m : Nat} (hx : a.eval x = .int .i64 (n : Nat)) (hy : a.eval y = .int .i64 (m : Nat)) (hm : 0 < m)
  (hk : ∀ z : Nat, z < m -> wpList P ops Q rest (a.put o.dst (.int .i64 (z : Nat))) w) : wpList P ops Q (o :: rest) a w :=
 Ea hg _ t t2 x y ho hx hy (fun z => z < m) (z := n % m) rfl (by rw [Hd (by omega) (by omega)]; rfl) (Nat.mod_lt _ hm) hk
theorem st_addN (hg : Region.wanted o (yielded ops a.tmps) = true) (t t2 : TypeId) (x y : Operand) (ho : o.op = .binOp .add t x y t2) {n m : Nat} (p : Nat -> Prop) (hx : a.eval x = .int .i64 (n : Nat)) (hy : a.eval y = .int .i64 (m : Nat)) (hb : n + m < 9223372036854775808) (hp : p (n + m))
  (hk : ∀ z : Nat, p z -> wpList P ops Q rest (a.put o.dst (.int .i64 (z : Nat))) w) : wpList P ops Q (o :: rest) a w :=
 Ea hg _ t t2 x y ho hx hy p (z := n + m) rfl (by rw [run_add64 (by omega) (by omega)]; rfl) hp hk
end
theorem st_someB {P : Program} {ops : Array Oper} {rest : List Oper} {o : Oper} {a : Act} {Q : Exit -> Act -> World -> Prop} {w : World} (hg : Region.wanted o (yielded ops a.tmps) = true) (op : BinOp) (t t2 : TypeId) (x y : Operand) (ho : o.op = .binOp op t x y t2) {vx vy : Value} (hx : a.eval x = vx) (hy : a.eval y = vy) {b : Bool} (he : (eqGuard op t x y vx vy).run P w = .ok () w) (hr : (binOp op t vx vy).run P w = .ok (.bool b) w)
  (hk : ∀ b : Bool, wpList P ops Q rest (a.put o.dst (.bool b)) w) : wpList P ops Q (o :: rest) a w :=
 BigFrame.wpList_want hg fun _ hK => B5 ho hx hy he hr (hK _ _ (hk b))
theorem II {P : Program} {w : World} {g i : Nat} {t ty : TypeId} {cs : Array Value} {u v : Value} (hb : Ch w g t cs) (hi : i + 1 < cs.size) (h1 : u.oneCell' = true) (h2 : v.oneCell' = true) (hs : (P.info? ty).map (·.size) = some 2) :
  (Instr.storeAt ty (.pointer (some ⟨g, i, none⟩)) (.agg #[u, v])).run P w = .ok () ((w.setCell ⟨g, i, none⟩ u).setCell ⟨g, i + 1, none⟩ v) := by
 have := run_storeCells_cells (P := P) g i [u, v] 0 w (fun j hj => by have hc := hb.cell (i + j); simp at hj; simp [hc]; omega) (fun j hj => hb.free _) (by simpa using ⟨h1, h2⟩)
 cases hq : P.info? ty with
 | none => simp [hq] at hs
 | some inf =>
  have hs' : inf.size = 2 := by simpa [hq] using hs
  simp only [Nat.add_zero] at this
  simp [Instr.storeAt, Instr.sureAddr, storeVar, sizeOf, typeInfo, hq, Value.cells, hs', this, World.setCells]
theorem st_bstore2 {P : Program} {ops : Array Oper} {rest : List Oper} {o : Oper} {a : Act} {Q : Exit -> Act -> World -> Prop} {w0 w : World} {F : List Af} {K : (Nat -> Prop) -> World -> Prop} (h : St w0 w F K) (i : Nat) (hg : Region.wanted o (yielded ops a.tmps) = true) (ty : TypeId) (x y : Operand) (ho : o.op = .store ty x y) (g j : Nat) (u v : Value) (hx : a.eval x = .pointer (some ⟨g, j, none⟩)) (hy : a.eval y = .agg #[u, v]) {t : TypeId} {cs : Array Value} (hb : F[i]? = some (.box g t cs)) (hi : j + 1 < cs.size)
  (h1 : u.oneCell' = true) (h2 : v.oneCell' = true) (hs : (P.info? ty).map (·.size) = some 2) (hk : ∀ w', St w0 w' (F.set i (.box g t ((cs.setIfInBounds j u).setIfInBounds (j + 1) v))) K -> wpList P ops Q rest (a.put o.dst undef) w') : wpList P ops Q (o :: rest) a w := by
 refine BigFrame.wpList_want hg fun _ hK => ?_
 have hX := h.box i hb
 unfold Oper.wp execOp
 simp only [ho, hx, hy, Sem.run_bind, II hX hi h1 h2 hs, Result.andThen_ok]
 refine hK _ _ (hk _ (h.upd i hb _ (Bn (Ig.trans (BO w g j u) (BO _ g (j + 1) v))) ⟨(h.holds _ (List.mem_of_getElem? hb)).1, (hX.setC u).setC v⟩ fun _ e => .inl e))
theorem H4 : Bu Tryz.prog 34 96 5 40 := ⟨Tryz.underlying34, by kernel_rfl⟩
def ROk (R m : Nat) (z : AK) : Prop := (1 <= z.target /\ z.target <= R) /\ (0 <= z.origin /\ z.origin < 7) /\ z.yes &&& m = z.yes /\ z.no &&& m = z.no /\ z.yes &&& z.no = 0 /\ z.yes < 256 /\ z.no < 256 /\ (z.revoke = true -> z.yes = 0 /\ z.no = 0)
def KOk (m : Nat) (z : Nat × Nat) : Prop := z.1 &&& m = z.1 /\ z.2 &&& m = z.2 /\ z.1 &&& z.2 = 0 /\ z.1 < 256 /\ z.2 < 256
def Bc (R : Nat) : Nat := 2 ^ (R + 1) - 2
theorem run_maskshl {w : World} {R : Nat} (h : R <= 5) : (binOp .shl 5 (.int .u8 2) (.int .u64 (R : Nat))).run Tryz.prog w = .ok (.int .u8 ((2 ^ (R + 1) : Nat) : Int)) w := by
 match R, h with
 | 0, _ => go_simp; rfl
 | 1, _ => go_simp; rfl
 | 2, _ => go_simp; rfl
 | 3, _ => go_simp; rfl
 | 4, _ => go_simp; rfl
 | 5, _ => go_simp; rfl
theorem run_msub {w : World} {R : Nat} (h0 : 2 <= R) (h : R <= 5) : (binOp .sub 5 (.int .u8 ((2 ^ (R + 1) : Nat) : Int)) (.int .u8 2)).run Tryz.prog w = .ok (.int .u8 (Bc R : Nat)) w := by
 match R, h0, h with
 | 2, _, _ => go_simp; rfl
 | 3, _, _ => go_simp; rfl
 | 4, _, _ => go_simp; rfl
 | 5, _, _ => go_simp; rfl
theorem run_shrN {P : Program} {w : World} {t : TypeId} {n k : Nat} (hk : k < 64) : (binOp .shr t (.int .i64 (n : Nat)) (.int .u64 (k : Nat))).run P w = .ok (.int .i64 ((n / 2 ^ k : Nat) : Int)) w := by
 go_simp
theorem Co {w0 w : World} {F : List Af} {K : (Nat -> Prop) -> World -> Prop} {q c at_ : Nat} {A : Option Addr} {l : List Nat} (hl : ∀ x ∈ l, x < 256) (ha : at_ < 1000000) (hS : St w0 w F K) (i : Nat) (hi : F[i]? = some (.box q 144 #[.slice A l.length c, .int .i64 (at_ : Nat)])) (kp : ∀ D w, K D w -> Sl w D 1 (.slice A l.length c) l.length (u8s l)) :
  Calls Tryz.prog 89 #[.pointer (some ⟨q, 0, none⟩)] w fun e w' => ∃ b : Nat, b < 256 /\ e = .returned (.int .i64 (b : Nat)) /\ St w0 w' (F.set i (.box q 144 #[.slice A l.length c, .int .i64 ((at_ + 1 : Nat) : Int)])) K := by
 refine (next_any hl ha (hS.front hi) kp).mono ?_
 rintro e w' ⟨b, h1, h2, h3⟩
 exact ⟨b, h1, h2, h3.perm (perm_at F i _ _ hi).symm⟩
theorem run_shl2 {w : World} {t : TypeId} {R : Nat} (h : R < 5) : (binOp .shl t (.int .i64 2) (.int .u64 (R : Nat))).run Tryz.prog w = .ok (.int .i64 ((2 ^ (R + 1) : Nat) : Int)) w := by
 match R, h with
 | 0, _ => go_simp; rfl
 | 1, _ => go_simp; rfl
 | 2, _ => go_simp; rfl
 | 3, _ => go_simp; rfl
 | 4, _ => go_simp; rfl
theorem i64_or_nat (a b : Nat) (ha : a < 256) (hb : b < 256) : bits .or .i64 (a : Int) (b : Int) = ((a ||| b : Nat) : Int) := by
 have hx : a ||| b < 2 ^ 8 := Nat.or_lt_two_pow (by omega) (by omega)
 show IntKind.i64.wrap ((BitVec.ofInt 64 (a : Int) ||| BitVec.ofInt 64 (b : Int)).toNat : Int) = _
 rw [BitVec.toNat_or, show BitVec.ofInt 64 (a : Int) = BitVec.ofNat 64 a from BitVec.ofInt_natCast .., show BitVec.ofInt 64 (b : Int) = BitVec.ofNat 64 b from BitVec.ofInt_natCast .., BitVec.toNat_ofNat, BitVec.toNat_ofNat, Nat.mod_eq_of_lt (by omega), Nat.mod_eq_of_lt (by omega)]
 exact wrap_i64_nat (by omega)
theorem run_orN {w : World} {t : TypeId} {a b : Nat} (ha : a < 256) (hb : b < 256) : (binOp .or t (.int .i64 (a : Nat)) (.int .i64 (b : Nat))).run Tryz.prog w = .ok (.int .i64 ((a ||| b : Nat) : Int)) w := by
 go_simp
 exact i64_or_nat a b ha hb
theorem Dz (L : List (Nat × Nat)) (s : Nat) : closM L s < B7 := by rw [BD]; exact Fv L s 64
structure BJ (p : Ae) (L : List (Nat × Nat)) (R : Nat) : Prop where
 links : p.links = some L
 roles : p.roles = (R : Int)
 r2 : 2 <= R
 r5 : R <= 5
 hok : FO L
 inr : Jn R L
 len : L.length <= 25
 start : p.start &&& Bc R = p.start
 rlen : p.rules.length <= 6
 rules : ∀ z ∈ p.rules, ROk R (Bc R) z
 nlen : p.never.length <= 3
 never : ∀ z ∈ p.never, KOk (Bc R) z /\ Bd z (closM L p.start) = false
 glen : p.goal.length <= 3
 gpos : 1 <= p.goal.length
 goal : ∀ z ∈ p.goal, KOk (Bc R) z
theorem Gi (l : List AK) (b : Bool) (y n : Nat) (t o : Int) : AQ (l ++ [⟨b, y, n, t, o⟩]) = AQ l ++ [.bool b, .int .u64 (y : Nat), .int .u64 (n : Nat), .int .i64 t, .int .i64 o] := by rw [EV]; rfl
theorem Hu (l : List (Nat × Nat)) (y n : Nat) : B0 (l ++ [(y, n)]) = B0 l ++ [.int .u64 (y : Nat), .int .u64 (n : Nat)] := by rw [E7]; rfl
theorem ty_mkc : Bu Tryz.prog 35 94 2 16 := ⟨Tryz.underlying35, by kernel_rfl⟩
theorem GL {α : Type} {P : α -> Prop} {l : List α} {x : α} (h : ∀ z ∈ l, P z) (hx : P x) : ∀ z ∈ l ++ [x], P z := fun z hz => by
 rcases List.mem_append.1 hz with h1 | h1
 ·exact h z h1
 ·rw [List.mem_singleton.1 h1]; exact hx
set_option maxHeartbeats 4000000 in
theorem Hs {w0 w : World} {F : List Af} {K : (Nat -> Prop) -> World -> Prop} {v : Value} {l : List Nat} (hl : ∀ x ∈ l, x < 256) (hS : St w0 w F K) (kp : ∀ D w, K D w -> Sl w D 1 v l.length (u8s l)) :
  Calls Tryz.prog 50 #[v] w fun e w' => ∃ u p L R, e = .returned u /\ BJ p L R /\ St w0 w' F fun D w => K D w /\ Bb w D u p := by
 obtain ⟨A, c, rfl, hc1, hc2⟩ := (kp _ _ hS.ro).shape
 have HL := Lib.hid hl
 have KS := Lib.hid hS.stable
 clear hl
 go_enter Tryz.func50, Tryz.ntmps50
 go_wp2_with (first
  | ((with_reducible refine qA 2 ?_); refine qa hS #[.int .i64 0, .slice none 0 0, .int .u64 0, .slice none 0 0, .slice none 0 0, .slice none 0 0] ?_; clear hS; intro g2 w_ hS)
  | ((with_reducible refine qA 27 ?_); refine AE rfl _ _ rfl #[.slice A l.length c, .int .i64 0] (by kernel_rfl) ?_; (try simp only [Act.put, List.setIfInBounds_toArray, List.set_cons_zero, List.set_cons_succ]))
  | ((with_reducible refine qA 28 ?_); refine Ak hS rfl _ _ rfl (.agg #[.slice A l.length c, .int .i64 0]) _ rfl rfl ?_; clear hS; intro q w_ hS; (try simp only [Act.put, Act.eval, zz, Value.cells] at hS))
  | (go_at_call 89; first
    | (refine (Co (at_ := 0) HL.out (by omega) hS 0 rfl kp).mono ?_; clear hS; rintro e w_ ⟨b, hb, rfl, hS⟩; replace hS : St w0 w_ (.box q 144 #[.slice A l.length c, .int .i64 1] :: .box g2 37 #[.int .i64 0, .slice none 0 0, .int .u64 0, .slice none 0 0, .slice none 0 0, .slice none 0 0] :: F) K := hS)
    | (refine (Co (at_ := 1) HL.out (by omega) hS 1 rfl kp).mono ?_; clear hS; rintro e w_ ⟨lk, hlk, rfl, hS⟩; replace hS : St w0 w_ (.box g4 37 #[.int .i64 (R : Nat), .slice none 0 0, .int .u64 0, .slice none 0 0, .slice none 0 0, .slice none 0 0] :: .box q 144 #[.slice A l.length c, .int .i64 2] :: .box g2 37 #[.int .i64 0, .slice none 0 0, .int .u64 0, .slice none 0 0, .slice none 0 0, .slice none 0 0] :: F) K := hS))
  | ((with_reducible refine qA 31 ?_); refine Dh (m := 4) rfl _ _ _ _ rfl rfl rfl (by decide) ?_; intro r4 hr4)
  | ((with_reducible refine qA 32 ?_); refine st_addN (n := 2) rfl _ _ _ _ rfl (fun z => 2 <= z /\ z <= 5) rfl rfl (by omega) (by omega) ?_; intro R hR)
  | ((with_reducible refine qA 33 ?_); refine AE rfl _ _ rfl #[.int .i64 (R : Nat), .slice none 0 0, .int .u64 0, .slice none 0 0, .slice none 0 0, .slice none 0 0] (by kernel_rfl) ?_; (try simp only [Act.put, List.setIfInBounds_toArray, List.set_cons_zero, List.set_cons_succ]))
  | ((with_reducible refine qA 4 ?_); refine qa hS #[.int .i64 0, .slice none 0 0, .int .u64 0, .slice none 0 0, .slice none 0 0, .slice none 0 0] ?_; clear hS; intro g4 w_ hS)
  | ((with_reducible refine qM ?_); (first | refine qS hS ?_ | refine qT hS ?_); clear hS; intro w_ hS; (try simp only [Act.put, Act.eval, zz, Value.cells] at hS))
  | ((with_reducible refine qK ?_); refine qC hS ?_)
  | ((with_reducible refine qA 37 ?_); refine BigFrame.wpList_want rfl fun _ hK => B5 (vx := .int .u8 2) (vy := .int .u64 (R : Nat)) rfl rfl rfl rfl (run_maskshl hR.2) (hK _ _ ?_))
  | ((with_reducible refine qA 38 ?_); refine Ea (k := .u8) rfl _ _ _ _ _ rfl rfl rfl (fun z => z < 256 /\ Hid (z = Bc R)) (z := Bc R) rfl (run_msub hR.1 hR.2) ⟨by unfold Bc; have := Nat.pow_le_pow_right (n := 2) (by decide) (show R + 1 <= 6 by omega); omega, Lib.hid rfl⟩ ?_; rintro m ⟨hm, HM⟩))
 have h64 : R < 64 := by omega
 replace hS := hS.mono (KS.out.and (AA (by decide) (size := 2) (v := .slice none 0 0) (n := 0) (xs := A9 []))) fun D w h => ⟨h, Sl.none_⟩
 go_loopw [7, 8, 9] (fun nv av cv wr => ∃ (a n : Nat) (pv : Value) (L : List (Nat × Nat)), av = .int .i64 (a : Nat) /\ nv = .int .i64 (n : Nat) /\ 1 <= a /\ a <= R /\ n <= 5 * (a - 1) /\ L.length <= n /\ Hid (FO L) /\ Hid (Jn R L) /\ St w0 wr (.box g4 37 #[.int .i64 (R : Nat), pv, .int .u64 0, .slice none 0 0, .slice none 0 0, .slice none 0 0] :: .box q 144 #[.slice A l.length c, .int .i64 2] :: .box g2 37 #[.int .i64 0, .slice none 0 0, .int .u64 0, .slice none 0 0, .slice none 0 0, .slice none 0 0] :: F) fun D w => K D w /\ Sl w D 2 pv L.length (A9 L)) (fun _ av _ _ => R - (intOf av).toNat)
 case atStart => exact ⟨1, 0, _, [], rfl, rfl, by omega, by omega, by omega, by simp, Lib.hid FO.nil, Lib.hid (fun z hz => by simp at hz), hS⟩
 case round =>
  clear hS
  obtain ⟨a, n, pv, L, rfl, rfl, ha1, haR, hn, hLn, HH, HR, hS⟩ := hrel
  by_cases haR2 : a < R
  ·go_wp2_with (first | ((with_reducible refine qB ?_); refine qc ?_ ?_ <;> intro h_ <;> go_prune) | ((with_reducible refine qK ?_); refine qC hS ?_))
   go_loopw [7, 9] (fun nv cv wr => ∃ (d n : Nat) (pv : Value) (L : List (Nat × Nat)), cv = .int .i64 (d : Nat) /\ nv = .int .i64 (n : Nat) /\ a + 1 <= d /\ d <= R + 1 /\ n + a + 1 <= 5 * (a - 1) + d /\ L.length <= n /\ Hid (FO L) /\ Hid (Jn R L) /\ St w0 wr (.box g4 37 #[.int .i64 (R : Nat), pv, .int .u64 0, .slice none 0 0, .slice none 0 0, .slice none 0 0] :: .box q 144 #[.slice A l.length c, .int .i64 2] :: .box g2 37 #[.int .i64 0, .slice none 0 0, .int .u64 0, .slice none 0 0, .slice none 0 0, .slice none 0 0] :: F) fun D w => K D w /\ Sl w D 2 pv L.length (A9 L)) (fun _ cv _ => R + 1 - (intOf cv).toNat)
   case atStart => exact ⟨a + 1, n, pv, L, by go_num, rfl, by omega, by omega, by omega, hLn, HH, HR, hS⟩
   case round =>
    clear hS HH HR hLn hn
    obtain ⟨d, n, pv, L, rfl, rfl, hd1, hdR, hn, hLn, HH, HR, hS⟩ := hrel
    by_cases hdR2 : d <= R
    ·go_wp2_with (first
      | ((with_reducible refine qK ?_); refine qC hS ?_)
      | ((with_reducible refine qA 57 ?_); refine Dh (m := 8) rfl _ _ _ _ rfl rfl rfl (by decide) ?_; intro z57 h57)
      | ((with_reducible refine qA 59 ?_); refine Ea (k := .i64) rfl _ _ _ _ _ rfl rfl rfl (fun _ => True) rfl (run_shrN (k := z57) (by omega)) trivial ?_; intro z59 _)
      | ((with_reducible refine qA 60 ?_); refine Dh (m := 2) rfl _ _ _ _ rfl rfl rfl (by decide) ?_; intro z60 h60)
      | ((with_reducible refine qA 64 ?_); refine Dh (m := 3) rfl _ _ _ _ rfl rfl rfl (by decide) ?_; intro z64 h64_)
      | ((with_reducible refine qB ?_); refine qc ?_ ?_ <;> intro h_ <;> go_prune)
      | (go_at_call 90; refine (rlink_st HH.out HR.out ha1 (by omega) hdR2 h64 (by omega) hS (fun D w h => h.2)).mono ?_; clear hS; rintro e w_ ⟨v2, z2, L2, rfl, HH2, HR2, hl2, hS⟩; replace HH2 := Lib.hid HH2; replace HR2 := Lib.hid HR2; obtain ⟨A2, c2, rfl, _, _⟩ := hS.ro.2.shape)
      | ((with_reducible refine qM ?_); (first | refine qS hS ?_ | refine qT hS ?_); clear hS; intro w_ hS; (try simp only [Act.put, Act.eval, zz, Value.cells] at hS)))
     all_goals first
      | exact ⟨⟨d + 1, n + 1, _, L2, by go_num, by go_num, by omega, by omega, by omega, by omega, HH2, HR2, hS.mono (KS.out.and (AA (by decide))) fun D w h => ⟨h.1.1, h.2⟩⟩, by simp [intOf]; omega⟩
      | exact ⟨⟨d + 1, n + 1, pv, L, by go_num, by go_num, by omega, by omega, by omega, by omega, HH, HR, hS⟩, by simp [intOf]; omega⟩
    ·go_wp2_with (first | ((with_reducible refine qB ?_); refine qc ?_ ?_ <;> intro h_ <;> go_prune) | ((with_reducible refine qK ?_); refine qC hS ?_))
     exact ⟨⟨a + 1, n, pv, L, by go_num, rfl, by omega, by omega, by omega, by omega, HH, HR, hS⟩, by simp [intOf]; omega⟩
  ·have hnn : n <= 25 := by omega
   clear ha1 haR hn hc1 hc2
   go_wp2_with (first
    | ((with_reducible refine qB ?_); refine qc ?_ ?_ <;> intro h_ <;> go_prune)
    | ((with_reducible refine qK ?_); refine qC hS ?_)
    | (go_at_call 89; first | (refine (Co (at_ := 2) HL.out (by omega) hS 1 rfl (fun D w h => kp D w h.1)).mono ?_; clear hS; rintro e w_ ⟨b3, hb3, rfl, hS⟩; replace hS : St w0 w_ (.box g4 37 #[.int .i64 (R : Nat), pv, .int .u64 0, .slice none 0 0, .slice none 0 0, .slice none 0 0] :: .box q 144 #[.slice A l.length c, .int .i64 ((2 + 1 : Nat) : Int)] :: .box g2 37 #[.int .i64 0, .slice none 0 0, .int .u64 0, .slice none 0 0, .slice none 0 0, .slice none 0 0] :: F) (fun D w => K D w /\ Sl w D 2 pv L.length (A9 L)) := hS) | (refine (Co (at_ := 2 + 1) HL.out (by omega) hS 1 rfl (fun D w h => kp D w h.1)).mono ?_; clear hS; rintro e w_ ⟨b4, hb4, rfl, hS⟩; replace hS : St w0 w_ (.box g4 37 #[.int .i64 (R : Nat), pv, .int .u64 (s0 : Nat), .slice none 0 0, .slice none 0 0, .slice none 0 0] :: .box q 144 #[.slice A l.length c, .int .i64 ((2 + 1 + 1 : Nat) : Int)] :: .box g2 37 #[.int .i64 0, .slice none 0 0, .int .u64 0, .slice none 0 0, .slice none 0 0, .slice none 0 0] :: F) (fun D w => K D w /\ Sl w D 2 pv L.length (A9 L)) := hS))
    | ((with_reducible refine qA 82 ?_); refine Gb rfl _ _ _ _ rfl _ _ rfl rfl (by omega) (by omega) ?_; intro s0 hs0 es0)
    | ((with_reducible refine qA 87 ?_); refine Dh (m := 7) rfl _ _ _ _ rfl rfl rfl (by decide) ?_; intro RU hRU)
    | ((with_reducible refine qM ?_); (first | refine qS hS ?_ | refine qT hS ?_); clear hS; intro w_ hS; (try simp only [Act.put, Act.eval, zz, Value.cells] at hS)))
   have HS0 : Hid (s0 &&& m = s0) := Lib.hid (by have h := es0.out; simp only [Int.toNat_natCast] at h; rw [h, Jk])
   clear es0 hb3 hb4
   obtain ⟨Ap, cp, rfl, _, _⟩ := hS.ro.2.shape
   obtain ⟨K1, k1, kk1, hS2⟩ : ∃ K1 : (Nat -> Prop) -> World -> Prop, (∀ D w, K1 D w -> K D w) /\ (∀ D w, K1 D w -> Sl w D 2 (.slice Ap L.length cp) L.length (A9 L)) /\ St w0 w_ (.box g4 37 #[.int .i64 (R : Nat), .slice Ap L.length cp, .int .u64 (s0 : Nat), .slice none 0 0, .slice none 0 0, .slice none 0 0] :: .box q 144 #[.slice A l.length c, .int .i64 ((2 + 1 + 1 : Nat) : Int)] :: .box g2 37 #[.int .i64 0, .slice none 0 0, .int .u64 0, .slice none 0 0, .slice none 0 0, .slice none 0 0] :: F) K1 := ⟨_, fun _ _ h => h.1, fun _ _ h => h.2, hS⟩
   clear hS
   have hS := hS2.nil 96 5
   clear hS2
   have KS1 := Lib.hid hS.stable
   go_loopw [11] (fun kv wr => ∃ (k t : Nat) (rv : Value) (rs : List AK), kv = .int .i64 (k : Nat) /\ k <= RU /\ t <= 4 + 4 * k /\ Hid (rs.length = k) /\ Hid (∀ z ∈ rs, ROk R m z) /\ St w0 wr (.own rv 96 5 k (AQ rs) :: .box g4 37 #[.int .i64 (R : Nat), .slice Ap L.length cp, .int .u64 (s0 : Nat), rv, .slice none 0 0, .slice none 0 0] :: .box q 144 #[.slice A l.length c, .int .i64 ((t : Nat) : Int)] :: .box g2 37 #[.int .i64 0, .slice none 0 0, .int .u64 0, .slice none 0 0, .slice none 0 0, .slice none 0 0] :: F) K1) (fun kv _ => RU - (intOf kv).toNat)
   case atStart => exact ⟨0, 2 + 1 + 1, _, [], rfl, by omega, by omega, Lib.hid rfl, Lib.hid (fun z hz => by simp at hz), hS⟩
   case round =>
    clear hS
    obtain ⟨k, t, rv, rs, rfl, hk, ht, HRL, HRS, hS⟩ := hrel
    obtain ⟨Ar, cr, rfl, _, _⟩ := Bl (hS.own 0 rfl)
    by_cases hkR : k < RU
    ·have hk7 : k < 7 := by omega
     go_wp2_with (first
      | (go_at_call 89; first | (refine (Co (at_ := t) HL.out (by omega) hS 2 rfl (fun D w h => kp D w (k1 D w h))).mono ?_; clear hS; rintro e w_ ⟨kd, hkd, rfl, hS⟩; simp only [List.set_cons_succ, List.set_cons_zero] at hS) | (refine (Co (at_ := t + 1) HL.out (by omega) hS 2 rfl (fun D w h => kp D w (k1 D w h))).mono ?_; clear hS; rintro e w_ ⟨tg, htg, rfl, hS⟩; simp only [List.set_cons_succ, List.set_cons_zero] at hS) | (refine (Co (at_ := t + 1 + 1) HL.out (by omega) hS 2 rfl (fun D w h => kp D w (k1 D w h))).mono ?_; clear hS; rintro e w_ ⟨cy, hcy, rfl, hS⟩; simp only [List.set_cons_succ, List.set_cons_zero] at hS) | (refine (Co (at_ := t + 1 + 1 + 1) HL.out (by omega) hS 2 rfl (fun D w h => kp D w (k1 D w h))).mono ?_; clear hS; rintro e w_ ⟨cz, hcz, rfl, hS⟩; simp only [List.set_cons_succ, List.set_cons_zero] at hS))
      | ((with_reducible refine qA 102 ?_); refine Dh (m := 4) rfl _ _ _ _ rfl rfl rfl (by decide) ?_; intro z102 h102)
      | ((with_reducible refine qA 103 ?_); refine st_someB rfl _ _ _ _ _ rfl rfl rfl rfl (Gg rfl) ?_; intro rvk)
      | ((with_reducible refine qA 107 ?_); refine Dh (m := R) rfl _ _ _ _ rfl rfl rfl (by omega) ?_; intro z107 h107)
      | ((with_reducible refine qA 108 ?_); refine st_addN (n := 1) rfl _ _ _ _ rfl (fun z => 1 <= z /\ z <= R) rfl rfl (by omega) (by omega) ?_; intro z108 h108)
      | ((with_reducible refine qA 110 ?_); refine AE rfl _ _ rfl #[.bool rvk, .int .u64 0, .int .u64 0, .int .i64 (z108 : Nat), .int .i64 (k : Nat)] (by kernel_rfl) ?_; (try simp only [Act.put, List.setIfInBounds_toArray, List.set_cons_zero, List.set_cons_succ]))
      | ((with_reducible refine qA 16 ?_); refine qa hS #[.bool false, .int .u64 0, .int .u64 0, .int .i64 0, .int .i64 0] ?_; clear hS; intro g16 w_ hS)
      | ((with_reducible refine qm 96 ?_); refine qS hS ?_; clear hS; intro w_ hS; (try simp only [Act.put, Act.eval, zz, Value.cells] at hS); cases rvk)
      | (go_at_call 91; refine (Hb cy cz m hm _).mono ?_; rintro r_ w_ ⟨_, rfl, ⟨ya, na, rfl, s1, s2, s3, s4, s5⟩, hb_⟩; replace hS := hS.ext hb_; clear hb_)
      | ((with_reducible refine qm 94 ?_); refine st_bstore2 hS 0 rfl _ _ _ rfl _ _ _ _ rfl rfl rfl (by simp) rfl rfl (by kernel_rfl) ?_; clear hS; intro w_ hS; (try simp only [Act.put, Act.eval, zz, Value.cells] at hS))
      | ((with_reducible refine qK ?_); refine qL hS Tryz.underlying96 ?_)
      | ((with_reducible refine qA 122 ?_); first | (refine D0 hS 1 rfl rfl _ _ _ _ rfl rfl H4 (.slice Ar k cr) k (AQ rs) (.agg #[.bool false, .int .u64 (ya : Nat), .int .u64 (na : Nat), .int .i64 (z108 : Nat), .int .i64 (k : Nat)]) #[.bool false, .int .u64 (ya : Nat), .int .u64 (na : Nat), .int .i64 (z108 : Nat), .int .i64 (k : Nat)] rfl (by kernel_rfl) rfl rfl rfl rfl (by intro u hu; simp at hu; rcases hu with rfl | rfl | rfl | rfl | rfl <;> rfl) (by omega) (by omega) ?_; clear hS; intro z_ v' w_ hS; (try simp only [Act.put, Act.eval, zz, Value.cells] at hS); obtain ⟨A', c', rfl, _, _⟩ := Bl (hS.own 1 rfl)) | (refine D0 hS 1 rfl rfl _ _ _ _ rfl rfl H4 (.slice Ar k cr) k (AQ rs) (.agg #[.bool true, .int .u64 0, .int .u64 0, .int .i64 (z108 : Nat), .int .i64 (k : Nat)]) #[.bool true, .int .u64 0, .int .u64 0, .int .i64 (z108 : Nat), .int .i64 (k : Nat)] rfl (by kernel_rfl) rfl rfl rfl rfl (by intro u hu; simp at hu; rcases hu with rfl | rfl | rfl | rfl <;> rfl) (by omega) (by omega) ?_; clear hS; intro z_ v' w_ hS; (try simp only [Act.put, Act.eval, zz, Value.cells] at hS); obtain ⟨A', c', rfl, _, _⟩ := Bl (hS.own 1 rfl)))
      | ((with_reducible refine qB ?_); refine qc ?_ ?_ <;> intro h_ <;> go_prune)
      | ((with_reducible refine qK ?_); refine qC hS ?_)
      | ((with_reducible refine qM ?_); (first | refine qS hS ?_ | refine qT hS ?_); clear hS; intro w_ hS; (try simp only [Act.put, Act.eval, zz, Value.cells] at hS)))
     ·have e : AQ (rs ++ [⟨false, ya, na, (z108 : Nat), (k : Nat)⟩]) = AQ rs ++ [.bool false, .int .u64 (ya : Nat), .int .u64 (na : Nat), .int .i64 (z108 : Nat), .int .i64 (k : Nat)] := Gi ..
      refine ⟨⟨k + 1, _, .slice A' (k + 1) c', rs ++ [⟨false, ya, na, (z108 : Nat), (k : Nat)⟩], by go_num, hkR, ?_, Lib.hid (by rw [List.length_append, HRL.out]; rfl), Lib.hid (GL HRS.out ⟨⟨by simp only; omega, by simp only; omega⟩, ⟨by simp only; omega, by simp only; omega⟩, s1, s2, s3, s4, s5, fun h => by cases h⟩), by rw [e]; exact hS.sub (List.sublist_cons_self _ _)⟩, by simp [intOf]; omega⟩
      omega
     ·have e : AQ (rs ++ [⟨true, 0, 0, (z108 : Nat), (k : Nat)⟩]) = AQ rs ++ [.bool true, .int .u64 0, .int .u64 0, .int .i64 (z108 : Nat), .int .i64 (k : Nat)] := Gi ..
      refine ⟨⟨k + 1, _, .slice A' (k + 1) c', rs ++ [⟨true, 0, 0, (z108 : Nat), (k : Nat)⟩], by go_num, hkR, ?_, Lib.hid (by rw [List.length_append, HRL.out]; rfl), Lib.hid (GL HRS.out ⟨⟨by simp only; omega, by simp only; omega⟩, ⟨by simp only; omega, by simp only; omega⟩, Nat.zero_and m, Nat.zero_and m, Nat.zero_and 0, Nat.zero_lt_succ _, Nat.zero_lt_succ _, fun _ => ⟨rfl, rfl⟩⟩), by rw [e]; exact hS.sub (List.sublist_cons_self _ _)⟩, by simp [intOf]; omega⟩
      omega
    ·obtain rfl : RU = k := by omega
     go_wp2_with (first
      | (go_at_call 89; first | (refine (Co (at_ := t) HL.out (by omega) hS 2 rfl (fun D w h => kp D w (k1 D w h))).mono ?_; clear hS; rintro e w_ ⟨bv, hbv, rfl, hS⟩; simp only [List.set_cons_succ, List.set_cons_zero] at hS) | (refine (Co (at_ := t + 1) HL.out (by omega) hS 2 rfl (fun D w h => kp D w (k1 D w h))).mono ?_; clear hS; rintro e w_ ⟨bg, hbg, rfl, hS⟩; simp only [List.set_cons_succ, List.set_cons_zero] at hS))
      | ((with_reducible refine qA 127 ?_); refine Dh (m := 4) rfl _ _ _ _ rfl rfl rfl (by decide) ?_; intro NV hNV)
      | ((with_reducible refine qA 130 ?_); refine Dh (m := 3) rfl _ _ _ _ rfl rfl rfl (by decide) ?_; intro g3 hg3)
      | ((with_reducible refine qA 131 ?_); refine st_addN (n := 1) rfl _ _ _ _ rfl (fun z => 1 <= z /\ z <= 3) rfl rfl (by omega) (by omega) ?_; intro GO hGO)
      | ((with_reducible refine qB ?_); refine qc ?_ ?_ <;> intro h_ <;> go_prune))
     obtain ⟨K2, j1, k2, kr2, hS2⟩ : ∃ K2 : (Nat -> Prop) -> World -> Prop, (∀ D w, K2 D w -> K D w) /\ (∀ D w, K2 D w -> Sl w D 2 (.slice Ap L.length cp) L.length (A9 L)) /\ (∀ D w, K2 D w -> Sl w D 5 (.slice Ar RU cr) RU (AQ rs)) /\ St w0 w_ (.box g4 37 #[.int .i64 (R : Nat), .slice Ap L.length cp, .int .u64 (s0 : Nat), .slice Ar RU cr, .slice none 0 0, .slice none 0 0] :: .box q 144 #[.slice A l.length c, .int .i64 ((t + 1 + 1 : Nat) : Int)] :: .box g2 37 #[.int .i64 0, .slice none 0 0, .int .u64 0, .slice none 0 0, .slice none 0 0, .slice none 0 0] :: F) K2 := ⟨_, fun _ _ h => k1 _ _ h.1, fun _ _ h => kk1 _ _ h.1, fun _ _ h => h.2, hS.freeze 0 (by decide) rfl⟩
     clear hS
     have hS := hS2.nil 94 2
     clear hS2
     have KS2 := Lib.hid hS.stable
     go_loopw [19] (fun jv wr => ∃ (j u : Nat) (nv : Value) (ns : List (Nat × Nat)), jv = .int .i64 (j : Nat) /\ j <= NV /\ u <= 40 + 2 * j /\ ns.length <= j /\ Hid (∀ z ∈ ns, KOk m z /\ Bd z (closM L s0) = false) /\ St w0 wr (.own nv 94 2 ns.length (B0 ns) :: .box g4 37 #[.int .i64 (R : Nat), .slice Ap L.length cp, .int .u64 (s0 : Nat), .slice Ar RU cr, nv, .slice none 0 0] :: .box q 144 #[.slice A l.length c, .int .i64 ((u : Nat) : Int)] :: .box g2 37 #[.int .i64 0, .slice none 0 0, .int .u64 0, .slice none 0 0, .slice none 0 0, .slice none 0 0] :: F) K2) (fun jv _ => NV - (intOf jv).toNat)
     case atStart => exact ⟨0, t + 1 + 1, _, [], rfl, by omega, by omega, by simp, Lib.hid (fun z hz => by simp at hz), hS⟩
     case round =>
      clear hS
      obtain ⟨j, u, nv, ns, rfl, hj, hu, hnl, HNS, hS⟩ := hrel
      obtain ⟨An, cn, rfl, _, _⟩ := Bl (hS.own 0 rfl)
      by_cases hjN : j < NV
      ·go_wp2_with (first
        | (go_at_call 89; first | (refine (Co (at_ := u) HL.out (by omega) hS 2 rfl (fun D w h => kp D w (j1 D w h))).mono ?_; clear hS; rintro e w_ ⟨yb, hyb, rfl, hS⟩; simp only [List.set_cons_succ, List.set_cons_zero] at hS) | (refine (Co (at_ := u + 1) HL.out (by omega) hS 2 rfl (fun D w h => kp D w (j1 D w h))).mono ?_; clear hS; rintro e w_ ⟨nb, hnb, rfl, hS⟩; simp only [List.set_cons_succ, List.set_cons_zero] at hS))
        | ((with_reducible refine qA 145 ?_); refine Dh (m := R) rfl _ _ _ _ rfl rfl rfl (by omega) ?_; intro z145 h145)
        | ((with_reducible refine qA 147 ?_); refine Ea (k := .i64) rfl _ _ _ _ _ rfl rfl rfl (fun z => z < 256) (z := 2 ^ (z145 + 1)) rfl (run_shl2 (by omega)) (Nat.lt_of_le_of_lt (Nat.pow_le_pow_right (by decide) (show z145 + 1 <= 5 by omega)) (by decide)) ?_; intro z147 h147)
        | ((with_reducible refine qA 148 ?_); refine Ea (k := .i64) rfl _ _ _ _ _ rfl rfl rfl (fun _ => True) (z := yb ||| z147) rfl (run_orN hyb h147) trivial ?_; intro z148 _)
        | (go_at_call 91; refine (Hb z148 nb m hm _).mono ?_; rintro r_ w_ ⟨_, rfl, ⟨ya, na, rfl, s1, s2, s3, s4, s5⟩, hb_⟩; replace hS := hS.ext hb_; clear hb_)
        | ((with_reducible refine qA 22 ?_); refine qa hS #[.int .u64 0, .int .u64 0] ?_; clear hS; intro g22 w_ hS)
        | ((with_reducible refine qB ?_); refine qc ?_ ?_ <;> intro h_ <;> go_prune)
        | ((with_reducible refine qK ?_); refine qC hS ?_)
        | ((with_reducible refine qM ?_); (first | refine qS hS ?_ | refine qT hS ?_); clear hS; intro w_ hS; (try simp only [Act.put, Act.eval, zz, Value.cells] at hS)))
       obtain ⟨hld, hHb⟩ : ∃ hld : Bool, hld = Bd (ya, na) (closM L s0) := ⟨_, rfl⟩
       have HB := Lib.hid hHb
       clear hHb
       refine Cr [.i (.agg #[.int .u64 (ya : Nat), .int .u64 (na : Nat)]), .q g4 1, .i (.slice Ap L.length cp), .q g4 2, .i (.int .u64 (s0 : Nat)), .i (.int .u64 (closM L s0 : Nat)), .i (.bool hld), .i (.bool (!hld))] ⟨uR (h := fun w hW hN => (hS.ext hW).box 0 rfl), uF, uC (h := fun w hW hN => (hS.ext hW).shut 2 rfl 1 rfl), uF, uC (h := fun w hW hN => (hS.ext hW).shut 2 rfl 2 rfl), ?_, ?_, uU, trivial⟩ ?_
       ·refine uT fun b__ w hW hE K hK => ?_
        have e154 := hE 154
        have e156 := hE 156
        exact Aq rfl (by kernel_rfl) (by simp only [List.map_cons, List.map_nil, e154, e156]) (Ef (k2 _ _ (hS.ext hW).ro) HH.out.inr (by omega) s0) fun v w' h hb => hK v w' h hb
       ·refine uT fun b__ w hW hE K hK => ?_
        have e152 := hE 152
        have e157 := hE 157
        exact Aq rfl (by kernel_rfl) (by simp only [List.map_cons, List.map_nil, e152, e157]) (FU (y := ya) (n := na) (by unfold B7; omega) (by unfold B7; omega) (Dz L s0) _) fun v w' h hb => hK v w' (h.trans (by rw [HB.out])) hb
       ·intro vs wz hW hT
        obtain ⟨e152, e153, e154, e155, e156, e157, e158, e159, -⟩ := hT
        simp only [AB, Act.put, zz, ze]
        replace hS := hS.ext hW
        rw [e159]
        clear hW e152 e153 e154 e155 e156 e157 e158 e159
        cases hld with
        | true =>
         go_wp2_with fail
         exact ⟨⟨j + 1, u + 1 + 1, _, ns, by go_num, hjN, by omega, by omega, HNS, hS.sub (List.sublist_cons_self _ _)⟩, by simp [intOf]; omega⟩
        | false =>
         go_wp2_with (first
          | ((with_reducible refine qK ?_); refine qC hS ?_)
          | ((with_reducible refine qK ?_); refine qL hS Tryz.underlying94 ?_)
          | ((with_reducible refine qA 163 ?_); refine D0 hS 1 rfl rfl _ _ _ _ rfl rfl ty_mkc (.slice An ns.length cn) ns.length (B0 ns) (.agg #[.int .u64 (ya : Nat), .int .u64 (na : Nat)]) #[.int .u64 (ya : Nat), .int .u64 (na : Nat)] rfl (by kernel_rfl) rfl rfl rfl rfl (by intro u hu; simp at hu; rcases hu with rfl | rfl <;> rfl) (by omega) (by omega) ?_; clear hS; intro z_ v' w_ hS; (try simp only [Act.put, Act.eval, zz, Value.cells] at hS); obtain ⟨A', c', rfl, _, _⟩ := Bl (hS.own 1 rfl))
          | ((with_reducible refine qM ?_); (first | refine qS hS ?_ | refine qT hS ?_); clear hS; intro w_ hS; (try simp only [Act.put, Act.eval, zz, Value.cells] at hS)))
         have e : B0 (ns ++ [(ya, na)]) = B0 ns ++ [.int .u64 (ya : Nat), .int .u64 (na : Nat)] := Hu ..
         exact ⟨⟨j + 1, u + 1 + 1, .slice A' (ns.length + 1) c', ns ++ [(ya, na)], by go_num, hjN, by omega, by simp; omega, Lib.hid (GL HNS.out ⟨⟨s1, s2, s3, s4, s5⟩, HB.out.symm⟩), by rw [e, List.length_append]; exact hS.sub (List.sublist_cons_self _ _)⟩, by simp [intOf]; omega⟩
      ·obtain rfl : NV = j := by omega
       go_wp2_with (first | ((with_reducible refine qB ?_); refine qc ?_ ?_ <;> intro h_ <;> go_prune))
       obtain ⟨K3, j3, k3, kr3, kn3, hS2⟩ : ∃ K3 : (Nat -> Prop) -> World -> Prop, (∀ D w, K3 D w -> K D w) /\ (∀ D w, K3 D w -> Sl w D 2 (.slice Ap L.length cp) L.length (A9 L)) /\ (∀ D w, K3 D w -> Sl w D 5 (.slice Ar RU cr) RU (AQ rs)) /\ (∀ D w, K3 D w -> Sl w D 2 (.slice An ns.length cn) ns.length (B0 ns)) /\ St w0 wr (.box g4 37 #[.int .i64 (R : Nat), .slice Ap L.length cp, .int .u64 (s0 : Nat), .slice Ar RU cr, .slice An ns.length cn, .slice none 0 0] :: .box q 144 #[.slice A l.length c, .int .i64 ((u : Nat) : Int)] :: .box g2 37 #[.int .i64 0, .slice none 0 0, .int .u64 0, .slice none 0 0, .slice none 0 0, .slice none 0 0] :: F) K3 := ⟨_, fun _ _ h => j1 _ _ h.1, fun _ _ h => k2 _ _ h.1, fun _ _ h => kr2 _ _ h.1, fun _ _ h => h.2, hS.freeze 0 (by decide) rfl⟩
       clear hS
       have hS := hS2.nil 94 2
       clear hS2
       have KS3 := Lib.hid hS.stable
       go_loopw [23] (fun jv wr => ∃ (j x : Nat) (gv : Value) (gs : List (Nat × Nat)), jv = .int .i64 (j : Nat) /\ j <= GO /\ x <= 50 + 2 * j /\ Hid (gs.length = j) /\ Hid (∀ z ∈ gs, KOk m z) /\ St w0 wr (.own gv 94 2 j (B0 gs) :: .box g4 37 #[.int .i64 (R : Nat), .slice Ap L.length cp, .int .u64 (s0 : Nat), .slice Ar RU cr, .slice An ns.length cn, gv] :: .box q 144 #[.slice A l.length c, .int .i64 ((x : Nat) : Int)] :: .box g2 37 #[.int .i64 0, .slice none 0 0, .int .u64 0, .slice none 0 0, .slice none 0 0, .slice none 0 0] :: F) K3) (fun jv _ => GO - (intOf jv).toNat)
       case atStart => exact ⟨0, u, _, [], rfl, by omega, by omega, Lib.hid rfl, Lib.hid (fun z hz => by simp at hz), hS⟩
       case round =>
        clear hS
        obtain ⟨j, x, gv, gs, rfl, hj2, hx, HGL, HGS, hS⟩ := hrel
        obtain ⟨Ag, cg, rfl, _, _⟩ := Bl (hS.own 0 rfl)
        by_cases hjG : j < GO
        ·go_wp2_with (first
          | (go_at_call 89; first | (refine (Co (at_ := x) HL.out (by omega) hS 2 rfl (fun D w h => kp D w (j3 D w h))).mono ?_; clear hS; rintro e w_ ⟨yb, hyb, rfl, hS⟩; simp only [List.set_cons_succ, List.set_cons_zero] at hS) | (refine (Co (at_ := x + 1) HL.out (by omega) hS 2 rfl (fun D w h => kp D w (j3 D w h))).mono ?_; clear hS; rintro e w_ ⟨nb, hnb, rfl, hS⟩; simp only [List.set_cons_succ, List.set_cons_zero] at hS))
          | ((with_reducible refine qB ?_); refine qc ?_ ?_ <;> intro h_ <;> go_prune))
         have h0d := hS.drew
         refine wp_zS [5, 6, 7, 9] [some (.pointer (some ⟨g4, 5, none⟩)), some (.slice Ag j cg), some (.int .i64 (yb : Nat)), some (.int .i64 (nb : Nat)), some (.int .u8 (m : Nat)), none, none, none, some (.pointer (some ⟨g4, 5, none⟩)), none] (fun vs w => match vs with | [] => St w0 w (.own (.slice Ag j cg) 94 2 j (B0 gs) :: .box g4 37 #[.int .i64 (R : Nat), .slice Ap L.length cp, .int .u64 (s0 : Nat), .slice Ar RU cr, .slice An ns.length cn, .slice Ag j cg] :: .box q 144 #[.slice A l.length c, .int .i64 ((x + 1 + 1 : Nat) : Int)] :: .box g2 37 #[.int .i64 0, .slice none 0 0, .int .u64 0, .slice none 0 0, .slice none 0 0, .slice none 0 0] :: F) K3 | [z] => ∃ a b : Nat, z = .agg #[.int .u64 (a : Nat), .int .u64 (b : Nat)] /\ KOk m (a, b) /\ St w0 w (.own (.slice Ag j cg) 94 2 j (B0 gs) :: .box g4 37 #[.int .i64 (R : Nat), .slice Ap L.length cp, .int .u64 (s0 : Nat), .slice Ar RU cr, .slice An ns.length cn, .slice Ag j cg] :: .box q 144 #[.slice A l.length c, .int .i64 ((x + 1 + 1 : Nat) : Int)] :: .box g2 37 #[.int .i64 0, .slice none 0 0, .int .u64 0, .slice none 0 0, .slice none 0 0, .slice none 0 0] :: F) K3 | [_, z] => ∃ a b : Nat, KOk m (a, b) /\ St w0 w (.own (.slice Ag j cg) 94 2 j (B0 gs) :: .box g4 37 #[.int .i64 (R : Nat), .slice Ap L.length cp, .int .u64 (s0 : Nat), .slice Ar RU cr, .slice An ns.length cn, .slice Ag j cg] :: .box q 144 #[.slice A l.length c, .int .i64 ((x + 1 + 1 : Nat) : Int)] :: .box g2 37 #[.int .i64 0, .slice none 0 0, .int .u64 0, .slice none 0 0, .slice none 0 0, .slice none 0 0] :: F) (fun D w => K3 D w /\ Sl w D 2 z 1 [.int .u64 (a : Nat), .int .u64 (b : Nat)]) | [_, _, p'] => ∃ a b : Nat, KOk m (a, b) /\ St w0 w (.own p' 94 2 (j + 1) (B0 gs ++ [.int .u64 (a : Nat), .int .u64 (b : Nat)]) :: .box g4 37 #[.int .i64 (R : Nat), .slice Ap L.length cp, .int .u64 (s0 : Nat), .slice Ar RU cr, .slice An ns.length cn, .slice Ag j cg] :: .box q 144 #[.slice A l.length c, .int .i64 ((x + 1 + 1 : Nat) : Int)] :: .box g2 37 #[.int .i64 0, .slice none 0 0, .int .u64 0, .slice none 0 0, .slice none 0 0, .slice none 0 0] :: F) K3 | [_, _, p', _] => ∃ a b : Nat, KOk m (a, b) /\ St w0 w (.own p' 94 2 (j + 1) (B0 gs ++ [.int .u64 (a : Nat), .int .u64 (b : Nat)]) :: .box g4 37 #[.int .i64 (R : Nat), .slice Ap L.length cp, .int .u64 (s0 : Nat), .slice Ar RU cr, .slice An ns.length cn, p'] :: .box q 144 #[.slice A l.length c, .int .i64 ((x + 1 + 1 : Nat) : Int)] :: .box g2 37 #[.int .i64 0, .slice none 0 0, .int .u64 0, .slice none 0 0, .slice none 0 0, .slice none 0 0] :: F) K3 | _ => False) ?_ ⟨vF, ?_, vM, vM, vM, ?_, ?_, ?_, vF, ?_, trivial⟩ ?_
         ·first | assumption | (dsimp only; assumption)
         ·refine vR 0 2 fun b__ w vs hS h1 h2 hE K hK => ?_
          rcases vs with _ | ⟨x0, _ | ⟨x1, _ | ⟨x2, vs⟩⟩⟩ <;> first | (exfalso; first | exact hS | (revert h1 h2; simp <;> omega); done) | ((have e175 := hE 175); (first | exact Ax rfl e175 (by kernel_rfl) (hS.shut 1 rfl 5 rfl) (hK _ rfl) | (obtain ⟨_, _, _, hS⟩ := hS; exact Ax rfl e175 (by kernel_rfl) (hS.shut 1 rfl 5 rfl) (hK _ rfl)) | (obtain ⟨_, _, _, _, hS⟩ := hS; exact Ax rfl e175 (by kernel_rfl) (hS.shut 1 rfl 5 rfl) (hK _ rfl))))
         ·refine vX 0 fun b__ w vs hS hl hE K hK => ?_
          obtain rfl := vs_len0 hl
          have e177 := hE 177
          have e178 := hE 178
          have e179 := hE 179
          exact CD rfl (by kernel_rfl) (by simp only [List.map_cons, List.map_nil, e177, e178, e179]) (Hb yb nb m hm _) fun e w' ⟨z, he, ⟨a, b, hz, h2, h3, h4, h5, h6⟩, hb_⟩ => ⟨z, he, hK z w' ⟨a, b, hz, ⟨h2, h3, h4, h5, h6⟩, hS.ext hb_⟩⟩
         ·refine vX 1 fun b__ w vs hS hl hE K hK => ?_
          obtain ⟨x0, rfl⟩ := Ik hl
          have e180 := hE 180
          obtain ⟨a, b, rfl, hk1, hS⟩ := hS
          refine Bv (ps := [(0, .agg #[.int .u64 (a : Nat), .int .u64 (b : Nat)])]) (cells := #[.int .u64 (a : Nat), .int .u64 (b : Nat)]) rfl Tryz.underlying35 (by simp [e180]) (by kernel_rfl) ?_
          intro w' hbx hbel
          exact hK _ w' ⟨a, b, hk1, hS.ret hbel (AA (by decide)) (⟨by simp, _, 1, rfl, by omega, by unfold maxLen; omega, fun _ => ⟨w.heap.size, 0, rfl, Nat.le_refl _, hbx.lt, fun j x hj => by rw [Nat.zero_add]; exact (hbx.cell j).trans (by simpa using hj)⟩⟩ : Sl w' (w.heap.size <= ·) 2 (.slice (some ⟨w.heap.size, 0, none⟩) 1 1) 1 [.int .u64 (a : Nat), .int .u64 (b : Nat)])⟩
         ·refine vX 2 fun b__ w vs hS hl hE K hK => ?_
          obtain ⟨x0, x1, rfl⟩ := Ij hl
          have e176 := hE 176
          have e181 := hE 181
          obtain ⟨a, b, hk1, h3⟩ := hS
          refine Ez rfl ty_mkc e176 (h3.own 0 rfl) e181 h3.ro.2 (by intro u hu; simp at hu; rcases hu with rfl | rfl <;> rfl) (by omega) (by omega) h3.size ?_
          intro v' w' ho hg hat
          exact hK v' w' ⟨a, b, hk1, (h3.upd 0 rfl (.own v' 94 2 (j + 1) (B0 gs ++ [Value.int .u64 (a : Nat), Value.int .u64 (b : Nat)])) hg ho hat).mono KS3.out fun D w h => h.1⟩
         ·refine vX 3 fun b__ w vs hS hl hE K hK => ?_
          obtain ⟨x0, x1, x2, rfl⟩ := Ii hl
          have e183 := hE 183
          have e182 := hE 182
          obtain ⟨a, b, hk1, h3⟩ := hS
          refine Dc rfl e183 e182 (h3.box 1 rfl) (by simp) (Hh (h3.own 0 rfl)) (own_one (h3.own 0 rfl)) (by kernel_rfl) ?_
          intro w' hbx hup
          exact hK _ w' ⟨a, b, hk1, h3.upd 1 rfl (.box g4 37 #[.int .i64 (R : Nat), .slice Ap L.length cp, .int .u64 (s0 : Nat), .slice Ar RU cr, .slice An ns.length cn, x2]) (Bn hup) ⟨(h3.holds _ (List.mem_of_getElem? (i := 1) rfl)).1, hbx⟩ fun _ e => .inl e⟩
         ·intro us wz vs hS hl hT
          obtain ⟨x0, x1, x2, x3, rfl⟩ := vs_len4 hl
          obtain ⟨e175, e176, e177, e178, e179, e180, e181, e182, e183, -⟩ := hT
          clear hl
          simp only [AB, Act.put, zz, ze]
          obtain ⟨a, b, hk1, hS⟩ := hS
          clear h0d
          go_wp2_with fail
          have e : B0 (gs ++ [(a, b)]) = B0 gs ++ [.int .u64 (a : Nat), .int .u64 (b : Nat)] := Hu ..
          exact ⟨⟨j + 1, x + 1 + 1, _, gs ++ [(a, b)], by go_num, hjG, by omega, Lib.hid (by rw [List.length_append, HGL.out]; rfl), Lib.hid (GL HGS.out hk1), by rw [e]; exact hS⟩, by simp [intOf]; omega⟩
        ·obtain rfl : GO = j := by omega
         go_wp2_with (first
          | ((with_reducible refine qB ?_); refine qc ?_ ?_ <;> intro h_ <;> go_prune)
          | ((with_reducible refine qK ?_); refine qL hS Tryz.underlying37 ?_)
          | ((with_reducible refine qM ?_); (first | refine qS hS ?_ | refine qT hS ?_); clear hS; intro w_ hS; (try simp only [Act.put, Act.eval, zz, Value.cells] at hS)))
         have HM : BJ ⟨R, some L, s0, rs, ns, gs⟩ L R := ⟨rfl, rfl, hR.1, hR.2, HH.out, HR.out, by omega, by rw [<- HM.out]; exact HS0.out, by show rs.length <= 6; rw [HRL.out]; omega, by rw [<- HM.out]; exact HRS.out, by show ns.length <= 3; omega, by rw [<- HM.out]; exact HNS.out, by show gs.length <= 3; rw [HGL.out]; omega, by show 1 <= gs.length; rw [HGL.out]; omega, by rw [<- HM.out]; exact HGS.out⟩
         have hS1 := hS.freeze 0 (by decide) rfl
         refine Bj Tryz.results50 rfl (hS.box 3 rfl) Tryz.underlying37 rfl (by kernel_rfl) rfl ?_
         refine ⟨_, rfl, _, ⟨L, R, HM⟩, (hS1.sub (F' := F) (((List.sublist_cons_self _ _).trans (List.sublist_cons_self _ _)).trans (List.sublist_cons_self _ _))).mono (KS.out.and Bg) fun D w h => ⟨j3 _ _ h.1, ?_⟩⟩
         refine ⟨_, _, _, _, L, rfl, rfl, k3 _ _ h.1, ?_, kn3 _ _ h.1, ?_⟩
         ·show Sl w D 5 _ rs.length _; rw [HRL.out]; exact kr3 _ _ h.1
         ·show Sl w D 2 _ gs.length _; rw [HGL.out]; exact h.2
end
section
open Go.RowKit
structure GK where
 b : Option (Nat × Option (Array Value))
 K : (Nat -> Prop) -> World -> Prop
def GK.F (ty : TypeId) (zs : Array Value) (s : GK) : List Af := match s.b with
 | none => []
 | some (g, o) => [.box g ty (o.getD zs)]
def GJ (w0 : World) (F : List Af) (ty : TypeId) (zs : Array Value) (s : World × GK) : Prop := St w0 s.1 (s.2.F ty zs ++ F) s.2.K
def GR (w0 : World) (F : List Af) (ty : TypeId) (zs : Array Value) (s s' : World × GK) : Prop :=
 (GJ w0 F ty zs s -> GJ w0 F ty zs s') /\ (∀ D w, s'.2.K D w -> s.2.K D w) /\ (∀ g, s.2.b = some (g, none) -> ∃ o, s'.2.b = some (g, o)) /\ (∀ g cs, s.2.b = some (g, some cs) -> s'.2.b = some (g, some cs))
theorem GR.refl {w0 : World} {F : List Af} {ty : TypeId} {zs : Array Value} : ∀ s, GR w0 F ty zs s s := fun _ => ⟨id, fun _ _ h => h, fun _ h => ⟨_, h⟩, fun _ _ h => h⟩
theorem GR.var {w0 : World} {F : List Af} {ty : TypeId} {zs : Array Value} {s s' : World × GK} (h : GR w0 F ty zs s s') {v : Value} (k : ∃ g o, v = .pointer (some ⟨g, 0, none⟩) /\ s.2.b = some (g, o)) : ∃ g o, v = .pointer (some ⟨g, 0, none⟩) /\ s'.2.b = some (g, o) := by
 obtain ⟨g, o, e, k⟩ := k
 cases o with
 | none => obtain ⟨o, k⟩ := h.2.2.1 g k; exact ⟨g, o, e, k⟩
 | some cs => exact ⟨g, _, e, h.2.2.2 g cs k⟩
theorem GR.trans {w0 : World} {F : List Af} {ty : TypeId} {zs : Array Value} : ∀ a b c, GR w0 F ty zs a b -> GR w0 F ty zs b c -> GR w0 F ty zs a c := fun a b c h k =>
 ⟨fun j => k.1 (h.1 j), fun D w j => h.2.1 D w (k.2.1 D w j), fun g j => by
  obtain ⟨o, j2⟩ := h.2.2.1 g j
  obtain ⟨g', o', e, j3⟩ := k.var ⟨g, o, rfl, j2⟩
  injection e with e; injection e with e; injection e with e; subst e
  exact ⟨o', j3⟩, fun g cs j => k.2.2.2 g cs (h.2.2.2 g cs j)⟩
def GN (ia is : Nat) (i : Nat) (s : World × GK) : Prop := (i = ia -> s.2.b = none) /\ (i = is -> ∀ g cs, s.2.b ≠ some (g, some cs))
theorem GN.start {ia is : Nat} {w : World} {K : (Nat -> Prop) -> World -> Prop} (i : Nat) : GN ia is i (w, ⟨none, K⟩) := ⟨fun _ => rfl, fun _ _ _ h => by cases h⟩
theorem GK.more {w0 : World} {F : List Af} {ty : TypeId} {zs : Array Value} {w : World × GK} {w' : World} {K' : (Nat -> Prop) -> World -> Prop} {ia is i : Nat} (h : St w0 w' (w.2.F ty zs ++ F) K') (hk : ∀ D w1, K' D w1 -> w.2.K D w1) :
  GR w0 F ty zs w (w', { w.2 with K := K' }) /\ ∀ j, j ≠ i -> GN ia is j w -> GN ia is j (w', { w.2 with K := K' }) := ⟨⟨fun _ => h, hk, fun _ h => ⟨_, h⟩, fun _ _ h => h⟩, fun _ _ h => h⟩
theorem GK.made {w0 : World} {F : List Af} {ty : TypeId} {zs : Array Value} {w : World × GK} {w' : World} {g ia is : Nat} (hn : w.2.b = none) (h : St w0 w' (.box g ty zs :: F) w.2.K) :
  GR w0 F ty zs w (w', { w.2 with b := some (g, none) }) /\ ∀ j, j ≠ ia -> GN ia is j w -> GN ia is j (w', { w.2 with b := some (g, none) }) :=
 ⟨⟨fun _ => h, fun _ _ h => h, fun g h => (by rw [hn] at h; cases h), fun g cs h => (by rw [hn] at h; cases h)⟩, fun j hj _ => ⟨fun e => absurd e hj, fun _ g cs e => by cases e⟩⟩
theorem GK.put {w0 : World} {F : List Af} {ty : TypeId} {zs : Array Value} {w : World × GK} {w' : World} {g ia is : Nat} {cs : Array Value} (hn : w.2.b = some (g, none)) (h : St w0 w' (.box g ty cs :: F) w.2.K) :
  GR w0 F ty zs w (w', { w.2 with b := some (g, some cs) }) /\ ∀ j, j ≠ is -> GN ia is j w -> GN ia is j (w', { w.2 with b := some (g, some cs) }) :=
 ⟨⟨fun _ => h, fun _ _ h => h, fun g' h => (by rw [hn] at h; injection h with h; injection h with h1 h2; subst h1; exact ⟨_, rfl⟩), fun g cs h => (by rw [hn] at h; cases h)⟩, fun j hj k => ⟨fun e => absurd (k.1 e) (by rw [hn]; exact nofun), fun e => absurd e hj⟩⟩
section
variable {P : Program} {o : Oper} {a : Act} {w : World × GK} {w0 : World} {F : List Af} {ty : TypeId} {zs : Array Value} {K : Act -> World -> Prop} {Q : Exit -> Act -> World -> Prop}
theorem GJ.none (hJ : GJ w0 F ty zs w) (hn : w.2.b = none) : St w0 w.1 F w.2.K := by
 unfold GJ GK.F at hJ; rw [hn] at hJ; exact hJ
theorem GJ.some {g : Nat} {x : Option (Array Value)} (hJ : GJ w0 F ty zs w) (hn : w.2.b = some (g, x)) : St w0 w.1 (.box g ty (x.getD zs) :: F) w.2.K := by
 unfold GJ GK.F at hJ; rw [hn] at hJ; exact hJ
theorem GJ.cell (hJ : GJ w0 F ty zs w) {g : Nat} {t : TypeId} {cs : Array Value} (i : Nat) (hi : F[i]? = Option.some (Af.box g t cs)) (j : Nat) {x : Value} (hx : cs[j]? = Option.some x) : w.1.cell? ⟨g, j, Option.none⟩ = Option.some x :=
 ((hJ.holds (.box g t cs) (List.mem_append_right _ (List.mem_of_getElem? hi))).2.cell j).trans hx
theorem gk_alloc (ho : o.op = .alloc ty) (hz : ((P.info? ty).bind (·.zero)).isSome = true) (hzs : zeroCells P ty = zs) (hJ : GJ w0 F ty zs w) (hn : w.2.b = Option.none)
  (hK : ∀ g w', St w0 w' (.box g ty zs :: F) w.2.K -> K (a.put o.dst (.pointer (some ⟨g, 0, Option.none⟩))) w') : o.wp P a w.1 K Q :=
 opw_alloc ho hz fun w' hb hbel => hK _ w' ((hJ.none hn).new hbel _ ⟨Nat.le_refl _, hzs ▸ hb⟩)
theorem gk_store {x y : Operand} {g : Nat} {cs : Array Value} (ho : o.op = .store ty x y) (hx : a.eval x = .pointer (some ⟨g, 0, Option.none⟩)) (hy : a.eval y = .agg cs) (hJ : GJ w0 F ty zs w) (hn : w.2.b = Option.some (g, Option.none)) (hi : (P.info? ty).map (·.size) = Option.some cs.size)
  (hold : zs.size = cs.size) (h1 : cs.all (·.oneCell') = true) (hK : ∀ w', St w0 w' (.box g ty cs :: F) w.2.K -> K (a.put o.dst undef) w') : o.wp P a w.1 K Q := by
 have hS := hJ.some hn
 exact BS ho hx hy (hS.box 0 rfl) hi hold h1 fun w' hb hU => hK w' (hS.upd 0 rfl (.box g ty cs) (Bn hU) ⟨(hS.holds _ (List.mem_cons_self ..)).1, hb⟩ fun _ e => .inl e)
end
def SR (w0 : World) (FX : Bool × Bool -> List Af) (K : (Nat -> Prop) -> World -> Prop) (s s' : World × (Bool × Bool)) : Prop :=
 (St w0 s.1 (FX s.2) K -> St w0 s'.1 (FX s'.2) K) /\ (s.2.1 = true -> s'.2.1 = true) /\ (s.2.2 = true -> s'.2.2 = true)
theorem SR.refl {w0 : World} {FX : Bool × Bool -> List Af} {K : (Nat -> Prop) -> World -> Prop} : ∀ s, SR w0 FX K s s := fun _ => ⟨id, id, id⟩
theorem SR.trans {w0 : World} {FX : Bool × Bool -> List Af} {K : (Nat -> Prop) -> World -> Prop} : ∀ a b c, SR w0 FX K a b -> SR w0 FX K b c -> SR w0 FX K a c := fun _ _ _ h k => ⟨fun j => k.1 (h.1 j), fun j => k.2.1 (h.2.1 j), fun j => k.2.2 (h.2.2 j)⟩
end
section
open Go.RowKit
attribute [local go_sem ↓] Go.wp_at_zero Go.wp_at_succ
set_option maxRecDepth 20000
set_option exponentiation.threshold 5000
theorem LinkP.next {w0 w : World} {F : List Af} {K : (Nat -> Prop) -> World -> Prop} {L M : List (Nat × Nat)} {x : Nat × Nat} {r : Value} {z : Int} (h : LinkP w0 F K L (x.1 : Nat) (x.2 : Nat) r z w) {j : Nat} (hx : M[j]? = some x) (hL : ∀ u, u ∈ L ↔ u ∈ M.take j) (hN : M.Nodup) (hR : ∀ u ∈ M, (1 <= u.1 /\ u.1 < 64) /\ 1 <= u.2 /\ u.2 < 64) (hA : DQ M) :
  z = 0 /\ ∃ L', FO L' /\ (∀ u, u ∈ L' ↔ u ∈ M.take (j + 1)) /\ St w0 w F fun D w => K D w /\ IsH w D r L' := by
 have hm := List.mem_of_getElem? hx
 have h1 := hR x hm
 have hne := hA.ne hm
 have htk : ∀ u, u ∈ M.take (j + 1) ↔ u ∈ L ++ [x] := fun u => by
  rw [List.take_add_one, hx, List.mem_append, List.mem_append, hL]; simp
 rcases h with ⟨h, _⟩ | ⟨a, b, ha, hb, _, _, _, h⟩
 ·exact absurd ⟨⟨by omega, by omega⟩, ⟨by omega, by omega⟩, by omega⟩ h
 ·obtain rfl : x = (a, b) := Prod.ext (by show x.1 = a; omega) (by show x.2 = b; omega)
  rcases h with ⟨h, _⟩ | ⟨_, h, _⟩ | ⟨_, hz, L', h3, h4, h5⟩
  ·exfalso
   obtain ⟨i, hi, e⟩ := List.getElem_of_mem ((hL _).1 h)
   rw [List.length_take] at hi
   obtain ⟨hj, ej⟩ := List.getElem?_eq_some_iff.1 hx
   rw [List.getElem_take] at e
   exact List.pairwise_iff_getElem.1 hN i j (by omega) hj (by omega) (e.trans ej.symm)
  ·exact absurd (hA.sub fun u hu => List.mem_of_mem_take ((htk u).2 hu)) h
  ·exact ⟨hz, L', h3, fun u => (h4 u).trans (htk u).symm, h5⟩
end
section
open Go.RowKit
attribute [local go_sem ↓] Go.wp_at_zero Go.wp_at_succ
set_option maxRecDepth 20000
set_option exponentiation.threshold 5000
theorem nodup_le : ∀ {T S : List (Nat × Nat)}, T.Nodup -> (∀ y ∈ T, y ∈ S) -> T.length <= S.length
 | [], _, _, _ => by simp
 | t :: T, S, hT, hs => by
  have hT := List.nodup_cons.1 hT
  have ht := hs t (List.mem_cons_self ..)
  have := nodup_le (T := T) (S := S.erase t) hT.2 fun y hy => (List.mem_erase_of_ne (fun e => hT.1 (by rw [<- e]; exact hy))).2 (hs y (List.mem_cons_of_mem _ hy))
  rw [List.length_erase_of_mem ht] at this
  have := List.length_pos_of_mem ht
  rw [List.length_cons]
  omega
def Part (M : List (Nat × Nat)) (j : Nat) (L : List (Nat × Nat)) : Prop := FO L /\ ∀ u, u ∈ L ↔ u ∈ M.take j
theorem Part.len {M L : List (Nat × Nat)} {j : Nat} (h : Part M j L) : L.length <= M.length := nodup_le h.1.asc.nodup fun y hy => List.mem_of_mem_take ((h.2 y).1 hy)
theorem Part.full {M L : List (Nat × Nat)} (h : Part M M.length L) (hM : Asc M) : L = M := Asc.uniq h.1.asc hM fun u => by rw [h.2, List.take_length]
end
section
open Go.RowKit
attribute [local go_sem ↓] Go.wp_at_zero Go.wp_at_succ
set_option maxRecDepth 20000
set_option exponentiation.threshold 5000
theorem Bt.parts {w : World} {D : Nat -> Prop} {a lp s rv nv gv : Value} {p : Ae} (h : Bt w D (.agg #[a, lp, s, rv, nv, gv]) p) : GU w D lp p.links /\ A6 w D (.agg #[s]) p.start /\ Bm w D rv p.rules /\ Ai w D nv p.never /\ Ai w D gv p.goal := by
 obtain ⟨lp', s', rv', nv', gv', he, h1, h2, h3, h4, h5⟩ := h
 have e : a = .int .i64 p.roles /\ lp = lp' /\ s = s' /\ rv = rv' /\ nv = nv' /\ gv = gv' := by simpa using he
 obtain ⟨-, rfl, rfl, rfl, rfl, rfl⟩ := e
 exact ⟨h1, h2, h3, h4, h5⟩
theorem B6.append {w : World} {D : Nat -> Prop} {xs ys : List Value} {l m : List AK} (hx : xs.length = l.length * 5) (h : B6 w D xs l) (k : B6 w D ys m) : B6 w D (xs ++ ys) (l ++ m) := fun i z hi => by
 rcases Nat.lt_or_ge i l.length with h1 | h1
 ·rw [List.getElem?_append_left h1] at hi
  obtain ⟨a, b, q0, q1, q2, q3, q4, q5, q6⟩ := h i z hi
  refine ⟨a, b, ?_, ?_, ?_, ?_, ?_, q5, q6⟩
  all_goals rw [List.getElem?_append_left (by omega)]; assumption
 ·rw [List.getElem?_append_right h1] at hi
  obtain ⟨a, b, q0, q1, q2, q3, q4, q5, q6⟩ := k _ z hi
  refine ⟨a, b, ?_, ?_, ?_, ?_, ?_, q5, q6⟩
  ·rw [List.getElem?_append_right (by omega), <- q0]; congr 1; omega
  ·rw [List.getElem?_append_right (by omega), <- q1]; congr 1; omega
  ·rw [List.getElem?_append_right (by omega), <- q2]; congr 1; omega
  ·rw [List.getElem?_append_right (by omega), <- q3]; congr 1; omega
  ·rw [List.getElem?_append_right (by omega), <- q4]; congr 1; omega
theorem B6.single {w : World} {D : Nat -> Prop} {a b : Value} {z : AK} (ha : A6 w D (.agg #[a]) z.yes) (hb : A6 w D (.agg #[b]) z.no) : B6 w D [.bool z.revoke, a, b, .int .i64 z.target, .int .i64 z.origin] [z] := fun i x hi => by
 cases i with
 | zero => obtain rfl := Option.some.inj (show some z = some x from hi); exact ⟨a, b, rfl, rfl, rfl, rfl, rfl, ha, hb⟩
 | succ i => simp at hi
end
section
open Go.RowKit
attribute [local go_sem ↓] Go.wp_at_zero Go.wp_at_succ
set_option maxRecDepth 20000
set_option exponentiation.threshold 5000
structure Fits (p : Ae) : Prop where
 start : p.start < B7
 rules : ∀ z ∈ p.rules, z.yes < B7 /\ z.no < B7
 rlen : p.rules.length <= 1000
 never : Small p.never
 nlen : p.never.length <= 1000
 goal : Small p.goal
 glen : p.goal.length <= 1000
theorem Cy {w : World} {D : Nat -> Prop} {v : Value} {l : List (Nat × Nat)} (h : Ai w D v l) : ∃ A c, v = .slice A l.length c := by
 obtain ⟨xs, h1, -⟩ := h
 obtain ⟨A, c, e, _, _⟩ := h1.shape
 exact ⟨A, c, e⟩
theorem IU {P : Program} {fn : Func} {p t2 : Tmp} {ty : TypeId} {R : Ending -> World -> Prop} {a : Act} {w : World} {g : Nat} {t : TypeId} {cs : Array Value} {d : TypeDesc} {v : Value} (h : fn.results = #[.cell p ty, .tmp t2]) (hp : a.eval (.tmp p) = .pointer (some ⟨g, 0, none⟩)) (hb : Ch w g t cs)
  (hu : P.underlying ty = some d) (hd : (match d with | .struct _ | .array _ _ => true | _ => false) = true) (hi : (P.info? ty).map (·.size) = some cs.size) (hv : a.eval (.tmp t2) = v) (hdf : a.defers = []) (hR : R (.returned (.tuple #[.agg cs, v])) w) : bodyPost P fn R .ret a w := by
 have hr : (results fn a.tmps).run P w = .ok (.tuple #[.agg cs, v]) w := by
  have hp' : a.tmps[p]?.getD undef = .pointer (some ⟨g, 0, none⟩) := by simpa [Act.eval] using hp
  have hv' : a.tmps[t2]?.getD undef = v := by simpa [Act.eval] using hv
  simp [results, h, hp', hv', asAddr, run_loadVar_row w g t ty cs (0, 0) d hb hu hd hi]
 exact bodyPost_ret hr hdf hR
theorem cube_sets {w : World} {D : Nat -> Prop} {a b : Value} {z : Nat × Nat} (h : AL w D (.agg #[a, b]) z) : A6 w D (.agg #[a]) z.1 /\ A6 w D (.agg #[b]) z.2 := by
 obtain ⟨_, _, he, h1, h2⟩ := h
 injection he with he; injection he with he; injection he with e1 he; injection he with e2 _
 subst e1 e2
 exact ⟨h1, h2⟩
theorem Gj {w : World} {D : Nat -> Prop} {l : List AK} {A : Option Addr} {c : Nat} (h : Sl w D 5 (.slice A l.length c) l.length (AQ l)) {k : Nat} (hk : k < l.length) :
  ∃ b o, A = some ⟨b, o, none⟩ /\ w.cell? ⟨b, o + k * 5, none⟩ = some (.bool (l.getD k Az).revoke) /\ w.cell? ⟨b, o + k * 5 + 1, none⟩ = some (.int .u64 ((l.getD k Az).yes : Nat)) /\ w.cell? ⟨b, o + k * 5 + 2, none⟩ = some (.int .u64 ((l.getD k Az).no : Nat)) /\ w.cell? ⟨b, o + k * 5 + 3, none⟩ = some (.int .i64 (l.getD k Az).target) /\ w.cell? ⟨b, o + k * 5 + 4, none⟩ = some (.int .i64 (l.getD k Az).origin) := by
 obtain ⟨_, A', c', e, h1, h2, h3⟩ := h
 injection e with e1 e2 e3
 subst e1
 obtain ⟨b, o, h4, _, _, h5⟩ := h3 (by omega)
 obtain ⟨q0, q1, q2, q3, q4⟩ := rrcells_at l k _ (AZ Az hk)
 exact ⟨b, o, h4, h5 _ _ q0, by rw [Nat.add_assoc]; exact h5 _ _ q1, by rw [Nat.add_assoc]; exact h5 _ _ q2, by rw [Nat.add_assoc]; exact h5 _ _ q3, by rw [Nat.add_assoc]; exact h5 _ _ q4⟩
set_option maxHeartbeats 4000000 in
theorem Gz {w0 w : World} {F : List Af} {K : (Nat -> Prop) -> World -> Prop} {v : Value} {p : Ae} {L : List (Nat × Nat)} (hl : p.links = some L) (hH : FO L) (hlen : L.length <= 1000) (hB : Fits p) (hS : St w0 w F K) (kp : ∀ D w, K D w -> Bb w D v p) (kt : ∀ D w, K D w -> Bp w /\ D 0) :
  Calls Tryz.prog 52 #[v] w fun e w' => ∃ u, e = .returned (.tuple #[u, .bool true]) /\ St w0 w' F fun D w => K D w /\ Bt w D u p := by
 obtain ⟨pr, lk, ps, rl, nl, gl⟩ := p
 dsimp only at hl
 subst hl
 obtain ⟨lv, rv, nv, gv, L', rfl, hl', h1, h2, h3, h4⟩ := kp _ _ hS.ro
 dsimp only at hl' h1 h2 h3 h4
 obtain rfl : L = L' := by injection hl'
 clear hl'
 obtain ⟨Al, cl, rfl, _, _⟩ := h1.shape
 obtain ⟨Ar, cr, rfl, _, _⟩ := h2.shape
 obtain ⟨An, cn, rfl, _, _⟩ := Sl.shape (h3 : Sl _ _ _ _ _ _)
 obtain ⟨Ag, cg, rfl, _, _⟩ := Sl.shape (h4 : Sl _ _ _ _ _ _)
 clear h1 h2 h3 h4
 have KSt := Lib.hid hS.stable
 have k1 : ∀ D w, K D w -> Sl w D 2 (.slice Al L.length cl) L.length (A9 L) := fun D w h => by
  obtain ⟨_, _, _, _, L', e, e2, h1, _, _, _⟩ := kp D w h
  injection e2 with e2; subst e2
  injection e with e; injection e with e; injection e with _ e; injection e with e1 _; subst e1; exact h1
 have k2 : ∀ D w, K D w -> Sl w D 5 (.slice Ar rl.length cr) rl.length (AQ rl) := fun D w h => by
  obtain ⟨_, _, _, _, L', e, e2, _, h1, _, _⟩ := kp D w h
  injection e with e; injection e with e; injection e with _ e; injection e with _ e; injection e with _ e; injection e with e1 _; subst e1; exact h1
 have k3 : ∀ D w, K D w -> BX w D (.slice An nl.length cn) nl := fun D w h => by
  obtain ⟨_, _, _, _, L', e, e2, _, _, h1, _⟩ := kp D w h
  injection e with e; injection e with e; injection e with _ e; injection e with _ e; injection e with _ e; injection e with _ e; injection e with e1 _; subst e1; exact h1
 have k4 : ∀ D w, K D w -> BX w D (.slice Ag gl.length cg) gl := fun D w h => by
  obtain ⟨_, _, _, _, L', e, e2, _, _, _, h1⟩ := kp D w h
  injection e with e; injection e with e; injection e with _ e; injection e with _ e; injection e with _ e; injection e with _ e; injection e with _ e; injection e with e1 _; subst e1; exact h1
 have HF := Lib.hid hB
 have HH := Lib.hid hH
 have hrl1 := HF.out.rlen
 clear hB hH kp
 dsimp only at hrl1
 go_enter Tryz.func52, Tryz.ntmps52
 go_wp2_with (first
  | ((with_reducible refine qA 1 ?_); refine Ak hS rfl _ _ rfl (.agg #[.int .i64 pr, .slice Al L.length cl, .int .u64 (ps : Nat), .slice Ar rl.length cr, .slice An nl.length cn, .slice Ag gl.length cg]) _ rfl rfl ?_; clear hS; intro g1 w_ hS; (try simp only [Act.put, Act.eval, zz, Value.cells] at hS))
  | ((with_reducible refine qA 2 ?_); refine qa hS #[.int .i64 0, .pointer none, .slice none 0 0, .slice none 0 0, .slice none 0 0, .slice none 0 0] ?_; clear hS; intro g2 w_ hS))
 have hJ0 : GJ w0 (.box g2 31 #[.int .i64 0, .pointer none, .slice none 0 0, .slice none 0 0, .slice none 0 0, .slice none 0 0] :: .box g1 37 #[.int .i64 pr, .slice Al L.length cl, .int .u64 (ps : Nat), .slice Ar rl.length cr, .slice An nl.length cn, .slice Ag gl.length cg] :: F) 31 #[.int .i64 0, .pointer none, .slice none 0 0, .slice none 0 0, .slice none 0 0, .slice none 0 0] (w_.drew, ⟨none, K⟩) := hS.drew
 have hRr := @GR.refl w0 (.box g2 31 #[.int .i64 0, .pointer none, .slice none 0 0, .slice none 0 0, .slice none 0 0, .slice none 0 0] :: .box g1 37 #[.int .i64 pr, .slice Al L.length cl, .int .u64 (ps : Nat), .slice Ar rl.length cr, .slice An nl.length cn, .slice Ag gl.length cg] :: F) 31 #[.int .i64 0, .pointer none, .slice none 0 0, .slice none 0 0, .slice none 0 0, .slice none 0 0]
 have hRt := @GR.trans w0 (.box g2 31 #[.int .i64 0, .pointer none, .slice none 0 0, .slice none 0 0, .slice none 0 0, .slice none 0 0] :: .box g1 37 #[.int .i64 pr, .slice Al L.length cl, .int .u64 (ps : Nat), .slice Ar rl.length cr, .slice An nl.length cn, .slice Ag gl.length cg] :: F) 31 #[.int .i64 0, .pointer none, .slice none 0 0, .slice none 0 0, .slice none 0 0, .slice none 0 0]
 have hN0 := @GN.start 13 14 w_.drew K
 clear hS
 refine FE (GR w0 (.box g2 31 #[.int .i64 0, .pointer none, .slice none 0 0, .slice none 0 0, .slice none 0 0, .slice none 0 0] :: .box g1 37 #[.int .i64 pr, .slice Al L.length cl, .int .u64 (ps : Nat), .slice Ar rl.length cr, .slice An nl.length cn, .slice Ag gl.length cg] :: F) 31 #[.int .i64 0, .pointer none, .slice none 0 0, .slice none 0 0, .slice none 0 0, .slice none 0 0]) (GN 13 14) (⟨none, K⟩) hRr hRt [.q g1 0, .n pr, .s (fun v w => ∃ q, v = .pointer (some ⟨q, 0, none⟩) /\ ∀ D w1, w.2.K D w1 -> IsH w1 D (.pointer (some ⟨q, 0, none⟩)) []) fun v w w' h hb => by obtain ⟨q, e, h⟩ := h; exact ⟨q, e, fun D w1 h1 => h D w1 (hb.2.1 D w1 h1)⟩, .q g1 2, .i (.int .u64 (ps : Nat)), .s (fun v w => ∃ u, v = .agg #[u] /\ u.oneCell' = true /\ ∀ D w1, w.2.K D w1 -> A6 w1 D (.agg #[u]) ps) fun v w w' h hb => by obtain ⟨u, e, e2, h⟩ := h; exact ⟨u, e, e2, fun D w1 h1 => h D w1 (hb.2.1 D w1 h1)⟩, .q g1 4, .i (.slice An nl.length cn), .s (fun v w => (∃ A c, v = .slice A nl.length c) /\ ∀ D w1, w.2.K D w1 -> Ai w1 D v nl) fun v w w' h hb => ⟨h.1, fun D w1 h1 => h.2 D w1 (hb.2.1 D w1 h1)⟩, .q g1 5, .i (.slice Ag gl.length cg), .s (fun v w => (∃ A c, v = .slice A gl.length c) /\ ∀ D w1, w.2.K D w1 -> Ai w1 D v gl) fun v w w' h hb => ⟨h.1, fun D w1 h1 => h.2 D w1 (hb.2.1 D w1 h1)⟩, .s (fun v w => ∃ q u A c B d, v = .agg #[.int .i64 pr, .pointer (some ⟨q, 0, none⟩), u, .slice none 0 0, .slice A nl.length c, .slice B gl.length d] /\ u.oneCell' = true /\ ∀ D w1, w.2.K D w1 -> IsH w1 D (.pointer (some ⟨q, 0, none⟩)) [] /\ A6 w1 D (.agg #[u]) ps /\ Ai w1 D (.slice A nl.length c) nl /\ Ai w1 D (.slice B gl.length d) gl) fun v w w' h hb => by obtain ⟨q, u, A, c, B, d, e, e2, h⟩ := h; exact ⟨q, u, A, c, B, d, e, e2, fun D w1 h1 => h D w1 (hb.2.1 D w1 h1)⟩, .s (fun v w => ∃ g o, v = .pointer (some ⟨g, 0, none⟩) /\ w.2.b = some (g, o)) fun v w w' h hb => hb.var h, .s (fun v w => ∃ g q u A c B d, w.2.b = some (g, some #[.int .i64 pr, .pointer (some ⟨q, 0, none⟩), u, .slice none 0 0, .slice A nl.length c, .slice B gl.length d]) /\ ∀ D w1, w.2.K D w1 -> IsH w1 D (.pointer (some ⟨q, 0, none⟩)) [] /\ A6 w1 D (.agg #[u]) ps /\ Ai w1 D (.slice A nl.length c) nl /\ Ai w1 D (.slice B gl.length d) gl) fun v w w' h hb => by obtain ⟨g, q, u, A, c, B, d, e, h⟩ := h; exact ⟨g, q, u, A, c, B, d, hb.2.2.2 _ _ e, fun D w1 h1 => h D w1 (hb.2.1 D w1 h1)⟩] ?_ ⟨uF, uC (h := fun w hW hN => (hW.1 hJ0).cell 1 rfl 0 rfl), ?_, uF, uC (h := fun w hW hN => (hW.1 hJ0).cell 1 rfl 2 rfl), ?_, uF, uC (h := fun w hW hN => (hW.1 hJ0).cell 1 rfl 4 rfl), ?_, uF, uC (h := fun w hW hN => (hW.1 hJ0).cell 1 rfl 5 rfl), ?_, ?_, ?_, ?_, trivial⟩ ?_
 ·first | assumption | (intro i; (try dsimp only); split <;> first | trivial | assumption | (left; assumption))
 ·refine uG fun b__ w hW hN hE K hK => ?_
  refine CD rfl (by kernel_rfl) (by simp only [List.map_nil]) (hnew_any (hW.1 hJ0) fun D w1 h => kt D w1 (hW.2.1 D w1 h)) fun e w' ⟨p, he, hs⟩ => ⟨p, he, ?_⟩
  obtain ⟨q, o, rfl, -⟩ := id hs.ro.2
  exact hK _ (w', { w.2 with K := _ }) ⟨q, rfl, fun D w1 h => h.2⟩ (GK.more hs fun D w1 h => h.1)
 ·refine uG fun b__ w hW hN hE K hK => ?_
  have e15 := hE 15
  refine CD rfl (by kernel_rfl) (by simp only [List.map_cons, List.map_nil, e15]) (J8 ps HF.out.start w.1) fun e w' ⟨x, he, hx, hb⟩ => ⟨x, he, ?_⟩
  obtain ⟨u, rfl, h1⟩ := Cg hx
  exact hK _ (w', { w.2 with K := _ }) ⟨u, rfl, h1, fun D w1 h => h.2⟩ (GK.more ((hW.1 hJ0).ret hb A5 hx) fun D w1 h => h.1)
 ·refine uG fun b__ w hW hN hE K hK => ?_
  have e18 := hE 18
  refine CD rfl (by kernel_rfl) (by simp only [List.map_cons, List.map_nil, e18]) (I3 _ nl w.1 _ (k3 _ _ (hW.2.1 _ _ (hW.1 hJ0).ro)) HF.out.never (by have := HF.out.nlen; dsimp only at this; omega)) fun e w' ⟨x, he, hx, hb⟩ => ⟨x, he, ?_⟩
  exact hK _ (w', { w.2 with K := _ }) ⟨Cy hx, fun D w1 h => h.2⟩ (GK.more ((hW.1 hJ0).ret hb AP hx) fun D w1 h => h.1)
 ·refine uG fun b__ w hW hN hE K hK => ?_
  have e21 := hE 21
  refine CD rfl (by kernel_rfl) (by simp only [List.map_cons, List.map_nil, e21]) (I3 _ gl w.1 _ (k4 _ _ (hW.2.1 _ _ (hW.1 hJ0).ro)) HF.out.goal (by have := HF.out.glen; dsimp only at this; omega)) fun e w' ⟨x, he, hx, hb⟩ => ⟨x, he, ?_⟩
  exact hK _ (w', { w.2 with K := _ }) ⟨Cy hx, fun D w1 h => h.2⟩ (GK.more ((hW.1 hJ0).ret hb AP hx) fun D w1 h => h.1)
 ·refine uG fun b__ w hW hN hE K hK => ?_
  have e12 := hE 12
  have e13 := hE 13
  have e16 := hE 16
  have e19 := hE 19
  have e22 := hE 22
  obtain ⟨q, hq, h1⟩ := e13
  obtain ⟨u, hu, hu1, h2⟩ := e16
  obtain ⟨⟨A, c, ha⟩, h3⟩ := e19
  obtain ⟨⟨B, d, hbb⟩, h4⟩ := e22
  rw [ha] at h3
  rw [hbb] at h4
  exact CX rfl (ps := [(0, .int .i64 pr), (1, .pointer (some ⟨q, 0, none⟩)), (2, .agg #[u]), (4, .slice A nl.length c), (5, .slice B gl.length d)]) (cells := #[.int .i64 pr, .pointer (some ⟨q, 0, none⟩), u, .slice none 0 0, .slice A nl.length c, .slice B gl.length d]) (by simp [e12, hq, hu, ha, hbb]) (by kernel_rfl) (hK _ _ ⟨q, u, A, c, B, d, rfl, hu1, fun D w1 h => ⟨h1 D w1 h, h2 D w1 h, h3 D w1 h, h4 D w1 h⟩⟩ ⟨hRr _, fun _ _ h => h⟩)
 ·refine uG fun b__ w hW hN hE K hK => ?_
  exact gk_alloc rfl (by kernel_rfl) (by kernel_rfl) (hW.1 hJ0) (hN.1 rfl) fun g w' hs => hK _ (w', { w.2 with b := some (g, none) }) ⟨g, none, rfl, rfl⟩ (GK.made (hN.1 rfl) hs)
 ·refine uG fun b__ w hW hN hE K hK => ?_
  have e4 := hE 4
  have e23 := hE 23
  obtain ⟨g, o, hg, hgb⟩ := e4
  obtain ⟨q, u, A, c, B, d, hv, hu1, h1⟩ := e23
  obtain rfl : o = none := (by cases o with | none => rfl | some cs => exact absurd hgb (hN.2 rfl g cs))
  exact gk_store rfl hg hv (hW.1 hJ0) hgb (by kernel_rfl) rfl (by simpa [Value.oneCell'] using hu1) fun w' hs => hK undef (w', { w.2 with b := some (g, some #[.int .i64 pr, .pointer (some ⟨q, 0, none⟩), u, .slice none 0 0, .slice A nl.length c, .slice B gl.length d]) }) ⟨g, q, u, A, c, B, d, rfl, h1⟩ (GK.put hgb hs)
 ·intro vs wz hW hT
  obtain ⟨e11, e12, e13, e14, e15, e16, e17, e18, e19, e20, e21, e22, e23, e4, z14, -⟩ := hT
  have bx : (fun _ : Nat => True) 0 := trivial
  simp only [AB, Act.put, zz, ze]
  obtain ⟨_, g4, q, u, A4, c4, B4, d4, hb4, hK4⟩ := z14
  obtain ⟨g, o, hg, hgb⟩ := e4
  obtain rfl : g = g4 := by rw [hb4] at hgb; injection hgb with h; injection h with h _; exact h.symm
  have hS : St w0 wz.1 (.box g 31 #[.int .i64 pr, .pointer (some ⟨q, 0, none⟩), u, .slice none 0 0, .slice A4 nl.length c4, .slice B4 gl.length d4] :: .box g2 31 #[.int .i64 0, .pointer none, .slice none 0 0, .slice none 0 0, .slice none 0 0, .slice none 0 0] :: .box g1 37 #[.int .i64 pr, .slice Al L.length cl, .int .u64 (ps : Nat), .slice Ar rl.length cr, .slice An nl.length cn, .slice Ag gl.length cg] :: F) wz.2.K := (hW.1 hJ0).some hb4
  obtain ⟨K4, wf, k0, kq, kc, hwf, hS2⟩ : ∃ (K4 : (Nat -> Prop) -> World -> Prop) (wf : World), (∀ D w, K4 D w -> K D w) /\ (∀ D w1, K4 D w1 -> IsH w1 D (.pointer (some ⟨q, 0, none⟩)) []) /\ Hid (∀ D w1, K4 D w1 -> A6 w1 D (.agg #[u]) ps /\ Ai w1 D (.slice A4 nl.length c4) nl /\ Ai w1 D (.slice B4 gl.length d4) gl) /\ wz.1 = wf /\ St w0 wf (.box g 31 #[.int .i64 pr, .pointer (some ⟨q, 0, none⟩), u, .slice none 0 0, .slice A4 nl.length c4, .slice B4 gl.length d4] :: .box g2 31 #[.int .i64 0, .pointer none, .slice none 0 0, .slice none 0 0, .slice none 0 0, .slice none 0 0] :: .box g1 37 #[.int .i64 pr, .slice Al L.length cl, .int .u64 (ps : Nat), .slice Ar rl.length cr, .slice An nl.length cn, .slice Ag gl.length cg] :: F) K4 := ⟨_, _, hW.2.1, fun D w1 h => (hK4 D w1 h).1, Lib.hid fun D w1 h => (hK4 D w1 h).2, rfl, hS⟩
  rw [hwf]
  simp only [show vs (4 : Nat) = _ from hg]
  clear hS hW hJ0 hRr hRt hN0 e11 e12 e13 e14 e15 e16 e17 e18 e19 e20 e21 e22 e23 hb4 hgb hK4 hg hwf
  have hS := hS2
  clear hS2
  generalize vs 11 = s11, vs 12 = s12, vs 13 = s13, vs 14 = s14, vs 15 = s15, vs 16 = s16, vs 17 = s17, vs 18 = s18, vs 19 = s19, vs 20 = s20, vs 21 = s21, vs 22 = s22, vs 23 = s23
  obtain ⟨Au, cu, lu, hvu, -⟩ := (kc.out _ _ hS.ro).1.parts
  obtain rfl : u = .slice Au lu.length cu := by injection hvu with hvu; simpa using hvu
  clear hvu
  generalize lu.length = nu at *
  have KS4 := Lib.hid hS.stable
  go_wp2_with (first | ((with_reducible refine qK ?_); refine qC hS ?_))
  have HNX : Hid (∀ (j : Nat) (x : Nat × Nat) (L' : List (Nat × Nat)), L[j]? = some x -> Part L j L' -> ∀ (F : List Af) (K : (Nat -> Prop) -> World -> Prop) (w : World) (r : Value) (z : Int), LinkP w0 F K L' (x.1 : Nat) (x.2 : Nat) r z w -> z = 0 /\ ∃ L'', Part L (j + 1) L'' /\ St w0 w F fun D w => K D w /\ IsH w D r L'') := Lib.hid fun j x L' hx hP F K w r z h => by
   obtain ⟨h1, L'', h2, h3, h4⟩ := h.next hx hP.2 HH.out.asc.nodup HH.out.role HH.out.acyc
   exact ⟨h1, L'', ⟨h2, h3⟩, h4⟩
  have HLF : Hid (∀ L', Part L L.length L' -> L' = L) := Lib.hid fun L' h => h.full HH.out.asc
  have hP0 : Part L 0 [] := ⟨FO.nil, by simp⟩
  have k1' : ∀ D w, K4 D w -> Sl w D 2 (.slice Al L.length cl) L.length (A9 L) := fun D w h => k1 D w (k0 D w h)
  go_loopw [27] (fun i wr => ∃ (j q' : Nat) (L' : List (Nat × Nat)), i = .int .i64 (j : Nat) /\ j <= L.length /\ Hid (Part L j L') /\ St w0 wr (.box g 31 #[.int .i64 pr, .pointer (some ⟨q', 0, none⟩), .slice Au nu cu, .slice none 0 0, .slice A4 nl.length c4, .slice B4 gl.length d4] :: .box g2 31 #[.int .i64 0, .pointer none, .slice none 0 0, .slice none 0 0, .slice none 0 0, .slice none 0 0] :: .box g1 37 #[.int .i64 pr, .slice Al L.length cl, .int .u64 (ps : Nat), .slice Ar rl.length cr, .slice An nl.length cn, .slice Ag gl.length cg] :: F) fun D w => K4 D w /\ IsH w D (.pointer (some ⟨q', 0, none⟩)) L') (fun i _ => L.length - (intOf i).toNat)
  case atStart => exact ⟨0, q, [], rfl, by omega, Lib.hid hP0, hS.mono (KS4.out.and DF) fun D w h => ⟨h, kq D w h⟩⟩
  case round =>
   clear hS hP0
   obtain ⟨j, q', L', rfl, hj, HP, hS⟩ := hrel
   by_cases hlj : j < L.length
   ·obtain ⟨f1, f2⟩ := BF L j hlj
    have HNY := Lib.hid (HNX.out j _ L' (AZ (0, 0) hlj) HP.out)
    have HLL : Hid (L'.length <= 900000) := Lib.hid (by have := HP.out.len; omega)
    generalize L.getD j (0, 0) = z at *
    obtain ⟨za, zb⟩ := z
    dsimp only at f1 f2 HNY
    have kp2 : ∀ D w, (K4 D w /\ IsH w D (.pointer (some ⟨q', 0, none⟩)) L') -> Sl w D 2 (.slice Al L.length cl) L.length (A9 L) := fun D w h => k1' D w h.1
    go_wp2_with (first
     | ((with_reducible refine qB ?_); refine qc ?_ ?_ <;> intro h_ <;> go_prune)
     | ((with_reducible refine qI ?_); refine qj hS Tryz.underlying32 ?_; intro b_ j_ hc0_ hc1_)
     | ((with_reducible refine qA 6 ?_); refine Bf hS rfl _ rfl (by kernel_rfl) ?_; clear hS; intro g6 w_ hS; (try simp only [Act.put, Act.eval, zz, Value.cells] at hS))
     | (go_at_call 94; refine (hlink_any (.pointer (some ⟨q', 0, none⟩)) L' (za : Nat) (zb : Nat) HP.out.1 HLL.out hS (fun D w h => h.2) (fun D w h => kt D w (k0 D w h.1))).mono ?_; clear hS; rintro e w_ ⟨r, z, rfl, hP⟩; obtain ⟨rfl, L'', hP2, hS⟩ := HNY.out _ _ _ _ _ hP; replace hP2 := Lib.hid hP2; clear hP; obtain ⟨q2, _, rfl, -⟩ := id hS.ro.2)
     | ((with_reducible refine qM ?_); (first | refine qS hS ?_ | refine qT hS ?_); clear hS; intro w_ hS; (try simp only [Act.put, Act.eval, zz, Value.cells] at hS))
     | ((with_reducible refine qK ?_); refine qC hS ?_))
    exact ⟨⟨j + 1, q2, L'', by go_num, hlj, hP2, (hS.sub (List.sublist_cons_self _ _)).mono (KS4.out.and DF) fun D w h => ⟨h.1.1, h.2⟩⟩, by simp [intOf]; omega⟩
   ·obtain rfl : L.length = j := by omega
    rw [HLF.out _ HP.out] at hS
    clear HP HNX HLF
    go_wp2_with (first | ((with_reducible refine qB ?_); refine qc ?_ ?_ <;> intro h_ <;> go_prune) | ((with_reducible refine qK ?_); refine qC hS ?_))
    obtain ⟨K5, k5, kh, hS2⟩ : ∃ K5 : (Nat -> Prop) -> World -> Prop, (∀ D w, K5 D w -> K4 D w) /\ Hid (∀ D w, K5 D w -> IsH w D (.pointer (some ⟨q', 0, none⟩)) L) /\ St w0 wr (.box g 31 #[.int .i64 pr, .pointer (some ⟨q', 0, none⟩), .slice Au nu cu, .slice none 0 0, .slice A4 nl.length c4, .slice B4 gl.length d4] :: .box g2 31 #[.int .i64 0, .pointer none, .slice none 0 0, .slice none 0 0, .slice none 0 0, .slice none 0 0] :: .box g1 37 #[.int .i64 pr, .slice Al L.length cl, .int .u64 (ps : Nat), .slice Ar rl.length cr, .slice An nl.length cn, .slice Ag gl.length cg] :: F) K5 := ⟨_, fun _ _ h => h.1, Lib.hid fun _ _ h => h.2, hS⟩
    clear hS
    have hS := hS2.nil 58 5
    clear hS2
    have KS5 := Lib.hid hS.stable
    have kr : ∀ D w, K5 D w -> Sl w D 5 (.slice Ar rl.length cr) rl.length (AQ rl) := fun D w h => k2 D w (k0 D w (k5 D w h))
    go_loopw [50] (fun i wr => ∃ (j : Nat) (rv : Value) (xs : List Value), i = .int .i64 (j : Nat) /\ j <= rl.length /\ St w0 wr (.own rv 58 5 j xs :: .box g 31 #[.int .i64 pr, .pointer (some ⟨q', 0, none⟩), .slice Au nu cu, rv, .slice A4 nl.length c4, .slice B4 gl.length d4] :: .box g2 31 #[.int .i64 0, .pointer none, .slice none 0 0, .slice none 0 0, .slice none 0 0, .slice none 0 0] :: .box g1 37 #[.int .i64 pr, .slice Al L.length cl, .int .u64 (ps : Nat), .slice Ar rl.length cr, .slice An nl.length cn, .slice Ag gl.length cg] :: F) fun D w => K5 D w /\ B6 w D xs (rl.take j)) (fun i _ => rl.length - (intOf i).toNat)
    case atStart => exact ⟨0, _, [], rfl, by omega, hS.mono (KS5.out.and E1) fun D w h => ⟨h, fun i z hi => by simp at hi⟩⟩
    case round =>
     clear hS
     obtain ⟨j, rv, xs, rfl, hj2, hS⟩ := hrel
     obtain ⟨Arv, crv, rfl, _, _⟩ := Bl (hS.own 0 rfl)
     by_cases hlj : j < rl.length
     ·obtain ⟨bk, o, rfl, c0, c1, c2, c3, c4'⟩ := Gj (kr _ _ hS.ro.1) hlj
      have HT : Hid (rl.take (j + 1) = rl.take j ++ [rl.getD j Az]) := Lib.hid (Fk rl j Az hlj)
      have HZ : Hid ((rl.getD j Az).yes < B7 /\ (rl.getD j Az).no < B7) := Lib.hid (HF.out.rules _ (by rw [List.getD_eq_getElem?_getD, List.getElem?_eq_getElem hlj]; exact List.getElem_mem hlj))
      have HLT : Hid ((rl.take j).length = j) := Lib.hid (by rw [List.length_take]; omega)
      generalize rl.getD j Az = z at *
      obtain ⟨zr, zy, zn, zt, zo⟩ := z
      dsimp only at c0 c1 c2 c3 c4' HZ
      go_wp2_with (first
       | ((with_reducible refine qB ?_); refine qc ?_ ?_ <;> intro h_ <;> go_prune)
       | ((with_reducible refine qA 53 ?_); refine BigFrame.wpList_want rfl fun _ hK => AM (cs := [.bool zr, .int .u64 (zy : Nat), .int .u64 (zn : Nat), .int .i64 zt, .int .i64 zo]) rfl rfl (FC c0 c1 c2 c3 c4') Tryz.underlying96 rfl (by kernel_rfl) (hK _ _ ?_))
       | ((with_reducible refine qA 10 ?_); refine qa hS #[.bool false, .int .u64 0, .int .u64 0, .int .i64 0, .int .i64 0] ?_; clear hS; intro g10 w_ hS)
       | ((with_reducible refine qM ?_); (first | refine qS hS ?_ | refine qT hS ?_); clear hS; intro w_ hS; (try simp only [Act.put, Act.eval, zz, Value.cells] at hS)))
      obtain ⟨K6, k6, hS2⟩ : ∃ K6 : (Nat -> Prop) -> World -> Prop, Hid (∀ D w, K6 D w -> K5 D w /\ B6 w D xs (rl.take j)) /\ St w0 w_ (.box g10 96 #[.bool zr, .int .u64 (zy : Nat), .int .u64 (zn : Nat), .int .i64 zt, .int .i64 zo] :: .own (.slice Arv j crv) 58 5 j xs :: .box g 31 #[.int .i64 pr, .pointer (some ⟨q', 0, none⟩), .slice Au nu cu, .slice Arv j crv, .slice A4 nl.length c4, .slice B4 gl.length d4] :: .box g2 31 #[.int .i64 0, .pointer none, .slice none 0 0, .slice none 0 0, .slice none 0 0, .slice none 0 0] :: .box g1 37 #[.int .i64 pr, .slice Al L.length cl, .int .u64 (ps : Nat), .slice (some ⟨bk, o, none⟩) rl.length cr, .slice An nl.length cn, .slice Ag gl.length cg] :: F) K6 := ⟨_, Lib.hid fun _ _ h => h, hS⟩
      clear hS
      have hS := hS2
      clear hS2
      have KS6 := Lib.hid hS.stable
      have h0d := hS.drew
      refine wp_zS [6, 11, 12, 13, 15] [some (.pointer (some ⟨g, 3, none⟩)), some (.slice Arv j crv), some (.pointer (some ⟨g10, 0, none⟩)), some (.bool zr), some (.pointer (some ⟨g10, 1, none⟩)), some (.agg #[.int .u64 (zy : Nat), .int .u64 (zn : Nat)]), none, some (.pointer (some ⟨g10, 3, none⟩)), some (.int .i64 zt), some (.pointer (some ⟨g10, 4, none⟩)), some (.int .i64 zo), none, none, none, some (.pointer (some ⟨g, 3, none⟩)), none] (fun vs w => match vs with | [] => St w0 w (.box g10 96 #[.bool zr, .int .u64 (zy : Nat), .int .u64 (zn : Nat), .int .i64 zt, .int .i64 zo] :: .own (.slice Arv j crv) 58 5 j xs :: .box g 31 #[.int .i64 pr, .pointer (some ⟨q', 0, none⟩), .slice Au nu cu, .slice Arv j crv, .slice A4 nl.length c4, .slice B4 gl.length d4] :: .box g2 31 #[.int .i64 0, .pointer none, .slice none 0 0, .slice none 0 0, .slice none 0 0, .slice none 0 0] :: .box g1 37 #[.int .i64 pr, .slice Al L.length cl, .int .u64 (ps : Nat), .slice (some ⟨bk, o, none⟩) rl.length cr, .slice An nl.length cn, .slice Ag gl.length cg] :: F) K6 | [z] => ∃ a b : Value, z = .agg #[a, b] /\ St w0 w (.box g10 96 #[.bool zr, .int .u64 (zy : Nat), .int .u64 (zn : Nat), .int .i64 zt, .int .i64 zo] :: .own (.slice Arv j crv) 58 5 j xs :: .box g 31 #[.int .i64 pr, .pointer (some ⟨q', 0, none⟩), .slice Au nu cu, .slice Arv j crv, .slice A4 nl.length c4, .slice B4 gl.length d4] :: .box g2 31 #[.int .i64 0, .pointer none, .slice none 0 0, .slice none 0 0, .slice none 0 0, .slice none 0 0] :: .box g1 37 #[.int .i64 pr, .slice Al L.length cl, .int .u64 (ps : Nat), .slice (some ⟨bk, o, none⟩) rl.length cr, .slice An nl.length cn, .slice Ag gl.length cg] :: F) (fun D w => K6 D w /\ AL w D (.agg #[a, b]) (zy, zn)) | [_, z] => ∃ a b : Value, z = .agg #[.bool zr, a, b, .int .i64 zt, .int .i64 zo] /\ St w0 w (.box g10 96 #[.bool zr, .int .u64 (zy : Nat), .int .u64 (zn : Nat), .int .i64 zt, .int .i64 zo] :: .own (.slice Arv j crv) 58 5 j xs :: .box g 31 #[.int .i64 pr, .pointer (some ⟨q', 0, none⟩), .slice Au nu cu, .slice Arv j crv, .slice A4 nl.length c4, .slice B4 gl.length d4] :: .box g2 31 #[.int .i64 0, .pointer none, .slice none 0 0, .slice none 0 0, .slice none 0 0, .slice none 0 0] :: .box g1 37 #[.int .i64 pr, .slice Al L.length cl, .int .u64 (ps : Nat), .slice (some ⟨bk, o, none⟩) rl.length cr, .slice An nl.length cn, .slice Ag gl.length cg] :: F) (fun D w => K6 D w /\ AL w D (.agg #[a, b]) (zy, zn)) | [_, _, z] => ∃ a b : Value, St w0 w (.box g10 96 #[.bool zr, .int .u64 (zy : Nat), .int .u64 (zn : Nat), .int .i64 zt, .int .i64 zo] :: .own (.slice Arv j crv) 58 5 j xs :: .box g 31 #[.int .i64 pr, .pointer (some ⟨q', 0, none⟩), .slice Au nu cu, .slice Arv j crv, .slice A4 nl.length c4, .slice B4 gl.length d4] :: .box g2 31 #[.int .i64 0, .pointer none, .slice none 0 0, .slice none 0 0, .slice none 0 0, .slice none 0 0] :: .box g1 37 #[.int .i64 pr, .slice Al L.length cl, .int .u64 (ps : Nat), .slice (some ⟨bk, o, none⟩) rl.length cr, .slice An nl.length cn, .slice Ag gl.length cg] :: F) (fun D w => (K6 D w /\ AL w D (.agg #[a, b]) (zy, zn)) /\ Sl w D 5 z 1 [.bool zr, a, b, .int .i64 zt, .int .i64 zo]) | [_, _, _, p'] => ∃ a b : Value, St w0 w (.box g10 96 #[.bool zr, .int .u64 (zy : Nat), .int .u64 (zn : Nat), .int .i64 zt, .int .i64 zo] :: .own p' 58 5 (j + 1) (xs ++ [.bool zr, a, b, .int .i64 zt, .int .i64 zo]) :: .box g 31 #[.int .i64 pr, .pointer (some ⟨q', 0, none⟩), .slice Au nu cu, .slice Arv j crv, .slice A4 nl.length c4, .slice B4 gl.length d4] :: .box g2 31 #[.int .i64 0, .pointer none, .slice none 0 0, .slice none 0 0, .slice none 0 0, .slice none 0 0] :: .box g1 37 #[.int .i64 pr, .slice Al L.length cl, .int .u64 (ps : Nat), .slice (some ⟨bk, o, none⟩) rl.length cr, .slice An nl.length cn, .slice Ag gl.length cg] :: F) (fun D w => K6 D w /\ AL w D (.agg #[a, b]) (zy, zn)) | [_, _, _, p', _] => ∃ a b : Value, St w0 w (.box g10 96 #[.bool zr, .int .u64 (zy : Nat), .int .u64 (zn : Nat), .int .i64 zt, .int .i64 zo] :: .own p' 58 5 (j + 1) (xs ++ [.bool zr, a, b, .int .i64 zt, .int .i64 zo]) :: .box g 31 #[.int .i64 pr, .pointer (some ⟨q', 0, none⟩), .slice Au nu cu, p', .slice A4 nl.length c4, .slice B4 gl.length d4] :: .box g2 31 #[.int .i64 0, .pointer none, .slice none 0 0, .slice none 0 0, .slice none 0 0, .slice none 0 0] :: .box g1 37 #[.int .i64 pr, .slice Al L.length cl, .int .u64 (ps : Nat), .slice (some ⟨bk, o, none⟩) rl.length cr, .slice An nl.length cn, .slice Ag gl.length cg] :: F) (fun D w => K6 D w /\ AL w D (.agg #[a, b]) (zy, zn)) | _ => False) ?_ ⟨vF, ?_, vF, ?_, vF, ?_, ?_, vF, ?_, vF, ?_, ?_, ?_, ?_, vF, ?_, trivial⟩ ?_
      ·first | assumption | (dsimp only; assumption)
      ·refine vR 0 3 fun b__ w vs hS h1 h2 hE K hK => ?_
       rcases vs with _ | ⟨x0, _ | ⟨x1, _ | ⟨x2, _ | ⟨x3, vs⟩⟩⟩⟩ <;> first | (exfalso; first | exact hS | (revert h1 h2; simp <;> omega); done) | ((have e54 := hE 54); (first | exact Ax rfl e54 (by kernel_rfl) (hS.shut 2 rfl 3 rfl) (hK _ rfl) | (obtain ⟨_, _, hS⟩ := hS; exact Ax rfl e54 (by kernel_rfl) (hS.shut 2 rfl 3 rfl) (hK _ rfl)) | (obtain ⟨_, _, _, hS⟩ := hS; exact Ax rfl e54 (by kernel_rfl) (hS.shut 2 rfl 3 rfl) (hK _ rfl))))
      ·refine vR 0 1 fun b__ w vs hS h1 h2 hE K hK => ?_
       rcases vs with _ | ⟨x0, _ | ⟨x1, vs⟩⟩ <;> first | (exfalso; first | exact hS | (revert h1 h2; simp <;> omega); done) | ((have e56 := hE 56); (first | exact Ax rfl e56 (by kernel_rfl) (hS.shut 0 rfl 0 rfl) (hK _ rfl) | (obtain ⟨_, _, _, hS⟩ := hS; exact Ax rfl e56 (by kernel_rfl) (hS.shut 0 rfl 0 rfl) (hK _ rfl))))
      ·refine vR 0 0 fun b__ w vs hS h1 h2 hE K hK => ?_
       rcases vs with _ | ⟨x0, vs⟩ <;> first | (exfalso; first | exact hS | (revert h1 h2; simp <;> omega); done) | ((have e58 := hE 58); (exact AM (cs := [.int .u64 (zy : Nat), .int .u64 (zn : Nat)]) rfl e58 (Id (hS.shut 0 rfl 1 rfl) (hS.shut 0 rfl 2 rfl)) Tryz.underlying94 rfl (by kernel_rfl) (hK _ rfl)))
      ·refine vX 0 fun b__ w vs hS hl hE K hK => ?_
       obtain rfl := vs_len0 hl
       have e59 := hE 59
       refine CD rfl (by kernel_rfl) (by simp only [List.map_cons, List.map_nil, e59]) (lmake_any zy zn HZ.out.1 HZ.out.2 _) fun e w' ⟨z, he, hx, hb_⟩ => ⟨z, he, ?_⟩
       obtain ⟨a, b, rfl, -, -⟩ := id hx
       exact hK _ w' ⟨a, b, rfl, hS.ret hb_ Bx hx⟩
      ·refine vR 0 1 fun b__ w vs hS h1 h2 hE K hK => ?_
       rcases vs with _ | ⟨x0, _ | ⟨x1, vs⟩⟩ <;> first | (exfalso; first | exact hS | (revert h1 h2; simp <;> omega); done) | ((have e61 := hE 61); (first | exact Ax rfl e61 (by kernel_rfl) (hS.shut 0 rfl 3 rfl) (hK _ rfl) | (obtain ⟨_, _, _, hS⟩ := hS; exact Ax rfl e61 (by kernel_rfl) (hS.shut 0 rfl 3 rfl) (hK _ rfl))))
      ·refine vR 0 1 fun b__ w vs hS h1 h2 hE K hK => ?_
       rcases vs with _ | ⟨x0, _ | ⟨x1, vs⟩⟩ <;> first | (exfalso; first | exact hS | (revert h1 h2; simp <;> omega); done) | ((have e63 := hE 63); (first | exact Ax rfl e63 (by kernel_rfl) (hS.shut 0 rfl 4 rfl) (hK _ rfl) | (obtain ⟨_, _, _, hS⟩ := hS; exact Ax rfl e63 (by kernel_rfl) (hS.shut 0 rfl 4 rfl) (hK _ rfl))))
      ·refine vX 1 fun b__ w vs hS hl hE K hK => ?_
       obtain ⟨x0, rfl⟩ := Ik hl
       have e57 := hE 57
       have e60 := hE 60
       have e62 := hE 62
       have e64 := hE 64
       obtain ⟨a, b, rfl, hS⟩ := hS
       exact CX rfl (ps := [(0, .bool zr), (1, .agg #[a, b]), (2, .int .i64 zt), (3, .int .i64 zo)]) (cells := #[.bool zr, a, b, .int .i64 zt, .int .i64 zo]) (by simp [e57, e60, e62, e64]) (by kernel_rfl) (hK _ _ ⟨a, b, rfl, hS⟩)
      ·refine vX 2 fun b__ w vs hS hl hE K hK => ?_
       obtain ⟨x0, x1, rfl⟩ := Ij hl
       have e65 := hE 65
       obtain ⟨a, b, rfl, hS⟩ := hS
       refine Bv (ps := [(0, .agg #[.bool zr, a, b, .int .i64 zt, .int .i64 zo])]) (cells := #[.bool zr, a, b, .int .i64 zt, .int .i64 zo]) rfl Tryz.underlying28 (by simp [e65]) (by kernel_rfl) ?_
       intro w' hbx hbel
       exact hK _ w' ⟨a, b, hS.ret hbel (AA (by decide)) (⟨by simp, _, 1, rfl, by omega, by unfold maxLen; omega, fun _ => ⟨w.heap.size, 0, rfl, Nat.le_refl _, hbx.lt, fun j x hj => by rw [Nat.zero_add]; exact (hbx.cell j).trans (by simpa using hj)⟩⟩ : Sl w' (w.heap.size <= ·) 5 (.slice (some ⟨w.heap.size, 0, none⟩) 1 1) 1 [.bool zr, a, b, .int .i64 zt, .int .i64 zo])⟩
      ·refine vX 3 fun b__ w vs hS hl hE K hK => ?_
       obtain ⟨x0, x1, x2, rfl⟩ := Ii hl
       have e55 := hE 55
       have e66 := hE 66
       obtain ⟨a, b, h3⟩ := hS
       refine Ez rfl ty_rules e55 (h3.own 1 rfl) e66 h3.ro.2 (by obtain ⟨_, _, he, hy, hn⟩ := h3.ro.1.2; injection he with he; injection he with he; injection he with e1 he; injection he with e2 he; subst e1 e2; obtain ⟨A8, m8, c8, rfl⟩ := hy.shape; obtain ⟨B8, k8, d8, rfl⟩ := hn.shape; intro u hu; simp at hu; rcases hu with rfl | rfl | rfl | rfl | rfl <;> rfl) (by omega) (by omega) h3.size ?_
       intro v' w' ho hg hat
       exact hK v' w' ⟨a, b, (h3.upd 1 rfl (.own v' 58 5 (j + 1) (xs ++ [.bool zr, a, b, .int .i64 zt, .int .i64 zo])) hg ho hat).mono (KS6.out.and Bx) fun D w h => h.1⟩
      ·refine vX 4 fun b__ w vs hS hl hE K hK => ?_
       obtain ⟨x0, x1, x2, x3, rfl⟩ := vs_len4 hl
       have e68 := hE 68
       have e67 := hE 67
       obtain ⟨a, b, h3⟩ := hS
       refine Dc rfl e68 e67 (h3.box 2 rfl) (by simp) (Hh (h3.own 1 rfl)) (own_one (h3.own 1 rfl)) (by kernel_rfl) ?_
       intro w' hbx hup
       exact hK _ w' ⟨a, b, h3.upd 2 rfl (.box g 31 #[.int .i64 pr, .pointer (some ⟨q', 0, none⟩), .slice Au nu cu, x3, .slice A4 nl.length c4, .slice B4 gl.length d4]) (Bn hup) ⟨(h3.holds _ (List.mem_of_getElem? (i := 2) rfl)).1, hbx⟩ fun _ e => .inl e⟩
      ·intro us wz vs hS hl hT
       obtain ⟨x0, x1, x2, x3, x4, rfl⟩ := vs_len5 hl
       obtain ⟨e54, e55, e56, e57, e58, e59, e60, e61, e62, e63, e64, e65, e66, e67, e68, -⟩ := hT
       clear hl
       simp only [AB, Act.put, zz, ze]
       obtain ⟨a, b, hS⟩ := hS
       clear h0d
       go_wp2_with fail
       have hxl := HLT.out
       refine ⟨⟨j + 1, _, xs ++ [.bool zr, a, b, .int .i64 zt, .int .i64 zo], by go_num, hlj, (hS.sub (List.sublist_cons_self _ _)).mono (KS5.out.and E1) fun D w h => ⟨(k6.out _ _ h.1).1, ?_⟩⟩, by simp [intOf]; omega⟩
       rw [HT.out]
       have hz := (hS.own 1 rfl).1
       exact B6.append (by simp at hz; omega) (k6.out _ _ h.1).2 (B6.single (z := ⟨zr, zy, zn, zt, zo⟩) (cube_sets h.2).1 (cube_sets h.2).2)
     ·obtain rfl : rl.length = j := by omega
      rw [List.take_length] at hS
      go_wp2_with (first | ((with_reducible refine qB ?_); refine qc ?_ ?_ <;> intro h_ <;> go_prune))
      obtain ⟨K7, k7, ks7, hS2⟩ : ∃ K7 : (Nat -> Prop) -> World -> Prop, Hid (∀ D w, K7 D w -> (K5 D w /\ B6 w D xs rl) /\ Sl w D 5 (.slice Arv rl.length crv) rl.length xs) /\ AH K7 /\ St w0 wr (.box g 31 #[.int .i64 pr, .pointer (some ⟨q', 0, none⟩), .slice Au nu cu, .slice Arv rl.length crv, .slice A4 nl.length c4, .slice B4 gl.length d4] :: .box g2 31 #[.int .i64 0, .pointer none, .slice none 0 0, .slice none 0 0, .slice none 0 0, .slice none 0 0] :: .box g1 37 #[.int .i64 pr, .slice Al L.length cl, .int .u64 (ps : Nat), .slice Ar rl.length cr, .slice An nl.length cn, .slice Ag gl.length cg] :: F) K7 := ⟨_, Lib.hid fun _ _ h => h, (hS.freeze 0 (by decide) rfl).stable, hS.freeze 0 (by decide) rfl⟩
      clear hS
      have hS := hS2
      clear hS2
      have hJ0 : St w0 wr.drew (.box g 31 #[.int .i64 pr, .pointer (some ⟨q', 0, none⟩), .slice Au nu cu, .slice Arv rl.length crv, .slice A4 nl.length c4, .slice B4 gl.length d4] :: .box g2 31 (cond (false, false).1 #[.int .i64 pr, .pointer (some ⟨q', 0, none⟩), .slice Au nu cu, .slice Arv rl.length crv, .slice A4 nl.length c4, .slice B4 gl.length d4] #[.int .i64 0, .pointer none, .slice none 0 0, .slice none 0 0, .slice none 0 0, .slice none 0 0]) :: .box g1 37 #[.int .i64 pr, .slice Al L.length cl, .int .u64 (ps : Nat), .slice Ar rl.length cr, .slice An nl.length cn, .slice Ag gl.length cg] :: F) K7 := hS.drew
      have hRr := @SR.refl w0 (fun s => .box g 31 #[.int .i64 pr, .pointer (some ⟨q', 0, none⟩), .slice Au nu cu, .slice Arv rl.length crv, .slice A4 nl.length c4, .slice B4 gl.length d4] :: .box g2 31 (cond s.1 #[.int .i64 pr, .pointer (some ⟨q', 0, none⟩), .slice Au nu cu, .slice Arv rl.length crv, .slice A4 nl.length c4, .slice B4 gl.length d4] #[.int .i64 0, .pointer none, .slice none 0 0, .slice none 0 0, .slice none 0 0, .slice none 0 0]) :: .box g1 37 #[.int .i64 pr, .slice Al L.length cl, .int .u64 (ps : Nat), .slice Ar rl.length cr, .slice An nl.length cn, .slice Ag gl.length cg] :: F) K7
      have hRt := @SR.trans w0 (fun s => .box g 31 #[.int .i64 pr, .pointer (some ⟨q', 0, none⟩), .slice Au nu cu, .slice Arv rl.length crv, .slice A4 nl.length c4, .slice B4 gl.length d4] :: .box g2 31 (cond s.1 #[.int .i64 pr, .pointer (some ⟨q', 0, none⟩), .slice Au nu cu, .slice Arv rl.length crv, .slice A4 nl.length c4, .slice B4 gl.length d4] #[.int .i64 0, .pointer none, .slice none 0 0, .slice none 0 0, .slice none 0 0, .slice none 0 0]) :: .box g1 37 #[.int .i64 pr, .slice Al L.length cl, .int .u64 (ps : Nat), .slice Ar rl.length cr, .slice An nl.length cn, .slice Ag gl.length cg] :: F) K7
      have hN0 : ∀ _ : Nat, True := fun _ => trivial
      clear hS
      refine FE (SR w0 (fun s => .box g 31 #[.int .i64 pr, .pointer (some ⟨q', 0, none⟩), .slice Au nu cu, .slice Arv rl.length crv, .slice A4 nl.length c4, .slice B4 gl.length d4] :: .box g2 31 (cond s.1 #[.int .i64 pr, .pointer (some ⟨q', 0, none⟩), .slice Au nu cu, .slice Arv rl.length crv, .slice A4 nl.length c4, .slice B4 gl.length d4] #[.int .i64 0, .pointer none, .slice none 0 0, .slice none 0 0, .slice none 0 0, .slice none 0 0]) :: .box g1 37 #[.int .i64 pr, .slice Al L.length cl, .int .u64 (ps : Nat), .slice Ar rl.length cr, .slice An nl.length cn, .slice Ag gl.length cg] :: F) K7) (fun _ _ => True) ((false, false)) hRr hRt [.i (.agg #[.int .i64 pr, .pointer (some ⟨q', 0, none⟩), .slice Au nu cu, .slice Arv rl.length crv, .slice A4 nl.length c4, .slice B4 gl.length d4]), .q g 1, .q q' 0, .b true, .s (fun v w => w.2.1 = true) fun v w w' h hb => hb.2.1 h, .b true] ?_ ⟨uR (h := fun w hW hN => (hW.1 hJ0).box 0 rfl), uF, uC (h := fun w hW hN => (hW.1 hJ0).shut 0 rfl 1 rfl), uB (h := fun w hW hN => IK _ _), ?_, uA, trivial⟩ ?_
      ·first | assumption | (intro i; (try dsimp only); split <;> first | trivial | assumption | (left; assumption))
      ·refine uG fun b__ w hW hN hE K hK => ?_
       have e2 : b__.eval (.tmp 2) = .pointer (some ⟨g2, 0, none⟩) := hE 2
       have e70 := hE 70
       have hS := hW.1 hJ0
       exact BS rfl e2 e70 (hS.box 1 rfl) (by kernel_rfl) (by cases w.2.1 <;> rfl) (by simp [Value.oneCell']) fun w4 h1 hU => hK undef (w4, (true, w.2.2)) rfl ⟨⟨fun _ => hS.upd 1 rfl (.box g2 31 #[.int .i64 pr, .pointer (some ⟨q', 0, none⟩), .slice Au nu cu, .slice Arv rl.length crv, .slice A4 nl.length c4, .slice B4 gl.length d4]) (Bn hU) ⟨(hS.holds _ (List.mem_of_getElem? (i := 1) rfl)).1, h1⟩ fun _ e => .inl e, fun _ => rfl, id⟩, fun _ _ h => h⟩
      ·intro vs wz hW hT
       obtain ⟨e70, e71, e72, e73, z4, e3, -⟩ := hT
       have bx : (fun _ : Nat => True) 0 := trivial
       simp only [AB, Act.put, zz, ze]
       obtain ⟨_, hst⟩ := z4
       have hS : St w0 wz.1 (.box g 31 #[.int .i64 pr, .pointer (some ⟨q', 0, none⟩), .slice Au nu cu, .slice Arv rl.length crv, .slice A4 nl.length c4, .slice B4 gl.length d4] :: .box g2 31 (cond wz.2.1 #[.int .i64 pr, .pointer (some ⟨q', 0, none⟩), .slice Au nu cu, .slice Arv rl.length crv, .slice A4 nl.length c4, .slice B4 gl.length d4] #[.int .i64 0, .pointer none, .slice none 0 0, .slice none 0 0, .slice none 0 0, .slice none 0 0]) :: .box g1 37 #[.int .i64 pr, .slice Al L.length cl, .int .u64 (ps : Nat), .slice Ar rl.length cr, .slice An nl.length cn, .slice Ag gl.length cg] :: F) K7 := hW.1 hJ0
       rw [show wz.2.1 = true from hst] at hS
       dsimp only [cond] at hS
       clear hW hJ0 hRr hRt hN0 hst
       generalize wz.1 = wf at *
       simp only [show vs (3 : Nat) = _ from e3]
       go_wp2_with fail
       refine IU Tryz.results52 rfl (hS.box 1 rfl) Tryz.underlying31 rfl (by kernel_rfl) rfl rfl ?_
       refine ⟨_, rfl, (hS.sub (F' := F) (((List.sublist_cons_self _ _).trans (List.sublist_cons_self _ _)).trans (List.sublist_cons_self _ _))).mono (KSt.out.and Cv) fun D w h => ?_⟩
       have h := k7.out _ _ h
       have h2 := kc.out _ _ (k5 _ _ h.1.1)
       exact ⟨k0 _ _ (k5 _ _ h.1.1), _, _, _, _, _, rfl, kh.out _ _ h.1.1, h2.1, ⟨_, h.2, h.1.2⟩, h2.2.1, h2.2.2⟩
theorem BJ.fits {p : Ae} {L : List (Nat × Nat)} {R : Nat} (h : BJ p L R) : Fits p := by
 have hm : Bc R < B7 := by
  have : 2 ^ (R + 1) <= 2 ^ 6 := Nat.pow_le_pow_right (by decide) (by have := h.r5; omega)
  unfold Bc B7; omega
 refine ⟨?_, fun z hz => ?_, by have := h.rlen; omega, fun z hz => ?_, by have := h.nlen; omega, fun z hz => ?_, by have := h.glen; omega⟩
 ·rw [<- h.start]; exact Nat.lt_of_le_of_lt Nat.and_le_right hm
 ·have := (h.rules z hz).2.2.2.2.2
  unfold B7; omega
 ·have := (h.never z hz).1.2.2.2
  unfold B7; omega
 ·have := (h.goal z hz).2.2.2
  unfold B7; omega
theorem BJ.ok {p : Ae} {L : List (Nat × Nat)} {R : Nat} (h : BJ p L R) : p.Ok :=
 ⟨by have := h.rlen; omega, by have := h.nlen; omega, by have := h.glen; omega, fun L' e => by rw [h.links] at e; injection e with e; subst e; exact ⟨h.hok, by have := h.len; omega⟩⟩
end
section
open Go.RowKit
attribute [local go_sem ↓] Go.wp_at_zero Go.wp_at_succ
set_option maxRecDepth 20000
set_option exponentiation.threshold 5000
theorem isH_ptr {w : World} {D : Nat -> Prop} {v : Value} {o : Option (List (Nat × Nat))} (h : GU w D v o) : ∃ p, v = .pointer p := by
 cases o with
 | none => exact ⟨_, h⟩
 | some L => obtain ⟨q, o, h, _⟩ := h; exact ⟨_, h⟩
theorem Bt.cells {w : World} {D : Nat -> Prop} {v : Value} {p : Ae} (h : Bt w D v p) : ∃ cs, v = .agg cs /\ cs.size = 6 /\ cs.all (·.oneCell') = true := by
 obtain ⟨lp, s, rv, nv, gv, rfl, h1, h2, h3, h4, h5⟩ := h
 obtain ⟨_, rfl⟩ := isH_ptr h1
 obtain ⟨_, _, _, rfl⟩ := h2.shape
 obtain ⟨_, _, rfl, _, _⟩ := h3.shape
 obtain ⟨_, _, rfl⟩ := Cy h4
 obtain ⟨_, _, rfl⟩ := Cy h5
 exact ⟨_, rfl, rfl, by simp [Value.oneCell']⟩
theorem Bb.cells {w : World} {D : Nat -> Prop} {v : Value} {p : Ae} (h : Bb w D v p) : ∃ cs, v = .agg cs /\ cs.size = 6 /\ cs.all (·.oneCell') = true := by
 obtain ⟨lv, rv, nv, gv, L, rfl, _, h1, h2, h3, h4⟩ := h
 obtain ⟨_, _, rfl, _, _⟩ := h1.shape
 obtain ⟨_, _, rfl, _, _⟩ := h2.shape
 obtain ⟨_, _, rfl, _, _⟩ := Sl.shape (h3 : Sl _ _ _ _ _ _)
 obtain ⟨_, _, rfl, _, _⟩ := Sl.shape (h4 : Sl _ _ _ _ _ _)
 exact ⟨_, rfl, rfl, by simp [Value.oneCell']⟩
theorem ret_cct {P : Program} {fn : Func} {p p2 t3 : Tmp} {ty ty2 : TypeId} {R : Ending -> World -> Prop} {a : Act} {w : World} {g g2 : Nat} {t t2 : TypeId} {cs cs2 : Array Value} {d d2 : TypeDesc} {v : Value} (h : fn.results = #[.cell p ty, .cell p2 ty2, .tmp t3]) (hp : a.eval (.tmp p) = .pointer (some ⟨g, 0, none⟩)) (hb : Ch w g t cs)
  (hu : P.underlying ty = some d) (hd : (match d with | .struct _ | .array _ _ => true | _ => false) = true) (hi : (P.info? ty).map (·.size) = some cs.size)
  (hp2 : a.eval (.tmp p2) = .pointer (some ⟨g2, 0, none⟩)) (hb2 : Ch w g2 t2 cs2) (hu2 : P.underlying ty2 = some d2) (hd2 : (match d2 with | .struct _ | .array _ _ => true | _ => false) = true) (hi2 : (P.info? ty2).map (·.size) = some cs2.size)
  (hv : a.eval (.tmp t3) = v) (hdf : a.defers = []) (hR : R (.returned (.tuple #[.agg cs, .agg cs2, v])) w) : bodyPost P fn R .ret a w := by
 have hr : (results fn a.tmps).run P w = .ok (.tuple #[.agg cs, .agg cs2, v]) w := by
  have hp' : a.tmps[p]?.getD undef = .pointer (some ⟨g, 0, none⟩) := by simpa [Act.eval] using hp
  have hp2' : a.tmps[p2]?.getD undef = .pointer (some ⟨g2, 0, none⟩) := by simpa [Act.eval] using hp2
  have hv' : a.tmps[t3]?.getD undef = v := by simpa [Act.eval] using hv
  simp [results, h, hp', hp2', hv', asAddr, run_loadVar_row w g t ty cs (0, 0) d hb hu hd hi, run_loadVar_row w g2 t2 ty2 cs2 (0, 0) d2 hb2 hu2 hd2 hi2]
 exact bodyPost_ret hr hdf hR
end
section
open Go.RowKit
attribute [local go_sem ↓] Go.wp_at_zero Go.wp_at_succ
set_option maxRecDepth 20000
set_option exponentiation.threshold 5000
theorem tc_role {L : List (Nat × Nat)} (hH : FO L) {a b : Nat} (h : TC L a b) : (1 <= a /\ a < 64) /\ 1 <= b /\ b < 64 := by
 obtain ⟨y, h1, _⟩ := h.first
 obtain ⟨z, h2, _⟩ := h.last
 exact ⟨(hH.role _ h1).1, (hH.role _ h2).2⟩
theorem tb_senR {L : List (Nat × Nat)} {r : Int} {i : Nat} : (senR L r).testBit i = true ↔ i < 64 /\ DV L (i : Nat) r := by
 unfold senR senTo; exact Bh ..
theorem sen_same {L : List (Nat × Nat)} (hH : FO L) (r : Int) : (if 1 <= r /\ r <= 63 then senM L r.toNat else 0) = senR L r := AY fun i => by
 rw [tb_senR]
 split
 ·rename_i hr
  rw [H6 hH.inr]
  constructor
  ·rintro (rfl | h)
   ·exact ⟨by omega, _, r.toNat, rfl, by omega, by omega, by omega, .inl rfl⟩
   ·have := tc_role hH h
    exact ⟨by omega, i, r.toNat, rfl, by omega, by omega, by omega, .inr h⟩
  ·rintro ⟨_, a, b, h1, h2, _, _, h3⟩
   obtain rfl : i = a := by omega
   obtain rfl : r.toNat = b := by omega
   exact h3
 ·rename_i hr
  rw [Nat.zero_testBit]
  constructor
  ·intro h; cases h
  ·rintro ⟨_, a, b, h1, h2, _, h3, _⟩
   omega
theorem senR_lt (L : List (Nat × Nat)) (r : Int) : senR L r < B7 := by rw [BD]; exact Ft _ _
end
section
open Go.RowKit
attribute [local go_sem ↓] Go.wp_at_zero Go.wp_at_succ
set_option maxRecDepth 20000
set_option exponentiation.threshold 5000
noncomputable def depTo (L : List (Nat × Nat)) (N k : Nat) : Nat := maskOf 64 fun i => ∃ r : Nat, 1 <= r /\ r < k /\ N.testBit r = true /\ (senR L (r : Nat)).testBit i = true
theorem depTo_lt (L : List (Nat × Nat)) (N k : Nat) : depTo L N k < B7 := by rw [BD]; exact Ft _ _
theorem senR_64 {L : List (Nat × Nat)} {r : Int} {i : Nat} (h : (senR L r).testBit i = true) : i < 64 := (tb_senR.1 h).1
theorem depTo_step (L : List (Nat × Nat)) (N k : Nat) (hk : 1 <= k) : depTo L N (k + 1) = if N.testBit k = true then depTo L N k ||| senR L (k : Nat) else depTo L N k := AY fun i => by
 have key : (depTo L N (k + 1)).testBit i = true ↔ (depTo L N k).testBit i = true \/ N.testBit k = true /\ (senR L (k : Nat)).testBit i = true := by
  unfold depTo
  rw [Bh, Bh]
  constructor
  ·rintro ⟨h, r, h1, h2, h3, h4⟩
   by_cases e : r = k
   ·subst e; exact .inr ⟨h3, h4⟩
   ·exact .inl ⟨h, r, h1, by omega, h3, h4⟩
  ·rintro (⟨h, r, h1, h2, h3, h4⟩ | ⟨h1, h2⟩)
   ·exact ⟨h, r, h1, by omega, h3, h4⟩
   ·exact ⟨senR_64 h2, k, hk, by omega, h1, h2⟩
 rw [key]
 split
 ·rename_i h; rw [Dq]; simp [h]
 ·rename_i h; simp [h]
theorem depTo_one (L : List (Nat × Nat)) (N : Nat) : depTo L N 1 = 0 := AY fun i => by
 unfold depTo
 rw [Bh, Nat.zero_testBit]
 constructor
 ·rintro ⟨_, r, h1, h2, _⟩; omega
 ·intro h; cases h
theorem depTo_full {L : List (Nat × Nat)} (hH : FO L) {N R : Nat} (hR : R <= 63) (hb : ∀ i, N.testBit i = true -> i <= R) : depTo L N (R + 1) = depM L N := AY fun i => by
 unfold depTo
 rw [Bh, tb_dep hH.inr]
 constructor
 ·rintro ⟨_, r, h1, h2, h3, h4⟩
  rw [<- sen_same hH, if_pos (by omega), Int.toNat_natCast] at h4
  exact ⟨r, h1, by omega, h3, h4⟩
 ·rintro ⟨r, h1, h2, h3, h4⟩
  have h5 : (senR L (r : Nat)).testBit i = true := by rw [<- sen_same hH, if_pos (by omega), Int.toNat_natCast]; exact h4
  exact ⟨senR_64 h5, r, h1, by have := hb r h3; omega, h3, h5⟩
theorem Bz {w0 : World} {D : Nat -> Prop} {v : Value} {R : Nat} {L : List (Nat × Nat)} {st : Nat} {rl : List AK} {nl gl : List (Nat × Nat)} (h : Bb w0 D v ⟨R, some L, st, rl, nl, gl⟩) :
  ∃ Al cl Ar cr An cn Ag cg, v = .agg #[.int .i64 (R : Nat), .slice Al L.length cl, .int .u64 (st : Nat), .slice Ar rl.length cr, .slice An nl.length cn, .slice Ag gl.length cg] := by
 obtain ⟨lv, rv, nv, gv, L', rfl, hl', h1, h2, h3, h4⟩ := h
 injection hl' with e; subst e
 obtain ⟨Al, cl, rfl, _, _⟩ := h1.shape
 obtain ⟨Ar, cr, rfl, _, _⟩ := h2.shape
 obtain ⟨An, cn, rfl, _, _⟩ := Sl.shape (h3 : Sl _ _ _ _ _ _)
 obtain ⟨Ag, cg, rfl, _, _⟩ := Sl.shape (h4 : Sl _ _ _ _ _ _)
 exact ⟨_, _, _, _, _, _, _, _, rfl⟩
theorem BH {w0 : World} {D : Nat -> Prop} {lv sv rv nv gv : Value} {R : Nat} {L : List (Nat × Nat)} {st : Nat} {rl : List AK} {nl gl : List (Nat × Nat)} (h : Bb w0 D (.agg #[.int .i64 (R : Nat), lv, sv, rv, nv, gv]) ⟨R, some L, st, rl, nl, gl⟩) :
  Sl w0 D 2 lv L.length (A9 L) /\ Sl w0 D 5 rv rl.length (AQ rl) /\ Sl w0 D 2 nv nl.length (B0 nl) /\ Sl w0 D 2 gv gl.length (B0 gl) := by
 obtain ⟨lv, rv, nv, gv, L', e, hl', h1, h2, h3, h4⟩ := h
 injection hl' with e2; subst e2
 injection e with e; injection e with e; injection e with _ e; injection e with a e; injection e with _ e; injection e with b e; injection e with c e; injection e with d _
 subst a b c d
 exact ⟨h1, h2, h3, h4⟩
set_option maxHeartbeats 1000000 in
theorem rdep_any {w0 : World} {D : Nat -> Prop} {v : Value} {R st : Nat} {L : List (Nat × Nat)} {rl : List AK} {nl gl : List (Nat × Nat)} {y n : Nat} (hp : Bb w0 D v ⟨R, some L, st, rl, nl, gl⟩) (hR : R <= 63) (hH : FO L) (hlen : L.length <= 1000000) (hy : y < B7) (hn : n < B7) (hb : ∀ i, (y ||| n).testBit i = true -> i <= R) :
  Calls Tryz.prog 114 #[v, .agg #[.int .u64 (y : Nat), .int .u64 (n : Nat)]] w0 (AC (fun x _ => x = .int .u64 (depC L (y, n) : Nat)) w0) := by
 obtain ⟨Al, cl, Ar, cr, An, cn, Ag, cg, rfl⟩ := Bz hp
 obtain ⟨K, k1, hS⟩ : ∃ K : (Nat -> Prop) -> World -> Prop, (∀ D w, K D w -> Sl w D 2 (.slice Al L.length cl) L.length (A9 L)) /\ St w0 w0 [] K := ⟨_, fun _ _ h => (BH h).1, St.start Bg hp⟩
 have HJ := Lib.hid (fun D w (h : K D w) (r : Int) => rsen_any (k1 D w h) hH.inr hlen r)
 have HFu := Lib.hid (depTo_full hH hR hb)
 clear hp hb hH
 go_enter Tryz.func114, Tryz.ntmps114
 go_wp2_with (first
  | ((with_reducible refine qA 2 ?_); refine Ak hS rfl _ _ rfl (.agg #[.int .i64 (R : Nat), .slice Al L.length cl, .int .u64 (st : Nat), .slice Ar rl.length cr, .slice An nl.length cn, .slice Ag gl.length cg]) _ rfl rfl ?_; clear hS; intro g2 w_ hS; (try simp only [Act.put, Act.eval, zz, Value.cells] at hS))
  | ((with_reducible refine qA 3 ?_); refine Ak hS rfl _ _ rfl (.agg #[.int .u64 (y : Nat), .int .u64 (n : Nat)]) _ rfl rfl ?_; clear hS; intro g3 w_ hS; (try simp only [Act.put, Act.eval, zz, Value.cells] at hS)))
 go_loopw [5, 6] (fun m i wr => ∃ k : Nat, 1 <= k /\ k <= R + 1 /\ i = .int .i64 (k : Nat) /\ m = .int .u64 (depTo L (y ||| n) k : Nat) /\ St w0 wr (.box g3 94 #[.int .u64 (y : Nat), .int .u64 (n : Nat)] :: .box g2 37 #[.int .i64 (R : Nat), .slice Al L.length cl, .int .u64 (st : Nat), .slice Ar rl.length cr, .slice An nl.length cn, .slice Ag gl.length cg] :: []) K) (fun _ i _ => R + 1 - (intOf i).toNat)
 case atStart => exact ⟨1, by omega, by omega, rfl, by rw [depTo_one]; rfl, hS⟩
 case round =>
  clear hS
  obtain ⟨k, hk1, hk2, rfl, rfl, hS⟩ := hrel
  have hM : depTo L (y ||| n) k < B7 := depTo_lt _ _ _
  by_cases hk : k <= R
  ·have HSt := Lib.hid (depTo_step L (y ||| n) k hk1)
   have hJ2 : senR L (k : Nat) < B7 := senR_lt _ _
   generalize depTo L (y ||| n) k = M at *
   cases hbit : (y ||| n).testBit k
   ·rw [hbit] at HSt
    have HE := Lib.hid (HSt.out.trans (if_neg (by simp)))
    go_wp2_with (first
     | ((with_reducible refine qK ?_); refine qC hS ?_)
     | ((with_reducible refine qA 17 ?_); refine DG rfl _ _ _ _ rfl _ _ rfl rfl hy hn ?_)
     | ((with_reducible refine qb .shr ?_); refine CK rfl _ _ _ _ rfl _ _ rfl rfl (by omega) ?_)
     | ((with_reducible refine qb .rem ?_); refine CL rfl _ _ _ _ rfl _ rfl rfl ?_)
     | ((with_reducible refine qA 21 ?_); refine Cj rfl _ _ _ _ rfl _ _ rfl rfl hbit ?_)
     | ((with_reducible refine qB ?_); refine qc ?_ ?_ <;> intro h_ <;> go_prune))
    exact ⟨⟨k + 1, by omega, by omega, by go_num, by rw [HE.out], hS⟩, by simp [intOf]; omega⟩
   ·rw [hbit] at HSt
    have HE := Lib.hid (HSt.out.trans (if_pos rfl))
    go_wp2_with (first
     | ((with_reducible refine qK ?_); refine qC hS ?_)
     | ((with_reducible refine qA 17 ?_); refine DG rfl _ _ _ _ rfl _ _ rfl rfl hy hn ?_)
     | ((with_reducible refine qA 27 ?_); refine DG rfl _ _ _ _ rfl _ _ rfl rfl hM hJ2 ?_)
     | ((with_reducible refine qb .shr ?_); refine CK rfl _ _ _ _ rfl _ _ rfl rfl (by omega) ?_)
     | ((with_reducible refine qb .rem ?_); refine CL rfl _ _ _ _ rfl _ rfl rfl ?_)
     | ((with_reducible refine qA 21 ?_); refine Cj rfl _ _ _ _ rfl _ _ rfl rfl hbit ?_)
     | (go_at_call 136; refine (HJ.out _ _ hS.ro _).mono ?_; rintro r_ w2 ⟨_, rfl, rfl, hb2⟩; replace hS := hS.ext hb2; clear hb2)
     | ((with_reducible refine qB ?_); refine qc ?_ ?_ <;> intro h_ <;> go_prune))
    exact ⟨⟨k + 1, by omega, by omega, by go_num, by rw [HE.out], hS⟩, by simp [intOf]; omega⟩
  ·obtain rfl : k = R + 1 := by omega
   go_wp2_with (first | ((with_reducible refine qB ?_); refine qc ?_ ?_ <;> intro h_ <;> go_prune) | ((with_reducible refine qK ?_); refine qC hS ?_))
   go_ret
   exact AC.mk (by rw [HFu.out]; rfl) hS.below
theorem CF.ruleS {L : List (Nat × Nat)} {p : Ae} {B N i j : Nat} (h : CF L p B N i j) {r : AK} (hi : p.rules[i]? = some r) (h1 : r.revoke = true \/ Bo B r.target = false) : CF L p B N (i + 1) j :=
 ⟨h.low, h.sub, h.goal, fun x hx a b => (Cu hi hx).elim (fun hx => h.rules x hx a b) fun e => (by
  subst e
  rcases h1 with h1 | h1
  ·rw [h1] at a; cases a
  ·rw [b] at h1; cases h1), h.never⟩
theorem CF.neverS {L : List (Nat × Nat)} {p : Ae} {B N i j : Nat} (h : CF L p B N i j) {c : Nat × Nat} (hj : p.never[j]? = some c) (h2 : (depC L c &&& B != 0) = false) : CF L p B N i (j + 1) :=
 ⟨h.low, h.sub, h.goal, h.rules, fun x hx a => (Cu hj hx).elim (fun hx => h.never x hx a) fun e => by
  subst e
  rw [a] at h2; cases h2⟩
theorem mask_le {R y m : Nat} (hm : m = Bc R) (h : y &&& m = y) : ∀ i, y.testBit i = true -> i <= R := fun i hi => by
 rw [<- h, Nat.testBit_and, hm] at hi
 have h2 : (Bc R).testBit i = true := by
  cases e : (Bc R).testBit i with
  | true => rfl
  | false => rw [e] at hi; simp at hi
 rcases Nat.lt_or_ge R i with h3 | h3
 ·have : Bc R < 2 ^ i := Nat.lt_of_lt_of_le (by unfold Bc; have := Nat.two_pow_pos (R + 1); omega) (Nat.pow_le_pow_right (by decide) h3)
  rw [Nat.testBit_lt_two_pow this] at h2; cases h2
 ·exact h3
theorem or_le {R y n : Nat} (h1 : y &&& Bc R = y) (h2 : n &&& Bc R = n) : ∀ i, (y ||| n).testBit i = true -> i <= R := fun i hi => (Dq.1 hi).elim (mask_le rfl h1 i) (mask_le rfl h2 i)
end
section
open Go.RowKit
attribute [local go_sem ↓] Go.wp_at_zero Go.wp_at_succ
set_option maxRecDepth 20000
set_option exponentiation.threshold 5000
theorem Dm {N t : Nat} : Bo N (t : Int) = N.testBit t := by simp [Bo]
set_option maxHeartbeats 2000000 in
theorem IO {w0 : World} {D : Nat -> Prop} {v : Value} {p : Ae} {L : List (Nat × Nat)} {R : Nat} (hp : Bb w0 D v p) (hM : BJ p L R) :
  Calls Tryz.prog 74 #[v] w0 (AC (fun x _ => x = .int .u64 (relM L p : Nat)) w0) := by
 obtain ⟨R', lk, st, rl, nl, gl⟩ := p
 obtain rfl : lk = some L := hM.links
 obtain rfl : R' = (R : Int) := hM.roles
 obtain ⟨Al, cl, Ar, cr, An, cn, Ag, cg, rfl⟩ := Bz hp
 obtain ⟨K, kp, hS⟩ : ∃ K : (Nat -> Prop) -> World -> Prop, (∀ D w, K D w -> Bb w D (.agg #[.int .i64 (R : Nat), .slice Al L.length cl, .int .u64 (st : Nat), .slice Ar rl.length cr, .slice An nl.length cn, .slice Ag gl.length cg]) ⟨R, some L, st, rl, nl, gl⟩) /\ St w0 w0 [] K := ⟨_, fun _ _ h => h, St.start Bg hp⟩
 have HDep := Lib.hid (fun D w (h : K D w) (z : Nat × Nat) (hz1 : z.1 &&& Bc R = z.1) (hz2 : z.2 &&& Bc R = z.2) (h1 : z.1 < B7) (h2 : z.2 < B7) => rdep_any (y := z.1) (n := z.2) (kp D w h) (by have := hM.r5; omega) hM.hok (by have := hM.len; omega) h1 h2 (or_le hz1 hz2))
 have hDT : ∀ z, depC L z < B7 := fun z => by rw [BD]; exact Ir _ _
 have HDT := Lib.hid hDT
 have kr : ∀ D w, K D w -> Sl w D 5 (.slice Ar rl.length cr) rl.length (AQ rl) := fun D w h => (BH (kp D w h)).2.1
 have kn : ∀ D w, K D w -> Sl w D 2 (.slice An nl.length cn) nl.length (B0 nl) := fun D w h => (BH (kp D w h)).2.2.1
 have kg : ∀ D w, K D w -> Sl w D 2 (.slice Ag gl.length cg) gl.length (B0 gl) := fun D w h => (BH (kp D w h)).2.2.2
 have hg3 : gl.length <= 3 := hM.glen
 have hn3 : nl.length <= 3 := hM.nlen
 have hr6 : rl.length <= 6 := hM.rlen
 have HM := Lib.hid hM
 have KS := Lib.hid hS.stable
 clear hp hM hDT
 go_enter Tryz.func74, Tryz.ntmps74
 go_wp2_with (first
  | ((with_reducible refine qA 1 ?_); refine Ak hS rfl _ _ rfl (.agg #[.int .i64 (R : Nat), .slice Al L.length cl, .int .u64 (st : Nat), .slice Ar rl.length cr, .slice An nl.length cn, .slice Ag gl.length cg]) _ rfl rfl ?_; clear hS; intro g1 w_ hS; (try simp only [Act.put, Act.eval, zz, Value.cells] at hS))
  | ((with_reducible refine qK ?_); refine qC hS ?_))
 go_loopw [3, 14] (fun sv i wr => ∃ (j N : Nat), i = .int .i64 (j : Nat) /\ sv = .int .u64 (N : Nat) /\ j <= gl.length /\ N < B7 /\ Hid (GT L ⟨R, some L, st, rl, nl, gl⟩ N /\ ∀ c ∈ gl.take j, Cp (depC L c) N) /\ St w0 wr [.box g1 37 #[.int .i64 (R : Nat), .slice Al L.length cl, .int .u64 (st : Nat), .slice Ar rl.length cr, .slice An nl.length cn, .slice Ag gl.length cg]] K) (fun _ i _ => gl.length - (intOf i).toNat)
 case atStart => exact ⟨0, 0, rfl, rfl, by omega, by decide, Lib.hid ⟨GT.zero _ _, fun c hc => by simp at hc⟩, hS⟩
 case round =>
  clear hS
  obtain ⟨j, N, rfl, rfl, hj, hN, HI, hS⟩ := hrel
  by_cases hlj : j < gl.length
  ·obtain ⟨f0, f1⟩ := Da gl j hlj
   have HGj := Lib.hid (AZ (0, 0) hlj)
   have HZ : Hid (KOk (Bc R) (gl.getD j (0, 0))) := Lib.hid (HM.out.goal _ (List.mem_of_getElem? HGj.out))
   have HI2 : Hid (GT L ⟨R, some L, st, rl, nl, gl⟩ (N ||| depC L (gl.getD j (0, 0))) /\ ∀ c ∈ gl.take (j + 1), Cp (depC L c) (N ||| depC L (gl.getD j (0, 0)))) := Lib.hid ⟨HI.out.1.goal (List.mem_of_getElem? HGj.out), fun c hc => (Cu HGj.out hc).elim (fun h => (HI.out.2 c h).trans (Cp.left _ _)) fun e => by subst e; exact Cp.right _ _⟩
   generalize gl.getD j (0, 0) = z at *
   obtain ⟨y, n⟩ := z
   dsimp only at f0 f1
   have hd := HDT.out (y, n)
   have HC := Lib.hid (fun D w h => HDep.out D w h (y, n) HZ.out.1 HZ.out.2.1 (by have := HZ.out.2.2.2; unfold B7; dsimp only at *; omega) (by have := HZ.out.2.2.2; unfold B7; dsimp only at *; omega))
   dsimp only at HC
   clear HI
   generalize depC L (y, n) = d at *
   have hor : N ||| d < B7 := by rw [BD] at *; exact Nat.or_lt_two_pow hN hd
   go_wp2_with (first
    | ((with_reducible refine qB ?_); refine qc ?_ ?_ <;> intro h_ <;> go_prune)
    | ((with_reducible refine qI ?_); refine qj hS Tryz.underlying35 ?_; intro b_ j_ hc0_ hc1_)
    | ((with_reducible refine qA 5 ?_); refine qa hS #[.int .u64 0, .int .u64 0] ?_; clear hS; intro g5 w_ hS)
    | ((with_reducible refine qM ?_); (first | refine qS hS ?_ | refine qT hS ?_); clear hS; intro w_ hS; (try simp only [Act.put, Act.eval, zz, Value.cells] at hS))
    | ((with_reducible refine qK ?_); refine qL hS Tryz.underlying94 ?_)
    | ((with_reducible refine qK ?_); refine qL hS Tryz.underlying37 ?_)
    | ((with_reducible refine qA 22 ?_); refine DG rfl _ _ _ _ rfl _ _ rfl rfl hN hd ?_)
    | (go_at_call 114; refine (HC.out _ _ hS.ro).mono ?_; rintro r_ w_ ⟨_, rfl, rfl, hb_⟩; replace hS := hS.ext hb_; clear hb_))
   exact ⟨⟨j + 1, N ||| d, by go_num, rfl, hlj, hor, HI2, hS.sub (List.sublist_cons_self _ _)⟩, by simp [intOf]; omega⟩
  ·obtain rfl : gl.length = j := by omega
   have HI2 : Hid (GT L ⟨R, some L, st, rl, nl, gl⟩ N /\ ∀ c ∈ gl, Cp (depC L c) N) := Lib.hid ⟨HI.out.1, fun c hc => HI.out.2 c (by rw [List.take_length]; exact hc)⟩
   clear HI hlj
   go_wp2_with (first | ((with_reducible refine qB ?_); refine qc ?_ ?_ <;> intro h_ <;> go_prune))
   go_loopg [3] (2 ^ 64 - N) (fun k sv wr => ∃ B : Nat, sv = .int .u64 (B : Nat) /\ B < B7 /\ 2 ^ 64 - B <= k /\ Hid (GT L ⟨R, some L, st, rl, nl, gl⟩ B /\ ∀ c ∈ gl, Cp (depC L c) B) /\ St w0 wr [.box g1 37 #[.int .i64 (R : Nat), .slice Al L.length cl, .int .u64 (st : Nat), .slice Ar rl.length cr, .slice An nl.length cn, .slice Ag gl.length cg]] K)
   case atStart => exact ⟨N, rfl, hN, Nat.le_refl _, HI2, hS⟩
   case round =>
    clear hS HI2 hN
    obtain ⟨B, rfl, hB, hgk, HI, hS⟩ := hrel
    have HGK := Lib.hid hgk
    clear hgk
    go_wp2_with (first | ((with_reducible refine qK ?_); refine qC hS ?_))
    go_loopw [6, 28] (fun sv i wr => ∃ (j N : Nat), i = .int .i64 (j : Nat) /\ sv = .int .u64 (N : Nat) /\ j <= rl.length /\ N < B7 /\ Hid (CF L ⟨R, some L, st, rl, nl, gl⟩ B N j 0) /\ St w0 wr [.box g1 37 #[.int .i64 (R : Nat), .slice Al L.length cl, .int .u64 (st : Nat), .slice Ar rl.length cr, .slice An nl.length cn, .slice Ag gl.length cg]] K) (fun _ i _ => rl.length - (intOf i).toNat)
    case atStart => exact ⟨0, B, rfl, rfl, by omega, hB, Lib.hid (CF.start HI.out.1 HI.out.2), hS⟩
    case round =>
     clear hS HI
     obtain ⟨j, N, rfl, rfl, hj, hN, HI, hS⟩ := hrel
     by_cases hlj : j < rl.length
     ·obtain ⟨b, o, rfl, c0, c1, c2, c3, c4⟩ := Gj (kr _ _ hS.ro) hlj
      have HGj := Lib.hid (AZ Az hlj)
      have HZ := Lib.hid (HM.out.rules _ (List.mem_of_getElem? HGj.out))
      generalize rl.getD j Az = z at *
      obtain ⟨rv, y, n, rt, ro⟩ := z
      dsimp only at c0 c1 c2 c3 c4
      obtain ⟨t, rfl, ht⟩ : ∃ t : Nat, rt = (t : Int) /\ t < 64 := ⟨rt.toNat, by have h := HZ.out.1; have h5 := HM.out.r5; dsimp only at h h5; omega, by have h := HZ.out.1; have h5 := HM.out.r5; dsimp only at h h5; omega⟩
      have hd := HDT.out (y, n)
      have HC := Lib.hid (fun D w h => HDep.out D w h (y, n) HZ.out.2.2.1 HZ.out.2.2.2.1 (by have h := HZ.out.2.2.2.2.2.1; unfold B7; dsimp only at h ⊢; omega) (by have h := HZ.out.2.2.2.2.2.2.1; unfold B7; dsimp only at h ⊢; omega))
      dsimp only at HC
      have hor : N ||| depC L (y, n) < B7 := by rw [BD] at *; exact Nat.or_lt_two_pow hN hd
      cases rv with
      | true =>
       have HI2 := Lib.hid (HI.out.ruleS HGj.out (.inl rfl))
       clear HI
       go_wp2_with (first
        | ((with_reducible refine qB ?_); refine qc ?_ ?_ <;> intro h_ <;> go_prune)
        | ((with_reducible refine qA 31 ?_); refine BigFrame.wpList_want rfl fun _ hK => AM (cs := [.bool true, .int .u64 (y : Nat), .int .u64 (n : Nat), .int .i64 (t : Nat), .int .i64 ro]) rfl rfl (FC c0 c1 c2 c3 c4) Tryz.underlying96 rfl (by kernel_rfl) (hK _ _ ?_))
        | ((with_reducible refine qA 8 ?_); refine qa hS #[.bool false, .int .u64 0, .int .u64 0, .int .i64 0, .int .i64 0] ?_; clear hS; intro g8 w_ hS)
        | ((with_reducible refine qM ?_); (first | refine qS hS ?_ | refine qT hS ?_); clear hS; intro w_ hS; (try simp only [Act.put, Act.eval, zz, Value.cells] at hS))
        | ((with_reducible refine qK ?_); refine qC hS ?_))
       exact ⟨⟨j + 1, N, by go_num, rfl, hlj, hN, HI2, hS.sub (List.sublist_cons_self _ _)⟩, by simp [intOf]; omega⟩
      | false =>
       cases hbit : B.testBit t with
       | false =>
        have HI2 := Lib.hid (HI.out.ruleS HGj.out (.inr (show Bo B (t : Nat) = false by rw [Dm]; exact hbit)))
        clear HI
        go_wp2_with (first
         | ((with_reducible refine qA 31 ?_); refine BigFrame.wpList_want rfl fun _ hK => AM (cs := [.bool false, .int .u64 (y : Nat), .int .u64 (n : Nat), .int .i64 (t : Nat), .int .i64 ro]) rfl rfl (FC c0 c1 c2 c3 c4) Tryz.underlying96 rfl (by kernel_rfl) (hK _ _ ?_))
         | ((with_reducible refine qb .shr ?_); refine CK rfl _ _ _ _ rfl _ _ rfl rfl (by omega) ?_)
         | ((with_reducible refine qb .rem ?_); refine CL rfl _ _ _ _ rfl _ rfl rfl ?_)
         | ((with_reducible refine qA 41 ?_); refine Cj rfl _ _ _ _ rfl _ _ rfl rfl hbit ?_)
         | ((with_reducible refine qA 8 ?_); refine qa hS #[.bool false, .int .u64 0, .int .u64 0, .int .i64 0, .int .i64 0] ?_; clear hS; intro g8 w_ hS)
         | ((with_reducible refine qB ?_); refine qc ?_ ?_ <;> intro h_ <;> go_prune)
         | ((with_reducible refine qM ?_); (first | refine qS hS ?_ | refine qT hS ?_); clear hS; intro w_ hS; (try simp only [Act.put, Act.eval, zz, Value.cells] at hS))
         | ((with_reducible refine qK ?_); refine qC hS ?_))
        exact ⟨⟨j + 1, N, by go_num, rfl, hlj, hN, HI2, hS.sub (List.sublist_cons_self _ _)⟩, by simp [intOf]; omega⟩
       | true =>
        have HI2 := Lib.hid (HI.out.ruleY HGj.out rfl (HI.out.sub.has (show Bo B (t : Nat) = true by rw [Dm]; exact hbit)))
        have HZ2 : Hid (depR L ⟨false, y, n, (t : Nat), ro⟩ = depC L (y, n)) := Lib.hid rfl
        rw [HZ2.out] at HI2
        clear HI HZ2
        generalize depC L (y, n) = d at *
        go_wp2_with (first
         | ((with_reducible refine qA 31 ?_); refine BigFrame.wpList_want rfl fun _ hK => AM (cs := [.bool false, .int .u64 (y : Nat), .int .u64 (n : Nat), .int .i64 (t : Nat), .int .i64 ro]) rfl rfl (FC c0 c1 c2 c3 c4) Tryz.underlying96 rfl (by kernel_rfl) (hK _ _ ?_))
         | ((with_reducible refine qb .shr ?_); refine CK rfl _ _ _ _ rfl _ _ rfl rfl (by omega) ?_)
         | ((with_reducible refine qb .rem ?_); refine CL rfl _ _ _ _ rfl _ rfl rfl ?_)
         | ((with_reducible refine qA 41 ?_); refine Cj rfl _ _ _ _ rfl _ _ rfl rfl hbit ?_)
         | ((with_reducible refine qA 48 ?_); refine DG rfl _ _ _ _ rfl _ _ rfl rfl hN hd ?_)
         | ((with_reducible refine qA 46 ?_); refine BigFrame.wpList_want rfl fun _ hK => AM (cs := [.int .u64 (y : Nat), .int .u64 (n : Nat)]) rfl rfl (Id (hS.shut 0 rfl 1 rfl) (hS.shut 0 rfl 2 rfl)) Tryz.underlying94 rfl (by kernel_rfl) (hK _ _ ?_))
         | ((with_reducible refine qA 8 ?_); refine qa hS #[.bool false, .int .u64 0, .int .u64 0, .int .i64 0, .int .i64 0] ?_; clear hS; intro g8 w_ hS)
         | ((with_reducible refine qB ?_); refine qc ?_ ?_ <;> intro h_ <;> go_prune)
         | ((with_reducible refine qM ?_); (first | refine qS hS ?_ | refine qT hS ?_); clear hS; intro w_ hS; (try simp only [Act.put, Act.eval, zz, Value.cells] at hS))
         | ((with_reducible refine qK ?_); refine qL hS Tryz.underlying37 ?_)
         | (go_at_call 114; refine (HC.out _ _ hS.ro).mono ?_; rintro r_ w_ ⟨_, rfl, rfl, hb_⟩; replace hS := hS.ext hb_; clear hb_)
         | ((with_reducible refine qK ?_); refine qC hS ?_))
        exact ⟨⟨j + 1, N ||| d, by go_num, rfl, hlj, hor, HI2, hS.sub (List.sublist_cons_self _ _)⟩, by simp [intOf]; omega⟩
     ·obtain rfl : rl.length = j := by omega
      go_wp2_with (first | ((with_reducible refine qB ?_); refine qc ?_ ?_ <;> intro h_ <;> go_prune) | ((with_reducible refine qK ?_); refine qC hS ?_))
      go_loopw [6, 53] (fun sv i wr => ∃ (j N : Nat), i = .int .i64 (j : Nat) /\ sv = .int .u64 (N : Nat) /\ j <= nl.length /\ N < B7 /\ Hid (CF L ⟨R, some L, st, rl, nl, gl⟩ B N rl.length j) /\ St w0 wr [.box g1 37 #[.int .i64 (R : Nat), .slice Al L.length cl, .int .u64 (st : Nat), .slice Ar rl.length cr, .slice An nl.length cn, .slice Ag gl.length cg]] K) (fun _ i _ => nl.length - (intOf i).toNat)
      case atStart => exact ⟨0, N, rfl, rfl, by omega, hN, HI, hS⟩
      case round =>
       clear hS HI hN
       obtain ⟨j, N, rfl, rfl, hj, hN, HI, hS⟩ := hrel
       by_cases hlj : j < nl.length
       ·obtain ⟨f0, f1⟩ := Da nl j hlj
        have HGj := Lib.hid (AZ (0, 0) hlj)
        have HZ : Hid (KOk (Bc R) (nl.getD j (0, 0))) := Lib.hid (HM.out.never _ (List.mem_of_getElem? HGj.out)).1
        generalize nl.getD j (0, 0) = z at *
        obtain ⟨y, n⟩ := z
        dsimp only at f0 f1
        have hd := HDT.out (y, n)
        have HC := Lib.hid (fun D w h => HDep.out D w h (y, n) HZ.out.1 HZ.out.2.1 (by have := HZ.out.2.2.2; unfold B7; dsimp only at *; omega) (by have := HZ.out.2.2.2; unfold B7; dsimp only at *; omega))
        dsimp only at HC
        have hor : N ||| depC L (y, n) < B7 := by rw [BD] at *; exact Nat.or_lt_two_pow hN hd
        by_cases hmt : depC L (y, n) &&& B = 0
        ·have HI2 := Lib.hid (HI.out.neverS HGj.out (by rw [hmt]; rfl))
         clear HI
         generalize depC L (y, n) = d at *
         go_wp2_with (first
          | ((with_reducible refine qA 61 ?_); refine st_andN rfl _ _ _ _ rfl _ _ rfl rfl hd hB ?_; rw [hmt])
          | ((with_reducible refine qI ?_); refine qj hS Tryz.underlying35 ?_; intro b_ j_ hc0_ hc1_)
          | ((with_reducible refine qA 10 ?_); refine qa hS #[.int .u64 0, .int .u64 0] ?_; clear hS; intro g10 w_ hS)
          | ((with_reducible refine qB ?_); refine qc ?_ ?_ <;> intro h_ <;> go_prune)
          | ((with_reducible refine qM ?_); (first | refine qS hS ?_ | refine qT hS ?_); clear hS; intro w_ hS; (try simp only [Act.put, Act.eval, zz, Value.cells] at hS))
          | ((with_reducible refine qK ?_); refine qL hS Tryz.underlying94 ?_)
          | ((with_reducible refine qK ?_); refine qL hS Tryz.underlying37 ?_)
          | (go_at_call 114; refine (HC.out _ _ hS.ro).mono ?_; rintro r_ w_ ⟨_, rfl, rfl, hb_⟩; replace hS := hS.ext hb_; clear hb_))
         exact ⟨⟨j + 1, N, by go_num, rfl, hlj, hN, HI2, hS.sub (List.sublist_cons_self _ _)⟩, by simp [intOf]; omega⟩
        ·have HI2 := Lib.hid (HI.out.neverY HGj.out (HI.out.sub.meets (by simpa using hmt)))
         clear HI
         generalize depC L (y, n) = d at *
         generalize hx : d &&& B = x at *
         have HX := Lib.hid hx
         clear hx
         go_wp2_with (first
          | ((with_reducible refine qA 61 ?_); refine st_andN rfl _ _ _ _ rfl _ _ rfl rfl hd hB ?_; rw [HX.out])
          | ((with_reducible refine qA 67 ?_); refine DG rfl _ _ _ _ rfl _ _ rfl rfl hN hd ?_)
          | ((with_reducible refine qI ?_); refine qj hS Tryz.underlying35 ?_; intro b_ j_ hc0_ hc1_)
          | ((with_reducible refine qA 10 ?_); refine qa hS #[.int .u64 0, .int .u64 0] ?_; clear hS; intro g10 w_ hS)
          | ((with_reducible refine qB ?_); refine qc ?_ ?_ <;> intro h_ <;> go_prune)
          | ((with_reducible refine qM ?_); (first | refine qS hS ?_ | refine qT hS ?_); clear hS; intro w_ hS; (try simp only [Act.put, Act.eval, zz, Value.cells] at hS))
          | ((with_reducible refine qK ?_); refine qL hS Tryz.underlying94 ?_)
          | ((with_reducible refine qK ?_); refine qL hS Tryz.underlying37 ?_)
          | (go_at_call 114; refine (HC.out _ _ hS.ro).mono ?_; rintro r_ w_ ⟨_, rfl, rfl, hb_⟩; replace hS := hS.ext hb_; clear hb_))
         exact ⟨⟨j + 1, N ||| d, by go_num, rfl, hlj, hor, HI2, hS.sub (List.sublist_cons_self _ _)⟩, by simp [intOf]; omega⟩
       ·obtain rfl : nl.length = j := by omega
        by_cases hne : N = B
        ·subst hne
         have HFIN := Lib.hid HI.out.done
         clear HI
         go_wp2_with (first | ((with_reducible refine qB ?_); refine qc ?_ ?_ <;> intro h_ <;> go_prune))
         go_ret
         exact AC.mk (by rw [<- HFIN.out]; rfl) hS.below
        ·have HLT := Lib.hid (HI.out.lt hne)
         have HI2 : Hid (GT L ⟨R, some L, st, rl, nl, gl⟩ N /\ ∀ c ∈ gl, Cp (depC L c) N) := Lib.hid ⟨HI.out.low, HI.out.goal⟩
         clear HI
         go_wp2_with (first | ((with_reducible refine qB ?_); refine qc ?_ ?_ <;> intro h_ <;> go_prune))
         go_roundg (2 ^ 64 - N)
         case measure => have := HLT.out; have := HGK.out; omega
         case rel => exact ⟨N, rfl, hN, Nat.le_refl _, HI2, hS⟩
end
section
open Go.RowKit
attribute [local go_sem ↓] Go.wp_at_zero Go.wp_at_succ
set_option maxRecDepth 20000
set_option exponentiation.threshold 5000
def C7 (M N : Nat) : Nat := M ^^^ (M &&& N)
theorem G8 (M N i : Nat) : (C7 M N).testBit i = (M.testBit i && !N.testBit i) := by
 unfold C7; rw [Nat.testBit_xor, Nat.testBit_and]; cases M.testBit i <;> cases N.testBit i <;> rfl
theorem wd_minus (M N k : Nat) : wd (C7 M N) k = wd M k &&& BG (wd N k) := by
 apply Nat.eq_of_testBit_eq
 intro i
 rw [Nat.testBit_and]
 by_cases hi : i < 64
 ·rw [CH (DB _ _) i hi]
  simp [Cf, hi, G8]
 ·simp [DE (DB _ _) (Nat.not_lt.1 hi)]
theorem minus_words {a : List Nat} (ha : B9 a) (N : Nat) : B9 ((List.range a.length).map fun j => wd (BE a) j &&& BG (wd N j)) /\ BE ((List.range a.length).map fun j => wd (BE a) j &&& BG (wd N j)) = C7 (BE a) N := by
 have h1 : B9 ((List.range a.length).map fun j => wd (BE a) j &&& BG (wd N j)) := fun x hx => by
  obtain ⟨j, _, rfl⟩ := List.mem_map.1 hx
  exact Nat.lt_of_le_of_lt Nat.and_le_left (DB _ _)
 refine ⟨h1, G4 h1 fun k => ?_⟩
 rw [wd_minus, List.getD_eq_getElem?_getD, List.getElem?_map]
 rcases Nat.lt_or_ge k a.length with hk | hk
 ·rw [List.getElem?_range hk]; rfl
 ·rw [List.getElem?_eq_none (by simpa using hk), wd_ge ha hk, Nat.zero_and]; rfl
theorem Eq {P : Program} {w : World} {t : TypeId} {x y : Nat} (hx : x < B7) (hy : y < B7) : (binOp .andNot t (.int .u64 (x : Nat)) (.int .u64 (y : Nat))).run P w = .ok (.int .u64 ((x &&& BG y : Nat) : Int)) w := by
 go_simp; rw [Jl hx hy]
set_option maxHeartbeats 2000000 in
theorem minus_any {w0 : World} {D E : Nat -> Prop} {v u : Value} {M N : Nat} (hv : A6 w0 D v M) (hu : A6 w0 E u N) :
  Calls Tryz.prog 64 #[v, u] w0 (AC (fun x w' => A6 w' (w0.heap.size <= ·) x (C7 M N)) w0) := by
 obtain ⟨A, ca, a, rfl, ha, rfl, ha1, ha2, hsa⟩ := hv.parts
 obtain ⟨B, cb, b, rfl, -⟩ := hu.parts
 obtain ⟨m, hm⟩ : ∃ m, m = b.length := ⟨_, rfl⟩
 rw [<- hm] at hu ⊢
 clear hm
 obtain ⟨K, k1, k2, hS⟩ : ∃ K : (Nat -> Prop) -> World -> Prop, (∀ D w, K D w -> Sl w D 1 (.slice A a.length ca) a.length (Bi a)) /\ (∀ D w, K D w -> A6 w D (.agg #[.slice B m cb]) N) /\ St w0 w0 [] K := ⟨_, fun _ _ h => h.1, fun _ _ h => h.2, St.start (D := fun _ => True) ((AA (by decide)).and A5) ⟨hsa.imp fun _ _ _ => trivial, hu.imp fun _ _ _ => trivial⟩⟩
 have hla := ha.2.2
 have HW := Lib.hid (minus_words ha.1 N)
 have HA := Lib.hid ha.1
 have hle : a.length <= 64 := by omega
 clear hsa hv hu ha
 go_enter Tryz.func64, Tryz.ntmps64
 go_wp2_with (first
  | ((with_reducible refine qA 2 ?_); refine Ak hS rfl _ _ rfl (.agg #[.slice A a.length ca]) _ rfl rfl ?_; clear hS; intro g2 w_ hS; (try simp only [Act.put, Act.eval, zz, Value.cells] at hS))
  | ((with_reducible refine qA 3 ?_); refine Ak hS rfl _ _ rfl (.agg #[.slice B m cb]) _ rfl rfl ?_; clear hS; intro g3 w_ hS; (try simp only [Act.put, Act.eval, zz, Value.cells] at hS))
  | ((with_reducible refine qA 4 ?_); refine qa hS #[.slice none 0 0] ?_; clear hS; intro g4 w_ hS)
  | ((with_reducible refine qK ?_); refine qC hS ?_)
  | ((with_reducible show wpList _ _ _ (⟨_, .makeSlice _ _ _, _, _, _, _⟩ :: _) _ _); refine st_mk hS rfl _ _ _ rfl G6 .i64 .i64 a.length #[.int .u64 0] rfl rfl (by kernel_rfl) (by omega) (by omega) ?_; clear hS; intro g5 w_ hS))
 rw [mk_u64s] at hS
 obtain ⟨f, hf⟩ : ∃ f : Nat -> Nat, f = fun j => wd (BE a) j &&& BG (wd N j) := ⟨_, rfl⟩
 rw [<- hf] at HW
 replace hf := Lib.hid hf
 rw [<- F6 f] at hS
 go_loopw [6, 13] (fun j i wr => ∃ k : Nat, i = .int .i64 (k : Nat) /\ k <= a.length /\ St w0 wr [.own (.slice (some ⟨g5, 0, none⟩) a.length a.length) 33 1 a.length (Bi (BT f k a.length)), .box g4 27 #[.slice none 0 0], .box g3 27 #[.slice B m cb], .box g2 27 #[.slice A a.length ca]] K) (fun _ i _ => a.length - (intOf i).toNat)
 case atStart => exact ⟨0, rfl, by omega, hS⟩
 case round =>
  clear hS
  obtain ⟨k, rfl, hk, hS⟩ := hrel
  by_cases hkn : k < a.length
  ·obtain ⟨b1, o1, rfl⟩ : ∃ b o, A = some ⟨b, o, none⟩ := by
    obtain ⟨_, A2, c2, e2, _, _, h5⟩ := k1 _ _ hS.ro
    obtain ⟨b, o, h6, _⟩ := h5 (by omega)
    injection e2 with e2
    exact ⟨b, o, e2.trans h6⟩
   have HX := Lib.hid (Cl a k (by omega))
   have hx : a.getD k 0 < B7 := HA.out.getD k
   have hy : wd N k < B7 := DB _ _
   have HF := Lib.hid (show (Bi (BT f k a.length)).set k (.int .u64 ((a.getD k 0 &&& BG (wd N k) : Nat) : Int)) = Bi (BT f (k + 1) a.length) by
    rw [<- Jd, show f k = a.getD k 0 &&& BG (wd N k) by rw [hf.out]; show wd (BE a) k &&& _ = _; rw [Ce HA.out], G5])
   have HWd := Lib.hid (show wd N ((k : Nat) : Int).toNat = wd N k by rw [Int.toNat_natCast])
   generalize a.getD k 0 = x at *
   generalize wd N k = y at *
   go_wp2_with (first | ((with_reducible refine qB ?_); refine qc ?_ ?_ <;> intro h_ <;> go_prune))
   refine Ho 12 [] [.i (.slice (some ⟨g5, 0, none⟩) a.length a.length), .n ((k : Nat) : Int), .q g2 0, .i (.slice (some ⟨b1, o1, none⟩) a.length ca), .n ((k : Nat) : Int), .q b1 (o1 + (k) * 1), .i (.int .u64 ((x : Nat) : Int)), .i (.agg #[.slice B m cb]), .n ((k : Nat) : Int), .i (.int .u64 (y : Nat)), .i (.int .u64 ((x &&& BG y : Nat) : Int)), .q g5 (0 + (k) * 1), .t] ⟨uM, uM, uF, uC (h := fun w hW hN => ((hS.ext hW).box 3 rfl).cell 0), uM, uI (h := fun w hW hN => At (m := k) Tryz.underlying25 (by kernel_rfl) (by omega) (by omega)), uC (h := fun w hW hN => by rw [Nat.mul_one]; exact Di (k1 _ _ (hS.ext hW).ro) HX.out), uR (h := fun w hW hN => (hS.ext hW).box 2 rfl), uM, ?_, uB (h := fun w hW hN => Eq hx hy), uI (h := fun w hW hN => At (m := k) Tryz.underlying25 (by kernel_rfl) (by omega) (by omega)), trivial⟩ ?_
   ·refine uT fun b__ w hW hE K hK => ?_
    have e23 := hE 23
    have e24 := hE 24
    exact Aq rfl (by kernel_rfl) (by simp only [List.map_cons, List.map_nil, e23, e24]) (EK _ N (k : Nat) w _ (k2 _ _ (hS.ext hW).ro) (by omega)) fun v w' h hb => hK v w' (h.trans (by rw [HWd.out])) hb
   ·intro vs wz hW hT
    obtain ⟨e16, e17, e18, e19, e20, e21, e22, e23, e24, e25, e26, e27, -⟩ := hT
    simp only [AB, Act.put, zz, ze]
    (intro o_ ho_; simp only [List.getElem?_toArray, List.getElem?_cons_succ, List.getElem?_cons_zero, Option.some.injEq] at ho_; subst ho_)
    refine Ex rfl (g := g5) (i := k) (e27.trans (by rw [Nat.zero_add, Nat.mul_one])) e26 ((hS.ext hW).own 0 rfl) (by omega) rfl rfl (by kernel_rfl) fun w4 h1 hU => ?_
    replace hS := (hS.ext hW).upd 0 rfl (.own (.slice (some ⟨g5, 0, none⟩) a.length a.length) 33 1 a.length (Bi (BT f (k + 1) a.length))) (by simpa [Af.blk, Value.ownBlock] using Bn hU) (by rw [<- HF.out]; exact h1) fun _ e => .inl e
    simp only [Cc]
    simp only [Act.put, List.setIfInBounds_toArray, List.set_cons_zero, List.set_cons_succ]
    clear e26 e27 h1 hU hW
    go_wp2_with fail
    exact ⟨⟨k + 1, by go_num, hkn, hS⟩, by simp [intOf]; omega⟩
  ·obtain rfl : a.length = k := by omega
   rw [F7, hf.out] at hS
   rw [hf.out] at HW
   obtain ⟨l, hl⟩ : ∃ l, l = (List.range a.length).map (fun j => wd (BE a) j &&& BG (wd N j)) := ⟨_, rfl⟩
   have hll : l.length = a.length := by rw [hl]; simp
   have HLL := Lib.hid hll
   rw [<- hl] at hS HW
   clear hl hll
   have hs0 := ((hS.own 0 rfl).lt _ rfl).1
   have hS1 := hS.freeze 0 (by decide) rfl
   clear hS
   have hS := hS1
   clear hS1
   go_wp2_with (first
    | ((with_reducible refine qB ?_); refine qc ?_ ?_ <;> intro h_ <;> go_prune)
    | (go_at_call 62; refine (Ix _ l _ _ HW.out.1 (by rw [HLL.out]; omega) (by rw [HLL.out]; exact hS.ro.2.only)).mono ?_; rintro r_ w_ ⟨_, rfl, hM, hb_⟩; obtain ⟨A3, c3, l3, rfl, -⟩ := hM.parts; replace hS := hS.ret2 hb_ (AO A5 (w0.heap.size <= ·)) (hM.imp fun z hz _ => ⟨.inl hz.1, by rw [hz.2]; exact hs0⟩); clear hb_ hM)
    | ((with_reducible refine qM ?_); (first | refine qS hS ?_ | refine qT hS ?_); clear hS; intro w_ hS; (try simp only [Act.put, Act.eval, zz, Value.cells] at hS)))
   refine Bj Tryz.results64 rfl (hS.box 0 rfl) Tryz.underlying27 rfl (by kernel_rfl) rfl ?_
   exact AC.mk (by rw [<- HW.out.2]; exact hS.ro.2.imp fun z hz _ => hz.2) hS.below
end
section
open Go.RowKit
def Sp.g {X : Type} {R : X -> X -> Prop} (c : Bool) (v : Value) : Sp R := .i (cond c v undef)
section
variable {X : Type} {κ : Kd X} {P : Program} {ops : Array Oper} {l : List (Sp κ.R)} {a0 : Act} {Q : Exit -> Act -> World -> Prop} {i : Nat} {o : Oper}
theorem uY {j : Nat} {c : Bool} {oj : Oper} {d : Tmp} (h : o.guard = some (j, c) := by rfl) (h1 : ops[j]? = some oj := by rfl) (h2 : oj.dst = some d := by rfl) (h3 : src ops d o.after.toList = some j := by rfl) (h4 : l[j]? = some (.i (.bool !c)) := by rfl) (hs : ∀ x, Sp.T l i undef x := by first | exact fun _ => rfl | exact fun _ => trivial | exact fun _ => nofun) : Cb κ P ops l a0 Q i o := fun b x hC hN hE =>
 ⟨fun hw => (by rw [Fi h h1 h2 ((Ev.n h3 h4).at hE : b.eval (.tmp _) = _)] at hw; cases c <;> cases hw), fun _ => hs x⟩
theorem uX {j : Nat} {c : Bool} {oj : Oper} {d : Tmp} (h : o.guard = some (j, c) := by rfl) (h1 : ops[j]? = some oj := by rfl) (h2 : oj.dst = some d := by rfl) (h3 : src ops d o.after.toList = some j := by rfl) (h4 : l[j]? = some (.i undef) := by rfl) (hs : ∀ x, Sp.T l i undef x := by first | exact fun _ => rfl | exact fun _ => trivial | exact fun _ => nofun) : Cb κ P ops l a0 Q i o := fun b x hC hN hE =>
 ⟨fun hw => (by
  have h5 : b.eval (.tmp d) = undef := (Ev.n h3 h4).at hE
  have h6 : yielded ops b.tmps j = none := by
   have h7 : ((some oj).bind fun x => x.dst) = some d := h2
   unfold yielded
   rw [h1, h7]
   simp only [Option.bind_some]
   cases h7 : b.tmps[d]? with
   | none => rfl
   | some v =>
    have : v = undef := by simpa [Act.eval, h7] using h5
    subst this; rfl
  simp [Region.wanted, h, h6] at hw), fun _ => hs x⟩
end
end
section
open Go.RowKit
attribute [local go_sem ↓] Go.wp_at_zero Go.wp_at_succ
set_option maxRecDepth 20000
set_option exponentiation.threshold 5000
theorem rgood31_any {w0 : World} {D : Nat -> Prop} {v : Value} {p : Ae} {L : List (Nat × Nat)} {R s : Nat} (hp : Bb w0 D v p) (hM : BJ p L R) :
  Calls Tryz.prog 82 #[v, .int .u64 (s : Nat)] w0 (AC (fun x _ => x = .bool (goodB p s)) w0) := by
 obtain ⟨R', lk, st, rl, nl, gl⟩ := p
 obtain rfl : lk = some L := hM.links
 obtain rfl : R' = (R : Int) := hM.roles
 obtain ⟨Al, cl, Ar, cr, An, cn, Ag, cg, rfl⟩ := Bz hp
 obtain ⟨K, kp, hS⟩ : ∃ K : (Nat -> Prop) -> World -> Prop, (∀ D w, K D w -> Bb w D (.agg #[.int .i64 (R : Nat), .slice Al L.length cl, .int .u64 (st : Nat), .slice Ar rl.length cr, .slice An nl.length cn, .slice Ag gl.length cg]) ⟨(R : Int), some L, st, rl, nl, gl⟩) /\ St w0 w0 [] K := ⟨_, fun _ _ h => h, St.start Bg hp⟩
 have kl : ∀ D w, K D w -> Sl w D 2 (.slice Al L.length cl) L.length (A9 L) := fun D w h => (BH (kp D w h)).1
 have HM := Lib.hid hM
 have HL := Lib.hid (show Em 64 L from hM.hok.inr)
 have hlen := hM.len
 clear hp hM
 have kn : ∀ D w, K D w -> BX w D (.slice An nl.length cn) nl := fun D w h => (BH (kp D w h)).2.2.1
 obtain ⟨b, hb⟩ : ∃ b, nl.any (fun z => Bd z (closM L s)) = b := ⟨_, rfl⟩
 have HG : Hid (goodB ⟨(R : Int), some L, st, rl, nl, gl⟩ s = !b) := Lib.hid (by rw [<- hb]; rfl)
 have HB := Lib.hid hb
 clear hb
 go_enter Tryz.func82, Tryz.ntmps82
 go_wp2_with (first | ((with_reducible refine qA 2 ?_); refine Ak hS rfl _ _ rfl (.agg #[.int .i64 (R : Nat), .slice Al L.length cl, .int .u64 (st : Nat), .slice Ar rl.length cr, .slice An nl.length cn, .slice Ag gl.length cg]) _ rfl rfl ?_; clear hS; intro g2 w_ hS; (try simp only [Act.put, Act.eval, zz, Value.cells] at hS)))
 refine Cr [.q g2 4, .i (.slice An nl.length cn), .q g2 1, .i (.slice Al L.length cl), .i (.int .u64 (s : Nat)), .i (.int .u64 (closM L s : Nat)), .i (.bool b), .i (.bool (!b)), .i (.bool (!b))] ⟨uF, uC (h := fun w hW hN => (hS.ext hW).shut 0 rfl 4 rfl), uF, uC (h := fun w hW hN => (hS.ext hW).shut 0 rfl 1 rfl), uM, ?_, ?_, uU, uA, trivial⟩ ?_
 ·refine uT fun b__ w hW hE K hK => ?_
  have e8 := hE 8
  have e9 := hE 9
  exact Aq rfl (by kernel_rfl) (by simp only [List.map_cons, List.map_nil, e8, e9]) (Ef (kl _ _ (hS.ext hW).ro) HL.out (by omega) s) fun v w' h hb => hK v w' h hb
 ·refine uT fun b__ w hW hE K hK => ?_
  have e6 := hE 6
  have e10 := hE 10
  exact Aq rfl (by kernel_rfl) (by simp only [List.map_cons, List.map_nil, e6, e10]) (rsome_any (kn _ _ (hS.ext hW).ro) HM.out.fits.never (Dz L s)) fun v w' h hb => hK v w' (h.trans (by rw [HB.out])) hb
 ·intro vs wz hW hT
  obtain ⟨e5, e6, e7, e8, e9, e10, e11, e12, e4, -⟩ := hT
  simp only [AB, Act.put, zz, ze]
  rw [e4]
  go_wp2_with fail
  go_ret
  exact AC.mk (by rw [HG.out]; rfl) (BC hS.below hW)
theorem Dt {w0 : World} {D : Nat -> Prop} {v : Value} {p : Ae} {L : List (Nat × Nat)} {R s : Nat} (hp : Bb w0 D v p) (hM : BJ p L R) :
  Calls Tryz.prog 61 #[v, .int .u64 (s : Nat)] w0 (AC (fun x _ => x = .bool (reachB p s)) w0) := by
 obtain ⟨R', lk, st, rl, nl, gl⟩ := p
 obtain rfl : lk = some L := hM.links
 obtain rfl : R' = (R : Int) := hM.roles
 obtain ⟨Al, cl, Ar, cr, An, cn, Ag, cg, rfl⟩ := Bz hp
 obtain ⟨K, kp, hS⟩ : ∃ K : (Nat -> Prop) -> World -> Prop, (∀ D w, K D w -> Bb w D (.agg #[.int .i64 (R : Nat), .slice Al L.length cl, .int .u64 (st : Nat), .slice Ar rl.length cr, .slice An nl.length cn, .slice Ag gl.length cg]) ⟨(R : Int), some L, st, rl, nl, gl⟩) /\ St w0 w0 [] K := ⟨_, fun _ _ h => h, St.start Bg hp⟩
 have kl : ∀ D w, K D w -> Sl w D 2 (.slice Al L.length cl) L.length (A9 L) := fun D w h => (BH (kp D w h)).1
 have HM := Lib.hid hM
 have HL := Lib.hid (show Em 64 L from hM.hok.inr)
 have hlen := hM.len
 clear hp hM
 have kg : ∀ D w, K D w -> BX w D (.slice Ag gl.length cg) gl := fun D w h => (BH (kp D w h)).2.2.2
 obtain ⟨b, hb⟩ : ∃ b, gl.any (fun z => Bd z (closM L s)) = b := ⟨_, rfl⟩
 have HG : Hid (reachB ⟨(R : Int), some L, st, rl, nl, gl⟩ s = b) := Lib.hid (by rw [<- hb]; rfl)
 have HB := Lib.hid hb
 clear hb
 go_enter Tryz.func61, Tryz.ntmps61
 go_wp2_with (first | ((with_reducible refine qA 2 ?_); refine Ak hS rfl _ _ rfl (.agg #[.int .i64 (R : Nat), .slice Al L.length cl, .int .u64 (st : Nat), .slice Ar rl.length cr, .slice An nl.length cn, .slice Ag gl.length cg]) _ rfl rfl ?_; clear hS; intro g2 w_ hS; (try simp only [Act.put, Act.eval, zz, Value.cells] at hS)))
 refine Cr [.q g2 5, .i (.slice Ag gl.length cg), .q g2 1, .i (.slice Al L.length cl), .i (.int .u64 (s : Nat)), .i (.int .u64 (closM L s : Nat)), .i (.bool b), .i (.bool b)] ⟨uF, uC (h := fun w hW hN => (hS.ext hW).shut 0 rfl 5 rfl), uF, uC (h := fun w hW hN => (hS.ext hW).shut 0 rfl 1 rfl), uM, ?_, ?_, uA, trivial⟩ ?_
 ·refine uT fun b__ w hW hE K hK => ?_
  have e8 := hE 8
  have e9 := hE 9
  exact Aq rfl (by kernel_rfl) (by simp only [List.map_cons, List.map_nil, e8, e9]) (Ef (kl _ _ (hS.ext hW).ro) HL.out (by omega) s) fun v w' h hb => hK v w' h hb
 ·refine uT fun b__ w hW hE K hK => ?_
  have e6 := hE 6
  have e10 := hE 10
  exact Aq rfl (by kernel_rfl) (by simp only [List.map_cons, List.map_nil, e6, e10]) (rsome_any (kg _ _ (hS.ext hW).ro) HM.out.fits.goal (Dz L s)) fun v w' h hb => hK v w' (h.trans (by rw [HB.out])) hb
 ·intro vs wz hW hT
  obtain ⟨e5, e6, e7, e8, e9, e10, e11, e4, -⟩ := hT
  simp only [AB, Act.put, zz, ze]
  rw [e4]
  go_wp2_with fail
  go_ret
  exact AC.mk (by rw [HG.out]; rfl) (BC hS.below hW)
theorem Iy {b i : Nat} (hb : b < B7) : (BG b).testBit i = (decide (i < 64) && !b.testBit i) := by
 by_cases hi : i < 64
 ·rw [CH hb i hi]; simp [hi]
 ·rw [DE (not64_lt b) (Nat.not_lt.1 hi)]; simp [hi]
theorem andnot_del {N t : Nat} (hN : N < B7) (ht : t < 64) : N &&& BG (2 ^ t) = del N (t : Int) := AY fun i => by
 unfold del
 rw [Dm, Nat.testBit_and, Iy (by rw [BD]; exact Nat.pow_lt_pow_right (by decide) ht), Int.toNat_natCast]
 by_cases hi : i < 64
 ·by_cases e : t = i
  ·subst e
   cases h : N.testBit t
   ·simp [h]
   ·simp [h, Nat.testBit_xor, Nat.testBit_two_pow_self]
  ·have h1 : (2 ^ t).testBit i = false := by rw [Nat.testBit_two_pow]; simp [e]
   simp only [h1, hi, decide_true, Bool.not_false, Bool.and_true]
   split
   ·rw [Nat.testBit_xor, h1, Bool.xor_false]
   ·rfl
 ·have h0 : N.testBit i = false := DE hN (Nat.not_lt.1 hi)
  have h1 : (2 ^ t).testBit i = false := by rw [Nat.testBit_two_pow]; simp; omega
  simp only [h0, Bool.false_and]
  split
  ·rw [Nat.testBit_xor, h0, h1]; simp
  ·simp [h0]
theorem Du {N t : Nat} (ht : t < 64) : N ||| 2 ^ t = Bw N (t : Int) := by
 unfold Bw
 rw [if_pos ⟨by omega, by omega⟩, Int.toNat_natCast]
theorem run_shlU {P : Program} {w : World} {t : TypeId} {r : Nat} (hr : r < 64) : (binOp .shl t (.int .u64 1) (.int .u64 (r : Nat))).run P w = .ok (.int .u64 ((2 ^ r : Nat) : Int)) w := by
 go_simp
 rw [shl64 r hr]
 simp
theorem run_convU {P : Program} {w : World} {n : Nat} (hn : n < B7) : (convert 3 65 (.int .i64 (n : Nat))).run Tryz.prog w = .ok (.int .u64 (n : Nat)) w := by
 go_simp
 exact wrap_u64_nat hn
theorem next_eq {N t : Nat} {rv : Bool} (hN : N < B7) (ht : t < 64) : ((if rv = true then del N (t : Int) else Bw N (t : Int)) == N) = (Bo N (t : Int) != rv) := by
 have hp : (2 ^ t).testBit t = true := Nat.testBit_two_pow_self
 cases rv
 ·rw [if_neg (by simp), <- Du ht, Dm]
  cases h : N.testBit t
  ·have : N ||| 2 ^ t ≠ N := fun e => by
    have : (N ||| 2 ^ t).testBit t = true := by rw [Nat.testBit_or, hp, Bool.or_true]
    rw [e, h] at this; cases this
   simpa using this
  ·have : N ||| 2 ^ t = N := AY fun i => by
    rw [Nat.testBit_or, Nat.testBit_two_pow]
    by_cases e : t = i
    ·subst e; simp [h]
    ·simp [e]
   simp [this]
 ·rw [if_pos rfl]
  unfold del
  rw [Dm, Int.toNat_natCast]
  cases h : N.testBit t
  ·simp
  ·have : N ^^^ 2 ^ t ≠ N := fun e => by
    have : (N ^^^ 2 ^ t).testBit t = false := by rw [Nat.testBit_xor, h, hp]; rfl
    rw [e, h] at this; cases this
   simpa using this
set_option maxHeartbeats 4000000 in
theorem EU {w0 : World} {D : Nat -> Prop} {v : Value} {p : Ae} {L : List (Nat × Nat)} {R N : Nat} (k : Int) (hp : Bb w0 D v p) (hM : BJ p L R) (hN : N < B7) :
  Calls Tryz.prog 58 #[v, .int .u64 (N : Nat), .int .i64 k] w0 (AC (fun x _ => x = .tuple #[.int .u64 ((stepM p N k).getD 0 : Nat), .bool (stepM p N k).isSome]) w0) := by
 obtain ⟨R', lk, st, rl, nl, gl⟩ := p
 obtain rfl : lk = some L := hM.links
 obtain rfl : R' = (R : Int) := hM.roles
 obtain ⟨Al, cl, Ar, cr, An, cn, Ag, cg, rfl⟩ := Bz hp
 obtain ⟨K, kp, hS⟩ : ∃ K : (Nat -> Prop) -> World -> Prop, (∀ D w, K D w -> Bb w D (.agg #[.int .i64 (R : Nat), .slice Al L.length cl, .int .u64 (st : Nat), .slice Ar rl.length cr, .slice An nl.length cn, .slice Ag gl.length cg]) ⟨(R : Int), some L, st, rl, nl, gl⟩) /\ St w0 w0 [] K := ⟨_, fun _ _ h => h, St.start Bg hp⟩
 have kl : ∀ D w, K D w -> Sl w D 2 (.slice Al L.length cl) L.length (A9 L) := fun D w h => (BH (kp D w h)).1
 have HM := Lib.hid hM
 have HL := Lib.hid (show Em 64 L from hM.hok.inr)
 have hlen := hM.len
 clear hp hM
 have kr : ∀ D w, K D w -> Sl w D 5 (.slice Ar rl.length cr) rl.length (AQ rl) := fun D w h => (BH (kp D w h)).2.1
 have hr6 : rl.length <= 6 := HM.out.rlen
 by_cases hk : 0 <= k /\ k < rl.length
 ·obtain ⟨j, rfl⟩ : ∃ j : Nat, k = (j : Int) := ⟨k.toNat, by omega⟩
  have hlj : j < rl.length := by omega
  clear hk
  obtain ⟨b, o2, rfl, -⟩ := Gj (kr _ _ hS.ro) hlj
  rw [stepM_at (p := ⟨(R : Int), some L, st, rl, nl, gl⟩) (N := N) rfl hlj]
  dsimp only
  have HG := Lib.hid (AZ Az hlj)
  have hz := HM.out.rules _ (List.mem_of_getElem? HG.out)
  clear HG
  obtain ⟨z, hz2⟩ : ∃ z, rl.getD j Az = z := ⟨_, rfl⟩
  rw [hz2] at hz ⊢
  have HZ := Lib.hid hz2
  clear hz2
  obtain ⟨zr, y, n, rt, ro⟩ := z
  obtain ⟨t, rfl, ht⟩ : ∃ t : Nat, rt = (t : Int) /\ t < 64 := ⟨rt.toNat, by have h := hz.1; have h5 := HM.out.r5; dsimp only at h h5; omega, by have h := hz.1; have h5 := HM.out.r5; dsimp only at h h5; omega⟩
  have hy64 : y < B7 := by have := hz.2.2.2.2.2.1; dsimp only at this; unfold B7; omega
  have hn64 : n < B7 := by have := hz.2.2.2.2.2.2.1; dsimp only at this; unfold B7; omega
  clear hz
  obtain ⟨V, hV⟩ : ∃ V, V = if stepB ⟨(R : Int), some L, st, rl, nl, gl⟩ N ⟨zr, y, n, (t : Int), ro⟩ = true then some (Hz N ⟨zr, y, n, (t : Int), ro⟩) else none := ⟨_, rfl⟩
  rw [<- hV]
  obtain ⟨M, hM2⟩ : ∃ M, Hz N ⟨zr, y, n, (t : Int), ro⟩ = M := ⟨_, rfl⟩
  have hMN : (M == N) = (Bo N (t : Int) != zr) := by rw [<- hM2]; exact next_eq hN ht
  obtain ⟨ho, hho⟩ : ∃ ho, Bd (y, n) (closM L N) = ho := ⟨_, rfl⟩
  obtain ⟨gd, hgd⟩ : ∃ gd, goodB ⟨(R : Int), some L, st, rl, nl, gl⟩ M = gd := ⟨_, rfl⟩
  obtain ⟨e1, he1⟩ : ∃ e1, (M == N) = e1 := ⟨_, rfl⟩
  have HV : Hid (V = if (!((e1 || (!zr && !ho)) || !gd)) = true then some M else none) := Lib.hid (by rw [hV, hM2, <- hho, <- hgd, <- he1, hMN, <- hM2]; rfl)
  have HMf : Hid (zr = false -> N ||| 2 ^ t = M) := Lib.hid fun e => by rw [<- hM2, Du ht, e]; rfl
  have HMt : Hid (zr = true -> N &&& BG (2 ^ t) = M) := Lib.hid fun e => by rw [<- hM2, andnot_del hN ht, e]; rfl
  have HE1 : Hid (∀ w : World, (binOp .eql 33 (.int .u64 (M : Nat)) (.int .u64 (N : Nat))).run Tryz.prog w = .ok (.bool e1) w) := Lib.hid fun w => Gg (by rw [<- he1, Bool.eq_iff_iff]; simp only [beq_iff_eq, decide_eq_true_eq]; omega)
  have HHO := Lib.hid hho
  have HGD := Lib.hid hgd
  have h2t : 2 ^ t < B7 := Eg ht
  clear hV hM2 hMN hho hgd he1
  obtain ⟨rb, hrb⟩ : ∃ rb, rb = zr := ⟨_, rfl⟩
  have HRB := Lib.hid hrb
  clear hrb
  cases zr <;> cases e1 <;> cases gd
  all_goals
   go_enter Tryz.func58, Tryz.ntmps58
   go_wp2_with (first
    | ((with_reducible refine qA 3 ?_); refine Ak hS rfl _ _ rfl (.agg #[.int .i64 (R : Nat), .slice Al L.length cl, .int .u64 (st : Nat), .slice (some ⟨b, o2, none⟩) rl.length cr, .slice An nl.length cn, .slice Ag gl.length cg]) _ rfl rfl ?_; clear hS; intro g3 w_ hS; (try simp only [Act.put, Act.eval, zz, Value.cells] at hS))
    | ((with_reducible refine qA 24 ?_); obtain ⟨b', o', e', c0, c1, c2, c3, c4⟩ := Gj (kr _ _ hS.ro) hlj; injection e' with e'; injection e' with e1 e2; subst e1 e2; rw [HZ.out] at c0 c1 c2 c3 c4; dsimp only at c0 c1 c2 c3 c4; refine BigFrame.wpList_want rfl fun _ hK => AM (cs := [.bool _, .int .u64 (y : Nat), .int .u64 (n : Nat), .int .i64 (t : Nat), .int .i64 ro]) rfl rfl (FC c0 c1 c2 c3 c4) Tryz.underlying96 rfl (by kernel_rfl) (hK _ _ ?_))
    | ((with_reducible refine qA 8 ?_); refine qa hS #[.bool false, .int .u64 0, .int .u64 0, .int .i64 0, .int .i64 0] ?_; clear hS; intro g8 w_ hS)
    | ((with_reducible refine qA 27 ?_); refine BigFrame.wpList_want rfl fun _ hK => opw_conv (v := .int .u64 (t : Nat)) rfl rfl (run_convU (by omega)) (hK _ _ ?_))
    | ((with_reducible refine qA 28 ?_); refine BigFrame.wpList_want rfl fun _ hK => B5 (v := .int .u64 ((2 ^ t : Nat) : Int)) rfl rfl rfl rfl (run_shlU ht) (hK _ _ ?_))
    | ((with_reducible refine qA 31 ?_); first | (refine BigFrame.wpList_want rfl fun _ hK => B5 (v := .int .u64 (M : Nat)) rfl rfl rfl rfl (by rw [<- HMf.out rfl]; exact Fm hN h2t) (hK _ _ ?_)) | (refine DG rfl _ _ _ _ rfl _ _ rfl rfl hN h2t ?_))
    | ((with_reducible refine qA 36 ?_); refine BigFrame.wpList_want rfl fun _ hK => B5 (v := .int .u64 (M : Nat)) rfl rfl rfl rfl (by rw [<- HMt.out rfl]; exact Eq hN h2t) (hK _ _ ?_))
    | ((with_reducible refine qA 39 ?_); refine BigFrame.wpList_want rfl fun _ hK => B5 (vx := .int .u64 (M : Nat)) (vy := .int .u64 (N : Nat)) rfl rfl rfl rfl (HE1.out _) (hK _ _ ?_))
    | ((with_reducible refine qB ?_); refine qc ?_ ?_ <;> intro h_ <;> go_prune)
    | ((with_reducible refine qA 41 ?_); refine BigFrame.wpList_want rfl fun _ hK => AV rfl rfl (hS.box 1 rfl) Tryz.underlying37 rfl (by kernel_rfl) (hK _ _ ?_))
    | (go_at_call 82; refine (rgood31_any (s := M) (kp _ _ hS.ro) HM.out).mono ?_; rw [HGD.out]; rintro r_ w_ ⟨_, rfl, rfl, hb_⟩; replace hS := hS.ext hb_; clear hb_)
    | ((with_reducible refine qM ?_); (first | refine qS hS ?_ | refine qT hS ?_); clear hS; intro w_ hS; (try simp only [Act.put, Act.eval, zz, Value.cells] at hS))
    | ((with_reducible refine qK ?_); refine qC hS ?_))
  all_goals try (go_ret2; exact AC.mk (by rw [HV.out]; cases ho <;> rfl) hS.below)
  all_goals
   refine Cr [.q g8 0, .i (.bool rb), .i (.bool (!rb)), .i (.bool (!rb)), .g ((!rb)) (.pointer (some ⟨g8, 1, none⟩)), .g ((!rb)) (.agg #[.int .u64 (y : Nat), .int .u64 (n : Nat)]), .g ((!rb)) (.pointer (some ⟨g3, 1, none⟩)), .g ((!rb)) (.slice Al L.length cl), .g ((!rb)) (.int .u64 (N : Nat)), .g ((!rb)) (.int .u64 (closM L N : Nat)), .g ((!rb)) (.bool ho), .g ((!rb)) (.bool (!ho)), .i (.bool ((!rb) && (!ho)))] ⟨uF, uC (h := fun w hW hN => by rw [HRB.out]; exact (hS.ext hW).shut 0 rfl 0 rfl), uU, uM, (by cases rb <;> first | exact uY | exact uX | exact uF), (by cases rb <;> first | exact uY | exact uX | exact uD (h := fun w hW hN => Id ((hS.ext hW).shut 0 rfl 1 rfl) ((hS.ext hW).shut 0 rfl 2 rfl))), (by cases rb <;> first | exact uY | exact uX | exact uF), (by cases rb <;> first | exact uY | exact uX | exact uC (h := fun w hW hN => (hS.ext hW).shut 1 rfl 1 rfl)), (by cases rb <;> first | exact uY | exact uX | exact uM), ?_, ?_, (by cases rb <;> first | exact uY | exact uX | exact uU), (by cases rb <;> exact uP), trivial⟩ ?_
   ·cases rb <;> first | exact uY | exact uX | (refine uT fun b__ w hW hE K hK => ?_; have e53 : b__.eval (.tmp 53) = .slice Al L.length cl := hE 53; have e54 : b__.eval (.tmp 54) = .int .u64 (N : Nat) := hE 54; (exact Aq rfl (by kernel_rfl) (by simp only [List.map_cons, List.map_nil, e53, e54]) (Ef (kl _ _ (hS.ext hW).ro) HL.out (by omega) N) fun v w' h hb => hK v w' h hb))
   ·cases rb <;> first | exact uY | exact uX | (refine uT fun b__ w hW hE K hK => ?_; have e51 : b__.eval (.tmp 51) = .agg #[.int .u64 (y : Nat), .int .u64 (n : Nat)] := hE 51; have e55 : b__.eval (.tmp 55) = .int .u64 (closM L N : Nat) := hE 55; (exact Aq rfl (by kernel_rfl) (by simp only [List.map_cons, List.map_nil, e51, e55]) (FU hy64 hn64 (Dz L N) _) fun v w' h hb => hK v w' (h.trans (by rw [HHO.out]; rfl)) hb))
   ·intro vs wz hW hT
    obtain ⟨e46, e47, e48, e49, -, -, -, -, -, -, -, -, e58, -⟩ := hT
    simp only [AB, Act.put, zz, ze]
    rw [e58, HRB.out]
    replace hS := hS.ext hW
    cases ho
    all_goals
     go_wp2_with fail
     go_ret2
     exact AC.mk (by rw [HV.out]; rfl) hS.below
 ·rw [stepM_none (p := ⟨(R : Int), some L, st, rl, nl, gl⟩) (fun h => hk ⟨h.1, h.2.1⟩)]
  have hk' : k < 0 \/ rl.length <= k := by omega
  clear hk
  go_enter Tryz.func58, Tryz.ntmps58
  go_wp2_with (first
   | ((with_reducible refine qA 3 ?_); refine Ak hS rfl _ _ rfl (.agg #[.int .i64 (R : Nat), .slice Al L.length cl, .int .u64 (st : Nat), .slice Ar rl.length cr, .slice An nl.length cn, .slice Ag gl.length cg]) _ rfl rfl ?_; clear hS; intro g3 w_ hS; (try simp only [Act.put, Act.eval, zz, Value.cells] at hS))
   | ((with_reducible refine qB ?_); refine qc ?_ ?_ <;> intro h_ <;> go_prune)
   | ((with_reducible refine qK ?_); refine qC hS ?_))
  all_goals
   go_ret2
   exact AC.mk rfl hS.below
end
section
open Go.RowKit
set_option exponentiation.threshold 5000
theorem rolesN_mask : ∀ R, R < 6 -> D5 R = Bc R := by decide
theorem Io : ∀ R, R < 6 -> ∀ z, z < 6 -> 1 <= z -> z <= R -> (Bc R).testBit z = true := by decide
theorem Hf {R : Nat} (hR : R <= 5) {i : Int} (h1 : 1 <= i) (h2 : i <= R) : Bo (Bc R) i = true := by
 obtain ⟨z, rfl⟩ : ∃ z : Nat, i = (z : Int) := ⟨i.toNat, by omega⟩
 rw [Dm]
 exact Io R (by omega) z (by omega) (by omega) (by omega)
theorem over_of {m : Nat} {z : Nat × Nat} (h1 : z.1 &&& m = z.1) (h2 : z.2 &&& m = z.2) : Hw m z = true := by
 unfold Hw
 rw [beq_iff_eq]
 exact AY fun i => by
  have a : (z.1 &&& m).testBit i = z.1.testBit i := by rw [h1]
  have b : (z.2 &&& m).testBit i = z.2.testBit i := by rw [h2]
  rw [Nat.testBit_and] at a b
  rw [Nat.testBit_and, Nat.testBit_or]
  cases h3 : z.1.testBit i <;> cases h4 : z.2.testBit i <;> cases h5 : m.testBit i <;> simp_all
theorem BJ.check {p : Ae} {L : List (Nat × Nat)} {R : Nat} (h : BJ p L R) : checkE p = 0 := by
 have hR := h.r5
 have hm := rolesN_mask R (by omega)
 have hc : ∀ z ∈ p.cubes, z.1 &&& Bc R = z.1 /\ z.2 &&& Bc R = z.2 /\ z.1 &&& z.2 = 0 := fun z hz => by
  unfold Ae.cubes at hz
  rcases List.mem_append.1 hz with hz | hz
  ·rcases List.mem_append.1 hz with hz | hz
   ·obtain ⟨r, hr, rfl⟩ := List.mem_map.1 hz
    have := h.rules r hr
    exact ⟨this.2.2.1, this.2.2.2.1, this.2.2.2.2.1⟩
   ·have := (h.never z hz).1; exact ⟨this.1, this.2.1, this.2.2.1⟩
  ·have := h.goal z hz; exact ⟨this.1, this.2.1, this.2.2.1⟩
 unfold checkE
 rw [h.links]
 dsimp only
 rw [h.roles, Int.toNat_natCast, hm, if_neg (by have := h.r2; omega), if_neg (by have := h.rlen; have := h.nlen; have := h.glen; omega), if_neg, if_neg, if_neg]
 ·unfold goodB
  rw [h.links]
  dsimp only
  intro e
  rw [Bool.not_eq_false', List.any_eq_true] at e
  obtain ⟨z, hz, e⟩ := e
  rw [(h.never z hz).2] at e; cases e
 ·rintro (e | e)
  ·obtain ⟨z, hz, e⟩ := List.any_eq_true.1 e
   rw [(hc z hz).2.2] at e; cases e
  ·have : p.rules.all revB = true := List.all_eq_true.2 fun r hr => by
    unfold revB
    cases hr' : r.revoke with
    | false => rfl
    | true =>
     have := (h.rules r hr).2.2.2.2.2.2.2 hr'
     simp [this]
   rw [this] at e; cases e
 ·have : DM p L (Bc R) = true := by
   unfold DM
   rw [Bool.and_eq_true, Bool.and_eq_true, Bool.and_eq_true]
   refine ⟨by rw [h.start]; simp, List.all_eq_true.2 fun z hz => ?_, List.all_eq_true.2 fun r hr => ?_, List.all_eq_true.2 fun z hz => over_of (hc z hz).1 (hc z hz).2.1⟩
   ·have := h.inr z hz
    rw [Bool.and_eq_true]
    exact ⟨Hf hR (by omega) (by omega), Hf hR (by omega) (by omega)⟩
   ·have := (h.rules r hr).1
    exact Hf hR (by omega) (by omega)
  rw [this]; exact nofun
theorem relM_lt (L : List (Nat × Nat)) (p : Ae) : relM L p < B7 := by rw [BD]; exact Ft _ _
end
section
open Go.RowKit
attribute [local go_sem ↓] Go.wp_at_zero Go.wp_at_succ
set_option maxRecDepth 20000
set_option exponentiation.threshold 5000
theorem mask_with {R N t : Nat} (hR : R <= 5) (hN : N &&& Bc R = N) (h1 : 1 <= t) (h2 : t <= R) : Bw N (t : Int) &&& Bc R = Bw N (t : Int) := by
 rw [<- Du (by omega)]
 refine AY fun i => ?_
 have hN' : (N &&& Bc R).testBit i = N.testBit i := by rw [hN]
 rw [Nat.testBit_and] at hN'
 rw [Nat.testBit_and, Nat.testBit_or, Nat.testBit_two_pow]
 by_cases e : t = i
 ·subst e
  rw [Io R (by omega) t (by omega) h1 h2]; simp
 ·simp only [e, decide_false, Bool.or_false]
  exact Bool.eq_iff_iff.1 hN'
theorem mask_del {R N : Nat} (t : Int) (hN : N &&& Bc R = N) : del N t &&& Bc R = del N t := by
 unfold del
 split
 ·rename_i hb
  refine AY fun i => ?_
  have hN' : (N &&& Bc R).testBit i = N.testBit i := by rw [hN]
  rw [Nat.testBit_and] at hN'
  have hb' : N.testBit t.toNat = true := by unfold Bo at hb; simp only [Bool.and_eq_true] at hb; exact hb.2
  rw [Nat.testBit_and, Nat.testBit_xor, Nat.testBit_two_pow]
  by_cases e : t.toNat = i
  ·rw [e] at hb' ⊢; simp [hb']
  ·simp only [e, decide_false, Bool.xor_false]; exact Bool.eq_iff_iff.1 hN'
 ·exact hN
theorem FR {p : Ae} {L : List (Nat × Nat)} {R N M : Nat} {k : Int} (hM : BJ p L R) (hN : N &&& Bc R = N) (h : stepM p N k = some M) : M &&& Bc R = M := by
 unfold stepM at h
 split at h
 ·rename_i hk
  split at h
  ·injection h with h
   subst h
   have hj : k.toNat < p.rules.length := by omega
   have hz := hM.rules _ (List.mem_of_getElem? (AZ Az hj))
   generalize p.rules.getD k.toNat Az = z at *
   unfold Hz
   split
   ·exact mask_del _ hN
   ·have h1 := hz.1
    have := mask_with (t := z.target.toNat) hM.r5 hN (by omega) (by omega)
    rwa [show ((z.target.toNat : Nat) : Int) = z.target by omega] at this
  ·cases h
 ·cases h
theorem Iq {R N : Nat} (hR : R <= 5) (hN : N &&& Bc R = N) : N < 64 := by
 have h1 : Bc R <= 62 := by
  have : ∀ R, R < 6 -> Bc R <= 62 := by decide
  exact this R (by omega)
 have h2 : N &&& Bc R <= Bc R := Nat.and_le_right
 omega
theorem Rch.mask {p : Ae} {L : List (Nat × Nat)} {R s : Nat} (hM : BJ p L R) (h : Rch p s) : s &&& Bc R = s := by
 induction h with
 | start => exact hM.start
 | step _ hk ih => exact FR hM ih hk
structure AllOk (p : Ae) (l : List Nat) : Prop where
 mem : ∀ s, s ∈ l ↔ Rch p s
 nd : l.Nodup
structure EI (p : Ae) (l : List Nat) (a j : Nat) : Prop where
 start : p.start ∈ l
 rch : ∀ s ∈ l, Rch p s
 nd : l.Nodup
 old : ∀ i s, i < a -> l[i]? = some s -> ∀ k t, stepM p s k = some t -> t ∈ l
 now : ∀ s, l[a]? = some s -> ∀ (k : Nat) t, k < j -> stepM p s (k : Nat) = some t -> t ∈ l
theorem EI.bound {p : Ae} {L : List (Nat × Nat)} {R a j : Nat} {l : List Nat} (hM : BJ p L R) (h : EI p l a j) : l.length <= 64 := Hj 64 l h.nd fun x hx => Iq hM.r5 ((h.rch x hx).mask hM)
theorem EI.zero {p : Ae} : EI p [p.start] 0 0 := ⟨by simp, fun s hs => by rw [List.mem_singleton.1 hs]; exact .start, by simp, fun _ _ h => absurd h (by omega), fun _ _ _ _ h => absurd h (by omega)⟩
theorem EI.skip {p : Ae} {l : List Nat} {a j s : Nat} (h : EI p l a j) (hs : l[a]? = some s) (hk : ∀ t, stepM p s (j : Nat) = some t -> t ∈ l) : EI p l a (j + 1) :=
 ⟨h.start, h.rch, h.nd, h.old, fun s' hs' k t hkj ht => by
  rcases Nat.lt_or_ge k j with h1 | h1
  ·exact h.now s' hs' k t h1 ht
  ·obtain rfl : k = j := by omega
   rw [hs] at hs'; injection hs' with hs'; subst hs'
   exact hk t ht⟩
theorem EI.add {p : Ae} {l : List Nat} {a j s t : Nat} (h : EI p l a j) (hs : l[a]? = some s) (ht : stepM p s (j : Nat) = some t) (hn : t ∉ l) : EI p (l ++ [t]) a (j + 1) := by
 have hlt := (List.getElem?_eq_some_iff.1 hs).1
 have hat : ∀ i, i <= a -> (l ++ [t])[i]? = l[i]? := fun i hi => List.getElem?_append_left (by omega)
 refine ⟨List.mem_append_left _ h.start, fun x hx => ?_, ?_, fun i x hi hx k y hy => ?_, fun x hx k y hk hy => ?_⟩
 ·rcases List.mem_append.1 hx with hx | hx
  ·exact h.rch x hx
  ·rw [List.mem_singleton.1 hx]; exact .step (h.rch s (List.mem_of_getElem? hs)) ht
 ·rw [List.nodup_append]
  exact ⟨h.nd, by simp, fun x hx y hy e => by rw [List.mem_singleton] at hy; subst e hy; exact hn hx⟩
 ·rw [hat i (by omega)] at hx
  exact List.mem_append_left _ (h.old i x hi hx k y hy)
 ·rw [hat a (Nat.le_refl _), hs] at hx
  injection hx with hx; subst hx
  rcases Nat.lt_or_ge k j with h1 | h1
  ·exact List.mem_append_left _ (h.now s hs k y h1 hy)
  ·obtain rfl : k = j := by omega
   rw [ht] at hy; injection hy with hy; subst hy
   simp
theorem EI.next {p : Ae} {l : List Nat} {a : Nat} (h : EI p l a p.rules.length) : EI p l (a + 1) 0 :=
 ⟨h.start, h.rch, h.nd, fun i s hi hs k t ht => by
  rcases Nat.lt_or_ge i a with h1 | h1
  ·exact h.old i s h1 hs k t ht
  ·obtain rfl : i = a := by omega
   have hk : 0 <= k /\ k < p.rules.length := by
    unfold stepM at ht
    split at ht
    ·rename_i hk; exact ⟨hk.1, hk.2.1⟩
    ·cases ht
   obtain ⟨j, rfl⟩ : ∃ j : Nat, k = (j : Int) := ⟨k.toNat, by omega⟩
   exact h.now s hs j t (by omega) ht, fun _ _ _ _ h => absurd h (by omega)⟩
theorem EI.done {p : Ae} {l : List Nat} (h : EI p l l.length 0) : AllOk p l :=
 ⟨fun s => ⟨h.rch s, fun hs => by
  induction hs with
  | start => exact h.start
  | step _ hk ih =>
   obtain ⟨i, hi⟩ := List.mem_iff_getElem?.1 ih
   exact h.old i _ (List.getElem?_eq_some_iff.1 hi).1 hi _ _ hk⟩, h.nd⟩
set_option maxHeartbeats 4000000 in
theorem rall31_any {w0 w : World} {F : List Af} {K : (Nat -> Prop) -> World -> Prop} {v : Value} {p : Ae} {L : List (Nat × Nat)} {R : Nat} (hM : BJ p L R) (hS : St w0 w F K) (kp : ∀ D w, K D w -> Bb w D v p) :
  Calls Tryz.prog 21 #[v] w fun e w' => ∃ u l, e = .returned u /\ AllOk p l /\ St w0 w' F fun D w => K D w /\ Sl w D 1 u l.length (Bi l) := by
 obtain ⟨R', lk, st, rl, nl, gl⟩ := p
 obtain rfl : lk = some L := hM.links
 obtain rfl : R' = (R : Int) := hM.roles
 obtain ⟨Al, cl, Ar, cr, An, cn, Ag, cg, rfl⟩ := Bz (kp _ _ hS.ro)
 have HM := Lib.hid hM
 have KS := Lib.hid hS.stable
 have HK := Lib.hid kp
 have hr6 : rl.length <= 6 := hM.rlen
 clear hM kp
 go_enter Tryz.func21, Tryz.ntmps21
 go_wp2_with (first
  | ((with_reducible refine qA 1 ?_); refine Ak hS rfl _ _ rfl (.agg #[.int .i64 (R : Nat), .slice Al L.length cl, .int .u64 (st : Nat), .slice Ar rl.length cr, .slice An nl.length cn, .slice Ag gl.length cg]) _ rfl rfl ?_; clear hS; intro g1 w_ hS; (try simp only [Act.put, Act.eval, zz, Value.cells] at hS))
  | ((with_reducible refine qK ?_); refine qC hS ?_)
  | ((with_reducible refine qA 13 ?_); refine Dw hS rfl _ _ _ _ rfl Tryz.underlying25 #[.int .u64 (st : Nat)] (by kernel_rfl) 1 rfl (by decide) ?_; clear hS; intro gl0 w_ hS))
 go_loopw [3, 4] (fun ov av wr => ∃ (l : List Nat) (a : Nat), av = .int .i64 (a : Nat) /\ a <= l.length /\ Hid (EI ⟨(R : Int), some L, st, rl, nl, gl⟩ l a 0) /\ St w0 wr (.own ov 33 1 l.length (Bi l) :: .box g1 37 #[.int .i64 (R : Nat), .slice Al L.length cl, .int .u64 (st : Nat), .slice Ar rl.length cr, .slice An nl.length cn, .slice Ag gl.length cg] :: F) K) (fun _ i _ => 64 - (intOf i).toNat)
 case atStart => exact ⟨[st], 0, rfl, by simp, Lib.hid EI.zero, hS⟩
 case round =>
  clear hS
  obtain ⟨l, a, rfl, ha, HI, hS⟩ := hrel
  obtain ⟨Ao, co, rfl, _, _⟩ := Bl (hS.own 0 rfl)
  by_cases hal : a < l.length
  ·have h64 := HI.out.bound HM.out
   obtain ⟨s, hs⟩ : ∃ s, l[a]? = some s := ⟨_, List.getElem?_eq_getElem hal⟩
   have HS0 := Lib.hid hs
   clear hs
   go_wp2_with (first | ((with_reducible refine qB ?_); refine qc ?_ ?_ <;> intro h_ <;> go_prune) | ((with_reducible refine qK ?_); refine qC hS ?_))
   go_loopw [3, 23] (fun ov kv wr => ∃ (l2 : List Nat) (j : Nat), kv = .int .i64 (j : Nat) /\ j <= rl.length /\ a < l2.length /\ Hid (l2[a]? = some s) /\ Hid (EI ⟨(R : Int), some L, st, rl, nl, gl⟩ l2 a j) /\ St w0 wr (.own ov 33 1 l2.length (Bi l2) :: .box g1 37 #[.int .i64 (R : Nat), .slice Al L.length cl, .int .u64 (st : Nat), .slice Ar rl.length cr, .slice An nl.length cn, .slice Ag gl.length cg] :: F) K) (fun _ i _ => rl.length - (intOf i).toNat)
   case atStart => exact ⟨l, 0, rfl, by omega, hal, HS0, HI, hS⟩
   case round =>
    clear hS HI HS0 hal h64
    obtain ⟨l2, j, rfl, hj, hal, HS0, HI, hS⟩ := hrel
    by_cases hlj : j < rl.length
    ·have h64 := HI.out.bound HM.out
     obtain ⟨go, co, rfl, _, _⟩ := Gr (hS.own 0 rfl) (by omega)
     have HX : Hid ((Bi l2)[a]? = some (.int .u64 (s : Nat))) := Lib.hid (by rw [Cl l2 a hal, List.getD_eq_getElem?_getD, HS0.out]; rfl)
     have hs64 : s < B7 := by have := Iq HM.out.r5 ((HI.out.rch s (List.mem_of_getElem? HS0.out)).mask HM.out); unfold B7; omega
     obtain ⟨V, hV⟩ : ∃ V, stepM ⟨(R : Int), some L, st, rl, nl, gl⟩ s (j : Nat) = V := ⟨_, rfl⟩
     have HV := Lib.hid hV
     clear hV
     go_wp2_with (first | ((with_reducible refine qB ?_); refine qc ?_ ?_ <;> intro h_ <;> go_prune))
     refine Cr [.i (.agg #[.int .i64 (R : Nat), .slice Al L.length cl, .int .u64 (st : Nat), .slice Ar rl.length cr, .slice An nl.length cn, .slice Ag gl.length cg]), .i (.slice (some ⟨go, 0, none⟩) l2.length co), .n (a : Nat), .q go (0 + (a) * 1), .i (.int .u64 (s : Nat)), .n (j : Nat), .i (.tuple #[.int .u64 (V.getD 0 : Nat), .bool V.isSome]), .i (.tuple #[.int .u64 (V.getD 0 : Nat), .bool V.isSome]), .i (.int .u64 (V.getD 0 : Nat)), .i (.bool V.isSome), .i (.int .u64 (V.getD 0 : Nat)), .i (.bool V.isSome)] ⟨uR (h := fun w hW hN => (hS.ext hW).box 1 rfl), uM, uM, uI (h := fun w hW hN => At (m := a) Tryz.underlying25 (by kernel_rfl) (by omega) (by omega)), uC (h := fun w hW hN => by rw [Nat.mul_one, Nat.zero_add]; exact C6 ((hS.ext hW).own 0 rfl) _ _ HX.out), uM, ?_, uM, ?_, ?_, uA, uA, trivial⟩ ?_
     ·refine uT fun b__ w hW hE K hK => ?_
      have e27 := hE 27
      have e31 := hE 31
      have e32 := hE 32
      exact Aq rfl (by kernel_rfl) (by simp only [List.map_cons, List.map_nil, e27, e31, e32]) (EU (N := s) (j : Nat) (HK.out _ _ (hS.ext hW).ro) HM.out hs64) fun v w' h hb => hK v w' (h.trans (by rw [HV.out])) hb
     ·refine uT fun b__ w hW hE K hK => ?_
      have e26 := hE 26
      exact CW rfl e26 rfl (hK _ _ rfl (Below.refl _ _))
     ·refine uT fun b__ w hW hE K hK => ?_
      have e26 := hE 26
      exact CW rfl e26 rfl (hK _ _ rfl (Below.refl _ _))
     ·intro vs wz hW hT
      obtain ⟨e27, e28, e29, e30, e31, e32, e33, e26, e34, e35, e6, e7, -⟩ := hT
      simp only [AB, Act.put, zz, ze]
      rw [e6, e7]
      clear e6 e7 e26 e27 e28 e29 e30 e31 e32 e33 e34 e35
      replace hS := hS.ext hW
      clear hW
      cases V with
      | none =>
       go_wp2_with fail
       exact ⟨⟨l2, j + 1, by go_num, hlj, hal, HS0, Lib.hid (HI.out.skip HS0.out fun t ht => by rw [HV.out] at ht; cases ht), hS⟩, by simp [intOf]; omega⟩
      | some t =>
       have ht64 : t < B7 := by have := Iq HM.out.r5 (FR HM.out ((HI.out.rch s (List.mem_of_getElem? HS0.out)).mask HM.out) HV.out); unfold B7; omega
       simp only [Option.getD_some, Option.isSome_some]
       go_wp2_with fail
       go_loopw [8, 40] (fun fv iv wr => ∃ (i : Nat), iv = .int .i64 (i : Nat) /\ i <= l2.length /\ fv = .bool ((l2.take i).contains t) /\ St w0 wr (.own (.slice (some ⟨go, 0, none⟩) l2.length co) 33 1 l2.length (Bi l2) :: .box g1 37 #[.int .i64 (R : Nat), .slice Al L.length cl, .int .u64 (st : Nat), .slice Ar rl.length cr, .slice An nl.length cn, .slice Ag gl.length cg] :: F) K) (fun _ i _ => l2.length - (intOf i).toNat)
       case atStart => exact ⟨0, rfl, by omega, by simp, hS⟩
       case round =>
        clear hS
        obtain ⟨i, rfl, hi, rfl, hS⟩ := hrel
        by_cases hil : i < l2.length
        ·have HY : Hid ((Bi l2)[i]? = some (.int .u64 (l2.getD i 0 : Nat))) := Lib.hid (Cl l2 i hil)
         have HST : Hid ((l2.take (i + 1)).contains t = ((l2.take i).contains t || l2.getD i 0 == t)) := Lib.hid (by
          rw [List.take_add_one, List.getD_eq_getElem?_getD, List.getElem?_eq_getElem hil]
          simp only [Option.toList_some, Option.getD_some, List.contains_eq_any_beq, List.any_append, List.any_cons, List.any_nil, Bool.or_false]
          congr 1
          exact Bool.eq_iff_iff.2 (by simp only [beq_iff_eq]; exact eq_comm))
         generalize l2.getD i 0 = y at *
         obtain ⟨c, hc⟩ : ∃ c, (l2.take i).contains t = c := ⟨_, rfl⟩
         rw [hc] at HST ⊢
         clear hc
         go_wp2_with (first
          | ((with_reducible refine qB ?_); refine qc ?_ ?_ <;> intro h_ <;> go_prune)
          | ((with_reducible refine qk 33 ?_); refine BigFrame.wpList_want rfl fun _ hK => Ax rfl rfl (by kernel_rfl) (C6 (hS.own 0 rfl) _ _ HY.out) (hK _ _ ?_)))
         ·exact ⟨⟨i + 1, by go_num, hil, by rw [HST.out]; simp; omega, hS⟩, by simp [intOf]; omega⟩
         ·exact ⟨⟨i + 1, by go_num, hil, by rw [HST.out]; simp; omega, hS⟩, by simp [intOf]; omega⟩
        ·obtain rfl : i = l2.length := by omega
         rw [List.take_length]
         obtain ⟨c, hc⟩ : ∃ c, l2.contains t = c := ⟨_, rfl⟩
         rw [hc]
         have HC := Lib.hid hc
         clear hc
         cases c
         ·go_wp2_with (first
           | ((with_reducible refine qB ?_); refine qc ?_ ?_ <;> intro h_ <;> go_prune)
           | ((with_reducible refine qA 52 ?_); refine D0 hS 0 rfl rfl _ _ _ _ rfl rfl G6 (.slice (some ⟨go, 0, none⟩) l2.length co) l2.length (Bi l2) (.int .u64 (t : Nat)) #[.int .u64 (t : Nat)] rfl (by kernel_rfl) rfl rfl rfl rfl (by intro u hu; simp at hu; subst hu; rfl) (by omega) (by omega) ?_; clear hS; intro z_ v_ w_ hS; (try simp only [Act.put, Act.eval, zz, Value.cells] at hS)))
          refine ⟨⟨l2 ++ [t], j + 1, by go_num, hlj, by simp; omega, Lib.hid (by rw [List.getElem?_append_left hal]; exact HS0.out), Lib.hid (HI.out.add HS0.out HV.out fun hm => by have := List.contains_iff_mem.2 hm; rw [HC.out] at this; cases this), ?_⟩, by simp [intOf]; omega⟩
          rw [show (l2 ++ [t]).length = l2.length + 1 by simp, show Bi (l2 ++ [t]) = Bi l2 ++ [.int .u64 (t : Nat)] by simp [Bi]]
          exact hS
         ·go_wp2_with (first | ((with_reducible refine qB ?_); refine qc ?_ ?_ <;> intro h_ <;> go_prune))
          exact ⟨⟨l2, j + 1, by go_num, hlj, hal, HS0, Lib.hid (HI.out.skip HS0.out fun t' ht => by rw [HV.out] at ht; injection ht with ht; subst ht; exact List.contains_iff_mem.1 HC.out), hS⟩, by simp [intOf]; omega⟩
    ·obtain rfl : j = rl.length := by omega
     go_wp2_with (first | ((with_reducible refine qB ?_); refine qc ?_ ?_ <;> intro h_ <;> go_prune))
     exact ⟨⟨l2, a + 1, by go_num, by omega, Lib.hid HI.out.next, hS⟩, by have := HI.out.bound HM.out; simp [intOf]; omega⟩
  ·obtain rfl : a = l.length := by omega
   go_wp2_with (first | ((with_reducible refine qB ?_); refine qc ?_ ?_ <;> intro h_ <;> go_prune))
   go_ret
   refine ⟨_, rfl, l, HI.out.done, ?_⟩
   exact ((hS.freeze 0 (by decide) rfl).sub (List.sublist_cons_self _ _)).mono (KS.out.and (AA (by decide))) fun D w h => h
end
section
open Go.RowKit
attribute [local go_sem ↓] Go.wp_at_zero Go.wp_at_succ
set_option maxRecDepth 20000
set_option exponentiation.threshold 5000
theorem andnot_zero {y C : Nat} (hy : y < B7) (hC : C < B7) : (y &&& BG C = 0) ↔ (y &&& C == y) = true := by
 rw [C2]
 constructor
 ·intro h i hi
  have : (y &&& BG C).testBit i = false := by rw [h]; simp
  rw [Nat.testBit_and, hi, Iy hC] at this
  have h64 : i < 64 := by
   rcases Nat.lt_or_ge i 64 with h1 | h1
   ·exact h1
   ·rw [DE hy h1] at hi; cases hi
  simpa [h64] using this
 ·intro h
  refine AY fun i => ?_
  rw [Nat.testBit_and, Iy hC, Nat.zero_testBit]
  cases hi : y.testBit i
  ·simp
  ·simp [h i hi]
theorem withN_sub {N T : Nat} {t : Nat} (h : Cp N T) (ht : T.testBit t = true) (h64 : t < 64) : Cp (Bw N (t : Int)) T := by
 rw [<- Du h64]
 exact h.or fun i hi => by
  have e : i = t := E0.1 hi
  subst e; exact ht
theorem del_sub {N : Nat} (i : Int) : Cp (del N i) N := fun k hk => by
 unfold del at hk
 split at hk
 ·rename_i hb
  have hb' : N.testBit i.toNat = true := by unfold Bo at hb; simp only [Bool.and_eq_true] at hb; exact hb.2
  rw [Nat.testBit_xor, Nat.testBit_two_pow] at hk
  by_cases e : i.toNat = k
  ·rw [<- e]; exact hb'
  ·simpa [e] using hk
 ·exact hk
theorem Rch.upper {p : Ae} {L : List (Nat × Nat)} {R T s : Nat} (hM : BJ p L R) (hT : UCl L p T) (h : Rch p s) : Cp s T := by
 induction h with
 | start => exact hT.start
 | @step N M k hN hk ih =>
  unfold stepM at hk
  split at hk
  ·rename_i hr
   split at hk
   ·rename_i hb
    injection hk with hk
    subst hk
    have hj : k.toNat < p.rules.length := by omega
    have hm := List.mem_of_getElem? (AZ Az hj)
    have hz := hM.rules _ hm
    have hu := hT.rules _ hm
    generalize p.rules.getD k.toNat Az = z at *
    unfold Hz
    split
    ·exact (del_sub _).trans ih
    ·rename_i hv
     have hv' : z.revoke = false := by simpa using hv
     have h1 := hz.1
     have h5 := hM.r5
     have hh : Bd (z.yes, z.no) (closM L N) = true := by
      unfold stepB closP at hb
      rw [hv', hM.links] at hb
      cases h : Bd (z.yes, z.no) (closM L N)
      ·simp [h] at hb
      ·rfl
     have hy : Cp z.yes (closM L N) := C2.1 (by
      unfold Bd at hh
      simp only [Bool.and_eq_true] at hh
      exact hh.1)
     have := hu hv' (C2.2 (hy.trans ih.clos))
     obtain ⟨t, ht⟩ : ∃ t : Nat, z.target = (t : Int) := ⟨z.target.toNat, by omega⟩
     rw [ht, Dm] at this
     rw [ht]
     exact withN_sub ih this (by omega)
   ·cases hk
  ·cases hk
end
section
open Go.RowKit
set_option exponentiation.threshold 5000
theorem Hm.sub {L : List (Nat × Nat)} {p : Ae} {T : Nat} (h : Hm L p T) : Cp (relM L p) T := fun i hi => by
 rw [relM, Bh] at hi; exact hi.2 T h
end
section
open Go.RowKit
set_option exponentiation.threshold 5000
section
variable {p : Ae} {L : List (Nat × Nat)} {R A k i : Nat}
end
noncomputable def runTo (p : Ae) : Nat -> Nat -> List Int -> Nat × Nat × Bool
 | N, n, [] => (N, n, true)
 | N, n, k :: r => match stepM p N k with
  | none => (N, n, false)
  | some M => runTo p M (n + 1) r
theorem Er {p : Ae} {N M n : Nat} {k : Int} {r : List Int} (h : stepM p N k = some M) : runTo p N n (k :: r) = runTo p M (n + 1) r := by rw [runTo, h]
theorem IL {p : Ae} {N n : Nat} {k : Int} {r : List Int} (h : stepM p N k = none) : runTo p N n (k :: r) = (N, n, false) := by rw [runTo, h]
theorem IM {p : Ae} {k : Int} {M M' : Nat} : ∀ {l : List Int} {N n m : Nat}, runTo p N n l = (M, m, true) -> stepM p M k = some M' -> runTo p N n (l ++ [k]) = (M', m + 1, true)
 | [], N, n, m, h, hk => by
  simp only [runTo, Prod.mk.injEq] at h
  obtain ⟨rfl, rfl, _⟩ := h
  show runTo p N n [k] = _
  rw [Er hk]; rfl
 | j :: r, N, n, m, h, hk => by
  cases hj : stepM p N j with
  | none => rw [IL hj] at h; simp at h
  | some N' =>
   rw [Er hj] at h
   show runTo p N n (j :: (r ++ [k])) = _
   rw [Er hj]
   exact IM h hk
section
variable {p : Ae} {L : List (Nat × Nat)} {R : Nat}
end
end
section
open Go.RowKit
attribute [local go_sem ↓] Go.wp_at_zero Go.wp_at_succ
set_option maxRecDepth 20000
set_option exponentiation.threshold 5000
open Classical in
noncomputable def rchB (p : Ae) : Bool := decide (∃ s, Rch p s /\ reachB p s = true)
open Classical in
theorem Hg {p : Ae} (h : ∃ s, Rch p s /\ reachB p s = true) : rchB p = true := by unfold rchB; exact decide_eq_true h
open Classical in
theorem IV {p : Ae} (h : ∀ s, Rch p s -> reachB p s = false) : rchB p = false := by
 unfold rchB
 exact decide_eq_false fun ⟨s, h1, h2⟩ => by rw [h s h1] at h2; cases h2
set_option maxHeartbeats 4000000 in
theorem IP {w0 : World} {D : Nat -> Prop} {v : Value} {p : Ae} {L : List (Nat × Nat)} {R : Nat} (hp : Bb w0 D v p) (hM : BJ p L R) :
  Calls Tryz.prog 26 #[v] w0 (AC (fun x _ => x = .bool (rchB p)) w0) := by
 obtain ⟨R', lk, st, rl, nl, gl⟩ := p
 obtain rfl : lk = some L := hM.links
 obtain rfl : R' = (R : Int) := hM.roles
 obtain ⟨Al, cl, Ar, cr, An, cn, Ag, cg, rfl⟩ := Bz hp
 obtain ⟨K, kp, hS⟩ : ∃ K : (Nat -> Prop) -> World -> Prop, (∀ D w, K D w -> Bb w D (.agg #[.int .i64 (R : Nat), .slice Al L.length cl, .int .u64 (st : Nat), .slice Ar rl.length cr, .slice An nl.length cn, .slice Ag gl.length cg]) ⟨(R : Int), some L, st, rl, nl, gl⟩) /\ St w0 w0 [] K := ⟨_, fun _ _ h => h, St.start Bg hp⟩
 have HM := Lib.hid hM
 have HK := Lib.hid kp
 clear hp hM kp
 go_enter Tryz.func26, Tryz.ntmps26
 go_wp2_with (first
  | ((with_reducible refine qA 1 ?_); refine Ak hS rfl _ _ rfl (.agg #[.int .i64 (R : Nat), .slice Al L.length cl, .int .u64 (st : Nat), .slice Ar rl.length cr, .slice An nl.length cn, .slice Ag gl.length cg]) _ rfl rfl ?_; clear hS; intro g1 w_ hS; (try simp only [Act.put, Act.eval, zz, Value.cells] at hS))
  | ((with_reducible refine qA 5 ?_); refine BigFrame.wpList_want rfl fun _ hK => AV rfl rfl (hS.box 0 rfl) Tryz.underlying37 rfl (by kernel_rfl) (hK _ _ ?_))
  | (go_at_call 21; refine (rall31_any HM.out hS (fun D w h => HK.out D w h)).mono ?_; clear hS; rintro e w_ ⟨y, la, rfl, hA, hS⟩; replace hA := Lib.hid hA; obtain ⟨Aa, ca, rfl, _, _⟩ := hS.ro.2.shape))
 go_loopw [8] (fun iv wr => ∃ i : Nat, iv = .int .i64 (i : Nat) /\ i <= la.length /\ Hid (∀ s ∈ la.take i, reachB ⟨(R : Int), some L, st, rl, nl, gl⟩ s = false) /\ St w0 wr [.box g1 37 #[.int .i64 (R : Nat), .slice Al L.length cl, .int .u64 (st : Nat), .slice Ar rl.length cr, .slice An nl.length cn, .slice Ag gl.length cg]] (fun D w => K D w /\ Sl w D 1 (.slice Aa la.length ca) la.length (Bi la))) (fun i _ => la.length - (intOf i).toNat)
 case atStart => exact ⟨0, rfl, by omega, Lib.hid (by simp), hS⟩
 case round =>
  clear hS
  obtain ⟨i, rfl, hi, HN, hS⟩ := hrel
  by_cases hil : i < la.length
  ·obtain ⟨ba, oa, e⟩ : ∃ b o, Aa = some ⟨b, o, none⟩ := by
    obtain ⟨_, A', c', e, _, _, h3⟩ := hS.ro.2
    injection e with e _ _
    subst e
    obtain ⟨b, o, e, _⟩ := h3 (by omega)
    exact ⟨b, o, e⟩
   subst e
   obtain ⟨s, hs⟩ : ∃ s, la[i]? = some s := ⟨_, List.getElem?_eq_getElem hil⟩
   have HX : Hid ((Bi la)[i]? = some (.int .u64 (s : Nat))) := Lib.hid (by rw [Cl la i hil, List.getD_eq_getElem?_getD, hs]; rfl)
   have HR := Lib.hid ((hA.out.mem s).1 (List.mem_of_getElem? hs))
   have HS0 := Lib.hid hs
   obtain ⟨rb, hrb⟩ : ∃ rb, reachB ⟨(R : Int), some L, st, rl, nl, gl⟩ s = rb := ⟨_, rfl⟩
   have HRB := Lib.hid hrb
   clear hs hrb
   cases rb
   ·go_wp2_with (first
     | ((with_reducible refine qB ?_); refine qc ?_ ?_ <;> intro h_ <;> go_prune)
     | ((with_reducible refine qk 33 ?_); refine BigFrame.wpList_want rfl fun _ hK => Ax rfl rfl (by kernel_rfl) (Di hS.ro.2 HX.out) (hK _ _ ?_))
     | ((with_reducible refine qA 12 ?_); refine BigFrame.wpList_want rfl fun _ hK => AV rfl rfl (hS.box 0 rfl) Tryz.underlying37 rfl (by kernel_rfl) (hK _ _ ?_))
     | (go_at_call 61; refine (Dt (s := s) (HK.out _ _ hS.ro.1) HM.out).mono ?_; rw [HRB.out]; rintro r_ w_ ⟨_, rfl, rfl, hb_⟩; replace hS := hS.ext hb_; clear hb_))
    exact ⟨⟨i + 1, by go_num, hil, Lib.hid (by
     intro x hx
     rw [List.take_add_one, HS0.out] at hx
     rcases List.mem_append.1 hx with hx | hx
     ·exact HN.out x hx
     ·simp at hx; subst hx; exact HRB.out), hS⟩, by simp [intOf]; omega⟩
   ·go_wp2_with (first
     | ((with_reducible refine qB ?_); refine qc ?_ ?_ <;> intro h_ <;> go_prune)
     | ((with_reducible refine qk 33 ?_); refine BigFrame.wpList_want rfl fun _ hK => Ax rfl rfl (by kernel_rfl) (Di hS.ro.2 HX.out) (hK _ _ ?_))
     | ((with_reducible refine qA 12 ?_); refine BigFrame.wpList_want rfl fun _ hK => AV rfl rfl (hS.box 0 rfl) Tryz.underlying37 rfl (by kernel_rfl) (hK _ _ ?_))
     | (go_at_call 61; refine (Dt (s := s) (HK.out _ _ hS.ro.1) HM.out).mono ?_; rw [HRB.out]; rintro r_ w_ ⟨_, rfl, rfl, hb_⟩; replace hS := hS.ext hb_; clear hb_))
    go_ret
    exact AC.mk (by rw [Hg ⟨s, HR.out, HRB.out⟩]; rfl) hS.below
  ·obtain rfl : i = la.length := by omega
   rw [List.take_length] at HN
   go_wp2_with (first | ((with_reducible refine qB ?_); refine qc ?_ ?_ <;> intro h_ <;> go_prune))
   go_ret
   exact AC.mk (by rw [IV fun s hs => HN.out s ((hA.out.mem s).2 hs)]; rfl) hS.below
end
section
open Go.RowKit
set_option exponentiation.threshold 5000
noncomputable def candB (L : List (Nat × Nat)) (N : Nat) (r : AK) : Bool := (!r.revoke && !Bo N r.target) && (r.yes &&& closM L N == r.yes)
noncomputable def firstC (L : List (Nat × Nat)) (l : List AK) (N : Nat) : Option Nat := l.findIdx? (candB L N)
noncomputable def satS (L : List (Nat × Nat)) (p : Ae) : Nat -> Nat × List Int
 | 0 => (p.start, [])
 | n + 1 => match firstC L p.rules (satS L p n).1 with
  | none => satS L p n
  | some k => (Bw (satS L p n).1 (p.rules.getD k Az).target, (satS L p n).2 ++ [(k : Int)])
noncomputable def satM (L : List (Nat × Nat)) (p : Ae) : Nat × List Int := satS L p p.rules.length
def Df (l : List AK) : Prop := ∀ r ∈ l, ∃ t : Nat, r.target = (t : Int) /\ t < 64
section
variable {L : List (Nat × Nat)} {p : Ae} {n : Nat}
theorem CY {l : List AK} {N k : Nat} (h : firstC L l N = some k) : k < l.length /\ candB L N (l.getD k Az) = true /\ ∀ z ∈ l.take k, candB L N z = false := by
 unfold firstC at h
 rw [List.findIdx?_eq_some_iff_getElem] at h
 obtain ⟨hk, h1, h2⟩ := h
 refine ⟨hk, by rw [List.getD_eq_getElem?_getD, List.getElem?_eq_getElem hk]; exact h1, fun z hz => ?_⟩
 obtain ⟨j, hj⟩ := List.mem_iff_getElem?.1 hz
 rw [List.getElem?_take] at hj
 split at hj
 ·rename_i hjk
  have := h2 j hjk
  rw [List.getElem?_eq_getElem (by omega)] at hj
  injection hj with hj
  rw [<- hj]; simpa using this
 ·cases hj
theorem firstC_of {l : List AK} {N k : Nat} {r : AK} (hk : l[k]? = some r) (h1 : candB L N r = true) (h2 : ∀ z ∈ l.take k, candB L N z = false) : firstC L l N = some k := by
 unfold firstC
 rw [List.findIdx?_eq_some_iff_getElem]
 obtain ⟨hlt, e⟩ := List.getElem?_eq_some_iff.1 hk
 refine ⟨hlt, by rw [e]; exact h1, fun j hj => ?_⟩
 have := h2 l[j] (List.mem_iff_getElem?.2 ⟨j, by rw [List.getElem?_take, if_pos hj, List.getElem?_eq_getElem (by omega)]⟩)
 simpa using this
theorem Dn {l : List AK} {N : Nat} : firstC L l N = none ↔ ∀ z ∈ l, candB L N z = false := by
 unfold firstC; rw [List.findIdx?_eq_none_iff]
theorem C5 (h : firstC L p.rules (satS L p n).1 = none) : satS L p (n + 1) = satS L p n := by
 rw [satS, h]
theorem BR {k : Nat} (h : firstC L p.rules (satS L p n).1 = some k) : satS L p (n + 1) = (Bw (satS L p n).1 (p.rules.getD k Az).target, (satS L p n).2 ++ [(k : Int)]) := by
 rw [satS, h]
theorem satS_stop (h : firstC L p.rules (satS L p n).1 = none) : ∀ m, satS L p (n + m) = satS L p n
 | 0 => rfl
 | m + 1 => by
  have ih := satS_stop h m
  rw [<- Nat.add_assoc, C5 (by rw [ih]; exact h), ih]
theorem lacks_len (N : Nat) (l : List AK) : Dr N l <= l.length := List.length_filter_le _ _
theorem CT {N : Nat} {r : AK} (h : candB L N r = true) : r.revoke = false /\ Bo N r.target = false /\ (r.yes &&& closM L N == r.yes) = true := by
 unfold candB at h
 simp only [Bool.and_eq_true, Bool.not_eq_true'] at h
 exact ⟨h.1.1, h.1.2, h.2⟩
theorem Dx (hT : Df p.rules) : ∀ n, Dr (satS L p n).1 p.rules + (satS L p n).2.length <= p.rules.length
 | 0 => by simpa [satS] using lacks_len _ _
 | n + 1 => by
  have ih := Dx hT n
  cases h : firstC L p.rules (satS L p n).1 with
  | none => rw [C5 h]; exact ih
  | some k =>
   rw [BR h]
   obtain ⟨hk, hc, _⟩ := CY h
   have hm := List.mem_of_getElem? (AZ Az hk)
   obtain ⟨t, ht, h64⟩ := hT _ hm
   have := J9 hm ht (CT hc).2.1
   rw [Du h64, <- ht] at this
   simp only [List.length_append, List.length_singleton]
   omega
theorem sat_len : ∀ n, firstC L p.rules (satS L p n).1 = none \/ (satS L p (n + 1)).2.length = n + 1
 | 0 => by
  cases h : firstC L p.rules (satS L p 0).1 with
  | none => exact .inl rfl
  | some k => rw [BR h]; exact .inr (by simp [satS])
 | n + 1 => by
  rcases sat_len n with h | h
  ·exact .inl (by rw [C5 h]; exact h)
  ·cases h2 : firstC L p.rules (satS L p (n + 1)).1 with
   | none => exact .inl rfl
   | some k => rw [BR h2]; exact .inr (by simp [h])
theorem sat_done (hT : Df p.rules) : firstC L p.rules (satM L p).1 = none := by
 unfold satM
 cases hn : p.rules.length with
 | zero => rw [List.eq_nil_of_length_eq_zero hn, Dn]; simp
 | succ m =>
  rcases sat_len (L := L) (p := p) m with h | h
  ·rw [C5 h]; exact h
  ·have h1 := Dx (L := L) hT (m + 1)
   rw [h] at h1
   have h0 : Dr (satS L p (m + 1)).1 p.rules = 0 := by omega
   rw [Dn]
   intro z hz
   cases hc : candB L (satS L p (m + 1)).1 z with
   | false => rfl
   | true =>
    have h2 := (CT hc).2.1
    unfold Dr at h0
    have h3 := List.eq_nil_of_length_eq_zero h0
    have : z ∈ p.rules.filter fun r => !Bo (satS L p (m + 1)).1 r.target := List.mem_filter.2 ⟨hz, by rw [h2]; rfl⟩
    rw [h3] at this; cases this
theorem sat_end (hT : Df p.rules) (h : firstC L p.rules (satS L p n).1 = none) (hn : (satS L p n).2.length = n) : satM L p = satS L p n := by
 have h1 := Dx (L := L) hT n
 unfold satM
 have := satS_stop h (p.rules.length - n)
 rwa [show n + (p.rules.length - n) = p.rules.length by omega] at this
theorem sat_low (hT : Df p.rules) : ∀ n, ULow L p (satS L p n).1
 | 0 => ⟨Cp.refl _, fun T hT => hT.start⟩
 | n + 1 => by
  have ih := sat_low hT n
  cases h : firstC L p.rules (satS L p n).1 with
  | none => rw [C5 h]; exact ih
  | some k =>
   rw [BR h]
   obtain ⟨hk, hc, _⟩ := CY h
   have hm := List.mem_of_getElem? (AZ Az hk)
   obtain ⟨t, ht, h64⟩ := hT _ hm
   have := ih.add hm (CT hc).1 (CT hc).2.2 ht
   rw [Du h64, <- ht] at this
   exact this
theorem sat_least (hT : Df p.rules) : G0 L p (satM L p).1 := by
 refine ⟨⟨(sat_low hT _).1, fun r hr h1 h2 => ?_⟩, (sat_low hT _).2⟩
 have := Dn.1 (sat_done (L := L) hT) r hr
 unfold candB at this
 rw [h1, h2] at this
 simpa using this
theorem Ge (hT : Df p.rules) : (satM L p).1 = uppM L p := (sat_least hT).eq
theorem upp_least (hT : Df p.rules) : G0 L p (uppM L p) := by rw [<- Ge hT]; exact sat_least hT
theorem Hc (hT : Df p.rules) : satS L p (satM L p).2.length = satM L p /\ ∀ n, n <= (satM L p).2.length -> (satS L p n).2 = (satM L p).2.take n /\ (satS L p n).2.length = n := by
 have key : ∀ N, (satS L p N).2.length <= N /\ satS L p (satS L p N).2.length = satS L p N /\ ∀ n, n <= (satS L p N).2.length -> (satS L p n).2 = (satS L p N).2.take n /\ (satS L p n).2.length = n := fun N => by
  induction N with
  | zero => exact ⟨by simp [satS], by simp [satS], fun n hn => by simp [satS] at hn; subst hn; simp [satS]⟩
  | succ m ih =>
   cases h : firstC L p.rules (satS L p m).1 with
   | none => rw [C5 h]; exact ⟨by omega, ih.2⟩
   | some k =>
    obtain ⟨h1, h2, h3⟩ := ih
    have hm : (satS L p m).2.length = m := by
     rcases m with _ | m
     ·simp [satS]
     ·rcases sat_len (L := L) (p := p) m with h4 | h4
      ·rw [C5 h4] at h; rw [h4] at h; cases h
      ·exact h4
    have hl : (satS L p (m + 1)).2.length = m + 1 := by rw [BR h]; simp [hm]
    refine ⟨by omega, by rw [hl], fun n hn => ?_⟩
    rcases Nat.lt_or_ge m n with h4 | h4
    ·obtain rfl : n = m + 1 := by omega
     exact ⟨by rw [List.take_of_length_le (by omega)], hl⟩
    ·obtain ⟨h5, h6⟩ := h3 n (by omega)
     refine ⟨?_, h6⟩
     rw [h5, BR h]
     dsimp only
     rw [List.take_append_of_le_length (by omega)]
 exact (key _).2
theorem sat_short (hT : Df p.rules) : (satM L p).2.length <= p.rules.length := by
 have := Dx (L := L) hT p.rules.length
 unfold satM; omega
end
def C1 (p : Ae) : Bool := p.never.isEmpty && ((p.rules.all fun r => r.no == 0) && !(p.goal.any fun z => !(z.2 == 0)))
theorem DO {p : Ae} (h : C1 p = true) : p.never = [] /\ (∀ r ∈ p.rules, r.no = 0) /\ ∀ z ∈ p.goal, z.2 = 0 := by
 unfold C1 at h
 simp only [Bool.and_eq_true, List.isEmpty_iff, List.all_eq_true, beq_iff_eq, Bool.not_eq_true', List.any_eq_false] at h
 exact ⟨h.1, h.2.1, fun z hz => by simpa using h.2.2 z hz⟩
theorem GD {p : Ae} {r : AK} (h : r ∈ p.rules) (hn : r.no ≠ 0) : C1 p = false := by
 cases hb : C1 p with
 | false => rfl
 | true => exact absurd ((DO hb).2.1 r h) hn
theorem frag_no_goal {p : Ae} {z : Nat × Nat} (h : z ∈ p.goal) (hn : z.2 ≠ 0) : C1 p = false := by
 cases hb : C1 p with
 | false => rfl
 | true => exact absurd ((DO hb).2.2 z h) hn
theorem frag_end {p : Ae} (h1 : ∀ r ∈ p.rules, r.no = 0) (h2 : ∀ z ∈ p.goal, z.2 = 0) : C1 p = p.never.isEmpty := by
 unfold C1
 rw [List.all_eq_true.2 fun r hr => by rw [h1 r hr]; rfl, List.any_eq_false.2 fun z hz => by rw [h2 z hz]; decide]
 simp
theorem holds_mono {y a b : Nat} (h : Cp a b) (k : Bd (y, 0) a = true) : Bd (y, 0) b = true := by
 unfold Bd at *
 simp only [Bool.and_eq_true] at *
 refine ⟨C2.2 ((C2.1 k.1).trans h), by simp⟩
theorem holds_pos {y a : Nat} : Bd (y, 0) a = (y &&& a == y) := by
 unfold Bd; simp
theorem frag_good {p : Ae} {L : List (Nat × Nat)} {N : Nat} (hl : p.links = some L) (h : C1 p = true) : goodB p N = true := by
 unfold goodB; rw [hl, (DO h).1]; rfl
theorem reach_mono {p : Ae} {L : List (Nat × Nat)} {M N : Nat} (hl : p.links = some L) (h : C1 p = true) (hs : Cp M N) (k : reachB p M = true) : reachB p N = true := by
 unfold reachB at *
 rw [hl] at *
 dsimp only at *
 obtain ⟨z, hz, hh⟩ := List.any_eq_true.1 k
 refine List.any_eq_true.2 ⟨z, hz, ?_⟩
 obtain ⟨y, n⟩ := z
 obtain rfl : n = 0 := (DO h).2.2 _ hz
 exact holds_mono hs.clos hh
theorem cand_step {p : Ae} {L : List (Nat × Nat)} {N k : Nat} (hl : p.links = some L) (h : C1 p = true) (hk : k < p.rules.length) (hc : candB L N (p.rules.getD k Az) = true) : stepM p N (k : Nat) = some (Bw N (p.rules.getD k Az).target) := by
 have hm := List.mem_of_getElem? (AZ Az hk)
 have hn := (DO h).2.1 _ hm
 obtain ⟨h1, h2, h3⟩ := CT hc
 rw [stepM_at hl hk, if_pos]
 ·unfold Hz; rw [h1]; rfl
 ·unfold stepB closP
  rw [hl, h1, h2, hn, frag_good hl h]
  dsimp only
  rw [holds_pos, h3]; rfl
theorem Im {p : Ae} {L : List (Nat × Nat)} (hl : p.links = some L) (h : C1 p = true) : ∀ n, Rch p (satS L p n).1 /\ runTo p p.start 0 (satS L p n).2 = ((satS L p n).1, (satS L p n).2.length, true)
 | 0 => ⟨.start, rfl⟩
 | n + 1 => by
  obtain ⟨h1, h2⟩ := Im hl h n
  cases hf : firstC L p.rules (satS L p n).1 with
  | none => rw [C5 hf]; exact ⟨h1, h2⟩
  | some k =>
   rw [BR hf]
   obtain ⟨hk, hc, _⟩ := CY hf
   have hs := cand_step hl h hk hc
   exact ⟨.step h1 hs, by
    dsimp only
    rw [IM h2 hs]; simp⟩
theorem BJ.targ {p : Ae} {L : List (Nat × Nat)} {R : Nat} (h : BJ p L R) : Df p.rules := fun r hr => by
 have h1 := (h.rules r hr).1
 have h5 := h.r5
 exact ⟨r.target.toNat, by omega, by omega⟩
theorem F9 {p : Ae} {L : List (Nat × Nat)} (h : checkE p = 0) (hl : p.links = some L) : Df p.rules := fun r hr => target_nat h hl hr
theorem upp_rch {p : Ae} {L : List (Nat × Nat)} (hT : Df p.rules) (hl : p.links = some L) (h : C1 p = true) : Rch p (uppM L p) := by
 rw [<- Ge hT]; exact (Im hl h _).1
theorem upp_reach {p : Ae} {L : List (Nat × Nat)} {R : Nat} (hM : BJ p L R) (h : C1 p = true) : reachB p (uppM L p) = rchB p := by
 cases hb : reachB p (uppM L p) with
 | true => exact (Hg ⟨_, upp_rch hM.targ hM.links h, hb⟩).symm
 | false =>
  refine (IV fun s hs => ?_).symm
  cases hc : reachB p s with
  | false => rfl
  | true => rw [reach_mono hM.links h (hs.upper hM (upp_least hM.targ).1) hc] at hb; cases hb
noncomputable def hitN (L : List (Nat × Nat)) (p : Ae) : Option Nat := (List.range ((satM L p).2.length + 1)).find? fun i => reachB p (satS L p i).1
def oneC (N : Nat) : List (Nat × Nat) := (Ba N).map fun r => (2 ^ r, 0)
noncomputable def srchM (L : List (Nat × Nat)) (p : Ae) : List Int × List (Nat × Nat) × Bool := match hitN L p with
 | some i => ((satS L p i).2, [], true)
 | none => ([], oneC (C7 (relM L p) (satM L p).1), false)
theorem Ja {L : List (Nat × Nat)} {p : Ae} {i : Nat} (hi : i <= (satM L p).2.length) (h : reachB p (satS L p i).1 = true) (hb : ∀ j, j < i -> reachB p (satS L p j).1 = false) : hitN L p = some i := by
 unfold hitN
 rw [List.find?_range_eq_some]
 exact ⟨h, List.mem_range.2 (by omega), fun j hj => by rw [hb j hj]; rfl⟩
theorem Jb {L : List (Nat × Nat)} {p : Ae} (hb : ∀ j, j <= (satM L p).2.length -> reachB p (satS L p j).1 = false) : hitN L p = none := by
 unfold hitN
 rw [List.find?_eq_none]
 intro j hj
 rw [List.mem_range] at hj
 rw [hb j (by omega)]; decide
theorem hit_is {L : List (Nat × Nat)} {p : Ae} {i : Nat} (h : hitN L p = some i) : i <= (satM L p).2.length /\ reachB p (satS L p i).1 = true /\ ∀ j, j < i -> reachB p (satS L p j).1 = false := by
 unfold hitN at h
 rw [List.find?_range_eq_some] at h
 obtain ⟨h1, h2, h3⟩ := h
 rw [List.mem_range] at h2
 exact ⟨by omega, h1, fun j hj => by have := h3 j hj; simpa using this⟩
theorem hit_not {L : List (Nat × Nat)} {p : Ae} (h : hitN L p = none) : ∀ j, j <= (satM L p).2.length -> reachB p (satS L p j).1 = false := fun j hj => by
 unfold hitN at h
 rw [List.find?_eq_none] at h
 simpa using h j (List.mem_range.2 (by omega))
theorem srch_found {p : Ae} {L : List (Nat × Nat)} {R : Nat} (hM : BJ p L R) (h : C1 p = true) : (srchM L p).2.2 = rchB p := by
 unfold srchM
 cases hh : hitN L p with
 | some i =>
  obtain ⟨h1, h2, _⟩ := hit_is hh
  exact (Hg ⟨_, (Im hM.links h i).1, h2⟩).symm
 | none =>
  rw [<- upp_reach hM h, <- Ge hM.targ]
  have := hit_not hh _ (Nat.le_refl _)
  rw [(Hc hM.targ).1] at this
  exact this.symm
end
section
open Go.RowKit
attribute [local go_sem ↓] Go.wp_at_zero Go.wp_at_succ
set_option maxRecDepth 20000
def idxQ {α : Type} (l : List α) (q : α -> Bool) : Int := match l.findIdx? q with
 | none => -1
 | some j => (j : Int)
theorem idxQ_at {α : Type} {l : List α} {q : α -> Bool} {k : Nat} {r : α} (hk : l[k]? = some r) (h1 : q r = true) (h2 : ∀ z ∈ l.take k, q z = false) : idxQ l q = (k : Int) := by
 have : l.findIdx? q = some k := by
  rw [List.findIdx?_eq_some_iff_getElem]
  obtain ⟨hlt, e⟩ := List.getElem?_eq_some_iff.1 hk
  refine ⟨hlt, by rw [e]; exact h1, fun j hj => ?_⟩
  have := h2 l[j] (List.mem_iff_getElem?.2 ⟨j, by rw [List.getElem?_take, if_pos hj, List.getElem?_eq_getElem (by omega)]⟩)
  simpa using this
 unfold idxQ; rw [this]
theorem idxQ_no {α : Type} {l : List α} {q : α -> Bool} (h2 : ∀ z ∈ l, q z = false) : idxQ l q = -1 := by
 have : l.findIdx? q = none := List.findIdx?_eq_none_iff.2 h2
 unfold idxQ; rw [this]
theorem idxrk_any {w0 w : World} {F : List Af} {K : (Nat -> Prop) -> World -> Prop} (v : Value) (l : List (AK)) (f : FuncId) (first caps : Array Value) (q : AK -> Bool) (hcg : BV Tryz.prog f = true) (hS : St w0 w F K) (kl : ∀ D w, K D w -> Bm w D v l)
  (hq : ∀ (x : Value) (z : AK) (w : World), z ∈ l -> (∃ F', St w0 w (F' ++ F) fun D w => K D w /\ ED w D x z) -> Calls Tryz.prog f (first.toList ++ [x] ++ caps.toList).toArray w (AC (fun r _ => r = .bool (q z)) w)) :
  Calls Tryz.prog 97 #[v, .func (.func f) first caps] w fun e w' => e = .returned (.int .i64 (idxQ l q)) /\ St w0 w' F K := by
 obtain ⟨A, c, rfl, _, hc2⟩ := (kl _ _ hS.ro).shape
 have KS := Lib.hid hS.stable
 have HQ := Lib.hid hq
 clear hq
 have HCG := Lib.hid hcg
 clear hcg
 obtain ⟨RES, hres⟩ : ∃ RES, idxQ l q = RES := ⟨_, rfl⟩
 rw [hres]
 replace hres := Lib.hid hres
 go_enter Tryz.func97, Tryz.ntmps97
 go_wp2_with (first | ((with_reducible refine qB ?_); refine qc ?_ ?_ <;> intro h_ <;> go_prune))
 go_loopw [8] (fun i wr => ∃ k : Nat, k <= l.length /\ i = .int .i64 (k : Nat) /\ St w0 wr F K /\ Hid (∀ z ∈ l.take k, q z = false)) (fun i _ => l.length - (intOf i).toNat)
 case atStart => exact ⟨0, by omega, rfl, hS, Lib.hid (by simp)⟩
 case round =>
  clear hS
  obtain ⟨k, hk, rfl, hS, HZ⟩ := hrel
  by_cases hlt : k < l.length
  ·obtain ⟨b, o, y, n, rfl, _, hb, c0, c1, c2, c3, c4, hy, hn⟩ := (kl _ _ hS.ro).at_ hlt
   obtain ⟨Ay, my, cy, rfl⟩ := hy.shape
   obtain ⟨An, mn, cn, rfl⟩ := hn.shape
   have HM : Hid (l.getD k Az ∈ l) := Lib.hid (by rw [List.getD_eq_getElem?_getD, List.getElem?_eq_getElem hlt]; exact List.getElem_mem hlt)
   have HZ2 : Hid (q (l.getD k Az) = false -> ∀ z ∈ l.take (k + 1), q z = false) := Lib.hid fun h z hz => by
    rw [List.take_add_one, List.mem_append] at hz
    rcases hz with hz | hz
    ·exact HZ.out z hz
    ·rw [List.getElem?_eq_getElem hlt] at hz
     rw [List.getD_eq_getElem?_getD, List.getElem?_eq_getElem hlt] at h
     have : z = l[k] := by simpa using hz
     rw [this]; exact h
   have HY : Hid (q (l.getD k Az) = true -> RES = (k : Int)) := Lib.hid fun h => by
    rw [<- hres.out]
    refine idxQ_at (List.getElem?_eq_getElem hlt) ?_ HZ.out
    rw [List.getD_eq_getElem?_getD, List.getElem?_eq_getElem hlt] at h
    exact h
   replace hS := hS.add (D := D8 F) (EO (v := .agg #[.bool (l.getD k Az).revoke, .slice Ay my cy, .slice An mn cn, .int .i64 (l.getD k Az).target, .int .i64 (l.getD k Az).origin]) (z := l.getD k Az)) ⟨_, _, rfl, hy, hn⟩ fun _ h _ => h
   clear hy hn
   generalize l.getD k Az = z at *
   have HK := Lib.hid (HQ.out (.agg #[.bool z.revoke, .slice Ay my cy, .slice An mn cn, .int .i64 z.target, .int .i64 z.origin]) z wr HM.out ⟨[], hS⟩)
   obtain ⟨args, hargs⟩ : ∃ args, args = first.toList ++ [Value.agg #[.bool z.revoke, .slice Ay my cy, .slice An mn cn, .int .i64 z.target, .int .i64 z.origin]] ++ caps.toList := ⟨_, rfl⟩
   rw [<- hargs] at HK
   have HARG := Lib.hid hargs
   clear hargs
   go_wp2_with (first
    | ((with_reducible refine qA 15 ?_); refine BigFrame.wpList_want rfl fun _ hK => AM (cs := [.bool z.revoke, .slice Ay my cy, .slice An mn cn, .int .i64 z.target, .int .i64 z.origin]) rfl rfl (FC c0 c1 c2 c3 c4) Tryz.underlying58 rfl (by kernel_rfl) (hK _ _ ?_))
    | ((with_reducible refine qA 16 ?_); refine BigFrame.wpList_want rfl fun _ hK => BI (vs := args) rfl rfl HCG.out (by simp [Act.eval, Act.put, HARG.out]) HK.out fun e w' ⟨u_, he_, hu_, hb_⟩ => ⟨u_, he_, hK _ _ ?_⟩))
   ·go_ret
    exact ⟨by rw [HY.out (by assumption)]; rfl, (hS.ext hb_).mono KS.out fun _ _ h => h.1⟩
   ·exact ⟨⟨k + 1, hlt, by go_num, (hS.ext hb_).mono KS.out fun _ _ h => h.1, Lib.hid (HZ2.out (by assumption))⟩, by simp [intOf]; omega⟩
  ·obtain rfl : k = l.length := by omega
   have HN : Hid (RES = -1) := Lib.hid (by
    have h := HZ.out
    rw [List.take_length] at h
    rw [<- hres.out]; exact idxQ_no h)
   go_wp2_with (first | ((with_reducible refine qB ?_); refine qc ?_ ?_ <;> intro h_ <;> go_prune))
   go_ret
   exact ⟨by rw [HN.out]; rfl, hS⟩
end
end Go.Proofs.YtjjhcdkamohgnaaGreatDoor
