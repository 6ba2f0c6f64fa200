/-
  What the statement needs, part 4.
-/
import Derived.Maps.Views
import Derived.Laws.BytesArg
import Derived.StringKeys
import Derived.Test.YtpcioefppjljoaaGreatDoorFsh3
namespace Go.Proofs.YtpcioefppjljoaaGreatDoor
section
open Go.RowKit
attribute [local go_sem ↓] Go.wp_at_zero Go.wp_at_succ
set_option maxRecDepth 20000
set_option exponentiation.threshold 5000
theorem ret3_cell {P : Program} {fn : Func} {p t2 t3 : Tmp} {ty : TypeId} {R : Ending -> World -> Prop} {a : Act} {w : World} {g : Nat} {t : TypeId} {cs : Array Value} {d : TypeDesc} {v u : Value} (h : fn.results = #[.cell p ty, .tmp t2, .tmp t3]) (hp : a.eval (.tmp p) = .pointer (some ⟨g, 0, none⟩)) (hb : C3 w g t cs)
  (hu : P.underlying ty = some d) (hd : (match d with | .struct _ | .array _ _ => true | _ => false) = true) (hi : (P.info? ty).map (·.size) = some cs.size) (hv : a.eval (.tmp t2) = v) (hv2 : a.eval (.tmp t3) = u) (hdf : a.defers = []) (hR : R (.returned (.tuple #[.agg cs, v, u])) w) : bodyPost P fn R .ret a w := by
 have hr : (results fn a.tmps).run P w = .ok (.tuple #[.agg cs, v, u]) w := by
  have hp' : a.tmps[p]?.getD undef = .pointer (some ⟨g, 0, none⟩) := by simpa [Act.eval] using hp
  have hv' : a.tmps[t2]?.getD undef = v := by simpa [Act.eval] using hv
  have hv2' : a.tmps[t3]?.getD undef = u := by simpa [Act.eval] using hv2
  simp [results, h, hp', hv', hv2', asAddr, run_loadVar_row w g t ty cs (0, 0) d hb hu hd hi]
 exact bodyPost_ret hr hdf hR
theorem AA.append {w : World} {D : Nat -> Prop} {xs ys : List Value} {l m : List B7} (hx : xs.length = l.length * 5) (h : AA w D xs l) (k : AA w D ys m) : AA w D (xs ++ ys) (l ++ m) := fun i z hi => by
 rcases Nat.lt_or_ge i l.length with h1 | h1
 ·rw [List.getElem?_append_left h1] at hi
  obtain ⟨a, b, q0, q1, q2, q3, q4, q5, q6⟩ := h i z hi
  refine ⟨a, b, ?_, ?_, ?_, ?_, ?_, q5, q6⟩
  all_goals rw [List.getElem?_append_left (by omega)]; assumption
 ·rw [List.getElem?_append_right h1] at hi
  obtain ⟨a, b, q0, q1, q2, q3, q4, q5, q6⟩ := k _ z hi
  refine ⟨a, b, ?_, ?_, ?_, ?_, ?_, q5, q6⟩
  ·rw [List.getElem?_append_right (by omega), <- q0]; congr 1; omega
  ·rw [List.getElem?_append_right (by omega), <- q1]; congr 1; omega
  ·rw [List.getElem?_append_right (by omega), <- q2]; congr 1; omega
  ·rw [List.getElem?_append_right (by omega), <- q3]; congr 1; omega
  ·rw [List.getElem?_append_right (by omega), <- q4]; congr 1; omega
theorem AA.single {w : World} {D : Nat -> Prop} {a b : Value} {z : B7} (ha : A5 w D (.agg #[a]) z.yes) (hb : A5 w D (.agg #[b]) z.no) : AA w D [.bool z.revoke, a, b, .int .i64 z.target, .int .i64 z.origin] [z] := fun i x hi => by
 cases i with
 | zero => obtain rfl := Option.some.inj (show some z = some x from hi); exact ⟨a, b, rfl, rfl, rfl, rfl, rfl, ha, hb⟩
 | succ i => simp at hi
end
section
open Go.RowKit
attribute [local go_sem ↓] Go.wp_at_zero Go.wp_at_succ
set_option maxRecDepth 20000
set_option exponentiation.threshold 5000
structure Fits (p : Ac) : Prop where
 start : p.start < Bv
 rules : ∀ z ∈ p.rules, z.yes < Bv /\ z.no < Bv
 rlen : p.rules.length <= 1000
 never : Small p.never
 nlen : p.never.length <= 1000
 goal : Small p.goal
 glen : p.goal.length <= 1000
theorem Do {w : World} {D : Nat -> Prop} {v : Value} {l : List (Nat × Nat)} (h : Az w D v l) : ∃ A c, v = .slice A l.length c := by
 obtain ⟨xs, h1, -⟩ := h
 obtain ⟨A, c, e, _, _⟩ := h1.shape
 exact ⟨A, c, e⟩
theorem Bk {P : Program} {fn : Func} {p t2 : Tmp} {ty : TypeId} {R : Ending -> World -> Prop} {a : Act} {w : World} {g : Nat} {t : TypeId} {cs : Array Value} {d : TypeDesc} {v : Value} (h : fn.results = #[.cell p ty, .tmp t2]) (hp : a.eval (.tmp p) = .pointer (some ⟨g, 0, none⟩)) (hb : C3 w g t cs)
  (hu : P.underlying ty = some d) (hd : (match d with | .struct _ | .array _ _ => true | _ => false) = true) (hi : (P.info? ty).map (·.size) = some cs.size) (hv : a.eval (.tmp t2) = v) (hdf : a.defers = []) (hR : R (.returned (.tuple #[.agg cs, v])) w) : bodyPost P fn R .ret a w := by
 have hr : (results fn a.tmps).run P w = .ok (.tuple #[.agg cs, v]) w := by
  have hp' : a.tmps[p]?.getD undef = .pointer (some ⟨g, 0, none⟩) := by simpa [Act.eval] using hp
  have hv' : a.tmps[t2]?.getD undef = v := by simpa [Act.eval] using hv
  simp [results, h, hp', hv', asAddr, run_loadVar_row w g t ty cs (0, 0) d hb hu hd hi]
 exact bodyPost_ret hr hdf hR
theorem cube_sets {w : World} {D : Nat -> Prop} {a b : Value} {z : Nat × Nat} (h : Be w D (.agg #[a, b]) z) : A5 w D (.agg #[a]) z.1 /\ A5 w D (.agg #[b]) z.2 := by
 obtain ⟨_, _, he, h1, h2⟩ := h
 injection he with he; injection he with he; injection he with e1 he; injection he with e2 _
 subst e1 e2
 exact ⟨h1, h2⟩
theorem rr_at {w : World} {D : Nat -> Prop} {l : List B7} {A : Option Addr} {c : Nat} (h : Sl w D 5 (.slice A l.length c) l.length (AW l)) {k : Nat} (hk : k < l.length) :
  ∃ b o, A = some ⟨b, o, none⟩ /\ w.cell? ⟨b, o + k * 5, none⟩ = some (.bool (l.getD k AX).revoke) /\ w.cell? ⟨b, o + k * 5 + 1, none⟩ = some (.int .u64 ((l.getD k AX).yes : Nat)) /\ w.cell? ⟨b, o + k * 5 + 2, none⟩ = some (.int .u64 ((l.getD k AX).no : Nat)) /\ w.cell? ⟨b, o + k * 5 + 3, none⟩ = some (.int .i64 (l.getD k AX).target) /\ w.cell? ⟨b, o + k * 5 + 4, none⟩ = some (.int .i64 (l.getD k AX).origin) := by
 obtain ⟨_, A', c', e, h1, h2, h3⟩ := h
 injection e with e1 e2 e3
 subst e1
 obtain ⟨b, o, h4, _, _, h5⟩ := h3 (by omega)
 obtain ⟨q0, q1, q2, q3, q4⟩ := rrcells_at l k _ (Cf AX hk)
 exact ⟨b, o, h4, h5 _ _ q0, by rw [Nat.add_assoc]; exact h5 _ _ q1, by rw [Nat.add_assoc]; exact h5 _ _ q2, by rw [Nat.add_assoc]; exact h5 _ _ q3, by rw [Nat.add_assoc]; exact h5 _ _ q4⟩
set_option maxHeartbeats 4000000 in
theorem lproblem_any {w0 w : World} {F : List Aa} {K : (Nat -> Prop) -> World -> Prop} {v : Value} {p : Ac} {L : List (Nat × Nat)} (hl : p.links = some L) (hH : GM L) (hlen : L.length <= 1000) (hB : Fits p) (hS : St w0 w F K) (kp : ∀ D w, K D w -> DY w D v p) (kt : ∀ D w, K D w -> BM w /\ D 0) :
  Calls Tryz.prog 46 #[v] w fun e w' => ∃ u, e = .returned (.tuple #[u, .bool true]) /\ St w0 w' F fun D w => K D w /\ Bg w D u p := by
 obtain ⟨pr, lk, ps, rl, nl, gl⟩ := p
 dsimp only at hl
 subst hl
 obtain ⟨lv, rv, nv, gv, L', rfl, hl', h1, h2, h3, h4⟩ := kp _ _ hS.ro
 dsimp only at hl' h1 h2 h3 h4
 obtain rfl : L = L' := by injection hl'
 clear hl'
 obtain ⟨Al, cl, rfl, _, _⟩ := h1.shape
 obtain ⟨Ar, cr, rfl, _, _⟩ := h2.shape
 obtain ⟨An, cn, rfl, _, _⟩ := Sl.shape (h3 : Sl _ _ _ _ _ _)
 obtain ⟨Ag, cg, rfl, _, _⟩ := Sl.shape (h4 : Sl _ _ _ _ _ _)
 clear h1 h2 h3 h4
 have KSt := Lib.hid hS.stable
 have k1 : ∀ D w, K D w -> Sl w D 2 (.slice Al L.length cl) L.length (A7 L) := fun D w h => by
  obtain ⟨_, _, _, _, L', e, e2, h1, _, _, _⟩ := kp D w h
  injection e2 with e2; subst e2
  injection e with e; injection e with e; injection e with _ e; injection e with e1 _; subst e1; exact h1
 have k2 : ∀ D w, K D w -> Sl w D 5 (.slice Ar rl.length cr) rl.length (AW rl) := fun D w h => by
  obtain ⟨_, _, _, _, L', e, e2, _, h1, _, _⟩ := kp D w h
  injection e with e; injection e with e; injection e with _ e; injection e with _ e; injection e with _ e; injection e with e1 _; subst e1; exact h1
 have k3 : ∀ D w, K D w -> Ca w D (.slice An nl.length cn) nl := fun D w h => by
  obtain ⟨_, _, _, _, L', e, e2, _, _, h1, _⟩ := kp D w h
  injection e with e; injection e with e; injection e with _ e; injection e with _ e; injection e with _ e; injection e with _ e; injection e with e1 _; subst e1; exact h1
 have k4 : ∀ D w, K D w -> Ca w D (.slice Ag gl.length cg) gl := fun D w h => by
  obtain ⟨_, _, _, _, L', e, e2, _, _, _, h1⟩ := kp D w h
  injection e with e; injection e with e; injection e with _ e; injection e with _ e; injection e with _ e; injection e with _ e; injection e with _ e; injection e with e1 _; subst e1; exact h1
 have HF := Lib.hid hB
 have HH := Lib.hid hH
 have hrl1 := HF.out.rlen
 clear hB hH kp
 dsimp only at hrl1
 go_enter Tryz.func46, Tryz.ntmps46
 go_wp2_with (first
  | ((with_reducible refine qA 1 ?_); refine At hS rfl _ _ rfl (.agg #[.int .i64 pr, .slice Al L.length cl, .int .u64 (ps : Nat), .slice Ar rl.length cr, .slice An nl.length cn, .slice Ag gl.length cg]) _ rfl rfl ?_; clear hS; intro g1 w_ hS; (try simp only [Act.put, Act.eval, zz, Value.cells] at hS))
  | ((with_reducible refine qA 2 ?_); refine qa hS #[.int .i64 0, .pointer none, .slice none 0 0, .slice none 0 0, .slice none 0 0, .slice none 0 0] ?_; clear hS; intro g2 w_ hS))
 have hJ0 : GJ w0 (.box g2 31 #[.int .i64 0, .pointer none, .slice none 0 0, .slice none 0 0, .slice none 0 0, .slice none 0 0] :: .box g1 37 #[.int .i64 pr, .slice Al L.length cl, .int .u64 (ps : Nat), .slice Ar rl.length cr, .slice An nl.length cn, .slice Ag gl.length cg] :: F) 31 #[.int .i64 0, .pointer none, .slice none 0 0, .slice none 0 0, .slice none 0 0, .slice none 0 0] (w_.drew, ⟨none, K⟩) := hS.drew
 have hRr := @GR.refl w0 (.box g2 31 #[.int .i64 0, .pointer none, .slice none 0 0, .slice none 0 0, .slice none 0 0, .slice none 0 0] :: .box g1 37 #[.int .i64 pr, .slice Al L.length cl, .int .u64 (ps : Nat), .slice Ar rl.length cr, .slice An nl.length cn, .slice Ag gl.length cg] :: F) 31 #[.int .i64 0, .pointer none, .slice none 0 0, .slice none 0 0, .slice none 0 0, .slice none 0 0]
 have hRt := @GR.trans w0 (.box g2 31 #[.int .i64 0, .pointer none, .slice none 0 0, .slice none 0 0, .slice none 0 0, .slice none 0 0] :: .box g1 37 #[.int .i64 pr, .slice Al L.length cl, .int .u64 (ps : Nat), .slice Ar rl.length cr, .slice An nl.length cn, .slice Ag gl.length cg] :: F) 31 #[.int .i64 0, .pointer none, .slice none 0 0, .slice none 0 0, .slice none 0 0, .slice none 0 0]
 have hN0 := @GN.start 13 14 w_.drew K
 clear hS
 refine ER (GR w0 (.box g2 31 #[.int .i64 0, .pointer none, .slice none 0 0, .slice none 0 0, .slice none 0 0, .slice none 0 0] :: .box g1 37 #[.int .i64 pr, .slice Al L.length cl, .int .u64 (ps : Nat), .slice Ar rl.length cr, .slice An nl.length cn, .slice Ag gl.length cg] :: F) 31 #[.int .i64 0, .pointer none, .slice none 0 0, .slice none 0 0, .slice none 0 0, .slice none 0 0]) (GN 13 14) (⟨none, K⟩) hRr hRt [.q g1 0, .n pr, .s (fun v w => ∃ q, v = .pointer (some ⟨q, 0, none⟩) /\ ∀ D w1, w.2.K D w1 -> IsH w1 D (.pointer (some ⟨q, 0, none⟩)) []) fun v w w' h hb => by obtain ⟨q, e, h⟩ := h; exact ⟨q, e, fun D w1 h1 => h D w1 (hb.2.1 D w1 h1)⟩, .q g1 2, .i (.int .u64 (ps : Nat)), .s (fun v w => ∃ u, v = .agg #[u] /\ u.oneCell' = true /\ ∀ D w1, w.2.K D w1 -> A5 w1 D (.agg #[u]) ps) fun v w w' h hb => by obtain ⟨u, e, e2, h⟩ := h; exact ⟨u, e, e2, fun D w1 h1 => h D w1 (hb.2.1 D w1 h1)⟩, .q g1 4, .i (.slice An nl.length cn), .s (fun v w => (∃ A c, v = .slice A nl.length c) /\ ∀ D w1, w.2.K D w1 -> Az w1 D v nl) fun v w w' h hb => ⟨h.1, fun D w1 h1 => h.2 D w1 (hb.2.1 D w1 h1)⟩, .q g1 5, .i (.slice Ag gl.length cg), .s (fun v w => (∃ A c, v = .slice A gl.length c) /\ ∀ D w1, w.2.K D w1 -> Az w1 D v gl) fun v w w' h hb => ⟨h.1, fun D w1 h1 => h.2 D w1 (hb.2.1 D w1 h1)⟩, .s (fun v w => ∃ q u A c B d, v = .agg #[.int .i64 pr, .pointer (some ⟨q, 0, none⟩), u, .slice none 0 0, .slice A nl.length c, .slice B gl.length d] /\ u.oneCell' = true /\ ∀ D w1, w.2.K D w1 -> IsH w1 D (.pointer (some ⟨q, 0, none⟩)) [] /\ A5 w1 D (.agg #[u]) ps /\ Az w1 D (.slice A nl.length c) nl /\ Az w1 D (.slice B gl.length d) gl) fun v w w' h hb => by obtain ⟨q, u, A, c, B, d, e, e2, h⟩ := h; exact ⟨q, u, A, c, B, d, e, e2, fun D w1 h1 => h D w1 (hb.2.1 D w1 h1)⟩, .s (fun v w => ∃ g o, v = .pointer (some ⟨g, 0, none⟩) /\ w.2.b = some (g, o)) fun v w w' h hb => hb.var h, .s (fun v w => ∃ g q u A c B d, w.2.b = some (g, some #[.int .i64 pr, .pointer (some ⟨q, 0, none⟩), u, .slice none 0 0, .slice A nl.length c, .slice B gl.length d]) /\ ∀ D w1, w.2.K D w1 -> IsH w1 D (.pointer (some ⟨q, 0, none⟩)) [] /\ A5 w1 D (.agg #[u]) ps /\ Az w1 D (.slice A nl.length c) nl /\ Az w1 D (.slice B gl.length d) gl) fun v w w' h hb => by obtain ⟨g, q, u, A, c, B, d, e, h⟩ := h; exact ⟨g, q, u, A, c, B, d, hb.2.2.2 _ _ e, fun D w1 h1 => h D w1 (hb.2.1 D w1 h1)⟩] ?_ ⟨uF, uC (h := fun w hW hN => (hW.1 hJ0).cell 1 rfl 0 rfl), ?_, uF, uC (h := fun w hW hN => (hW.1 hJ0).cell 1 rfl 2 rfl), ?_, uF, uC (h := fun w hW hN => (hW.1 hJ0).cell 1 rfl 4 rfl), ?_, uF, uC (h := fun w hW hN => (hW.1 hJ0).cell 1 rfl 5 rfl), ?_, ?_, ?_, ?_, trivial⟩ ?_
 ·first | assumption | (intro i; (try dsimp only); split <;> first | trivial | assumption | (left; assumption))
 ·refine uG fun b__ w hW hN hE K hK => ?_
  refine BW rfl (by kernel_rfl) (by simp only [List.map_nil]) (hnew_any (hW.1 hJ0) fun D w1 h => kt D w1 (hW.2.1 D w1 h)) fun e w' ⟨p, he, hs⟩ => ⟨p, he, ?_⟩
  obtain ⟨q, o, rfl, -⟩ := id hs.ro.2
  exact hK _ (w', { w.2 with K := _ }) ⟨q, rfl, fun D w1 h => h.2⟩ (GK.more hs fun D w1 h => h.1)
 ·refine uG fun b__ w hW hN hE K hK => ?_
  have e15 := hE 15
  refine BW rfl (by kernel_rfl) (by simp only [List.map_cons, List.map_nil, e15]) (Ib ps HF.out.start w.1) fun e w' ⟨x, he, hx, hb⟩ => ⟨x, he, ?_⟩
  obtain ⟨u, rfl, h1⟩ := CT hx
  exact hK _ (w', { w.2 with K := _ }) ⟨u, rfl, h1, fun D w1 h => h.2⟩ (GK.more ((hW.1 hJ0).ret hb A6 hx) fun D w1 h => h.1)
 ·refine uG fun b__ w hW hN hE K hK => ?_
  have e18 := hE 18
  refine BW rfl (by kernel_rfl) (by simp only [List.map_cons, List.map_nil, e18]) (GE _ nl w.1 _ (k3 _ _ (hW.2.1 _ _ (hW.1 hJ0).ro)) HF.out.never (by have := HF.out.nlen; dsimp only at this; omega)) fun e w' ⟨x, he, hx, hb⟩ => ⟨x, he, ?_⟩
  exact hK _ (w', { w.2 with K := _ }) ⟨Do hx, fun D w1 h => h.2⟩ (GK.more ((hW.1 hJ0).ret hb AL hx) fun D w1 h => h.1)
 ·refine uG fun b__ w hW hN hE K hK => ?_
  have e21 := hE 21
  refine BW rfl (by kernel_rfl) (by simp only [List.map_cons, List.map_nil, e21]) (GE _ gl w.1 _ (k4 _ _ (hW.2.1 _ _ (hW.1 hJ0).ro)) HF.out.goal (by have := HF.out.glen; dsimp only at this; omega)) fun e w' ⟨x, he, hx, hb⟩ => ⟨x, he, ?_⟩
  exact hK _ (w', { w.2 with K := _ }) ⟨Do hx, fun D w1 h => h.2⟩ (GK.more ((hW.1 hJ0).ret hb AL hx) fun D w1 h => h.1)
 ·refine uG fun b__ w hW hN hE K hK => ?_
  have e12 := hE 12
  have e13 := hE 13
  have e16 := hE 16
  have e19 := hE 19
  have e22 := hE 22
  obtain ⟨q, hq, h1⟩ := e13
  obtain ⟨u, hu, hu1, h2⟩ := e16
  obtain ⟨⟨A, c, ha⟩, h3⟩ := e19
  obtain ⟨⟨B, d, hbb⟩, h4⟩ := e22
  rw [ha] at h3
  rw [hbb] at h4
  exact Cp rfl (ps := [(0, .int .i64 pr), (1, .pointer (some ⟨q, 0, none⟩)), (2, .agg #[u]), (4, .slice A nl.length c), (5, .slice B gl.length d)]) (cells := #[.int .i64 pr, .pointer (some ⟨q, 0, none⟩), u, .slice none 0 0, .slice A nl.length c, .slice B gl.length d]) (by simp [e12, hq, hu, ha, hbb]) (by kernel_rfl) (hK _ _ ⟨q, u, A, c, B, d, rfl, hu1, fun D w1 h => ⟨h1 D w1 h, h2 D w1 h, h3 D w1 h, h4 D w1 h⟩⟩ ⟨hRr _, fun _ _ h => h⟩)
 ·refine uG fun b__ w hW hN hE K hK => ?_
  exact gk_alloc rfl (by kernel_rfl) (by kernel_rfl) (hW.1 hJ0) (hN.1 rfl) fun g w' hs => hK _ (w', { w.2 with b := some (g, none) }) ⟨g, none, rfl, rfl⟩ (GK.made (hN.1 rfl) hs)
 ·refine uG fun b__ w hW hN hE K hK => ?_
  have e4 := hE 4
  have e23 := hE 23
  obtain ⟨g, o, hg, hgb⟩ := e4
  obtain ⟨q, u, A, c, B, d, hv, hu1, h1⟩ := e23
  obtain rfl : o = none := (by cases o with | none => rfl | some cs => exact absurd hgb (hN.2 rfl g cs))
  exact gk_store rfl hg hv (hW.1 hJ0) hgb (by kernel_rfl) rfl (by simpa [Value.oneCell'] using hu1) fun w' hs => hK undef (w', { w.2 with b := some (g, some #[.int .i64 pr, .pointer (some ⟨q, 0, none⟩), u, .slice none 0 0, .slice A nl.length c, .slice B gl.length d]) }) ⟨g, q, u, A, c, B, d, rfl, h1⟩ (GK.put hgb hs)
 ·intro vs wz hW hT
  obtain ⟨e11, e12, e13, e14, e15, e16, e17, e18, e19, e20, e21, e22, e23, e4, z14, -⟩ := hT
  have bx : (fun _ : Nat => True) 0 := trivial
  simp only [Aw, Act.put, zz, ze]
  obtain ⟨_, g4, q, u, A4, c4, B4, d4, hb4, hK4⟩ := z14
  obtain ⟨g, o, hg, hgb⟩ := e4
  obtain rfl : g = g4 := by rw [hb4] at hgb; injection hgb with h; injection h with h _; exact h.symm
  have hS : St w0 wz.1 (.box g 31 #[.int .i64 pr, .pointer (some ⟨q, 0, none⟩), u, .slice none 0 0, .slice A4 nl.length c4, .slice B4 gl.length d4] :: .box g2 31 #[.int .i64 0, .pointer none, .slice none 0 0, .slice none 0 0, .slice none 0 0, .slice none 0 0] :: .box g1 37 #[.int .i64 pr, .slice Al L.length cl, .int .u64 (ps : Nat), .slice Ar rl.length cr, .slice An nl.length cn, .slice Ag gl.length cg] :: F) wz.2.K := (hW.1 hJ0).some hb4
  obtain ⟨K4, wf, k0, kq, kc, hwf, hS2⟩ : ∃ (K4 : (Nat -> Prop) -> World -> Prop) (wf : World), (∀ D w, K4 D w -> K D w) /\ (∀ D w1, K4 D w1 -> IsH w1 D (.pointer (some ⟨q, 0, none⟩)) []) /\ Hid (∀ D w1, K4 D w1 -> A5 w1 D (.agg #[u]) ps /\ Az w1 D (.slice A4 nl.length c4) nl /\ Az w1 D (.slice B4 gl.length d4) gl) /\ wz.1 = wf /\ St w0 wf (.box g 31 #[.int .i64 pr, .pointer (some ⟨q, 0, none⟩), u, .slice none 0 0, .slice A4 nl.length c4, .slice B4 gl.length d4] :: .box g2 31 #[.int .i64 0, .pointer none, .slice none 0 0, .slice none 0 0, .slice none 0 0, .slice none 0 0] :: .box g1 37 #[.int .i64 pr, .slice Al L.length cl, .int .u64 (ps : Nat), .slice Ar rl.length cr, .slice An nl.length cn, .slice Ag gl.length cg] :: F) K4 := ⟨_, _, hW.2.1, fun D w1 h => (hK4 D w1 h).1, Lib.hid fun D w1 h => (hK4 D w1 h).2, rfl, hS⟩
  rw [hwf]
  simp only [show vs (4 : Nat) = _ from hg]
  clear hS hW hJ0 hRr hRt hN0 e11 e12 e13 e14 e15 e16 e17 e18 e19 e20 e21 e22 e23 hb4 hgb hK4 hg hwf
  have hS := hS2
  clear hS2
  generalize vs 11 = s11, vs 12 = s12, vs 13 = s13, vs 14 = s14, vs 15 = s15, vs 16 = s16, vs 17 = s17, vs 18 = s18, vs 19 = s19, vs 20 = s20, vs 21 = s21, vs 22 = s22, vs 23 = s23
  obtain ⟨Au, cu, lu, hvu, -⟩ := (kc.out _ _ hS.ro).1.parts
  obtain rfl : u = .slice Au lu.length cu := by injection hvu with hvu; simpa using hvu
  clear hvu
  generalize lu.length = nu at *
  have KS4 := Lib.hid hS.stable
  go_wp2_with (first | ((with_reducible refine qK ?_); refine qC hS ?_))
  have HNX : Hid (∀ (j : Nat) (x : Nat × Nat) (L' : List (Nat × Nat)), L[j]? = some x -> Part L j L' -> ∀ (F : List Aa) (K : (Nat -> Prop) -> World -> Prop) (w : World) (r : Value) (z : Int), LinkP w0 F K L' (x.1 : Nat) (x.2 : Nat) r z w -> z = 0 /\ ∃ L'', Part L (j + 1) L'' /\ St w0 w F fun D w => K D w /\ IsH w D r L'') := Lib.hid fun j x L' hx hP F K w r z h => by
   obtain ⟨h1, L'', h2, h3, h4⟩ := h.next hx hP.2 HH.out.asc.nodup HH.out.role HH.out.acyc
   exact ⟨h1, L'', ⟨h2, h3⟩, h4⟩
  have HLF : Hid (∀ L', Part L L.length L' -> L' = L) := Lib.hid fun L' h => h.full HH.out.asc
  have hP0 : Part L 0 [] := ⟨GM.nil, by simp⟩
  have k1' : ∀ D w, K4 D w -> Sl w D 2 (.slice Al L.length cl) L.length (A7 L) := fun D w h => k1 D w (k0 D w h)
  go_loopw [27] (fun i wr => ∃ (j q' : Nat) (L' : List (Nat × Nat)), i = .int .i64 (j : Nat) /\ j <= L.length /\ Hid (Part L j L') /\ St w0 wr (.box g 31 #[.int .i64 pr, .pointer (some ⟨q', 0, none⟩), .slice Au nu cu, .slice none 0 0, .slice A4 nl.length c4, .slice B4 gl.length d4] :: .box g2 31 #[.int .i64 0, .pointer none, .slice none 0 0, .slice none 0 0, .slice none 0 0, .slice none 0 0] :: .box g1 37 #[.int .i64 pr, .slice Al L.length cl, .int .u64 (ps : Nat), .slice Ar rl.length cr, .slice An nl.length cn, .slice Ag gl.length cg] :: F) fun D w => K4 D w /\ IsH w D (.pointer (some ⟨q', 0, none⟩)) L') (fun i _ => L.length - (intOf i).toNat)
  case atStart => exact ⟨0, q, [], rfl, by omega, Lib.hid hP0, hS.mono (KS4.out.and D4) fun D w h => ⟨h, kq D w h⟩⟩
  case round =>
   clear hS hP0
   obtain ⟨j, q', L', rfl, hj, HP, hS⟩ := hrel
   by_cases hlj : j < L.length
   ·obtain ⟨f1, f2⟩ := Bc L j hlj
    have HNY := Lib.hid (HNX.out j _ L' (Cf (0, 0) hlj) HP.out)
    have HLL : Hid (L'.length <= 900000) := Lib.hid (by have := HP.out.len; omega)
    generalize L.getD j (0, 0) = z at *
    obtain ⟨za, zb⟩ := z
    dsimp only at f1 f2 HNY
    have kp2 : ∀ D w, (K4 D w /\ IsH w D (.pointer (some ⟨q', 0, none⟩)) L') -> Sl w D 2 (.slice Al L.length cl) L.length (A7 L) := fun D w h => k1' D w h.1
    go_wp2_with (first
     | ((with_reducible refine qB ?_); refine qc ?_ ?_ <;> intro h_ <;> go_prune)
     | ((with_reducible refine qI ?_); refine qj hS Tryz.underlying32 ?_; intro b_ j_ hc0_ hc1_)
     | ((with_reducible refine qA 6 ?_); refine Bf hS rfl _ rfl (by kernel_rfl) ?_; clear hS; intro g6 w_ hS; (try simp only [Act.put, Act.eval, zz, Value.cells] at hS))
     | (go_at_call 95; refine (hlink_any (.pointer (some ⟨q', 0, none⟩)) L' (za : Nat) (zb : Nat) HP.out.1 HLL.out hS (fun D w h => h.2) (fun D w h => kt D w (k0 D w h.1))).mono ?_; clear hS; rintro e w_ ⟨r, z, rfl, hP⟩; obtain ⟨rfl, L'', hP2, hS⟩ := HNY.out _ _ _ _ _ hP; replace hP2 := Lib.hid hP2; clear hP; obtain ⟨q2, _, rfl, -⟩ := id hS.ro.2)
     | ((with_reducible refine qM ?_); (first | refine qS hS ?_ | refine qT hS ?_); clear hS; intro w_ hS; (try simp only [Act.put, Act.eval, zz, Value.cells] at hS))
     | ((with_reducible refine qK ?_); refine qC hS ?_))
    exact ⟨⟨j + 1, q2, L'', by go_num, hlj, hP2, (hS.sub (List.sublist_cons_self _ _)).mono (KS4.out.and D4) fun D w h => ⟨h.1.1, h.2⟩⟩, by simp [intOf]; omega⟩
   ·obtain rfl : L.length = j := by omega
    rw [HLF.out _ HP.out] at hS
    clear HP HNX HLF
    go_wp2_with (first | ((with_reducible refine qB ?_); refine qc ?_ ?_ <;> intro h_ <;> go_prune) | ((with_reducible refine qK ?_); refine qC hS ?_))
    obtain ⟨K5, k5, kh, hS2⟩ : ∃ K5 : (Nat -> Prop) -> World -> Prop, (∀ D w, K5 D w -> K4 D w) /\ Hid (∀ D w, K5 D w -> IsH w D (.pointer (some ⟨q', 0, none⟩)) L) /\ St w0 wr (.box g 31 #[.int .i64 pr, .pointer (some ⟨q', 0, none⟩), .slice Au nu cu, .slice none 0 0, .slice A4 nl.length c4, .slice B4 gl.length d4] :: .box g2 31 #[.int .i64 0, .pointer none, .slice none 0 0, .slice none 0 0, .slice none 0 0, .slice none 0 0] :: .box g1 37 #[.int .i64 pr, .slice Al L.length cl, .int .u64 (ps : Nat), .slice Ar rl.length cr, .slice An nl.length cn, .slice Ag gl.length cg] :: F) K5 := ⟨_, fun _ _ h => h.1, Lib.hid fun _ _ h => h.2, hS⟩
    clear hS
    have hS := hS2.nil 83 5
    clear hS2
    have KS5 := Lib.hid hS.stable
    have kr : ∀ D w, K5 D w -> Sl w D 5 (.slice Ar rl.length cr) rl.length (AW rl) := fun D w h => k2 D w (k0 D w (k5 D w h))
    go_loopw [50] (fun i wr => ∃ (j : Nat) (rv : Value) (xs : List Value), i = .int .i64 (j : Nat) /\ j <= rl.length /\ St w0 wr (.own rv 83 5 j xs :: .box g 31 #[.int .i64 pr, .pointer (some ⟨q', 0, none⟩), .slice Au nu cu, rv, .slice A4 nl.length c4, .slice B4 gl.length d4] :: .box g2 31 #[.int .i64 0, .pointer none, .slice none 0 0, .slice none 0 0, .slice none 0 0, .slice none 0 0] :: .box g1 37 #[.int .i64 pr, .slice Al L.length cl, .int .u64 (ps : Nat), .slice Ar rl.length cr, .slice An nl.length cn, .slice Ag gl.length cg] :: F) fun D w => K5 D w /\ AA w D xs (rl.take j)) (fun i _ => rl.length - (intOf i).toNat)
    case atStart => exact ⟨0, _, [], rfl, by omega, hS.mono (KS5.out.and Dt) fun D w h => ⟨h, fun i z hi => by simp at hi⟩⟩
    case round =>
     clear hS
     obtain ⟨j, rv, xs, rfl, hj2, hS⟩ := hrel
     obtain ⟨Arv, crv, rfl, _, _⟩ := B9 (hS.own 0 rfl)
     by_cases hlj : j < rl.length
     ·obtain ⟨bk, o, rfl, c0, c1, c2, c3, c4'⟩ := rr_at (kr _ _ hS.ro.1) hlj
      have HT : Hid (rl.take (j + 1) = rl.take j ++ [rl.getD j AX]) := Lib.hid (take_getD rl j AX hlj)
      have HZ : Hid ((rl.getD j AX).yes < Bv /\ (rl.getD j AX).no < Bv) := Lib.hid (HF.out.rules _ (by rw [List.getD_eq_getElem?_getD, List.getElem?_eq_getElem hlj]; exact List.getElem_mem hlj))
      have HLT : Hid ((rl.take j).length = j) := Lib.hid (by rw [List.length_take]; omega)
      generalize rl.getD j AX = z at *
      obtain ⟨zr, zy, zn, zt, zo⟩ := z
      dsimp only at c0 c1 c2 c3 c4' HZ
      go_wp2_with (first
       | ((with_reducible refine qB ?_); refine qc ?_ ?_ <;> intro h_ <;> go_prune)
       | ((with_reducible refine qA 53 ?_); refine BigFrame.wpList_want rfl fun _ hK => Bh (cs := [.bool zr, .int .u64 (zy : Nat), .int .u64 (zn : Nat), .int .i64 zt, .int .i64 zo]) rfl rfl (rng5 c0 c1 c2 c3 c4') Tryz.underlying154 rfl (by kernel_rfl) (hK _ _ ?_))
       | ((with_reducible refine qA 10 ?_); refine qa hS #[.bool false, .int .u64 0, .int .u64 0, .int .i64 0, .int .i64 0] ?_; clear hS; intro g10 w_ hS)
       | ((with_reducible refine qM ?_); (first | refine qS hS ?_ | refine qT hS ?_); clear hS; intro w_ hS; (try simp only [Act.put, Act.eval, zz, Value.cells] at hS)))
      obtain ⟨K6, k6, hS2⟩ : ∃ K6 : (Nat -> Prop) -> World -> Prop, Hid (∀ D w, K6 D w -> K5 D w /\ AA w D xs (rl.take j)) /\ St w0 w_ (.box g10 154 #[.bool zr, .int .u64 (zy : Nat), .int .u64 (zn : Nat), .int .i64 zt, .int .i64 zo] :: .own (.slice Arv j crv) 83 5 j xs :: .box g 31 #[.int .i64 pr, .pointer (some ⟨q', 0, none⟩), .slice Au nu cu, .slice Arv j crv, .slice A4 nl.length c4, .slice B4 gl.length d4] :: .box g2 31 #[.int .i64 0, .pointer none, .slice none 0 0, .slice none 0 0, .slice none 0 0, .slice none 0 0] :: .box g1 37 #[.int .i64 pr, .slice Al L.length cl, .int .u64 (ps : Nat), .slice (some ⟨bk, o, none⟩) rl.length cr, .slice An nl.length cn, .slice Ag gl.length cg] :: F) K6 := ⟨_, Lib.hid fun _ _ h => h, hS⟩
      clear hS
      have hS := hS2
      clear hS2
      have KS6 := Lib.hid hS.stable
      have h0d := hS.drew
      refine wp_zS [6, 11, 12, 13, 15] [some (.pointer (some ⟨g, 3, none⟩)), some (.slice Arv j crv), some (.pointer (some ⟨g10, 0, none⟩)), some (.bool zr), some (.pointer (some ⟨g10, 1, none⟩)), some (.agg #[.int .u64 (zy : Nat), .int .u64 (zn : Nat)]), none, some (.pointer (some ⟨g10, 3, none⟩)), some (.int .i64 zt), some (.pointer (some ⟨g10, 4, none⟩)), some (.int .i64 zo), none, none, none, some (.pointer (some ⟨g, 3, none⟩)), none] (fun vs w => match vs with | [] => St w0 w (.box g10 154 #[.bool zr, .int .u64 (zy : Nat), .int .u64 (zn : Nat), .int .i64 zt, .int .i64 zo] :: .own (.slice Arv j crv) 83 5 j xs :: .box g 31 #[.int .i64 pr, .pointer (some ⟨q', 0, none⟩), .slice Au nu cu, .slice Arv j crv, .slice A4 nl.length c4, .slice B4 gl.length d4] :: .box g2 31 #[.int .i64 0, .pointer none, .slice none 0 0, .slice none 0 0, .slice none 0 0, .slice none 0 0] :: .box g1 37 #[.int .i64 pr, .slice Al L.length cl, .int .u64 (ps : Nat), .slice (some ⟨bk, o, none⟩) rl.length cr, .slice An nl.length cn, .slice Ag gl.length cg] :: F) K6 | [z] => ∃ a b : Value, z = .agg #[a, b] /\ St w0 w (.box g10 154 #[.bool zr, .int .u64 (zy : Nat), .int .u64 (zn : Nat), .int .i64 zt, .int .i64 zo] :: .own (.slice Arv j crv) 83 5 j xs :: .box g 31 #[.int .i64 pr, .pointer (some ⟨q', 0, none⟩), .slice Au nu cu, .slice Arv j crv, .slice A4 nl.length c4, .slice B4 gl.length d4] :: .box g2 31 #[.int .i64 0, .pointer none, .slice none 0 0, .slice none 0 0, .slice none 0 0, .slice none 0 0] :: .box g1 37 #[.int .i64 pr, .slice Al L.length cl, .int .u64 (ps : Nat), .slice (some ⟨bk, o, none⟩) rl.length cr, .slice An nl.length cn, .slice Ag gl.length cg] :: F) (fun D w => K6 D w /\ Be w D (.agg #[a, b]) (zy, zn)) | [_, z] => ∃ a b : Value, z = .agg #[.bool zr, a, b, .int .i64 zt, .int .i64 zo] /\ St w0 w (.box g10 154 #[.bool zr, .int .u64 (zy : Nat), .int .u64 (zn : Nat), .int .i64 zt, .int .i64 zo] :: .own (.slice Arv j crv) 83 5 j xs :: .box g 31 #[.int .i64 pr, .pointer (some ⟨q', 0, none⟩), .slice Au nu cu, .slice Arv j crv, .slice A4 nl.length c4, .slice B4 gl.length d4] :: .box g2 31 #[.int .i64 0, .pointer none, .slice none 0 0, .slice none 0 0, .slice none 0 0, .slice none 0 0] :: .box g1 37 #[.int .i64 pr, .slice Al L.length cl, .int .u64 (ps : Nat), .slice (some ⟨bk, o, none⟩) rl.length cr, .slice An nl.length cn, .slice Ag gl.length cg] :: F) (fun D w => K6 D w /\ Be w D (.agg #[a, b]) (zy, zn)) | [_, _, z] => ∃ a b : Value, St w0 w (.box g10 154 #[.bool zr, .int .u64 (zy : Nat), .int .u64 (zn : Nat), .int .i64 zt, .int .i64 zo] :: .own (.slice Arv j crv) 83 5 j xs :: .box g 31 #[.int .i64 pr, .pointer (some ⟨q', 0, none⟩), .slice Au nu cu, .slice Arv j crv, .slice A4 nl.length c4, .slice B4 gl.length d4] :: .box g2 31 #[.int .i64 0, .pointer none, .slice none 0 0, .slice none 0 0, .slice none 0 0, .slice none 0 0] :: .box g1 37 #[.int .i64 pr, .slice Al L.length cl, .int .u64 (ps : Nat), .slice (some ⟨bk, o, none⟩) rl.length cr, .slice An nl.length cn, .slice Ag gl.length cg] :: F) (fun D w => (K6 D w /\ Be w D (.agg #[a, b]) (zy, zn)) /\ Sl w D 5 z 1 [.bool zr, a, b, .int .i64 zt, .int .i64 zo]) | [_, _, _, p'] => ∃ a b : Value, St w0 w (.box g10 154 #[.bool zr, .int .u64 (zy : Nat), .int .u64 (zn : Nat), .int .i64 zt, .int .i64 zo] :: .own p' 83 5 (j + 1) (xs ++ [.bool zr, a, b, .int .i64 zt, .int .i64 zo]) :: .box g 31 #[.int .i64 pr, .pointer (some ⟨q', 0, none⟩), .slice Au nu cu, .slice Arv j crv, .slice A4 nl.length c4, .slice B4 gl.length d4] :: .box g2 31 #[.int .i64 0, .pointer none, .slice none 0 0, .slice none 0 0, .slice none 0 0, .slice none 0 0] :: .box g1 37 #[.int .i64 pr, .slice Al L.length cl, .int .u64 (ps : Nat), .slice (some ⟨bk, o, none⟩) rl.length cr, .slice An nl.length cn, .slice Ag gl.length cg] :: F) (fun D w => K6 D w /\ Be w D (.agg #[a, b]) (zy, zn)) | [_, _, _, p', _] => ∃ a b : Value, St w0 w (.box g10 154 #[.bool zr, .int .u64 (zy : Nat), .int .u64 (zn : Nat), .int .i64 zt, .int .i64 zo] :: .own p' 83 5 (j + 1) (xs ++ [.bool zr, a, b, .int .i64 zt, .int .i64 zo]) :: .box g 31 #[.int .i64 pr, .pointer (some ⟨q', 0, none⟩), .slice Au nu cu, p', .slice A4 nl.length c4, .slice B4 gl.length d4] :: .box g2 31 #[.int .i64 0, .pointer none, .slice none 0 0, .slice none 0 0, .slice none 0 0, .slice none 0 0] :: .box g1 37 #[.int .i64 pr, .slice Al L.length cl, .int .u64 (ps : Nat), .slice (some ⟨bk, o, none⟩) rl.length cr, .slice An nl.length cn, .slice Ag gl.length cg] :: F) (fun D w => K6 D w /\ Be w D (.agg #[a, b]) (zy, zn)) | _ => False) ?_ ⟨vF, ?_, vF, ?_, vF, ?_, ?_, vF, ?_, vF, ?_, ?_, ?_, ?_, vF, ?_, trivial⟩ ?_
      ·first | assumption | (dsimp only; assumption)
      ·refine vR 0 3 fun b__ w vs hS h1 h2 hE K hK => ?_
       rcases vs with _ | ⟨x0, _ | ⟨x1, _ | ⟨x2, _ | ⟨x3, vs⟩⟩⟩⟩ <;> first | (exfalso; first | exact hS | (revert h1 h2; simp <;> omega); done) | ((have e54 := hE 54); (first | exact Ab rfl e54 (by kernel_rfl) (hS.shut 2 rfl 3 rfl) (hK _ rfl) | (obtain ⟨_, _, hS⟩ := hS; exact Ab rfl e54 (by kernel_rfl) (hS.shut 2 rfl 3 rfl) (hK _ rfl)) | (obtain ⟨_, _, _, hS⟩ := hS; exact Ab rfl e54 (by kernel_rfl) (hS.shut 2 rfl 3 rfl) (hK _ rfl))))
      ·refine vR 0 1 fun b__ w vs hS h1 h2 hE K hK => ?_
       rcases vs with _ | ⟨x0, _ | ⟨x1, vs⟩⟩ <;> first | (exfalso; first | exact hS | (revert h1 h2; simp <;> omega); done) | ((have e56 := hE 56); (first | exact Ab rfl e56 (by kernel_rfl) (hS.shut 0 rfl 0 rfl) (hK _ rfl) | (obtain ⟨_, _, _, hS⟩ := hS; exact Ab rfl e56 (by kernel_rfl) (hS.shut 0 rfl 0 rfl) (hK _ rfl))))
      ·refine vR 0 0 fun b__ w vs hS h1 h2 hE K hK => ?_
       rcases vs with _ | ⟨x0, vs⟩ <;> first | (exfalso; first | exact hS | (revert h1 h2; simp <;> omega); done) | ((have e58 := hE 58); (exact Bh (cs := [.int .u64 (zy : Nat), .int .u64 (zn : Nat)]) rfl e58 (rng2 (hS.shut 0 rfl 1 rfl) (hS.shut 0 rfl 2 rfl)) Tryz.underlying152 rfl (by kernel_rfl) (hK _ rfl)))
      ·refine vX 0 fun b__ w vs hS hl hE K hK => ?_
       obtain rfl := Fm hl
       have e59 := hE 59
       refine BW rfl (by kernel_rfl) (by simp only [List.map_cons, List.map_nil, e59]) (lmake_any zy zn HZ.out.1 HZ.out.2 _) fun e w' ⟨z, he, hx, hb_⟩ => ⟨z, he, ?_⟩
       obtain ⟨a, b, rfl, -, -⟩ := id hx
       exact hK _ w' ⟨a, b, rfl, hS.ret hb_ CG hx⟩
      ·refine vR 0 1 fun b__ w vs hS h1 h2 hE K hK => ?_
       rcases vs with _ | ⟨x0, _ | ⟨x1, vs⟩⟩ <;> first | (exfalso; first | exact hS | (revert h1 h2; simp <;> omega); done) | ((have e61 := hE 61); (first | exact Ab rfl e61 (by kernel_rfl) (hS.shut 0 rfl 3 rfl) (hK _ rfl) | (obtain ⟨_, _, _, hS⟩ := hS; exact Ab rfl e61 (by kernel_rfl) (hS.shut 0 rfl 3 rfl) (hK _ rfl))))
      ·refine vR 0 1 fun b__ w vs hS h1 h2 hE K hK => ?_
       rcases vs with _ | ⟨x0, _ | ⟨x1, vs⟩⟩ <;> first | (exfalso; first | exact hS | (revert h1 h2; simp <;> omega); done) | ((have e63 := hE 63); (first | exact Ab rfl e63 (by kernel_rfl) (hS.shut 0 rfl 4 rfl) (hK _ rfl) | (obtain ⟨_, _, _, hS⟩ := hS; exact Ab rfl e63 (by kernel_rfl) (hS.shut 0 rfl 4 rfl) (hK _ rfl))))
      ·refine vX 1 fun b__ w vs hS hl hE K hK => ?_
       obtain ⟨x0, rfl⟩ := Ey hl
       have e57 := hE 57
       have e60 := hE 60
       have e62 := hE 62
       have e64 := hE 64
       obtain ⟨a, b, rfl, hS⟩ := hS
       exact Cp rfl (ps := [(0, .bool zr), (1, .agg #[a, b]), (2, .int .i64 zt), (3, .int .i64 zo)]) (cells := #[.bool zr, a, b, .int .i64 zt, .int .i64 zo]) (by simp [e57, e60, e62, e64]) (by kernel_rfl) (hK _ _ ⟨a, b, rfl, hS⟩)
      ·refine vX 2 fun b__ w vs hS hl hE K hK => ?_
       obtain ⟨x0, x1, rfl⟩ := Ex hl
       have e65 := hE 65
       obtain ⟨a, b, rfl, hS⟩ := hS
       refine BV (ps := [(0, .agg #[.bool zr, a, b, .int .i64 zt, .int .i64 zo])]) (cells := #[.bool zr, a, b, .int .i64 zt, .int .i64 zo]) rfl Tryz.underlying28 (by simp [e65]) (by kernel_rfl) ?_
       intro w' hbx hbel
       exact hK _ w' ⟨a, b, hS.ret hbel (Ah (by decide)) (⟨by simp, _, 1, rfl, by omega, by unfold maxLen; omega, fun _ => ⟨w.heap.size, 0, rfl, Nat.le_refl _, hbx.lt, fun j x hj => by rw [Nat.zero_add]; exact (hbx.cell j).trans (by simpa using hj)⟩⟩ : Sl w' (w.heap.size <= ·) 5 (.slice (some ⟨w.heap.size, 0, none⟩) 1 1) 1 [.bool zr, a, b, .int .i64 zt, .int .i64 zo])⟩
      ·refine vX 3 fun b__ w vs hS hl hE K hK => ?_
       obtain ⟨x0, x1, x2, rfl⟩ := Ew hl
       have e55 := hE 55
       have e66 := hE 66
       obtain ⟨a, b, h3⟩ := hS
       refine DR rfl ty_rules e55 (h3.own 1 rfl) e66 h3.ro.2 (by obtain ⟨_, _, he, hy, hn⟩ := h3.ro.1.2; injection he with he; injection he with he; injection he with e1 he; injection he with e2 he; subst e1 e2; obtain ⟨A8, m8, c8, rfl⟩ := hy.shape; obtain ⟨B8, k8, d8, rfl⟩ := hn.shape; intro u hu; simp at hu; rcases hu with rfl | rfl | rfl | rfl | rfl <;> rfl) (by omega) (by omega) h3.size ?_
       intro v' w' ho hg hat
       exact hK v' w' ⟨a, b, (h3.upd 1 rfl (.own v' 83 5 (j + 1) (xs ++ [.bool zr, a, b, .int .i64 zt, .int .i64 zo])) hg ho hat).mono (KS6.out.and CG) fun D w h => h.1⟩
      ·refine vX 4 fun b__ w vs hS hl hE K hK => ?_
       obtain ⟨x0, x1, x2, x3, rfl⟩ := vs_len4 hl
       have e68 := hE 68
       have e67 := hE 67
       obtain ⟨a, b, h3⟩ := hS
       refine CA rfl e68 e67 (h3.box 2 rfl) (by simp) (EG (h3.own 1 rfl)) (GZ (h3.own 1 rfl)) (by kernel_rfl) ?_
       intro w' hbx hup
       exact hK _ w' ⟨a, b, h3.upd 2 rfl (.box g 31 #[.int .i64 pr, .pointer (some ⟨q', 0, none⟩), .slice Au nu cu, x3, .slice A4 nl.length c4, .slice B4 gl.length d4]) (Bw hup) ⟨(h3.holds _ (List.mem_of_getElem? (i := 2) rfl)).1, hbx⟩ fun _ e => .inl e⟩
      ·intro us wz vs hS hl hT
       obtain ⟨x0, x1, x2, x3, x4, rfl⟩ := vs_len5 hl
       obtain ⟨e54, e55, e56, e57, e58, e59, e60, e61, e62, e63, e64, e65, e66, e67, e68, -⟩ := hT
       clear hl
       simp only [Aw, Act.put, zz, ze]
       obtain ⟨a, b, hS⟩ := hS
       clear h0d
       go_wp2_with fail
       have hxl := HLT.out
       refine ⟨⟨j + 1, _, xs ++ [.bool zr, a, b, .int .i64 zt, .int .i64 zo], by go_num, hlj, (hS.sub (List.sublist_cons_self _ _)).mono (KS5.out.and Dt) fun D w h => ⟨(k6.out _ _ h.1).1, ?_⟩⟩, by simp [intOf]; omega⟩
       rw [HT.out]
       have hz := (hS.own 1 rfl).1
       exact AA.append (by simp at hz; omega) (k6.out _ _ h.1).2 (AA.single (z := ⟨zr, zy, zn, zt, zo⟩) (cube_sets h.2).1 (cube_sets h.2).2)
     ·obtain rfl : rl.length = j := by omega
      rw [List.take_length] at hS
      go_wp2_with (first | ((with_reducible refine qB ?_); refine qc ?_ ?_ <;> intro h_ <;> go_prune))
      obtain ⟨K7, k7, ks7, hS2⟩ : ∃ K7 : (Nat -> Prop) -> World -> Prop, Hid (∀ D w, K7 D w -> (K5 D w /\ AA w D xs rl) /\ Sl w D 5 (.slice Arv rl.length crv) rl.length xs) /\ Ao K7 /\ St w0 wr (.box g 31 #[.int .i64 pr, .pointer (some ⟨q', 0, none⟩), .slice Au nu cu, .slice Arv rl.length crv, .slice A4 nl.length c4, .slice B4 gl.length d4] :: .box g2 31 #[.int .i64 0, .pointer none, .slice none 0 0, .slice none 0 0, .slice none 0 0, .slice none 0 0] :: .box g1 37 #[.int .i64 pr, .slice Al L.length cl, .int .u64 (ps : Nat), .slice Ar rl.length cr, .slice An nl.length cn, .slice Ag gl.length cg] :: F) K7 := ⟨_, Lib.hid fun _ _ h => h, (hS.freeze 0 (by decide) rfl).stable, hS.freeze 0 (by decide) rfl⟩
      clear hS
      have hS := hS2
      clear hS2
      have hJ0 : St w0 wr.drew (.box g 31 #[.int .i64 pr, .pointer (some ⟨q', 0, none⟩), .slice Au nu cu, .slice Arv rl.length crv, .slice A4 nl.length c4, .slice B4 gl.length d4] :: .box g2 31 (cond (false, false).1 #[.int .i64 pr, .pointer (some ⟨q', 0, none⟩), .slice Au nu cu, .slice Arv rl.length crv, .slice A4 nl.length c4, .slice B4 gl.length d4] #[.int .i64 0, .pointer none, .slice none 0 0, .slice none 0 0, .slice none 0 0, .slice none 0 0]) :: .box g1 37 #[.int .i64 pr, .slice Al L.length cl, .int .u64 (ps : Nat), .slice Ar rl.length cr, .slice An nl.length cn, .slice Ag gl.length cg] :: F) K7 := hS.drew
      have hRr := @SR.refl w0 (fun s => .box g 31 #[.int .i64 pr, .pointer (some ⟨q', 0, none⟩), .slice Au nu cu, .slice Arv rl.length crv, .slice A4 nl.length c4, .slice B4 gl.length d4] :: .box g2 31 (cond s.1 #[.int .i64 pr, .pointer (some ⟨q', 0, none⟩), .slice Au nu cu, .slice Arv rl.length crv, .slice A4 nl.length c4, .slice B4 gl.length d4] #[.int .i64 0, .pointer none, .slice none 0 0, .slice none 0 0, .slice none 0 0, .slice none 0 0]) :: .box g1 37 #[.int .i64 pr, .slice Al L.length cl, .int .u64 (ps : Nat), .slice Ar rl.length cr, .slice An nl.length cn, .slice Ag gl.length cg] :: F) K7
      have hRt := @SR.trans w0 (fun s => .box g 31 #[.int .i64 pr, .pointer (some ⟨q', 0, none⟩), .slice Au nu cu, .slice Arv rl.length crv, .slice A4 nl.length c4, .slice B4 gl.length d4] :: .box g2 31 (cond s.1 #[.int .i64 pr, .pointer (some ⟨q', 0, none⟩), .slice Au nu cu, .slice Arv rl.length crv, .slice A4 nl.length c4, .slice B4 gl.length d4] #[.int .i64 0, .pointer none, .slice none 0 0, .slice none 0 0, .slice none 0 0, .slice none 0 0]) :: .box g1 37 #[.int .i64 pr, .slice Al L.length cl, .int .u64 (ps : Nat), .slice Ar rl.length cr, .slice An nl.length cn, .slice Ag gl.length cg] :: F) K7
      have hN0 : ∀ _ : Nat, True := fun _ => trivial
      clear hS
      refine ER (SR w0 (fun s => .box g 31 #[.int .i64 pr, .pointer (some ⟨q', 0, none⟩), .slice Au nu cu, .slice Arv rl.length crv, .slice A4 nl.length c4, .slice B4 gl.length d4] :: .box g2 31 (cond s.1 #[.int .i64 pr, .pointer (some ⟨q', 0, none⟩), .slice Au nu cu, .slice Arv rl.length crv, .slice A4 nl.length c4, .slice B4 gl.length d4] #[.int .i64 0, .pointer none, .slice none 0 0, .slice none 0 0, .slice none 0 0, .slice none 0 0]) :: .box g1 37 #[.int .i64 pr, .slice Al L.length cl, .int .u64 (ps : Nat), .slice Ar rl.length cr, .slice An nl.length cn, .slice Ag gl.length cg] :: F) K7) (fun _ _ => True) ((false, false)) hRr hRt [.i (.agg #[.int .i64 pr, .pointer (some ⟨q', 0, none⟩), .slice Au nu cu, .slice Arv rl.length crv, .slice A4 nl.length c4, .slice B4 gl.length d4]), .q g 1, .q q' 0, .b true, .s (fun v w => w.2.1 = true) fun v w w' h hb => hb.2.1 h, .b true] ?_ ⟨uR (h := fun w hW hN => (hW.1 hJ0).box 0 rfl), uF, uC (h := fun w hW hN => (hW.1 hJ0).shut 0 rfl 1 rfl), uB (h := fun w hW hN => Hx _ _), ?_, uA, trivial⟩ ?_
      ·first | assumption | (intro i; (try dsimp only); split <;> first | trivial | assumption | (left; assumption))
      ·refine uG fun b__ w hW hN hE K hK => ?_
       have e2 : b__.eval (.tmp 2) = .pointer (some ⟨g2, 0, none⟩) := hE 2
       have e70 := hE 70
       have hS := hW.1 hJ0
       exact CX rfl e2 e70 (hS.box 1 rfl) (by kernel_rfl) (by cases w.2.1 <;> rfl) (by simp [Value.oneCell']) fun w4 h1 hU => hK undef (w4, (true, w.2.2)) rfl ⟨⟨fun _ => hS.upd 1 rfl (.box g2 31 #[.int .i64 pr, .pointer (some ⟨q', 0, none⟩), .slice Au nu cu, .slice Arv rl.length crv, .slice A4 nl.length c4, .slice B4 gl.length d4]) (Bw hU) ⟨(hS.holds _ (List.mem_of_getElem? (i := 1) rfl)).1, h1⟩ fun _ e => .inl e, fun _ => rfl, id⟩, fun _ _ h => h⟩
      ·intro vs wz hW hT
       obtain ⟨e70, e71, e72, e73, z4, e3, -⟩ := hT
       have bx : (fun _ : Nat => True) 0 := trivial
       simp only [Aw, Act.put, zz, ze]
       obtain ⟨_, hst⟩ := z4
       have hS : St w0 wz.1 (.box g 31 #[.int .i64 pr, .pointer (some ⟨q', 0, none⟩), .slice Au nu cu, .slice Arv rl.length crv, .slice A4 nl.length c4, .slice B4 gl.length d4] :: .box g2 31 (cond wz.2.1 #[.int .i64 pr, .pointer (some ⟨q', 0, none⟩), .slice Au nu cu, .slice Arv rl.length crv, .slice A4 nl.length c4, .slice B4 gl.length d4] #[.int .i64 0, .pointer none, .slice none 0 0, .slice none 0 0, .slice none 0 0, .slice none 0 0]) :: .box g1 37 #[.int .i64 pr, .slice Al L.length cl, .int .u64 (ps : Nat), .slice Ar rl.length cr, .slice An nl.length cn, .slice Ag gl.length cg] :: F) K7 := hW.1 hJ0
       rw [show wz.2.1 = true from hst] at hS
       dsimp only [cond] at hS
       clear hW hJ0 hRr hRt hN0 hst
       generalize wz.1 = wf at *
       simp only [show vs (3 : Nat) = _ from e3]
       go_wp2_with fail
       refine Bk Tryz.results46 rfl (hS.box 1 rfl) Tryz.underlying31 rfl (by kernel_rfl) rfl rfl ?_
       refine ⟨_, rfl, (hS.sub (F' := F) (((List.sublist_cons_self _ _).trans (List.sublist_cons_self _ _)).trans (List.sublist_cons_self _ _))).mono (KSt.out.and Gv) fun D w h => ?_⟩
       have h := k7.out _ _ h
       have h2 := kc.out _ _ (k5 _ _ h.1.1)
       exact ⟨k0 _ _ (k5 _ _ h.1.1), _, _, _, _, _, rfl, kh.out _ _ h.1.1, h2.1, ⟨_, h.2, h.1.2⟩, h2.2.1, h2.2.2⟩
theorem DI.fits {p : Ac} {L : List (Nat × Nat)} {R : Nat} (h : DI p L R) : Fits p := by
 have hm : BB R < Bv := by
  have : 2 ^ (R + 1) <= 2 ^ 6 := Nat.pow_le_pow_right (by decide) (by have := h.r5; omega)
  unfold BB Bv; omega
 refine ⟨?_, fun z hz => ?_, by have := h.rlen; omega, fun z hz => ?_, by have := h.nlen; omega, fun z hz => ?_, by have := h.glen; omega⟩
 ·rw [<- h.start]; exact Nat.lt_of_le_of_lt Nat.and_le_right hm
 ·have := (h.rules z hz).2.2.2.2.2
  unfold Bv; omega
 ·have := (h.never z hz).1.2.2.2
  unfold Bv; omega
 ·have := (h.goal z hz).2.2.2
  unfold Bv; omega
theorem DI.ok {p : Ac} {L : List (Nat × Nat)} {R : Nat} (h : DI p L R) : p.Ok :=
 ⟨by have := h.rlen; omega, by have := h.nlen; omega, by have := h.glen; omega, fun L' e => by rw [h.links] at e; injection e with e; subst e; exact ⟨h.hok, by have := h.len; omega⟩⟩
end
section
open Go.RowKit
attribute [local go_sem ↓] Go.wp_at_zero Go.wp_at_succ
set_option maxRecDepth 20000
set_option exponentiation.threshold 5000
theorem isH_ptr {w : World} {D : Nat -> Prop} {v : Value} {o : Option (List (Nat × Nat))} (h : Gs w D v o) : ∃ p, v = .pointer p := by
 cases o with
 | none => exact ⟨_, h⟩
 | some L => obtain ⟨q, o, h, _⟩ := h; exact ⟨_, h⟩
theorem Bg.cells {w : World} {D : Nat -> Prop} {v : Value} {p : Ac} (h : Bg w D v p) : ∃ cs, v = .agg cs /\ cs.size = 6 /\ cs.all (·.oneCell') = true := by
 obtain ⟨lp, s, rv, nv, gv, rfl, h1, h2, h3, h4, h5⟩ := h
 obtain ⟨_, rfl⟩ := isH_ptr h1
 obtain ⟨_, _, _, rfl⟩ := h2.shape
 obtain ⟨_, _, rfl, _, _⟩ := h3.shape
 obtain ⟨_, _, rfl⟩ := Do h4
 obtain ⟨_, _, rfl⟩ := Do h5
 exact ⟨_, rfl, rfl, by simp [Value.oneCell']⟩
theorem DY.cells {w : World} {D : Nat -> Prop} {v : Value} {p : Ac} (h : DY w D v p) : ∃ cs, v = .agg cs /\ cs.size = 6 /\ cs.all (·.oneCell') = true := by
 obtain ⟨lv, rv, nv, gv, L, rfl, _, h1, h2, h3, h4⟩ := h
 obtain ⟨_, _, rfl, _, _⟩ := h1.shape
 obtain ⟨_, _, rfl, _, _⟩ := h2.shape
 obtain ⟨_, _, rfl, _, _⟩ := Sl.shape (h3 : Sl _ _ _ _ _ _)
 obtain ⟨_, _, rfl, _, _⟩ := Sl.shape (h4 : Sl _ _ _ _ _ _)
 exact ⟨_, rfl, rfl, by simp [Value.oneCell']⟩
theorem ret_cct {P : Program} {fn : Func} {p p2 t3 : Tmp} {ty ty2 : TypeId} {R : Ending -> World -> Prop} {a : Act} {w : World} {g g2 : Nat} {t t2 : TypeId} {cs cs2 : Array Value} {d d2 : TypeDesc} {v : Value} (h : fn.results = #[.cell p ty, .cell p2 ty2, .tmp t3]) (hp : a.eval (.tmp p) = .pointer (some ⟨g, 0, none⟩)) (hb : C3 w g t cs)
  (hu : P.underlying ty = some d) (hd : (match d with | .struct _ | .array _ _ => true | _ => false) = true) (hi : (P.info? ty).map (·.size) = some cs.size)
  (hp2 : a.eval (.tmp p2) = .pointer (some ⟨g2, 0, none⟩)) (hb2 : C3 w g2 t2 cs2) (hu2 : P.underlying ty2 = some d2) (hd2 : (match d2 with | .struct _ | .array _ _ => true | _ => false) = true) (hi2 : (P.info? ty2).map (·.size) = some cs2.size)
  (hv : a.eval (.tmp t3) = v) (hdf : a.defers = []) (hR : R (.returned (.tuple #[.agg cs, .agg cs2, v])) w) : bodyPost P fn R .ret a w := by
 have hr : (results fn a.tmps).run P w = .ok (.tuple #[.agg cs, .agg cs2, v]) w := by
  have hp' : a.tmps[p]?.getD undef = .pointer (some ⟨g, 0, none⟩) := by simpa [Act.eval] using hp
  have hp2' : a.tmps[p2]?.getD undef = .pointer (some ⟨g2, 0, none⟩) := by simpa [Act.eval] using hp2
  have hv' : a.tmps[t3]?.getD undef = v := by simpa [Act.eval] using hv
  simp [results, h, hp', hp2', hv', asAddr, run_loadVar_row w g t ty cs (0, 0) d hb hu hd hi, run_loadVar_row w g2 t2 ty2 cs2 (0, 0) d2 hb2 hu2 hd2 hi2]
 exact bodyPost_ret hr hdf hR
set_option maxHeartbeats 1000000 in
theorem lmake31_any {w0 w : World} {F : List Aa} {K : (Nat -> Prop) -> World -> Prop} {v : Value} {l : List Nat} (hl : ∀ x ∈ l, x < 256) (hS : St w0 w F K) (kp : ∀ D w, K D w -> Sl w D 1 v l.length (Fj l)) (kt : ∀ D w, K D w -> BM w /\ D 0) :
  Calls Tryz.prog 14 #[v] w fun e w' => ∃ x u, e = .returned (.tuple #[x, u, .bool true]) /\ ∃ p, (∃ L R, DI p L R) /\ St w0 w' F fun D w => K D w /\ Bg w D x p /\ DY w D u p := by
 have HL := Lib.hid hl
 have KS := Lib.hid hS.stable
 go_enter Tryz.func14, Tryz.ntmps14
 go_wp2_with (first
  | ((with_reducible refine qA 2 ?_); refine qa hS #[.int .i64 0, .pointer none, .slice none 0 0, .slice none 0 0, .slice none 0 0, .slice none 0 0] ?_; clear hS; intro g2 w_ hS)
  | ((with_reducible refine qA 3 ?_); refine qa hS #[.int .i64 0, .slice none 0 0, .int .u64 0, .slice none 0 0, .slice none 0 0, .slice none 0 0] ?_; clear hS; intro g3 w_ hS)
  | ((with_reducible refine qA 5 ?_); refine qa hS #[.int .i64 0, .slice none 0 0, .int .u64 0, .slice none 0 0, .slice none 0 0, .slice none 0 0] ?_; clear hS; intro g5 w_ hS)
  | ((with_reducible refine qA 6 ?_); refine qa hS #[.int .i64 0, .pointer none, .slice none 0 0, .slice none 0 0, .slice none 0 0, .slice none 0 0] ?_; clear hS; intro g6 w_ hS)
  | (go_at_call 45; refine (rmake31_any HL.out hS kp).mono ?_; clear hS; rintro e w_ ⟨u, p, L, R, rfl, hM, hS⟩; replace hM := Lib.hid hM; obtain ⟨us, rfl, hu6, hu1⟩ := hS.ro.2.cells; replace hu6 := Lib.hid hu6)
  | (go_at_call 46; refine (lproblem_any hM.out.links hM.out.hok (by have := hM.out.len; omega) hM.out.fits hS (fun D w h => h.2) (fun D w h => kt D w h.1)).mono ?_; clear hS; rintro e w_ ⟨x, rfl, hS⟩; obtain ⟨xs, rfl, hx6, hx1⟩ := hS.ro.2.cells; replace hx6 := Lib.hid hx6)
  | ((with_reducible refine qm 37 ?_); refine Bb hS 0 rfl _ _ _ rfl _ _ rfl rfl _ _ rfl (by rw [hu6.out]; kernel_rfl) (by rw [hu6.out]; rfl) hu1 ?_; clear hS; intro w_ hS; (try simp only [Act.put, Act.eval, zz, Value.cells] at hS))
  | ((with_reducible refine qm 31 ?_); refine Bb hS 0 rfl _ _ _ rfl _ _ rfl rfl _ _ rfl (by rw [hx6.out]; kernel_rfl) (by rw [hx6.out]; rfl) hx1 ?_; clear hS; intro w_ hS; (try simp only [Act.put, Act.eval, zz, Value.cells] at hS))
  | ((with_reducible refine qA 11 ?_); refine BigFrame.wpList_want rfl fun _ hK => Bq rfl rfl (hS.box 0 rfl) Tryz.underlying37 rfl (by rw [hu6.out]; kernel_rfl) (hK _ _ ?_)))
 obtain ⟨K7, k7, hJ0⟩ : ∃ K7 : (Nat -> Prop) -> World -> Prop, Hid (∀ D w, K7 D w -> (K D w /\ DY w D (.agg us) p) /\ Bg w D (.agg xs) p) /\ St w0 w_.drew (.box g6 31 xs :: .box g5 37 us :: .box g3 37 (cond (false, false).2 us #[.int .i64 0, .slice none 0 0, .int .u64 0, .slice none 0 0, .slice none 0 0, .slice none 0 0]) :: .box g2 31 (cond (false, false).1 xs #[.int .i64 0, .pointer none, .slice none 0 0, .slice none 0 0, .slice none 0 0, .slice none 0 0]) :: F) K7 := ⟨_, Lib.hid fun _ _ h => h, hS.drew⟩
 have hRr := @SR.refl w0 (fun s => .box g6 31 xs :: .box g5 37 us :: .box g3 37 (cond s.2 us #[.int .i64 0, .slice none 0 0, .int .u64 0, .slice none 0 0, .slice none 0 0, .slice none 0 0]) :: .box g2 31 (cond s.1 xs #[.int .i64 0, .pointer none, .slice none 0 0, .slice none 0 0, .slice none 0 0, .slice none 0 0]) :: F) K7
 have hRt := @SR.trans w0 (fun s => .box g6 31 xs :: .box g5 37 us :: .box g3 37 (cond s.2 us #[.int .i64 0, .slice none 0 0, .int .u64 0, .slice none 0 0, .slice none 0 0, .slice none 0 0]) :: .box g2 31 (cond s.1 xs #[.int .i64 0, .pointer none, .slice none 0 0, .slice none 0 0, .slice none 0 0, .slice none 0 0]) :: F) K7
 have hN0 : ∀ _ : Nat, True := fun _ => trivial
 clear hS
 refine ER (SR w0 (fun s => .box g6 31 xs :: .box g5 37 us :: .box g3 37 (cond s.2 us #[.int .i64 0, .slice none 0 0, .int .u64 0, .slice none 0 0, .slice none 0 0, .slice none 0 0]) :: .box g2 31 (cond s.1 xs #[.int .i64 0, .pointer none, .slice none 0 0, .slice none 0 0, .slice none 0 0, .slice none 0 0]) :: F) K7) (fun _ _ => True) ((false, false)) hRr hRt [.i (.agg xs), .i (.agg us), .b true, .s (fun v w => w.2.1 = true) fun v w w' h hb => hb.2.1 h, .s (fun v w => w.2.2 = true) fun v w w' h hb => hb.2.2 h, .b true] ?_ ⟨?_, ?_, uM, ?_, ?_, uA, trivial⟩ ?_
 ·first | assumption | (intro i; (try dsimp only); split <;> first | trivial | assumption | (left; assumption))
 ·refine uG fun b__ w hW hN hE K hK => ?_
  have e6 : b__.eval (.tmp 6) = .pointer (some ⟨g6, 0, none⟩) := hE 6
  exact Bq rfl e6 ((hW.1 hJ0).box 0 rfl) Tryz.underlying31 rfl (by rw [hx6.out]; kernel_rfl) (hK _ _ rfl ⟨hRr _, fun _ _ h => h⟩)
 ·refine uG fun b__ w hW hN hE K hK => ?_
  have e5 : b__.eval (.tmp 5) = .pointer (some ⟨g5, 0, none⟩) := hE 5
  exact Bq rfl e5 ((hW.1 hJ0).box 1 rfl) Tryz.underlying37 rfl (by rw [hu6.out]; kernel_rfl) (hK _ _ rfl ⟨hRr _, fun _ _ h => h⟩)
 ·refine uG fun b__ w hW hN hE K hK => ?_
  have e2 : b__.eval (.tmp 2) = .pointer (some ⟨g2, 0, none⟩) := hE 2
  have e15 := hE 15
  have hS := hW.1 hJ0
  exact CX rfl e2 e15 (hS.box 3 rfl) (by rw [hx6.out]; kernel_rfl) (by cases w.2.1; exact hx6.out.symm; rfl) hx1 fun w4 h1 hU => hK undef (w4, (true, w.2.2)) rfl ⟨⟨fun _ => hS.upd 3 rfl (.box g2 31 xs) (Bw hU) ⟨(hS.holds _ (List.mem_of_getElem? (i := 3) rfl)).1, h1⟩ fun _ e => .inl e, fun _ => rfl, id⟩, fun _ _ h => h⟩
 ·refine uG fun b__ w hW hN hE K hK => ?_
  have e3 : b__.eval (.tmp 3) = .pointer (some ⟨g3, 0, none⟩) := hE 3
  have e16 := hE 16
  have hS := hW.1 hJ0
  exact CX rfl e3 e16 (hS.box 2 rfl) (by rw [hu6.out]; kernel_rfl) (by cases w.2.2; exact hu6.out.symm; rfl) hu1 fun w4 h1 hU => hK undef (w4, (w.2.1, true)) rfl ⟨⟨fun _ => hS.upd 2 rfl (.box g3 37 us) (Bw hU) ⟨(hS.holds _ (List.mem_of_getElem? (i := 2) rfl)).1, h1⟩ fun _ e => .inl e, id, fun _ => rfl⟩, fun _ _ h => h⟩
 ·intro vs wz hW hT
  obtain ⟨e15, e16, e17, z3, z4, e4, -⟩ := hT
  have bx : (fun _ : Nat => True) 0 := trivial
  simp only [Aw, Act.put, zz, ze]
  obtain ⟨_, hst⟩ := z3
  obtain ⟨_, hst2⟩ := z4
  have hS : St w0 wz.1 (.box g6 31 xs :: .box g5 37 us :: .box g3 37 (cond wz.2.2 us #[.int .i64 0, .slice none 0 0, .int .u64 0, .slice none 0 0, .slice none 0 0, .slice none 0 0]) :: .box g2 31 (cond wz.2.1 xs #[.int .i64 0, .pointer none, .slice none 0 0, .slice none 0 0, .slice none 0 0, .slice none 0 0]) :: F) K7 := hW.1 hJ0
  rw [show wz.2.1 = true from hst, show wz.2.2 = true from hst2] at hS
  dsimp only [cond] at hS
  clear hW hJ0 hRr hRt hN0 hst hst2
  generalize wz.1 = wf at *
  simp only [show vs (4 : Nat) = _ from e4]
  go_wp2_with fail
  refine ret_cct Tryz.results14 rfl (hS.box 3 rfl) Tryz.underlying31 rfl (by rw [hx6.out]; kernel_rfl) rfl (hS.box 2 rfl) Tryz.underlying37 rfl (by rw [hu6.out]; kernel_rfl) rfl rfl ?_
  exact ⟨_, _, rfl, p, ⟨L, R, hM.out⟩, (hS.sub (F' := F) ((((List.sublist_cons_self _ _).trans (List.sublist_cons_self _ _)).trans (List.sublist_cons_self _ _)).trans (List.sublist_cons_self _ _))).mono (KS.out.and (Gv.and Fp)) fun D w h => ⟨(k7.out _ _ h).1.1, (k7.out _ _ h).2, (k7.out _ _ h).1.2⟩⟩
end
section
open Go.RowKit
attribute [local go_sem ↓] Go.wp_at_zero Go.wp_at_succ
set_option maxRecDepth 20000
set_option exponentiation.threshold 5000
theorem hasB_nat {N t : Nat} : BS N (t : Int) = N.testBit t := by simp [BS]
end
section
open Go.RowKit
set_option exponentiation.threshold 5000
theorem rolesN_mask : ∀ R, R < 6 -> Dw R = BB R := by decide
theorem role_in : ∀ R, R < 6 -> ∀ z, z < 6 -> 1 <= z -> z <= R -> (BB R).testBit z = true := by decide
theorem Gl {R : Nat} (hR : R <= 5) {i : Int} (h1 : 1 <= i) (h2 : i <= R) : BS (BB R) i = true := by
 obtain ⟨z, rfl⟩ : ∃ z : Nat, i = (z : Int) := ⟨i.toNat, by omega⟩
 rw [hasB_nat]
 exact role_in R (by omega) z (by omega) (by omega) (by omega)
theorem over_of {m : Nat} {z : Nat × Nat} (h1 : z.1 &&& m = z.1) (h2 : z.2 &&& m = z.2) : GA m z = true := by
 unfold GA
 rw [beq_iff_eq]
 exact Bx fun i => by
  have a : (z.1 &&& m).testBit i = z.1.testBit i := by rw [h1]
  have b : (z.2 &&& m).testBit i = z.2.testBit i := by rw [h2]
  rw [Nat.testBit_and] at a b
  rw [Nat.testBit_and, Nat.testBit_or]
  cases h3 : z.1.testBit i <;> cases h4 : z.2.testBit i <;> cases h5 : m.testBit i <;> simp_all
theorem DI.check {p : Ac} {L : List (Nat × Nat)} {R : Nat} (h : DI p L R) : checkE p = 0 := by
 have hR := h.r5
 have hm := rolesN_mask R (by omega)
 have hc : ∀ z ∈ p.cubes, z.1 &&& BB R = z.1 /\ z.2 &&& BB R = z.2 /\ z.1 &&& z.2 = 0 := fun z hz => by
  unfold Ac.cubes at hz
  rcases List.mem_append.1 hz with hz | hz
  ·rcases List.mem_append.1 hz with hz | hz
   ·obtain ⟨r, hr, rfl⟩ := List.mem_map.1 hz
    have := h.rules r hr
    exact ⟨this.2.2.1, this.2.2.2.1, this.2.2.2.2.1⟩
   ·have := (h.never z hz).1; exact ⟨this.1, this.2.1, this.2.2.1⟩
  ·have := h.goal z hz; exact ⟨this.1, this.2.1, this.2.2.1⟩
 unfold checkE
 rw [h.links]
 dsimp only
 rw [h.roles, Int.toNat_natCast, hm, if_neg (by have := h.r2; omega), if_neg (by have := h.rlen; have := h.nlen; have := h.glen; omega), if_neg, if_neg, if_neg]
 ·unfold goodB
  rw [h.links]
  dsimp only
  intro e
  rw [Bool.not_eq_false', List.any_eq_true] at e
  obtain ⟨z, hz, e⟩ := e
  rw [(h.never z hz).2] at e; cases e
 ·rintro (e | e)
  ·obtain ⟨z, hz, e⟩ := List.any_eq_true.1 e
   rw [(hc z hz).2.2] at e; cases e
  ·have : p.rules.all revB = true := List.all_eq_true.2 fun r hr => by
    unfold revB
    cases hr' : r.revoke with
    | false => rfl
    | true =>
     have := (h.rules r hr).2.2.2.2.2.2.2 hr'
     simp [this]
   rw [this] at e; cases e
 ·have : DU p L (BB R) = true := by
   unfold DU
   rw [Bool.and_eq_true, Bool.and_eq_true, Bool.and_eq_true]
   refine ⟨by rw [h.start]; simp, List.all_eq_true.2 fun z hz => ?_, List.all_eq_true.2 fun r hr => ?_, List.all_eq_true.2 fun z hz => over_of (hc z hz).1 (hc z hz).2.1⟩
   ·have := h.inr z hz
    rw [Bool.and_eq_true]
    exact ⟨Gl hR (by omega) (by omega), Gl hR (by omega) (by omega)⟩
   ·have := (h.rules r hr).1
    exact Gl hR (by omega) (by omega)
  rw [this]; exact nofun
end
section
open Go.RowKit
def Sp.g {X : Type} {R : X -> X -> Prop} (c : Bool) (v : Value) : Sp R := .i (cond c v undef)
section
variable {X : Type} {κ : Kd X} {P : Program} {ops : Array Oper} {l : List (Sp κ.R)} {a0 : Act} {Q : Exit -> Act -> World -> Prop} {i : Nat} {o : Oper}
theorem uY {j : Nat} {c : Bool} {oj : Oper} {d : Tmp} (h : o.guard = some (j, c) := by rfl) (h1 : ops[j]? = some oj := by rfl) (h2 : oj.dst = some d := by rfl) (h3 : src ops d o.after.toList = some j := by rfl) (h4 : l[j]? = some (.i (.bool !c)) := by rfl) (hs : ∀ x, Sp.T l i undef x := by first | exact fun _ => rfl | exact fun _ => trivial | exact fun _ => nofun) : BL κ P ops l a0 Q i o := fun b x hC hN hE =>
 ⟨fun hw => (by rw [DA h h1 h2 ((Ev.n h3 h4).at hE : b.eval (.tmp _) = _)] at hw; cases c <;> cases hw), fun _ => hs x⟩
theorem uX {j : Nat} {c : Bool} {oj : Oper} {d : Tmp} (h : o.guard = some (j, c) := by rfl) (h1 : ops[j]? = some oj := by rfl) (h2 : oj.dst = some d := by rfl) (h3 : src ops d o.after.toList = some j := by rfl) (h4 : l[j]? = some (.i undef) := by rfl) (hs : ∀ x, Sp.T l i undef x := by first | exact fun _ => rfl | exact fun _ => trivial | exact fun _ => nofun) : BL κ P ops l a0 Q i o := fun b x hC hN hE =>
 ⟨fun hw => (by
  have h5 : b.eval (.tmp d) = undef := (Ev.n h3 h4).at hE
  have h6 : yielded ops b.tmps j = none := by
   have h7 : ((some oj).bind fun x => x.dst) = some d := h2
   unfold yielded
   rw [h1, h7]
   simp only [Option.bind_some]
   cases h7 : b.tmps[d]? with
   | none => rfl
   | some v =>
    have : v = undef := by simpa [Act.eval, h7] using h5
    subst this; rfl
  simp [Region.wanted, h, h6] at hw), fun _ => hs x⟩
end
end
section
open Go.RowKit
attribute [local go_sem ↓] Go.wp_at_zero Go.wp_at_succ
set_option maxRecDepth 20000
set_option exponentiation.threshold 5000
theorem or_with {N t : Nat} (ht : t < 64) : N ||| 2 ^ t = C9 N (t : Int) := by
 unfold C9
 rw [if_pos ⟨by omega, by omega⟩, Int.toNat_natCast]
end
section
open Go.RowKit
attribute [local go_sem ↓] Go.wp_at_zero Go.wp_at_succ
set_option maxRecDepth 20000
set_option exponentiation.threshold 5000
theorem mask_with {R N t : Nat} (hR : R <= 5) (hN : N &&& BB R = N) (h1 : 1 <= t) (h2 : t <= R) : C9 N (t : Int) &&& BB R = C9 N (t : Int) := by
 rw [<- or_with (by omega)]
 refine Bx fun i => ?_
 have hN' : (N &&& BB R).testBit i = N.testBit i := by rw [hN]
 rw [Nat.testBit_and] at hN'
 rw [Nat.testBit_and, Nat.testBit_or, Nat.testBit_two_pow]
 by_cases e : t = i
 ·subst e
  rw [role_in R (by omega) t (by omega) h1 h2]; simp
 ·simp only [e, decide_false, Bool.or_false]
  exact Bool.eq_iff_iff.1 hN'
theorem mask_del {R N : Nat} (t : Int) (hN : N &&& BB R = N) : del N t &&& BB R = del N t := by
 unfold del
 split
 ·rename_i hb
  refine Bx fun i => ?_
  have hN' : (N &&& BB R).testBit i = N.testBit i := by rw [hN]
  rw [Nat.testBit_and] at hN'
  have hb' : N.testBit t.toNat = true := by unfold BS at hb; simp only [Bool.and_eq_true] at hb; exact hb.2
  rw [Nat.testBit_and, Nat.testBit_xor, Nat.testBit_two_pow]
  by_cases e : t.toNat = i
  ·rw [e] at hb' ⊢; simp [hb']
  ·simp only [e, decide_false, Bool.xor_false]; exact Bool.eq_iff_iff.1 hN'
 ·exact hN
theorem stepM_mask {p : Ac} {L : List (Nat × Nat)} {R N M : Nat} {k : Int} (hM : DI p L R) (hN : N &&& BB R = N) (h : stepM p N k = some M) : M &&& BB R = M := by
 unfold stepM at h
 split at h
 ·rename_i hk
  split at h
  ·injection h with h
   subst h
   have hj : k.toNat < p.rules.length := by omega
   have hz := hM.rules _ (List.mem_of_getElem? (Cf AX hj))
   generalize p.rules.getD k.toNat AX = z at *
   unfold E2
   split
   ·exact mask_del _ hN
   ·have h1 := hz.1
    have := mask_with (t := z.target.toNat) hM.r5 hN (by omega) (by omega)
    rwa [show ((z.target.toNat : Nat) : Int) = z.target by omega] at this
  ·cases h
 ·cases h
theorem mask_lt {R N : Nat} (hR : R <= 5) (hN : N &&& BB R = N) : N < 64 := by
 have h1 : BB R <= 62 := by
  have : ∀ R, R < 6 -> BB R <= 62 := by decide
  exact this R (by omega)
 have h2 : N &&& BB R <= BB R := Nat.and_le_right
 omega
theorem Rch.mask {p : Ac} {L : List (Nat × Nat)} {R s : Nat} (hM : DI p L R) (h : Rch p s) : s &&& BB R = s := by
 induction h with
 | start => exact hM.start
 | step _ hk ih => exact stepM_mask hM ih hk
end
section
open Go.RowKit
set_option exponentiation.threshold 5000
section
variable {p : Ac} {L : List (Nat × Nat)} {R A k i : Nat}
end
noncomputable def runTo (p : Ac) : Nat -> Nat -> List Int -> Nat × Nat × Bool
 | N, n, [] => (N, n, true)
 | N, n, k :: r => match stepM p N k with
  | none => (N, n, false)
  | some M => runTo p M (n + 1) r
theorem C5 {p : Ac} {N M n : Nat} {k : Int} {r : List Int} (h : stepM p N k = some M) : runTo p N n (k :: r) = runTo p M (n + 1) r := by rw [runTo, h]
theorem D6 {p : Ac} {N n : Nat} {k : Int} {r : List Int} (h : stepM p N k = none) : runTo p N n (k :: r) = (N, n, false) := by rw [runTo, h]
theorem F8 {p : Ac} {k : Int} {M M' : Nat} : ∀ {l : List Int} {N n m : Nat}, runTo p N n l = (M, m, true) -> stepM p M k = some M' -> runTo p N n (l ++ [k]) = (M', m + 1, true)
 | [], N, n, m, h, hk => by
  simp only [runTo, Prod.mk.injEq] at h
  obtain ⟨rfl, rfl, _⟩ := h
  show runTo p N n [k] = _
  rw [C5 hk]; rfl
 | j :: r, N, n, m, h, hk => by
  cases hj : stepM p N j with
  | none => rw [D6 hj] at h; simp at h
  | some N' =>
   rw [C5 hj] at h
   show runTo p N n (j :: (r ++ [k])) = _
   rw [C5 hj]
   exact F8 h hk
theorem Gt {p : Ac} {N M : Nat} {k : Int} (h : stepM p N k = some M) : ∃ j : Nat, k = (j : Int) /\ j < p.rules.length := by
 unfold stepM at h
 split at h
 ·rename_i hk
  exact ⟨k.toNat, by omega, by omega⟩
 ·cases h
section
variable {p : Ac} {L : List (Nat × Nat)} {R : Nat}
end
end
section
open Go.RowKit
attribute [local go_sem ↓] Go.wp_at_zero Go.wp_at_succ
set_option maxRecDepth 20000
def CL (a b : Nat) : Int := if a < b then -1 else if b < a then 1 else 0
def Bn : List Nat -> List Nat -> Int
 | [], [] => 0
 | [], _ :: _ => -1
 | _ :: _, [] => 1
 | a :: r, b :: s => if CL a b = 0 then Bn r s else CL a b
theorem cmpL_at {l m : List Nat} {i a b : Nat} (h1 : l[i]? = some a) (h2 : m[i]? = some b) : Bn (l.drop i) (m.drop i) = if CL a b = 0 then Bn (l.drop (i + 1)) (m.drop (i + 1)) else CL a b := by
 obtain ⟨h3, rfl⟩ := List.getElem?_eq_some_iff.1 h1
 obtain ⟨h4, rfl⟩ := List.getElem?_eq_some_iff.1 h2
 rw [List.drop_eq_getElem_cons h3, List.drop_eq_getElem_cons h4]
 rfl
theorem cmpL_end1 {l m : List Nat} {i : Nat} (h1 : i < l.length) (h2 : m.length <= i) : Bn (l.drop i) (m.drop i) = 1 := by
 rw [List.drop_eq_getElem_cons h1, List.drop_eq_nil_of_le h2]; rfl
theorem cmpL_end2 {l m : List Nat} (h2 : l.length < m.length) : Bn (l.drop l.length) (m.drop l.length) = -1 := by
 rw [List.drop_eq_getElem_cons h2, List.drop_eq_nil_of_le (Nat.le_refl _)]; rfl
theorem cmpL_end3 {l m : List Nat} (h2 : l.length = m.length) : Bn (l.drop l.length) (m.drop l.length) = 0 := by
 rw [List.drop_eq_nil_of_le (Nat.le_refl _), List.drop_eq_nil_of_le (Nat.le_of_eq h2.symm)]; rfl
theorem nan_any (a : Int) (w0 : World) : Calls Tryz.prog 132 #[.int .i64 a] w0 (AE (fun x _ => x = .bool false) w0) := by
 go_enter Tryz.func132, Tryz.ntmps132
 go_wp2_with (first | ((with_reducible refine qB ?_); refine qc ?_ ?_ <;> intro h_ <;> go_prune))
 go_ret
 exact AE.mk rfl (Below.refl _ _)
theorem ccmp_any (a b : Nat) (w0 : World) : Calls Tryz.prog 99 #[.int .i64 (a : Nat), .int .i64 (b : Nat)] w0 (AE (fun x _ => x = .int .i64 (CL a b)) w0) := by
 obtain ⟨hS⟩ : Nonempty (St w0 w0 [] fun _ _ => True) := ⟨St.start (D := fun _ => True) (fun _ _ _ _ _ _ _ _ => trivial) trivial⟩
 obtain ⟨z, hz⟩ : ∃ z, CL a b = z := ⟨_, rfl⟩
 rw [hz]
 go_enter Tryz.func99, Tryz.ntmps99
 rcases Nat.lt_trichotomy a b with h | h | h
 ·obtain rfl : z = -1 := by rw [<- hz]; unfold CL; rw [if_pos h]
  clear hz
  go_wp2_with (first
   | ((with_reducible refine qB ?_); refine qc ?_ ?_ <;> intro h_ <;> go_prune)
   | (go_at_call 132; refine (nan_any _ _).mono ?_; rintro r_ w_ ⟨_, rfl, rfl, hb_⟩; replace hS := hS.ext hb_; clear hb_))
  go_ret
  exact AE.mk rfl hS.below
 ·obtain rfl : z = 0 := by rw [<- hz]; unfold CL; rw [if_neg (by omega), if_neg (by omega)]
  clear hz
  go_wp2_with (first
   | ((with_reducible refine qB ?_); refine qc ?_ ?_ <;> intro h_ <;> go_prune)
   | (go_at_call 132; refine (nan_any _ _).mono ?_; rintro r_ w_ ⟨_, rfl, rfl, hb_⟩; replace hS := hS.ext hb_; clear hb_))
  go_ret
  exact AE.mk rfl hS.below
 ·obtain rfl : z = 1 := by rw [<- hz]; unfold CL; rw [if_neg (by omega), if_pos h]
  clear hz
  go_wp2_with (first
   | ((with_reducible refine qB ?_); refine qc ?_ ?_ <;> intro h_ <;> go_prune)
   | (go_at_call 132; refine (nan_any _ _).mono ?_; rintro r_ w_ ⟨_, rfl, rfl, hb_⟩; replace hS := hS.ext hb_; clear hb_))
  go_ret
  exact AE.mk rfl hS.below
set_option maxHeartbeats 1000000 in
theorem scmp_any {w0 : World} {D E : Nat -> Prop} {u v : Value} {l m : List Nat} (hu : Sl w0 D 1 u l.length (AV l)) (hv : Sl w0 E 1 v m.length (AV m)) (hl : l.length <= 1000000) (hm : m.length <= 1000000) :
  Calls Tryz.prog 49 #[u, v] w0 (AE (fun x _ => x = .int .i64 (Bn l m)) w0) := by
 obtain ⟨A, c, rfl, _, _⟩ := hu.shape
 obtain ⟨B, d, rfl, _, _⟩ := hv.shape
 obtain ⟨K, k1, k2, hS⟩ : ∃ K : (Nat -> Prop) -> World -> Prop, (∀ D w, K D w -> Sl w D 1 (.slice A l.length c) l.length (AV l)) /\ (∀ D w, K D w -> Sl w D 1 (.slice B m.length d) m.length (AV m)) /\ St w0 w0 [] K := ⟨fun D w => Sl w D 1 (.slice A l.length c) l.length (AV l) /\ Sl w D 1 (.slice B m.length d) m.length (AV m), fun _ _ h => h.1, fun _ _ h => h.2, St.start (D := fun _ => True) ((Ah (by decide)).and (Ah (by decide))) ⟨hu.imp fun _ _ _ => trivial, hv.imp fun _ _ _ => trivial⟩⟩
 clear hu hv
 obtain ⟨z, hz⟩ : ∃ z, Bn l m = z := ⟨_, rfl⟩
 rw [hz]
 go_enter Tryz.func49, Tryz.ntmps49
 go_wp2_with fail
 go_loopw [11] (fun iv wr => ∃ i : Nat, iv = .int .i64 (i : Nat) /\ i <= l.length /\ i <= m.length /\ Hid (Bn (l.drop i) (m.drop i) = z) /\ St w0 wr [] K) (fun i _ => l.length - (intOf i).toNat)
 case atStart => exact ⟨0, rfl, by omega, by omega, Lib.hid hz, hS⟩
 case round =>
  clear hS hz
  obtain ⟨i, rfl, hi, hj, HZ, hS⟩ := hrel
  by_cases hil : i < l.length
  ·obtain ⟨b, o, rfl⟩ := sl_pos (k1 _ _ hS.ro) (by omega)
   obtain ⟨y, hy⟩ : ∃ y, l[i]? = some y := ⟨_, List.getElem?_eq_getElem hil⟩
   have HX : Hid ((AV l)[i]? = some (.int .i64 (y : Nat))) := Lib.hid (by unfold AV; rw [List.getElem?_map, hy]; rfl)
   have HY := Lib.hid hy
   clear hy
   by_cases him : i < m.length
   ·obtain ⟨b2, o2, rfl⟩ := sl_pos (k2 _ _ hS.ro) (by omega)
    obtain ⟨x, hx⟩ : ∃ x, m[i]? = some x := ⟨_, List.getElem?_eq_getElem him⟩
    have HX2 : Hid ((AV m)[i]? = some (.int .i64 (x : Nat))) := Lib.hid (by unfold AV; rw [List.getElem?_map, hx]; rfl)
    have HE := Lib.hid (cmpL_at HY.out hx)
    rw [HZ.out] at HE
    clear hx HZ
    by_cases e : CL y x = 0
    ·have HC := Lib.hid e
     have HE2 : Hid (Bn (l.drop (i + 1)) (m.drop (i + 1)) = z) := Lib.hid (by rw [HE.out, if_pos e])
     clear e HE
     go_wp2_with (first
      | ((with_reducible refine qB ?_); refine qc ?_ ?_ <;> intro h_ <;> go_prune)
      | ((with_reducible refine qA 15 ?_); refine BigFrame.wpList_want rfl fun _ hK => Ab rfl rfl (by kernel_rfl) (DL (k1 _ _ hS.ro) HX.out) (hK _ _ ?_))
      | ((with_reducible refine qA 23 ?_); refine BigFrame.wpList_want rfl fun _ hK => Ab rfl rfl (by kernel_rfl) (DL (k2 _ _ hS.ro) HX2.out) (hK _ _ ?_))
      | (go_at_call 99; refine (ccmp_any _ _ _).mono ?_; rw [HC.out]; rintro r_ w_ ⟨_, rfl, rfl, hb_⟩; replace hS := hS.ext hb_; clear hb_))
     exact ⟨⟨i + 1, by go_num, hil, him, HE2, hS⟩, by simp [intOf]; omega⟩
    ·have HE2 : Hid (CL y x = z) := Lib.hid (by rw [HE.out, if_neg e])
     have hz0 : z ≠ 0 := by rw [<- HE2.out]; exact e
     clear e HE
     go_wp2_with (first
      | ((with_reducible refine qB ?_); refine qc ?_ ?_ <;> intro h_ <;> go_prune)
      | ((with_reducible refine qA 15 ?_); refine BigFrame.wpList_want rfl fun _ hK => Ab rfl rfl (by kernel_rfl) (DL (k1 _ _ hS.ro) HX.out) (hK _ _ ?_))
      | ((with_reducible refine qA 23 ?_); refine BigFrame.wpList_want rfl fun _ hK => Ab rfl rfl (by kernel_rfl) (DL (k2 _ _ hS.ro) HX2.out) (hK _ _ ?_))
      | (go_at_call 99; refine (ccmp_any _ _ _).mono ?_; rw [HE2.out]; rintro r_ w_ ⟨_, rfl, rfl, hb_⟩; replace hS := hS.ext hb_; clear hb_))
     go_ret
     exact AE.mk rfl hS.below
   ·have HE : Hid (z = 1) := Lib.hid (by rw [<- HZ.out]; exact cmpL_end1 hil (by omega))
    go_wp2_with (first
     | ((with_reducible refine qB ?_); refine qc ?_ ?_ <;> intro h_ <;> go_prune)
     | ((with_reducible refine qA 15 ?_); refine BigFrame.wpList_want rfl fun _ hK => Ab rfl rfl (by kernel_rfl) (DL (k1 _ _ hS.ro) HX.out) (hK _ _ ?_)))
    go_ret
    exact AE.mk (by rw [HE.out]; rfl) hS.below
  ·obtain rfl : i = l.length := by omega
   by_cases e : l.length < m.length
   ·have HE : Hid (z = -1) := Lib.hid (by rw [<- HZ.out]; exact cmpL_end2 e)
    go_wp2_with (first | ((with_reducible refine qB ?_); refine qc ?_ ?_ <;> intro h_ <;> go_prune))
    go_ret
    exact AE.mk (by rw [HE.out]; rfl) hS.below
   ·have HE : Hid (z = 0) := Lib.hid (by rw [<- HZ.out]; exact cmpL_end3 (by omega))
    go_wp2_with (first | ((with_reducible refine qB ?_); refine qc ?_ ?_ <;> intro h_ <;> go_prune))
    go_ret
    exact AE.mk (by rw [HE.out]; rfl) hS.below
end
section
open Go.RowKit
set_option exponentiation.threshold 5000
def AtD (p : Ac) (n s : Nat) : Prop := ∃ l : List Int, l.length = n /\ ∃ m, runTo p p.start 0 l = (s, m, true)
def GoalD (p : Ac) (d : Nat) : Prop := (∃ s, AtD p d s /\ reachB p s = true) /\ ∀ n, n < d -> ∀ s, AtD p n s -> reachB p s = false
def Cw (p : Ac) (d s : Nat) : Prop := ∃ n, n <= d /\ AtD p n s
section
variable {p : Ac}
theorem nodup_sub : ∀ {l m : List Nat}, l.Nodup -> (∀ x ∈ l, x ∈ m) -> l.length <= m.length
 | [], _, _, _ => Nat.zero_le _
 | x :: r, m, h, hs => by
  have hx := hs x (by simp)
  have ih := nodup_sub (l := r) (m := m.erase x) (List.nodup_cons.1 h).2 fun y hy => (List.mem_erase_of_ne (fun e : y = x => (List.nodup_cons.1 h).1 (by rw [<- e]; exact hy))).2 (hs y (by simp [hy]))
  have h1 := List.length_erase_of_mem hx
  have h2 := List.length_pos_of_mem hx
  rw [List.length_cons]
  omega
theorem at_zero : AtD p 0 p.start := ⟨[], rfl, 0, by rw [runTo]⟩
theorem FW {n s t : Nat} {k : Int} (h : AtD p n s) (hk : stepM p s k = some t) : AtD p (n + 1) t := by
 obtain ⟨l, rfl, m, hr⟩ := h
 exact ⟨l ++ [k], by simp, _, F8 hr hk⟩
theorem run_rch : ∀ {l : List Int} {N n s m : Nat}, Rch p N -> runTo p N n l = (s, m, true) -> Rch p s
 | [], N, n, s, m, h, hr => by
  rw [runTo] at hr
  obtain rfl : N = s := by injection hr
  exact h
 | k :: r, N, n, s, m, h, hr => by
  cases hk : stepM p N k with
  | none => rw [D6 hk] at hr; simp at hr
  | some M => rw [C5 hk] at hr; exact run_rch (.step h hk) hr
theorem at_rch {n s : Nat} (h : AtD p n s) : Rch p s := by
 obtain ⟨l, _, m, hr⟩ := h
 exact run_rch .start hr
theorem DM {k : Int} : ∀ {l : List Int} {N n t m : Nat}, runTo p N n (l ++ [k]) = (t, m, true) -> ∃ s m', runTo p N n l = (s, m', true) /\ stepM p s k = some t
 | [], N, n, t, m, hr => by
  rw [List.nil_append] at hr
  cases hk : stepM p N k with
  | none => rw [D6 hk] at hr; simp at hr
  | some M =>
   rw [C5 hk, runTo] at hr
   obtain rfl : M = t := by injection hr
   exact ⟨N, n, by rw [runTo], hk⟩
 | j :: r, N, n, t, m, hr => by
  rw [List.cons_append] at hr
  cases hk : stepM p N j with
  | none => rw [D6 hk] at hr; simp at hr
  | some M =>
   rw [C5 hk] at hr
   obtain ⟨s, m', h1, h2⟩ := DM hr
   exact ⟨s, m', by rw [C5 hk]; exact h1, h2⟩
theorem at_pred {n t : Nat} (h : AtD p (n + 1) t) : ∃ s k, AtD p n s /\ stepM p s k = some t := by
 obtain ⟨l, hl, m, hr⟩ := h
 obtain ⟨r, k, rfl⟩ : ∃ r k, l = r ++ [k] := ⟨l.dropLast, l.getLast (by intro e; simp [e] at hl), (List.dropLast_concat_getLast _).symm⟩
 obtain ⟨s, m', h1, h2⟩ := DM hr
 exact ⟨s, k, ⟨r, by simpa using hl, m', h1⟩, h2⟩
theorem near_all {d : Nat} (h : ∀ s, Cw p (d + 1) s -> Cw p d s) {s : Nat} (hs : Rch p s) : Cw p d s := by
 induction hs with
 | start => exact ⟨0, Nat.zero_le _, at_zero⟩
 | step _ hk ih => obtain ⟨n, hn, h1⟩ := ih; exact h _ ⟨n + 1, by omega, FW h1 hk⟩
theorem near_mono {d e s : Nat} (h : Cw p d s) (hd : d <= e) : Cw p e s := by obtain ⟨n, hn, h⟩ := h; exact ⟨n, by omega, h⟩
theorem near_zero {s : Nat} : Cw p 0 s ↔ s = p.start := by
 constructor
 ·rintro ⟨n, hn, l, hl, m, hr⟩
  obtain rfl := List.length_eq_zero_iff.1 (by omega : l.length = 0)
  rw [runTo] at hr
  injection hr with h1 _
  exact h1.symm
 ·rintro rfl
  exact ⟨0, Nat.le_refl _, at_zero⟩
theorem near_succ {d t : Nat} : Cw p (d + 1) t ↔ Cw p d t \/ ∃ s k, Cw p d s /\ (∀ e, e < d -> ¬ Cw p e s) /\ stepM p s k = some t := by
 constructor
 ·rintro ⟨n, hn, h⟩
  rcases Nat.lt_or_ge d n with h1 | h1
  ·obtain rfl : n = d + 1 := by omega
   obtain ⟨s, k, h2, h3⟩ := at_pred h
   by_cases h4 : ∃ e, e < d /\ Cw p e s
   ·obtain ⟨e, he, i, hi, h4⟩ := h4
    exact .inl ⟨i + 1, by omega, FW h4 h3⟩
   ·exact .inr ⟨s, k, ⟨d, Nat.le_refl _, h2⟩, fun e he h5 => h4 ⟨e, he, h5⟩, h3⟩
  ·exact .inl ⟨n, h1, h⟩
 ·rintro (h | ⟨s, k, ⟨n, hn, h⟩, _, hk⟩)
  ·exact near_mono h (by omega)
  ·exact ⟨n + 1, by omega, FW h hk⟩
theorem goal_near {d : Nat} : GoalD p d ↔ (∃ s, Cw p d s /\ reachB p s = true) /\ ∀ n, n < d -> ∀ s, Cw p n s -> reachB p s = false := by
 constructor
 ·rintro ⟨⟨s, h1, h2⟩, h3⟩
  exact ⟨⟨s, ⟨d, Nat.le_refl _, h1⟩, h2⟩, fun n hn s ⟨i, hi, hs⟩ => h3 i (by omega) s hs⟩
 ·rintro ⟨⟨s, ⟨i, hi, h1⟩, h2⟩, h3⟩
  obtain rfl : i = d := by
   rcases Nat.lt_or_ge i d with h | h
   ·have := h3 i h s ⟨i, Nat.le_refl _, h1⟩
    rw [h2] at this; cases this
   ·omega
  exact ⟨⟨s, h1, h2⟩, fun n hn s hs => h3 n hn s ⟨n, Nat.le_refl _, hs⟩⟩
end
abbrev CO := Nat × Int × Int
def AK : CO := (0, -1, -1)
noncomputable def addR (p : Ac) (l : List CO) (i k : Nat) : List CO := match stepM p (l.getD i AK).1 (k : Nat) with
 | none => l
 | some t => if t ∈ l.map (·.1) then l else l ++ [(t, (i : Int), (k : Int))]
noncomputable def rowR (p : Ac) (l : List CO) (i m : Nat) : List CO := (List.range m).foldl (fun l k => addR p l i k) l
noncomputable def lvlR (p : Ac) (l : List CO) (a n : Nat) : List CO := (List.range n).foldl (fun l j => rowR p l (a + j) p.rules.length) l
theorem Cn (p : Ac) (l : List CO) (i m : Nat) : rowR p l i (m + 1) = addR p (rowR p l i m) i m := by
 unfold rowR; rw [List.range_succ, List.foldl_append]; rfl
theorem Cq (p : Ac) (l : List CO) (a n : Nat) : lvlR p l a (n + 1) = rowR p (lvlR p l a n) (a + n) p.rules.length := by
 unfold lvlR; rw [List.range_succ, List.foldl_append]; rfl
theorem CB (p : Ac) (l : List CO) (i k : Nat) : (addR p l i k = l /\ ∀ t, stepM p (l.getD i AK).1 (k : Nat) = some t -> t ∈ l.map (·.1)) \/ ∃ t, stepM p (l.getD i AK).1 (k : Nat) = some t /\ ¬ t ∈ l.map (·.1) /\ addR p l i k = l ++ [(t, (i : Int), (k : Int))] := by
 unfold addR
 cases h : stepM p (l.getD i AK).1 (k : Nat) with
 | none => exact .inl ⟨rfl, fun t ht => by cases ht⟩
 | some t =>
  by_cases h2 : t ∈ l.map (·.1)
  ·exact .inl ⟨by dsimp only; rw [if_pos h2], fun t' ht => by obtain rfl := Option.some.inj ht; exact h2⟩
  ·exact .inr ⟨t, rfl, h2, by dsimp only; rw [if_neg h2]⟩
theorem Iu (p : Ac) (l : List CO) (i k : Nat) : l <+: addR p l i k := by
 rcases CB p l i k with ⟨h, _⟩ | ⟨t, _, _, h⟩
 ·rw [h]; exact List.prefix_refl _
 ·rw [h]; exact List.prefix_append _ _
theorem D7 (p : Ac) (l : List CO) (i : Nat) : ∀ m, l <+: rowR p l i m
 | 0 => List.prefix_refl _
 | m + 1 => by rw [Cn]; exact (D7 p l i m).trans (Iu _ _ _ _)
theorem Db (p : Ac) (l : List CO) (a : Nat) : ∀ n, l <+: lvlR p l a n
 | 0 => List.prefix_refl _
 | n + 1 => by rw [Cq]; exact (Db p l a n).trans (D7 _ _ _ _)
theorem rowR_mono (p : Ac) (l : List CO) (i : Nat) {m n : Nat} (h : m <= n) : rowR p l i m <+: rowR p l i n := by
 induction h with
 | refl => exact List.prefix_refl _
 | step _ ih => rw [Cn]; exact ih.trans (Iu _ _ _ _)
theorem lvlR_mono (p : Ac) (l : List CO) (a : Nat) {m n : Nat} (h : m <= n) : lvlR p l a m <+: lvlR p l a n := by
 induction h with
 | refl => exact List.prefix_refl _
 | step _ ih => rw [Cq]; exact ih.trans (D7 _ _ _ _)
theorem ED {l m : List CO} (h : l <+: m) {i : Nat} (hi : i < l.length) : m.getD i AK = l.getD i AK := by
 obtain ⟨t, rfl⟩ := h
 rw [List.getD_eq_getElem?_getD, List.getD_eq_getElem?_getD, List.getElem?_append_left hi]
theorem mem_addR {p : Ac} {l : List CO} {i k s : Nat} : s ∈ (addR p l i k).map (·.1) ↔ s ∈ l.map (·.1) \/ stepM p (l.getD i AK).1 (k : Nat) = some s := by
 rcases CB p l i k with ⟨h, h2⟩ | ⟨t, h1, _, h⟩
 ·rw [h]; exact ⟨.inl, fun h => h.elim id (h2 s)⟩
 ·rw [h, h1, List.map_append, List.mem_append]
  constructor
  ·rintro (h | h)
   ·exact .inl h
   ·right; rw [List.map_cons, List.map_nil, List.mem_singleton] at h; rw [h]
  ·rintro (h | h)
   ·exact .inl h
   ·right; obtain rfl := Option.some.inj h; simp
theorem mem_rowR {p : Ac} {l : List CO} {i s : Nat} (hi : i < l.length) : ∀ {m : Nat}, s ∈ (rowR p l i m).map (·.1) ↔ s ∈ l.map (·.1) \/ ∃ k, k < m /\ stepM p (l.getD i AK).1 (k : Nat) = some s
 | 0 => by
  constructor
  ·exact .inl
  ·rintro (h | ⟨k, hk, _⟩)
   ·exact h
   ·omega
 | m + 1 => by
  rw [Cn, mem_addR, mem_rowR hi, ED (D7 p l i m) hi]
  constructor
  ·rintro ((h | ⟨k, hk, h⟩) | h)
   ·exact .inl h
   ·exact .inr ⟨k, by omega, h⟩
   ·exact .inr ⟨m, by omega, h⟩
  ·rintro (h | ⟨k, hk, h⟩)
   ·exact .inl (.inl h)
   ·rcases Nat.lt_or_ge k m with h1 | h1
    ·exact .inl (.inr ⟨k, h1, h⟩)
    ·obtain rfl : k = m := by omega
     exact .inr h
theorem mem_lvlR {p : Ac} {l : List CO} {a s : Nat} : ∀ {n : Nat}, a + n <= l.length -> (s ∈ (lvlR p l a n).map (·.1) ↔ s ∈ l.map (·.1) \/ ∃ j, a <= j /\ j < a + n /\ ∃ k, k < p.rules.length /\ stepM p (l.getD j AK).1 (k : Nat) = some s)
 | 0, _ => by
  constructor
  ·exact .inl
  ·rintro (h | ⟨k, hk, h, _⟩)
   ·exact h
   ·omega
 | n + 1, hn => by
  have hp := Db p l a n
  rw [Cq, mem_rowR (by have := hp.length_le; omega), mem_lvlR (by omega), ED hp (by omega)]
  constructor
  ·rintro ((h | ⟨j, h1, h2, h⟩) | h)
   ·exact .inl h
   ·exact .inr ⟨j, h1, by omega, h⟩
   ·exact .inr ⟨a + n, by omega, by omega, h⟩
  ·rintro (h | ⟨j, h1, h2, h⟩)
   ·exact .inl (.inl h)
   ·rcases Nat.lt_or_ge j (a + n) with h3 | h3
    ·exact .inl (.inr ⟨j, h1, h3, h⟩)
    ·obtain rfl : j = a + n := by omega
     exact .inr h
structure Iv (p : Ac) (l : List CO) : Prop where
 head : l[0]? = some (p.start, -1, -1)
 nodup : (l.map (·.1)).Nodup
 link : ∀ (j : Nat) (z : CO), l[j]? = some z -> 0 < j -> ∃ (i k : Nat) (y : CO), z.2.1 = (i : Int) /\ z.2.2 = (k : Int) /\ i < j /\ k < p.rules.length /\ l[i]? = some y /\ stepM p y.1 (k : Nat) = some z.1
def CN (l : List CO) : Nat -> Nat -> List Nat
 | 0, _ => []
 | n + 1, i => if 0 <= (l.getD i AK).2.1 then (l.getD i AK).2.2.toNat :: CN l n (l.getD i AK).2.1.toNat else []
def B0 (l : List CO) (i : Nat) : List Nat := (CN l (i + 1) i).reverse
section
variable {p : Ac} {l m : List CO}
theorem Iv.pos (h : Iv p l) : 0 < l.length := (List.getElem?_eq_some_iff.1 h.head).1
theorem Dc {i : Nat} (hi : i < l.length) : l[i]? = some (l.getD i AK) := by rw [List.getD_eq_getElem?_getD, List.getElem?_eq_getElem hi]; rfl
theorem FR {i : Nat} {z : CO} (h : l[i]? = some z) : l.getD i AK = z := by rw [List.getD_eq_getElem?_getD, h]; rfl
theorem Iv.from0 (h : Iv p l) {i : Nat} (hi : i < l.length) : (0 <= (l.getD i AK).2.1 ↔ 0 < i) /\ ((l.getD i AK).2.1.toNat < i \/ i = 0) := by
 rcases Nat.eq_zero_or_pos i with h0 | h0
 ·subst h0
  have e : l.getD 0 AK = (p.start, -1, -1) := FR h.head
  rw [e]; exact ⟨by simp, .inr rfl⟩
 ·obtain ⟨j, k, y, h1, -, h3, -⟩ := h.link i _ (Dc hi) h0
  rw [h1]; exact ⟨by simp; omega, .inl (by omega)⟩
theorem Fh (h : Iv p l) : ∀ (m i n : Nat), i < m -> i < l.length -> i < n -> CN l n i = CN l (i + 1) i
 | 0, _, _, h1, _, _ => by omega
 | m + 1, i, n, h1, hi, hn => by
  obtain ⟨n, rfl⟩ : ∃ k, n = k + 1 := ⟨n - 1, by omega⟩
  unfold CN
  obtain ⟨h2, h3⟩ := h.from0 hi
  split
  ·rename_i h4
   have h5 := h2.1 h4
   have h6 : (l.getD i AK).2.1.toNat < i := by omega
   rw [Fh h m _ n (by omega) (by omega) (by omega)]
   obtain ⟨i, rfl⟩ : ∃ k, i = k + 1 := ⟨i - 1, by omega⟩
   rw [Fh h m _ (i + 1) (by omega) (by omega) (by omega)]
  ·rfl
theorem Iq (h : Iv p l) {i : Nat} (hi : i < l.length) (h0 : 0 <= (l.getD i AK).2.1) : CN l (i + 1) i = (l.getD i AK).2.2.toNat :: CN l ((l.getD i AK).2.1.toNat + 1) (l.getD i AK).2.1.toNat := by
 obtain ⟨h2, h3⟩ := h.from0 hi
 have h5 := h2.1 h0
 have h6 : (l.getD i AK).2.1.toNat < i := by omega
 conv => lhs; unfold CN
 rw [if_pos h0, Fh h (i + 1) _ i (by omega) (by omega) h6]
theorem backR_end {i : Nat} (h0 : ¬ 0 <= (l.getD i AK).2.1) : CN l (i + 1) i = [] := by
 unfold CN
 rw [if_neg h0]
theorem backR_len : ∀ (n i : Nat), (CN l n i).length <= n
 | 0, _ => Nat.le_refl _
 | n + 1, i => by
  unfold CN
  split
  ·have := backR_len n (l.getD i AK).2.1.toNat
   rw [List.length_cons]; omega
  ·simp
theorem backR_pre (h : l <+: m) (hw : Iv p l) : ∀ (n i : Nat), i < l.length -> CN m n i = CN l n i
 | 0, _, _ => rfl
 | n + 1, i, hi => by
  unfold CN
  rw [ED h hi]
  split
  ·rename_i h0
   obtain ⟨h2, h3⟩ := hw.from0 hi
   have := h2.1 h0
   rw [backR_pre h hw n _ (by omega)]
  ·rfl
theorem planR_pre (h : l <+: m) (hw : Iv p l) {i : Nat} (hi : i < l.length) : B0 m i = B0 l i := by
 unfold B0
 rw [backR_pre h hw _ _ hi]
theorem D9 (hw : Iv p l) {j i k : Nat} (hj : j < l.length) (h1 : (l.getD j AK).2.1 = (i : Int)) (h2 : (l.getD j AK).2.2 = (k : Int)) : B0 l j = B0 l i ++ [k] := by
 unfold B0
 rw [Iq hw hj (by rw [h1]; omega), h1, h2, Int.toNat_natCast, Int.toNat_natCast, List.reverse_cons]
theorem DN (hw : Iv p l) : B0 l 0 = [] := by
 unfold B0
 rw [backR_end (by rw [FR hw.head]; exact of_decide_eq_true rfl)]; rfl
def Ce (l : List Nat) : List Int := l.map fun k : Nat => (k : Int)
theorem planR_run (hw : Iv p l) : ∀ (n i : Nat), i < n -> i < l.length -> runTo p p.start 0 (Ce (B0 l i)) = ((l.getD i AK).1, (B0 l i).length, true)
 | 0, _, h, _ => by omega
 | n + 1, i, hn, hi => by
  rcases Nat.eq_zero_or_pos i with h0 | h0
  ·subst h0
   rw [DN hw, FR hw.head]; rfl
  ·obtain ⟨j, k, y, h1, h2, h3, _, h5, h6⟩ := hw.link i _ (Dc hi) h0
   rw [D9 hw hi h1 h2]
   have ih := planR_run hw n j (by omega) (by omega)
   rw [FR h5] at ih
   have := F8 ih h6
   simpa [Ce] using this
theorem Gz (hw : Iv p l) : ∀ (n i : Nat), i < n -> i < l.length -> ∀ k ∈ B0 l i, k < p.rules.length
 | 0, _, h, _ => by omega
 | n + 1, i, hn, hi => by
  rcases Nat.eq_zero_or_pos i with h0 | h0
  ·subst h0
   rw [DN hw]; intro k hk; cases hk
  ·obtain ⟨j, k, y, h1, h2, h3, h4, h5, h6⟩ := hw.link i _ (Dc hi) h0
   rw [D9 hw hi h1 h2]
   intro x hx
   rw [List.mem_append, List.mem_singleton] at hx
   rcases hx with hx | rfl
   ·exact Gz hw n j (by omega) (by omega) x hx
   ·exact h4
theorem I2 (hw : Iv p l) : ∀ (n i : Nat), i < n -> i < l.length -> (B0 l i).length <= i
 | 0, _, h, _ => by omega
 | n + 1, i, hn, hi => by
  rcases Nat.eq_zero_or_pos i with h0 | h0
  ·subst h0
   rw [DN hw]; exact Nat.le_refl _
  ·obtain ⟨j, k, y, h1, h2, h3, h4, h5, h6⟩ := hw.link i _ (Dc hi) h0
   rw [D9 hw hi h1 h2, List.length_append]
   have := I2 hw n j (by omega) (by omega)
   simp; omega
theorem wf_one : Iv p [(p.start, -1, -1)] := ⟨rfl, by simp, fun j z h h0 => by
 obtain ⟨j, rfl⟩ : ∃ k, j = k + 1 := ⟨j - 1, by omega⟩
 simp at h⟩
theorem wf_addR (hw : Iv p l) {i k : Nat} (hi : i < l.length) (hk : k < p.rules.length) : Iv p (addR p l i k) := by
 rcases CB p l i k with ⟨h, _⟩ | ⟨t, h1, h2, h⟩
 ·rw [h]; exact hw
 rw [h]
 have hp := hw.pos
 refine ⟨by rw [List.getElem?_append_left hp]; exact hw.head, ?_, fun j z hz h0 => ?_⟩
 ·rw [List.map_append, List.nodup_append]
  refine ⟨hw.nodup, by simp, fun x hx y hy => ?_⟩
  simp only [List.map_cons, List.map_nil, List.mem_singleton] at hy
  subst hy
  rintro rfl
  exact h2 hx
 ·rcases Nat.lt_or_ge j l.length with h3 | h3
  ·rw [List.getElem?_append_left h3] at hz
   obtain ⟨i', k', y, q1, q2, q3, q4, q5, q6⟩ := hw.link j z hz h0
   exact ⟨i', k', y, q1, q2, q3, q4, by rw [List.getElem?_append_left (by omega)]; exact q5, q6⟩
  ·have h4 := (List.getElem?_eq_some_iff.1 hz).1
   rw [List.length_append, List.length_singleton] at h4
   obtain rfl : j = l.length := by omega
   rw [List.getElem?_append_right (Nat.le_refl _), Nat.sub_self] at hz
   obtain rfl := Option.some.inj hz
   exact ⟨i, k, _, rfl, rfl, hi, hk, by rw [List.getElem?_append_left hi]; exact Dc hi, h1⟩
theorem wf_rowR (hw : Iv p l) {i : Nat} (hi : i < l.length) : ∀ {m : Nat}, m <= p.rules.length -> Iv p (rowR p l i m)
 | 0, _ => hw
 | m + 1, hm => by
  rw [Cn]
  exact wf_addR (wf_rowR hw hi (by omega)) (by have := (D7 p l i m).length_le; omega) (by omega)
theorem wf_lvlR (hw : Iv p l) {a : Nat} : ∀ {n : Nat}, a + n <= l.length -> Iv p (lvlR p l a n)
 | 0, _ => hw
 | n + 1, hn => by
  rw [Cq]
  exact wf_rowR (wf_lvlR hw (by omega)) (by have := (Db p l a n).length_le; omega) (Nat.le_refl _)
def AscR (l : List CO) (b : Nat) : Prop := ∀ i j y z, b <= i -> i < j -> l[i]? = some y -> l[j]? = some z -> y.2.1 < z.2.1 \/ y.2.1 = z.2.1 /\ y.2.2 < z.2.2
def BndR (l : List CO) (b a i k : Nat) : Prop := ∀ j z, b <= j -> l[j]? = some z -> (a : Int) <= z.2.1 /\ (z.2.1 < i \/ z.2.1 = i /\ z.2.2 < k)
theorem asc_addR {b a i k : Nat} (ha : a <= i) (h1 : AscR l b) (h2 : BndR l b a i k) : AscR (addR p l i k) b /\ BndR (addR p l i k) b a i (k + 1) := by
 have up : ∀ {z : CO}, ((a : Int) <= z.2.1 /\ (z.2.1 < (i : Int) \/ z.2.1 = (i : Int) /\ z.2.2 < (k : Int))) -> ((a : Int) <= z.2.1 /\ (z.2.1 < (i : Int) \/ z.2.1 = (i : Int) /\ z.2.2 < ((k + 1 : Nat) : Int))) := fun h => by omega
 rcases CB p l i k with ⟨h, _⟩ | ⟨t, _, _, h⟩
 ·rw [h]; exact ⟨h1, fun j z hj hz => up (h2 j z hj hz)⟩
 rw [h]
 have last : ∀ j z, (l ++ [(t, (i : Int), (k : Int))])[j]? = some z -> l[j]? = some z \/ z = (t, (i : Int), (k : Int)) /\ j = l.length := fun j z hz => by
  rcases Nat.lt_or_ge j l.length with h3 | h3
  ·rw [List.getElem?_append_left h3] at hz; exact .inl hz
  ·have h4 := (List.getElem?_eq_some_iff.1 hz).1
   rw [List.length_append, List.length_singleton] at h4
   obtain rfl : j = l.length := by omega
   rw [List.getElem?_append_right (Nat.le_refl _), Nat.sub_self] at hz
   exact .inr ⟨(Option.some.inj hz).symm, rfl⟩
 constructor
 ·intro i' j y z hb hij hy hz
  rcases last _ _ hy with hy | ⟨rfl, rfl⟩
  ·rcases last _ _ hz with hz | ⟨rfl, rfl⟩
   ·exact h1 i' j y z hb hij hy hz
   ·have := (h2 i' y hb hy).2
    exact this
  ·rcases last _ _ hz with hz | ⟨rfl, rfl⟩
   ·have := (List.getElem?_eq_some_iff.1 hz).1; omega
   ·omega
 ·intro j z hj hz
  rcases last _ _ hz with hz | ⟨rfl, rfl⟩
  ·exact up (h2 j z hj hz)
  ·exact ⟨by dsimp only; omega, .inr ⟨rfl, by dsimp only; omega⟩⟩
theorem asc_rowR {b a i : Nat} (ha : a <= i) (h1 : AscR l b) (h2 : BndR l b a i 0) : ∀ m, AscR (rowR p l i m) b /\ BndR (rowR p l i m) b a i m
 | 0 => ⟨h1, h2⟩
 | m + 1 => by
  rw [Cn]
  obtain ⟨h3, h4⟩ := asc_rowR ha h1 h2 m
  exact asc_addR ha h3 h4
theorem Ir {a : Nat} : ∀ n, AscR (lvlR p l a n) l.length /\ BndR (lvlR p l a n) l.length a (a + n) 0
 | 0 => ⟨fun i j y z hb hij hy _ => by have := (List.getElem?_eq_some_iff.1 hy).1; change i < l.length at this; omega, fun j z hj hz => by have := (List.getElem?_eq_some_iff.1 hz).1; change j < l.length at this; omega⟩
 | n + 1 => by
  obtain ⟨h1, h2⟩ := Ir n
  rw [Cq]
  obtain ⟨h3, h4⟩ := asc_rowR (p := p) (by omega) h1 h2 p.rules.length
  exact ⟨h3, fun j z hj hz => by have := h4 j z hj hz; omega⟩
theorem CF : ∀ (P : List Nat) {A B : List Nat}, Bn (P ++ A) (P ++ B) = Bn A B
 | [], _, _ => rfl
 | x :: P, A, B => by
  rw [List.cons_append, List.cons_append, Bn, if_pos (by simp [CL])]
  exact CF P
theorem CM : ∀ {P Q A B : List Nat}, P.length = Q.length -> Bn P Q = -1 -> Bn (P ++ A) (Q ++ B) = -1
 | [], [], _, _, _, h => by exact absurd h (by decide)
 | x :: P, y :: Q, A, B, e, h => by
  rw [List.cons_append, List.cons_append, Bn]
  rw [Bn] at h
  split at h
  ·rename_i h0
   rw [if_pos h0]; exact CM (by simpa using e) h
  ·rename_i h0
   rw [if_neg h0]; exact h
structure LvR (p : Ac) (d : Nat) (l : List CO) (a : Nat) : Prop where
 wf : Iv p l
 mem : ∀ s, s ∈ l.map (·.1) ↔ Cw p d s
 old : ∀ s, s ∈ (l.take a).map (·.1) ↔ ∃ e, e < d /\ Cw p e s
 le : a <= l.length
 len : ∀ j, a <= j -> j < l.length -> (B0 l j).length = d
 asc : ∀ i j, a <= i -> i < j -> j < l.length -> Bn (B0 l i) (B0 l j) = -1
theorem lv_zero : LvR p 0 [(p.start, -1, -1)] 0 where
 wf := wf_one
 mem s := by simp [near_zero]
 old s := by simp
 le := by simp
 len j _ h := by
  obtain rfl : j = 0 := by simp at h; exact h
  rw [DN (p := p) wf_one]; rfl
 asc i j _ h1 h2 := by simp at h2; omega
theorem Gp {s : Nat} (h : s ∈ l.map (·.1)) : ∃ j, j < l.length /\ (l.getD j AK).1 = s := by
 obtain ⟨z, hz, rfl⟩ := List.mem_map.1 h
 obtain ⟨j, hj⟩ := List.mem_iff_getElem?.1 hz
 exact ⟨j, (List.getElem?_eq_some_iff.1 hj).1, by rw [FR hj]⟩
theorem at_mem {j : Nat} (h : j < l.length) : (l.getD j AK).1 ∈ l.map (·.1) := List.mem_map.2 ⟨_, List.mem_of_getElem? (Dc h), rfl⟩
theorem lv_succ {d a : Nat} (h : LvR p d l a) : LvR p (d + 1) (lvlR p l a (l.length - a)) l.length := by
 have hle := h.le
 have hn : a + (l.length - a) <= l.length := by omega
 have hpre := Db p l a (l.length - a)
 have hwf := wf_lvlR h.wf hn
 obtain ⟨hasc, hbnd⟩ := Ir (p := p) (l := l) (a := a) (l.length - a)
 have hmem : ∀ s, s ∈ (lvlR p l a (l.length - a)).map (·.1) ↔ Cw p (d + 1) s := fun s => by
  rw [mem_lvlR hn, near_succ, h.mem]
  constructor
  ·rintro (h1 | ⟨j, h1, h2, k, h3, h4⟩)
   ·exact .inl h1
   ·obtain ⟨n, hn, h5⟩ := (h.mem _).1 (at_mem (l := l) (j := j) (by omega))
    exact near_succ.1 ⟨n + 1, by omega, FW h5 h4⟩
  ·rintro (h1 | ⟨t, k, h1, h2, h3⟩)
   ·exact .inl h1
   ·obtain ⟨j, hj, rfl⟩ := Gp ((h.mem _).2 h1)
    obtain ⟨k', rfl, hk⟩ := Gt h3
    refine .inr ⟨j, Nat.le_of_not_lt fun hja => ?_, by omega, k', hk, h3⟩
    obtain ⟨e, he, h4⟩ := (h.old (l.getD j AK).1).1 (by
     refine List.mem_map.2 ⟨l.getD j AK, ?_, rfl⟩
     refine List.mem_of_getElem? (i := j) ?_
     rw [List.getElem?_take, if_pos hja]
     exact Dc hj)
    exact h2 e he h4
 have new : ∀ j, l.length <= j -> j < (lvlR p l a (l.length - a)).length -> ∃ i k : Nat, a <= i /\ i < l.length /\ ((lvlR p l a (l.length - a)).getD j AK).2.1 = (i : Int) /\ ((lvlR p l a (l.length - a)).getD j AK).2.2 = (k : Int) /\ B0 (lvlR p l a (l.length - a)) j = B0 l i ++ [k] := fun j hj hj2 => by
  have hb := hbnd j _ hj (Dc hj2)
  obtain ⟨i, k, y, q1, q2, q3, -⟩ := hwf.link j _ (Dc hj2) (by have := h.wf.pos; omega)
  rw [q1] at hb
  exact ⟨i, k, by omega, by omega, q1, q2, by rw [D9 hwf hj2 q1 q2, planR_pre hpre h.wf (by omega)]⟩
 refine ⟨hwf, hmem, fun s => ?_, hpre.length_le, fun j h1 h2 => ?_, fun i j h1 h2 h3 => ?_⟩
 ·obtain ⟨t, ht⟩ := hpre
  rw [<- ht, List.take_left, h.mem]
  constructor
  ·intro h1; exact ⟨d, by omega, h1⟩
  ·rintro ⟨e, he, h1⟩; exact near_mono h1 (by omega)
 ·obtain ⟨i, k, q1, q2, -, -, q3⟩ := new j h1 h2
  rw [q3, List.length_append, h.len i q1 q2]; rfl
 ·obtain ⟨i1, k1, q1, q2, e1, f1, q3⟩ := new i h1 (by omega)
  obtain ⟨i2, k2, r1, r2, e2, f2, r3⟩ := new j (by omega) h3
  have := hasc i j _ _ h1 h2 (Dc (by omega)) (Dc h3)
  rw [e1, e2, f1, f2] at this
  rw [q3, r3]
  rcases Nat.lt_trichotomy i1 i2 with h4 | h4 | h4
  ·exact CM (by rw [h.len _ q1 q2, h.len _ r1 r2]) (h.asc i1 i2 q1 h4 r2)
  ·subst h4
   rw [CF]
   have : k1 < k2 := by omega
   simp [Bn, CL, this]
  ·omega
end
noncomputable def srchN (p : Ac) : Nat -> List CO × Nat
 | 0 => ([(p.start, -1, -1)], 0)
 | d + 1 => (lvlR p (srchN p d).1 (srchN p d).2 ((srchN p d).1.length - (srchN p d).2), (srchN p d).1.length)
theorem BC (p : Ac) : ∀ d, LvR p d (srchN p d).1 (srchN p d).2
 | 0 => lv_zero
 | d + 1 => lv_succ (BC p d)
theorem Eg (p : Ac) (d : Nat) : (srchN p d).1 <+: (srchN p (d + 1)).1 := Db _ _ _ _
theorem Hk {p : Ac} {d j : Nat} (h : j < (srchN p d).1.length) : Rch p ((srchN p d).1.getD j AK).1 := by
 obtain ⟨n, _, h1⟩ := ((BC p d).mem _).1 (at_mem h)
 exact at_rch h1
theorem Hm {p : Ac} {d : Nat} (h : (srchN p (d + 1)).1.length = (srchN p d).1.length) {s : Nat} (hs : Rch p s) : s ∈ (srchN p d).1.map (·.1) := by
 refine ((BC p d).mem s).2 (near_all (fun t ht => ?_) hs)
 rw [<- (BC p (d + 1)).mem] at ht
 rw [<- (BC p d).mem, (Eg p d).eq_of_length h.symm]
 exact ht
noncomputable def endsN (p : Ac) (d : Nat) : List Nat := (List.range (d + 1)).map fun e => (srchN p e).1.length
def HitR (p : Ac) (l : List CO) (a j : Nat) : Prop := a <= j /\ j < l.length /\ reachB p (l.getD j AK).1 = true /\ ∀ i, a <= i -> i < j -> reachB p (l.getD i AK).1 = false
def E6 (p : Ac) (l : List CO) (a : Nat) : Prop := ∀ i, a <= i -> i < l.length -> reachB p (l.getD i AK).1 = false
def Ix (p : Ac) (lim : Int) (n : Nat) (f : Bool) (pl : List Nat) (e : Int) : Prop :=
 (lim < 1 /\ n = 0 /\ f = false /\ pl = [] /\ e = 1) \/ (¬ lim < 1 /\ ¬ checkE p = 0 /\ n = 0 /\ f = false /\ pl = [] /\ e = checkE p) \/
 (¬ lim < 1 /\ checkE p = 0 /\ ∃ d, (∀ i, i < d -> E6 p (srchN p i).1 (srchN p i).2) /\ ((srchN p d).1.length : Int) <= lim /\
  ((∃ j, HitR p (srchN p d).1 (srchN p d).2 j /\ n = (srchN p d).1.length /\ f = true /\ pl = B0 (srchN p d).1 j /\ e = 0) \/
   (E6 p (srchN p d).1 (srchN p d).2 /\ (srchN p (d + 1)).1.length = (srchN p d).1.length /\ n = (srchN p d).1.length /\ f = false /\ pl = [] /\ e = 0) \/
   (E6 p (srchN p d).1 (srchN p d).2 /\ lim < ((srchN p (d + 1)).1.length : Int) /\ n = 0 /\ f = false /\ pl = [] /\ e = 3)))
end
section
open Go.RowKit
set_option exponentiation.threshold 5000
def InR (N : Nat) : Prop := ∀ i, N.testBit i = true -> 1 <= i /\ i < 64
theorem tc_nil {a b : Nat} : ¬ TC [] a b := fun h => by obtain ⟨y, h, _⟩ := h.first; simp at h
theorem closM_nil {N : Nat} (h : InR N) : closM [] N = N := Bx fun i => by
 rw [tb_closM]
 constructor
 ·rintro ⟨r, h1, h2, h3, h4⟩
  rcases (Ge (by intro x hx; simp at hx) h1).1 h4 with rfl | h5
  ·exact h3
  ·exact absurd h5 tc_nil
 ·intro hi
  exact ⟨i, (h i hi).2, (h i hi).1, hi, (Ge (by intro x hx; simp at hx) (h i hi).2).2 (.inl rfl)⟩
end
section
open Go.RowKit
set_option exponentiation.threshold 5000
set_option maxRecDepth 20000
def GP (N : Nat) : Prop := N % 2 = 0 /\ N < 64
instance (N : Nat) : Decidable (GP N) := inferInstanceAs (Decidable (_ /\ _))
theorem GP.inR {N : Nat} (h : GP N) : InR N := fun i hi => by
 constructor
 ·rcases Nat.eq_zero_or_pos i with h0 | h0
  ·subst h0
   rw [Nat.testBit_zero] at hi
   have := h.1
   simp at hi; omega
  ·exact h0
 ·rcases Nat.lt_or_ge i 64 with h1 | h1
  ·exact h1
  ·rw [Nat.testBit_lt_two_pow (Nat.lt_of_lt_of_le (Nat.lt_trans h.2 (by decide : 64 < 2 ^ 64)) (Nat.pow_le_pow_right (by decide) h1))] at hi; cases hi
def stepC (rl : List B7) (N k : Nat) : Option Nat := if k < rl.length then (if (!((BS N (rl.getD k AX).target != (rl.getD k AX).revoke) || (!(rl.getD k AX).revoke && !Bz ((rl.getD k AX).yes, (rl.getD k AX).no) N))) = true then some (E2 N (rl.getD k AX)) else none) else none
def addC (rl : List B7) (l : List CO) (i k : Nat) : List CO := match stepC rl (l.getD i AK).1 k with
 | none => l
 | some t => if t ∈ l.map (·.1) then l else l ++ [(t, (i : Int), (k : Int))]
def rowC (rl : List B7) (l : List CO) (i m : Nat) : List CO := (List.range m).foldl (fun l k => addC rl l i k) l
def lvlC (rl : List B7) (l : List CO) (a n : Nat) : List CO := (List.range n).foldl (fun l j => rowC rl l (a + j) rl.length) l
section
variable {p : Ac} (hl : p.links = some []) (hn : p.never = []) (hr : ∀ r ∈ p.rules, ∃ t : Nat, r.target = (t : Int) /\ 1 <= t /\ t < 6)
include hl hn hr
omit hr in
theorem step_nil {N k : Nat} (h : GP N) : stepM p N (k : Nat) = stepC p.rules N k := by
 unfold stepC
 by_cases hk : k < p.rules.length
 ·rw [stepM_at hl hk, if_pos hk]
  generalize p.rules.getD k AX = r
  have hg : goodB p (E2 N r) = true := by unfold goodB; rw [hl, hn]; rfl
  have hc : closP p N = N := by unfold closP; rw [hl]; exact closM_nil h.inR
  have e : stepB p N r = !((BS N r.target != r.revoke) || (!r.revoke && !Bz (r.yes, r.no) N)) := by
   unfold stepB
   rw [hc, hg, Bool.not_true, Bool.or_false]
  rw [e]
 ·rw [Hg (fun h => hk (by omega)), if_neg hk]
omit hl hn hr in
theorem ev_keep {N t : Nat} (h : GP N) (h1 : 1 <= t) (h2 : t < 6) : GP (C9 N (t : Int)) /\ GP (del N (t : Int)) := by
 have key : ∀ (N : Fin 64) (t : Fin 6), N.val % 2 = 0 -> 1 <= t.val -> GP (C9 N.val (t.val : Int)) /\ GP (del N.val (t.val : Int)) := by decide +kernel
 exact key ⟨N, h.2⟩ ⟨t, h2⟩ h.1 h1
omit hl hn in
theorem next_ev {N k t : Nat} (h : GP N) (hs : stepC p.rules N k = some t) : GP t := by
 unfold stepC at hs
 split at hs
 ·rename_i hk
  split at hs
  ·obtain rfl := Option.some.inj hs
   obtain ⟨t, ht, h1, h2⟩ := hr _ (List.mem_of_getElem? (Cf AX hk))
   obtain ⟨q1, q2⟩ := ev_keep h h1 h2
   unfold E2
   rw [ht]
   split
   ·exact q2
   ·exact q1
  ·cases hs
 ·cases hs
theorem add_nil {l : List CO} {i k : Nat} (h : ∀ z ∈ l, GP z.1) : addR p l i k = addC p.rules l i k /\ ∀ z ∈ addC p.rules l i k, GP z.1 := by
 have hi : GP (l.getD i AK).1 := by
  by_cases h1 : i < l.length
  ·exact h _ (List.mem_of_getElem? (Dc h1))
  ·rw [List.getD_eq_getElem?_getD, List.getElem?_eq_none (by omega)]; decide
 unfold addR addC
 rw [step_nil hl hn hi]
 refine ⟨rfl, ?_⟩
 split
 ·exact h
 ·rename_i t ht
  split
  ·exact h
  ·intro z hz
   rw [List.mem_append, List.mem_singleton] at hz
   rcases hz with hz | rfl
   ·exact h z hz
   ·exact next_ev hr hi ht
theorem row_nil {l : List CO} {i : Nat} (h : ∀ z ∈ l, GP z.1) : ∀ m, rowR p l i m = rowC p.rules l i m /\ ∀ z ∈ rowC p.rules l i m, GP z.1
 | 0 => ⟨rfl, h⟩
 | m + 1 => by
  obtain ⟨h1, h2⟩ := row_nil h m
  have e : rowC p.rules l i (m + 1) = addC p.rules (rowC p.rules l i m) i m := by unfold rowC; rw [List.range_succ, List.foldl_append]; rfl
  rw [Cn, e, h1]
  exact add_nil hl hn hr h2
theorem H6 {l : List CO} {a : Nat} (h : ∀ z ∈ l, GP z.1) : ∀ n, lvlR p l a n = lvlC p.rules l a n /\ ∀ z ∈ lvlC p.rules l a n, GP z.1
 | 0 => ⟨rfl, h⟩
 | n + 1 => by
  obtain ⟨h1, h2⟩ := H6 h n
  have e : lvlC p.rules l a (n + 1) = rowC p.rules (lvlC p.rules l a n) (a + n) p.rules.length := by unfold lvlC; rw [List.range_succ, List.foldl_append]; rfl
  rw [Cq, e, h1]
  exact row_nil hl hn hr h2 _
end
theorem F9 {p : Ac} {N : Nat} (hl : p.links = some []) (h : GP N) : reachB p N = p.goal.any fun z => Bz z N := by
 unfold reachB
 rw [hl]
 dsimp only
 rw [closM_nil h.inR]
def RA : Ac := ⟨3, some [], 0, [⟨false, 0, 0, 1, 0⟩, ⟨false, 2, 0, 2, 0⟩, ⟨false, 4, 2, 3, 0⟩, ⟨true, 0, 0, 1, 0⟩], [], [(8, 0)]⟩
def RB : Ac := ⟨3, some [], 0, [⟨false, 0, 0, 1, 0⟩, ⟨false, 2, 0, 2, 0⟩, ⟨false, 4, 2, 3, 0⟩], [], [(8, 0)]⟩
theorem okRA : RA.Ok := ⟨by decide, by decide, by decide, fun L h => by cases h; exact ⟨GM.nil, by decide⟩⟩
theorem okRB : RB.Ok := ⟨by decide, by decide, by decide, fun L h => by cases h; exact ⟨GM.nil, by decide⟩⟩
theorem checkRA : checkE RA = 0 := by
 have hg : goodB RA 0 = true := rfl
 show (if (3 : Int) < 1 \/ 63 < (3 : Int) then (1 : Int) else if 64 < RA.rules.length \/ 2000 < RA.never.length \/ 2000 < RA.goal.length then 3
  else if DU RA [] (Dw 3) = false then 4 else if (RA.cubes.any fun z => z.1 &&& z.2 != 0) = true \/ RA.rules.all revB = false then 6
  else if goodB RA 0 = false then 7 else 0) = 0
 rw [if_neg (by decide), if_neg (by decide), if_neg (by decide), if_neg (by decide), if_neg (by rw [hg]; decide)]
theorem checkRB : checkE RB = 0 := by
 have hg : goodB RB 0 = true := rfl
 show (if (3 : Int) < 1 \/ 63 < (3 : Int) then (1 : Int) else if 64 < RB.rules.length \/ 2000 < RB.never.length \/ 2000 < RB.goal.length then 3
  else if DU RB [] (Dw 3) = false then 4 else if (RB.cubes.any fun z => z.1 &&& z.2 != 0) = true \/ RB.rules.all revB = false then 6
  else if goodB RB 0 = false then 7 else 0) = 0
 rw [if_neg (by decide), if_neg (by decide), if_neg (by decide), if_neg (by decide), if_neg (by rw [hg]; decide)]
def CU : List CO := [(0, -1, -1), (2, 0, 0), (6, 1, 1), (4, 2, 3), (12, 3, 2)]
theorem trA : ∀ r ∈ RA.rules, ∃ t : Nat, r.target = (t : Int) /\ 1 <= t /\ t < 6 := fun r hr => by
 simp only [RA, List.mem_cons, List.not_mem_nil, or_false] at hr
 rcases hr with rfl | rfl | rfl | rfl
 ·exact ⟨1, rfl, by decide, by decide⟩
 ·exact ⟨2, rfl, by decide, by decide⟩
 ·exact ⟨3, rfl, by decide, by decide⟩
 ·exact ⟨1, rfl, by decide, by decide⟩
theorem trB : ∀ r ∈ RB.rules, ∃ t : Nat, r.target = (t : Int) /\ 1 <= t /\ t < 6 := fun r hr => by
 simp only [RB, List.mem_cons, List.not_mem_nil, or_false] at hr
 rcases hr with rfl | rfl | rfl
 ·exact ⟨1, rfl, by decide, by decide⟩
 ·exact ⟨2, rfl, by decide, by decide⟩
 ·exact ⟨3, rfl, by decide, by decide⟩
theorem srA : ∀ d, d < 5 -> srchN RA d = (CU.take (d + 1), d)
 | 0, _ => rfl
 | d + 1, h => by
  have ih := srA d (by omega)
  have e : srchN RA (d + 1) = (lvlR RA (CU.take (d + 1)) d ((CU.take (d + 1)).length - d), (CU.take (d + 1)).length) := by show (_, _) = _; rw [ih]
  have ev : ∀ z ∈ CU.take (d + 1), GP z.1 := fun z hz => (by decide : ∀ z ∈ CU, GP z.1) z (List.mem_of_mem_take hz)
  rw [e, (H6 rfl rfl trA ev _).1]
  rcases (by omega : d = 0 \/ d = 1 \/ d = 2 \/ d = 3) with rfl | rfl | rfl | rfl <;> decide
theorem srB : ∀ d, d < 3 -> srchN RB d = (CU.take (d + 1), d)
 | 0, _ => rfl
 | d + 1, h => by
  have ih := srB d (by omega)
  have e : srchN RB (d + 1) = (lvlR RB (CU.take (d + 1)) d ((CU.take (d + 1)).length - d), (CU.take (d + 1)).length) := by show (_, _) = _; rw [ih]
  have ev : ∀ z ∈ CU.take (d + 1), GP z.1 := fun z hz => (by decide : ∀ z ∈ CU, GP z.1) z (List.mem_of_mem_take hz)
  rw [e, (H6 rfl rfl trB ev _).1]
  rcases (by omega : d = 0 \/ d = 1) with rfl | rfl <;> decide
theorem srB3 : (srchN RB 3).1 = CU.take 3 := by
 have ih := srB 2 (by omega)
 have e : (srchN RB 3).1 = lvlR RB (CU.take 3) 2 ((CU.take 3).length - 2) := by show lvlR _ _ _ _ = _; rw [ih]
 have ev : ∀ z ∈ CU.take 3, GP z.1 := fun z hz => (by decide : ∀ z ∈ CU, GP z.1) z (List.mem_of_mem_take hz)
 rw [e, (H6 rfl rfl trB ev _).1]
 decide
theorem fwdA_out {n : Nat} {f : Bool} {pl : List Nat} {e : Int} (h : Ix RA 100 n f pl e) : n = 5 /\ f = true /\ pl = [0, 1, 3, 2] /\ e = 0 := by
 have rch : ∀ d, d < 5 -> reachB RA ((srchN RA d).1.getD d AK).1 = decide (d = 4) := fun d hd => by
  rw [srA d hd]
  rcases (by omega : d = 0 \/ d = 1 \/ d = 2 \/ d = 3 \/ d = 4) with rfl | rfl | rfl | rfl | rfl <;> (rw [F9 rfl (by decide)]; decide)
 have hit4 : ¬ E6 RA (srchN RA 4).1 (srchN RA 4).2 := fun hn => by
  have := hn 4 (by rw [srA 4 (by omega)]; decide) (by rw [srA 4 (by omega)]; decide)
  rw [rch 4 (by omega)] at this; cases this
 rcases h with ⟨h, _⟩ | ⟨_, h, _⟩ | ⟨_, _, d, h1, h2, h3⟩
 ·omega
 ·exact absurd checkRA h
 have hd : d <= 4 := Nat.le_of_not_lt fun h => hit4 (h1 4 h)
 have one : ∀ j, (srchN RA d).2 <= j -> j < (srchN RA d).1.length -> j = d := fun j => by
  rw [srA d (by omega)]
  intro a b
  have hlen : (CU.take (d + 1)).length = d + 1 := by rw [List.length_take]; show min _ 5 = _; omega
  dsimp only at a b
  omega
 rcases h3 with ⟨j, ⟨q1, q2, q3, _⟩, rfl, rfl, rfl, rfl⟩ | ⟨q1, q2, -⟩ | ⟨q1, q2, -⟩
 ·obtain rfl := one j q1 q2
  rw [rch _ (by omega)] at q3
  obtain rfl : j = 4 := of_decide_eq_true q3
  rw [srA 4 (by omega)]
  decide
 ·rcases (by omega : d = 4 \/ d < 4) with rfl | hd
  ·exact absurd q1 hit4
  ·rw [srA d (by omega), srA (d + 1) (by omega)] at q2
   dsimp only at q2
   rw [List.length_take, List.length_take, show CU.length = 5 from rfl] at q2
   omega
 ·rcases (by omega : d = 4 \/ d < 4) with rfl | hd
  ·exact absurd q1 hit4
  ·rw [srA (d + 1) (by omega)] at q2
   dsimp only at q2
   rw [List.length_take, show CU.length = 5 from rfl] at q2
   omega
theorem rchRB : ∀ d, d < 3 -> E6 RB (srchN RB d).1 (srchN RB d).2 := fun d hd j a b => by
 have e := srB d hd
 rw [e] at a b ⊢
 have hlen : (CU.take (d + 1)).length = d + 1 := by rw [List.length_take]; show min _ 5 = _; omega
 dsimp only at a b ⊢
 obtain rfl : j = d := by omega
 rcases (by omega : j = 0 \/ j = 1 \/ j = 2) with rfl | rfl | rfl <;> (rw [F9 rfl (by decide)]; decide)
theorem fwdB_out {n : Nat} {f : Bool} {pl : List Nat} {e : Int} (h : Ix RB 3 n f pl e) : n = 3 /\ f = false /\ pl = [] /\ e = 0 := by
 rcases h with ⟨h, _⟩ | ⟨_, h, _⟩ | ⟨_, _, d, h1, h2, h3⟩
 ·omega
 ·exact absurd checkRB h
 have hlen : ∀ d, d < 3 -> (srchN RB d).1.length = d + 1 := fun d hd => by
  rw [srB d hd]; show (CU.take (d + 1)).length = _; rw [List.length_take]; show min _ 5 = _; omega
 have h33 : (srchN RB 3).1.length = 3 := by rw [srB3]; rfl
 have stop : ∀ k, (srchN RB (3 + k)).1.length = 3 /\ ∀ s ∈ (srchN RB (3 + k)).1.map (·.1), s ∈ (srchN RB 2).1.map (·.1) := fun k => by
  have hall : ∀ s ∈ (srchN RB (3 + k)).1.map (·.1), s ∈ (srchN RB 2).1.map (·.1) := fun s hs => by
   obtain ⟨j, hj, rfl⟩ := Gp hs
   exact Hm (by rw [h33, hlen 2 (by omega)]) (Hk hj)
  refine ⟨?_, hall⟩
  have a := nodup_sub (BC RB (3 + k)).wf.nodup hall
  rw [List.length_map, List.length_map, hlen 2 (by omega)] at a
  have b : 3 <= (srchN RB (3 + k)).1.length := by
   clear a hall
   induction k with
   | zero => rw [h33]; omega
   | succ k ih => have := (Eg RB (3 + k)).length_le; exact Nat.le_trans ih this
  omega
 have hno : ∀ d, E6 RB (srchN RB d).1 (srchN RB d).2 := fun d => by
  rcases Nat.lt_or_ge d 3 with hd | hd
  ·exact rchRB d hd
  ·obtain ⟨k, rfl⟩ : ∃ k, d = 3 + k := ⟨d - 3, by omega⟩
   intro j _ hj
   have := (stop k).2 _ (at_mem hj)
   rw [srB 2 (by omega)] at this
   have ev : ∀ s ∈ (CU.take 3).map (·.1), GP s /\ (RB.goal.any fun z => Bz z s) = false := by decide
   obtain ⟨e1, e2⟩ := ev _ this
   rw [F9 rfl e1]; exact e2
 have len3 : ∀ d, (srchN RB d).1.length <= 3 := fun d => by
  rcases Nat.lt_or_ge d 3 with hd | hd
  ·rw [hlen d hd]; omega
  ·obtain ⟨k, rfl⟩ : ∃ k, d = 3 + k := ⟨d - 3, by omega⟩
   rw [(stop k).1]; omega
 rcases h3 with ⟨j, ⟨q1, q2, q3, _⟩, _⟩ | ⟨q1, q2, rfl, rfl, rfl, rfl⟩ | ⟨q1, q2, -⟩
 ·rw [hno d j q1 q2] at q3; cases q3
 ·refine ⟨?_, rfl, rfl, rfl⟩
  rcases Nat.lt_or_ge d 3 with hd | hd
  ·rw [hlen d hd] at q2 ⊢
   rcases Nat.lt_or_ge (d + 1) 3 with h4 | h4
   ·rw [hlen _ h4] at q2; omega
   ·omega
  ·obtain ⟨k, rfl⟩ : ∃ k, d = 3 + k := ⟨d - 3, by omega⟩
   exact (stop k).1
 ·have := len3 (d + 1); omega
theorem fwdB2_out {n : Nat} {f : Bool} {pl : List Nat} {e : Int} (h : Ix RB 2 n f pl e) : e = 3 := by
 rcases h with ⟨h, _⟩ | ⟨_, h, _⟩ | ⟨_, _, d, h1, h2, h3⟩
 ·omega
 ·exact absurd checkRB h
 have hlen : ∀ d, d < 3 -> (srchN RB d).1.length = d + 1 := fun d hd => by
  rw [srB d hd]; show (CU.take (d + 1)).length = _; rw [List.length_take]; show min _ 5 = _; omega
 have hd : d < 2 := by
  rcases Nat.lt_or_ge d 2 with h | h
  ·exact h
  ·have : 3 <= (srchN RB d).1.length := by
    obtain ⟨k, rfl⟩ : ∃ k, d = 2 + k := ⟨d - 2, by omega⟩
    clear h h1 h2 h3
    induction k with
    | zero => rw [hlen 2 (by omega)]; omega
    | succ k ih => have := (Eg RB (2 + k)).length_le; exact Nat.le_trans ih this
   omega
 rcases h3 with ⟨j, ⟨q1, q2, q3, _⟩, _⟩ | ⟨q1, q2, -⟩ | ⟨-, -, -, -, -, q⟩
 ·rw [rchRB d (by omega) j q1 q2] at q3; cases q3
 ·rw [hlen d (by omega), hlen (d + 1) (by omega)] at q2; omega
 ·exact q
end
section
open Go.RowKit
attribute [local go_sem ↓] Go.wp_at_zero Go.wp_at_succ
set_option maxRecDepth 20000
def valB : List Nat -> Nat
 | [] => 0
 | x :: r => x + 256 * valB r
theorem valB_take {l : List Nat} : ∀ {k : Nat}, k < l.length -> valB (l.take (k + 1)) = valB (l.take k) + l.getD k 0 * 2 ^ (8 * k) := by
 induction l with
 | nil => intro k h; simp at h
 | cons x r ih =>
  intro k h
  cases k with
  | zero => simp [valB]
  | succ k =>
   have := ih (k := k) (by simpa using h)
   simp only [List.take_succ_cons, valB, List.getD_cons_succ] at this ⊢
   rw [this, show 8 * (k + 1) = 8 * k + 8 by omega, Nat.pow_add, Nat.mul_add]
   generalize 2 ^ (8 * k) = P
   rw [show (2 : Nat) ^ 8 = 256 from rfl, <- Nat.add_assoc]
   congr 1
   rw [Nat.mul_left_comm, Nat.mul_comm P 256]
end
section
open Go.RowKit
attribute [local go_sem ↓] Go.wp_at_zero Go.wp_at_succ
set_option maxRecDepth 20000
end
section
open Go.RowKit
set_option maxRecDepth 20000
theorem valB_append (l : List Nat) (x : Nat) : valB (l ++ [x]) = valB l + x * 2 ^ (8 * l.length) := by
 have h := valB_take (l := l ++ [x]) (k := l.length) (by simp)
 rw [List.take_of_length_le (by simp)] at h
 simpa using h
theorem Ha (N : Nat) : ∀ m, valB ((List.range m).map fun k => (N >>> (8 * k)) % 256) = N % 2 ^ (8 * m)
 | 0 => by simp [valB, Nat.mod_one]
 | m + 1 => by
  rw [List.range_succ, List.map_append, List.map_cons, List.map_nil, valB_append, Ha N m]
  rw [List.length_map, List.length_range, show 8 * (m + 1) = 8 * m + 8 by omega, Nat.pow_add, Nat.mod_mul, Nat.shiftRight_eq_div_pow]
  rw [Nat.mul_comm (2 ^ (8 * m))]
theorem Fw (N : Nat) : valB (AC N) = N := by
 unfold AC
 split
 ·rename_i h; rw [h]; rfl
 ·rw [Ha, Nat.mod_eq_of_lt]
  exact Nat.lt_of_lt_of_le Nat.lt_log2_self (Nat.pow_le_pow_right (by decide) (by omega))
end
section
open Go.RowKit Go.Maps
open Go.WideElems (Fit rd rg pl rd_val elemAt)
set_option exponentiation.threshold 5000
set_option maxRecDepth 20000
def F7 (N : Nat) : ByteArray := strOfNums ((AC N).map Int.ofNat)
def Ic (N : Nat) : List UInt8 := (AC N).map UInt8.ofNat
theorem strN_data (N : Nat) : (F7 N).data.toList = Ic N := by
 unfold F7 Ic
 rw [strOfNums_data, List.map_map]
 rfl
theorem strN_size (N : Nat) : (F7 N).size = (AC N).length := by
 unfold F7
 rw [strOfNums_size, List.length_map]
theorem keyT_inj {M N : Nat} (h : Ic M = Ic N) : M = N := by
 have hb : ∀ {l m : List Nat}, Bytes l -> Bytes m -> l.map UInt8.ofNat = m.map UInt8.ofNat -> l = m := fun {l m} hl hm e => by
  have h1 := congrArg (List.map UInt8.toNat) e
  rw [List.map_map, List.map_map] at h1
  have key : ∀ {k : List Nat}, Bytes k -> k.map (UInt8.toNat ∘ UInt8.ofNat) = k := fun {k} hk => by
   conv => rhs; rw [<- List.map_id k]
   refine List.map_congr_left fun x hx => ?_
   have := hk x hx
   simp [Nat.mod_eq_of_lt this]
  rwa [key hl, key hm] at h1
 have := hb (EU M) (EU N) h
 rw [<- Fw M, <- Fw N, this]
theorem key_mem {N : Nat} {l : List Nat} : Ic N ∈ l.map Ic ↔ N ∈ l := by
 constructor
 ·intro h
  obtain ⟨M, hM, e⟩ := List.mem_map.1 h
  rwa [<- keyT_inj e]
 ·intro h
  exact List.mem_map.2 ⟨N, h, rfl⟩
def F3 (es : Array MapEntry) (clock n : Nat) (l : List Nat) : Prop :=
 Fit Tryz.prog 9 (plainElem (H := Unit) Tryz.prog 4) es clock /\ es.size <= n /\ ∀ t : List UInt8, (DataW.map ((es.toList.map (rg Tryz.prog 9 (plainElem (H := Unit) Tryz.prog 4))).foldr DataW.insert [])).atKey (.string t) (.lit (.bool false)) = .lit (.bool (decide (t ∈ l.map Ic)))
theorem elem_bool_inv {P : Program} {e : TypeId} (he : P.underlying e = some .bool) {v : Value} {z : DataW Unit × List MemPlace} (h : plainElem P e v = some z) : ∃ x, v = .bool x /\ z = (.lit (.bool x), []) := by
 unfold plainElem at h
 rw [he] at h
 cases v <;> simp at h
 exact ⟨_, rfl, h.symm⟩
theorem map_own {w : World} {b n clock : Nat} {es : Array MapEntry} {l : List Nat} (h : F3 es clock n l) (hb : w.heap[b]? = some (.map es clock)) :
  w.ownsMap Tryz.prog 9 (plainElem (H := Unit) Tryz.prog 4) b n (DataW.map ((es.toList.map (rg Tryz.prog 9 (plainElem (H := Unit) Tryz.prog 4))).foldr DataW.insert [])) := ⟨es, clock, hb, h.1, h.2.1, rfl⟩
theorem map_made : F3 #[] 0 0 [] := by
 obtain ⟨es, clock, h1, h2, h3, h4⟩ := World.ownsMap_made default Tryz.prog 9 (plainElem (H := Unit) Tryz.prog 4)
 have e : es = #[] /\ clock = 0 := by
  rw [(MapKept.heap_alloc default _).1] at h1
  injection h1 with h1
  injection h1 with a b
  exact ⟨a.symm, b.symm⟩
 obtain ⟨rfl, rfl⟩ := e
 exact ⟨h2, h3, fun t => by simp [DataW.atKey]⟩
theorem run_seen {w : World} {b n clock : Nat} {es : Array MapEntry} {l : List Nat} (h : F3 es clock n l) (hb : w.heap[b]? = some (.map es clock)) {N : Nat} (hN : (AC N).length <= 512) :
  (Instr.lookup 99 (.map (some b)) (.string (F7 N)) false).run Tryz.prog w = .ok (.bool (decide (N ∈ l))) w := by
 obtain ⟨v, ps, hrun, hv⟩ := (map_own h hb).lookup (string_keyed Tryz.underlying9) Tryz.underlying99 (z := .bool false) (by kernel_rfl) (plainElem_bool Tryz.underlying4 false) (Go.WideMaps.keyOf_string_mk Tryz.underlying9 (s := F7 N) (by rw [strN_size]; unfold maxLen; omega))
 rw [strN_data, h.2.2] at hv
 have e : v = .bool (decide (Ic N ∈ l.map Ic)) := by
  obtain ⟨x, rfl, hx⟩ := elem_bool_inv Tryz.underlying4 hv
  injection hx with hx _
  injection hx with hx
  injection hx with hx
  rw [hx]
 rw [hrun, e]
 simp only [key_mem]
theorem run_enter {w : World} {b n clock : Nat} {es : Array MapEntry} {l : List Nat} (h : F3 es clock n l) (hb : w.heap[b]? = some (.map es clock)) {N : Nat} (hN : (AC N).length <= 512) (hn : n <= 1000000) :
  ∃ w' es' clock', (Instr.mapUpdate 99 (.map (some b)) (.string (F7 N)) (.bool true)).run Tryz.prog w = .ok () w' /\ w'.heap[b]? = some (.map es' clock') /\ F3 es' clock' (n + 1) (l ++ [N]) /\ w.grownBy w' (some b) := by
 obtain ⟨w', hrun, hown, hg⟩ := (map_own h hb).update (string_keyed Tryz.underlying9) Tryz.underlying99 (by unfold maxLen; omega) (Go.WideMaps.keyOf_string_mk Tryz.underlying9 (s := F7 N) (by rw [strN_size]; unfold maxLen; omega)) (plainElem_bool (H := Unit) Tryz.underlying4 true)
 obtain ⟨es', clock', h1, h2, h3, h4⟩ := hown
 refine ⟨w', es', clock', hrun, h1, ⟨h2, h3, fun t => ?_⟩, hg⟩
 rw [<- h4, strN_data]
 by_cases e : t = Ic N
 ·subst e
  rw [atKey_put_same (k := .string (Ic N)) ⟨_, rfl⟩ trivial]
  simp
 ·rw [atKey_put_other (by simpa using e), h.2.2]
  simp [e]
theorem Hs {w : World} {D : Nat -> Prop} {v : Value} {N : Nat} (h : Sl w D 1 v (AC N).length (Fj (AC N))) : (convert 22 9 v).run Tryz.prog w = .ok (.string (F7 N)) w := by
 obtain ⟨h1, A, c, rfl, hc1, hc2, h3⟩ := h
 have hs : F7 N = strOfNums ((AC N).map Int.ofNat) := rfl
 rw [hs]
 clear hs
 generalize AC N = l at *
 by_cases h0 : l.length = 0
 ·obtain rfl : l = [] := List.length_eq_zero_iff.1 h0
  cases A with
  | none => exact run_convert_bytes_nil w _ _ Tryz.underlying22 Tryz.underlying5 _ _ _ Tryz.underlying9
  | some a =>
   rw [run_convert_bytes_string w _ _ _ (some a) _ _ Tryz.underlying22 Tryz.underlying5 Tryz.underlying9, run_bytesToString w a _ _ [] (by simp [loadCells, loadCellsFrom])]
   rfl
 ·obtain ⟨b, o, rfl, -, -, h4⟩ := h3 (by omega)
  refine run_convert_bytes_arg w _ _ Tryz.underlying22 Tryz.underlying5 b o _ _ (l.map Int.ofNat) (by simp) (fun i hi => ?_) _ Tryz.underlying9
  have := h4 i _ (u8s_at l i hi)
  rw [this]
  simp [List.getD_eq_getElem?_getD, List.getElem?_eq_getElem hi]
end
section
open Go.RowKit
theorem Hh {P : Program} {ops : Array Oper} {rest : List Oper} {o : Oper} {a : Act} {Q : Exit -> Act -> World -> Prop} {w0 w : World} {F : List Aa} {K : (Nat -> Prop) -> World -> Prop} (h : St w0 w F K) (hg : Region.wanted o (yielded ops a.tmps) = true) (t e : TypeId) (len : Nat) (parts : Array (Nat × Operand)) (ho : o.op = .buildSlice t len parts) (ht : P.underlying t = some (.slice e)) (ps : List (Nat × Value)) (hp : (parts.map fun (i, x) => (i, a.eval x)).toList = ps) (cells : Array Value)
  (hb : Bo P e len ps = some cells) (size : Nat) (hs : cells.size = len * size) (hm : len <= 1000000000000)
  (hk : ∀ g w', St w0 w' (.own (.slice (some ⟨g, 0, none⟩) len len) e size len cells.toList :: F) K -> wpList P ops Q rest (a.put o.dst (.slice (some ⟨g, 0, none⟩) len len)) w') : wpList P ops Q (o :: rest) a w :=
 BigFrame.wpList_want hg fun _ hK => BV ho ht hp hb fun w' hX hB => hK _ _ (hk _ w' (h.new hB _ ⟨by simpa using hs, .inr ⟨w.heap.size, len, cells, rfl, Nat.le_refl _, hX, Nat.le_refl _, by unfold maxLen; omega, hs, by rw [<- hs, show cells.size = cells.toList.length by simp, List.take_length]⟩⟩))
end
section
open Go.RowKit
attribute [local go_sem ↓] Go.wp_at_zero Go.wp_at_succ
set_option maxRecDepth 20000
set_option exponentiation.threshold 5000
def Bi (w : World) (D : Nat -> Prop) (xs : List Value) (l : List CO) : Prop :=
 ∀ i z, l[i]? = some z -> ∃ a, xs[i * 3]? = some a /\ xs[i * 3 + 1]? = some (.int .i64 z.2.1) /\ xs[i * 3 + 2]? = some (.int .i64 z.2.2) /\ A5 w D (.agg #[a]) z.1
theorem B5 {xs : List Value} {l : List CO} : Ao fun D w => Bi w D xs l := fun D D' w w' h a b c i z hi => by
 obtain ⟨x, h1, h2, h3, h4⟩ := h i z hi
 exact ⟨x, h1, h2, h3, A6 D D' w w' h4 a b c⟩
theorem Bi.append {w : World} {D : Nat -> Prop} {xs ys : List Value} {l m : List CO} (hx : xs.length = l.length * 3) (h : Bi w D xs l) (k : Bi w D ys m) : Bi w D (xs ++ ys) (l ++ m) := fun i z hi => by
 rcases Nat.lt_or_ge i l.length with h1 | h1
 ·rw [List.getElem?_append_left h1] at hi
  obtain ⟨a, q0, q1, q2, q3⟩ := h i z hi
  refine ⟨a, ?_, ?_, ?_, q3⟩
  all_goals rw [List.getElem?_append_left (by omega)]; assumption
 ·rw [List.getElem?_append_right h1] at hi
  obtain ⟨a, q0, q1, q2, q3⟩ := k _ z hi
  refine ⟨a, ?_, ?_, ?_, q3⟩
  ·rw [List.getElem?_append_right (by omega), <- q0]; congr 1; omega
  ·rw [List.getElem?_append_right (by omega), <- q1]; congr 1; omega
  ·rw [List.getElem?_append_right (by omega), <- q2]; congr 1; omega
theorem Bi.single {w : World} {D : Nat -> Prop} {a : Value} {z : CO} (ha : A5 w D (.agg #[a]) z.1) : Bi w D [a, .int .i64 z.2.1, .int .i64 z.2.2] [z] := fun i x hi => by
 cases i with
 | zero => obtain rfl := Option.some.inj (show some z = some x from hi); exact ⟨a, rfl, rfl, rfl, ha⟩
 | succ i => simp at hi
section
variable {P : Program} {ops : Array Oper} {rest : List Oper} {o : Oper} {a : Act} {w0 w : World} {F : List Aa} {K : (Nat -> Prop) -> World -> Prop} {Q : Exit -> Act -> World -> Prop}
theorem st_makeMap (h : St w0 w F K) (hg : Region.wanted o (yielded ops a.tmps) = true) (t : TypeId) (ho : o.op = .makeMap t none)
  (hk : ∀ g w', St w0 w' (.obj g (.map #[] 0) :: F) K -> wpList P ops Q rest (a.put o.dst (.map (some g))) w') : wpList P ops Q (o :: rest) a w := by
 refine BigFrame.wpList_want hg fun _ hK => ?_
 unfold Oper.wp execOp
 simp only [ho, Option.map_none]
 refine hK _ _ (hk _ _ (h.new ((Below.refl _ _).alloc (Nat.le_refl _) _) (.obj w.heap.size (.map #[] 0)) ⟨Nat.le_refl _, (MapKept.heap_alloc w _).1⟩))
theorem St.enter (h : St w0 w F K) (i : Nat) {b clock n N : Nat} {es : Array MapEntry} {l : List Nat} (hi : F[i]? = some (.obj b (.map es clock))) (hm : F3 es clock n l) (hN : (AC N).length <= 512) (hn : n <= 1000000) :
  ∃ w' es' clock', (Instr.mapUpdate 99 (.map (some b)) (.string (F7 N)) (.bool true)).run Tryz.prog w = .ok () w' /\ F3 es' clock' (n + 1) (l ++ [N]) /\ St w0 w' (F.set i (.obj b (.map es' clock'))) K /\ w.grownBy w' (some b) /\ w'.heap[b]? = some (.map es' clock') := by
 obtain ⟨w', es', clock', hrun, hb, hm', hg⟩ := run_enter hm (h.holds _ (List.mem_of_getElem? hi)).2 hN hn
 exact ⟨w', es', clock', hrun, hm', h.upd i hi (.obj b (.map es' clock')) hg ⟨(h.holds _ (List.mem_of_getElem? hi)).1, hb⟩ fun _ e => .inl e, hg, hb⟩
end
theorem st_insert {ops : Array Oper} {rest : List Oper} {o : Oper} {a : Act} {w0 w : World} {F : List Aa} {K : (Nat -> Prop) -> World -> Prop} {Q : Exit -> Act -> World -> Prop} (h : St w0 w F K) (i : Nat) (hg : Region.wanted o (yielded ops a.tmps) = true) (m x v : Operand) (ho : o.op = .insert 99 m x v) {b clock n N : Nat} {es : Array MapEntry} {l : List Nat} (hi : F[i]? = some (.obj b (.map es clock))) (hm : F3 es clock n l) (hN : (AC N).length <= 512) (hn : n <= 1000000)
  (hem : a.eval m = .map (some b)) (hex : a.eval x = .string (F7 N)) (hev : a.eval v = .bool true) (hk : ∀ es' clock' w', F3 es' clock' (n + 1) (l ++ [N]) -> St w0 w' (F.set i (.obj b (.map es' clock'))) K -> wpList Tryz.prog ops Q rest (a.put o.dst undef) w') : wpList Tryz.prog ops Q (o :: rest) a w := by
 obtain ⟨w', es', clock', hrun, hm', hS, -⟩ := h.enter i hi hm hN hn
 refine BigFrame.wpList_want hg fun _ hK => ?_
 unfold Oper.wp execOp
 simp only [ho, hem, hex, hev, Sem.run_bind, hrun, Result.andThen_ok]
 exact hK _ _ (hk _ _ _ hm' hS)
def CD (xs : Array Value) (lim : Int) (lv mv ev : Value) : Array Value := #[xs.getD 0 undef, xs.getD 1 undef, xs.getD 2 undef, xs.getD 3 undef, xs.getD 4 undef, xs.getD 5 undef, .int .i64 lim, lv, mv, ev]
def E7 (w0 w : World) (g : Nat) (xs : Array Value) (lim : Int) (l : List CO) (es : List Nat) (F : List Aa) (K : (Nat -> Prop) -> World -> Prop) : Prop :=
 ∃ (lv ev : Value) (cells : List Value) (b clock n : Nat) (ents : Array MapEntry), F3 ents clock n (l.map (·.1)) /\ n <= l.length /\
  St w0 w (.own lv 103 3 l.length cells :: .own ev 3 1 es.length (AV es) :: .obj b (.map ents clock) :: .box g 101 (CD xs lim lv (.map (some b)) ev) :: F) (fun D w => K D w /\ Bi w D cells l)
theorem perm4 {α : Type} (a b c d : α) (X : List α) : (a :: b :: c :: d :: X).Perm (c :: d :: b :: a :: X) :=
 (List.perm_middle (l₁ := [a, b]) (l₂ := d :: X)).trans (((List.perm_middle (l₁ := [a, b]) (l₂ := X)).trans ((List.Perm.swap b a X).cons d)).cons c)
def BegR (w0 : World) (xs : Array Value) (p : Ac) (lim : Int) (F : List Aa) (K : (Nat -> Prop) -> World -> Prop) (e : Ending) (w' : World) : Prop :=
   (lim < 1 /\ e = .returned (.tuple #[.pointer none, .int .i64 1]) /\ St w0 w' F K) \/
   (¬ lim < 1 /\ ¬ checkE p = 0 /\ e = .returned (.tuple #[.pointer none, .int .i64 (checkE p)]) /\ St w0 w' F K) \/
   (¬ lim < 1 /\ checkE p = 0 /\ ∃ g, e = .returned (.tuple #[.pointer (some ⟨g, 0, none⟩), .int .i64 0]) /\ E7 w0 w' g xs lim [(p.start, -1, -1)] [1] F K)
set_option maxHeartbeats 4000000 in
theorem begin_any {w0 w : World} {F : List Aa} {K : (Nat -> Prop) -> World -> Prop} {xs : Array Value} {p : Ac} (lim : Int) (hP : p.Ok) (hst : (AC p.start).length <= 512) (hS : St w0 w F K) (kp : ∀ D w, K D w -> Bg w D (.agg xs) p) (kt : ∀ D w, K D w -> BM w) :
  Calls Tryz.prog 47 #[.agg xs, .int .i64 lim] w (BegR w0 xs p lim F K) := by
 have HST := Lib.hid hst
 have HP := Lib.hid hP
 have HK := Lib.hid kp
 have HT := Lib.hid kt
 have KS := Lib.hid hS.stable
 obtain ⟨st, hst0⟩ : ∃ st, p.start = st := ⟨_, rfl⟩
 obtain ⟨la, Cs, ns, cs, Ar, cr, An, cn, Ag, cg, e6⟩ := Bg.shape6 (kp _ _ hS.ro)
 injection e6 with e6
 subst e6
 have HSET := Lib.hid fun D w (h : K D w) => (show A5 w D (.agg #[.slice Cs ns cs]) st by
  obtain ⟨lp, s, rv, nv, gv, e, _, h2, _⟩ := HK.out D w h
  injection e with e
  have e2 : Value.slice Cs ns cs = s := by have := congrArg (fun x : Array Value => x[2]?) e; simpa using this
  rw [<- hst0, e2]; exact h2)
 rw [hst0] at HST
 obtain ⟨E, hE⟩ : ∃ E, checkE p = E := ⟨_, rfl⟩
 have HE := Lib.hid hE
 have HR0 := Lib.hid hst0
 clear hst0 hE kp kt hst hP
 by_cases hlim : lim < 1
 ·go_enter Tryz.func47, Tryz.ntmps47
  go_wp2_with (first
   | ((with_reducible refine qA 2 ?_); refine At hS rfl _ _ rfl (.agg #[.int .i64 p.roles, .pointer la, .slice Cs ns cs, .slice Ar p.rules.length cr, .slice An p.never.length cn, .slice Ag p.goal.length cg]) _ rfl rfl ?_; clear hS; intro g2 w_ hS; (try simp only [Act.put, Act.eval, zz, Value.cells] at hS))
   | ((with_reducible refine qB ?_); refine qc ?_ ?_ <;> intro h_ <;> go_prune)
   | ((with_reducible refine qK ?_); refine qC hS ?_))
  go_ret2
  exact .inl ⟨hlim, rfl, hS.sub (List.sublist_cons_self _ _)⟩
 by_cases hE0 : E = 0
 ·subst hE0
  go_enter Tryz.func47, Tryz.ntmps47
  go_wp2_with (first
   | ((with_reducible refine qA 2 ?_); refine At hS rfl _ _ rfl (.agg #[.int .i64 p.roles, .pointer la, .slice Cs ns cs, .slice Ar p.rules.length cr, .slice An p.never.length cn, .slice Ag p.goal.length cg]) _ rfl rfl ?_; clear hS; intro g2 w_ hS; (try simp only [Act.put, Act.eval, zz, Value.cells] at hS))
   | ((with_reducible refine qB ?_); refine qc ?_ ?_ <;> intro h_ <;> go_prune)
   | ((with_reducible refine qk 31 ?_); refine BigFrame.wpList_want rfl fun _ hK => Bq rfl rfl (hS.box 0 rfl) Tryz.underlying31 rfl (by kernel_rfl) (hK _ _ ?_))
   | (go_at_call 39; refine (schk_any (HK.out _ _ hS.ro) HP.out (HT.out _ _ hS.ro)).mono ?_; rw [HE.out]; rintro r_ w_ ⟨_, rfl, rfl, hb_⟩; replace hS := hS.ext hb_; clear hb_)
   | ((with_reducible refine qA 19 ?_); refine Ad rfl _ _ rfl #[.slice Cs ns cs, .int .i64 (-1), .int .i64 (-1)] (by kernel_rfl) ?_; (try simp only [Act.put, List.setIfInBounds_toArray, List.set_cons_zero, List.set_cons_succ]))
   | ((with_reducible refine qA 20 ?_); refine Hh hS rfl _ 103 1 _ rfl Tryz.underlying98 [(0, .agg #[.slice Cs ns cs, .int .i64 (-1), .int .i64 (-1)])] (by simp [Act.eval]) #[.slice Cs ns cs, .int .i64 (-1), .int .i64 (-1)] (by kernel_rfl) 3 rfl (by decide) ?_; clear hS; intro g20 w_ hS; (try simp only [Act.put, List.setIfInBounds_toArray, List.set_cons_zero, List.set_cons_succ]))
   | ((with_reducible refine qA 21 ?_); refine Cz hS rfl _ 3 1 _ rfl Tryz.underlying40 #[.int .i64 1] (by kernel_rfl) 1 rfl (by decide) ?_; clear hS; intro g21 w_ hS; (try simp only [Act.put, List.setIfInBounds_toArray, List.set_cons_zero, List.set_cons_succ]))
   | ((with_reducible refine qA 22 ?_); refine Ad rfl _ _ rfl #[.int .i64 p.roles, .pointer la, .slice Cs ns cs, .slice Ar p.rules.length cr, .slice An p.never.length cn, .slice Ag p.goal.length cg, .int .i64 lim, .slice (some ⟨g20, 0, none⟩) 1 1, .map none, .slice (some ⟨g21, 0, none⟩) 1 1] (by kernel_rfl) ?_; (try simp only [Act.put, List.setIfInBounds_toArray, List.set_cons_zero, List.set_cons_succ]))
   | ((with_reducible refine qA 23 ?_); refine At hS rfl _ _ rfl (.agg #[.int .i64 p.roles, .pointer la, .slice Cs ns cs, .slice Ar p.rules.length cr, .slice An p.never.length cn, .slice Ag p.goal.length cg, .int .i64 lim, .slice (some ⟨g20, 0, none⟩) 1 1, .map none, .slice (some ⟨g21, 0, none⟩) 1 1]) #[.int .i64 p.roles, .pointer la, .slice Cs ns cs, .slice Ar p.rules.length cr, .slice An p.never.length cn, .slice Ag p.goal.length cg, .int .i64 lim, .slice (some ⟨g20, 0, none⟩) 1 1, .map none, .slice (some ⟨g21, 0, none⟩) 1 1] rfl rfl ?_; clear hS; intro g23 w_ hS; (try simp only [Act.put, List.setIfInBounds_toArray, List.set_cons_zero, List.set_cons_succ]))
   | ((with_reducible refine qA 25 ?_); refine st_makeMap hS rfl _ rfl ?_; clear hS; intro g25 w_ hS; (try simp only [Act.put, List.setIfInBounds_toArray, List.set_cons_zero, List.set_cons_succ]))
   | (go_at_call 97; refine (Du _ st _ _ (HSET.out _ _ hS.ro)).mono ?_; rintro r_ w_ ⟨_, rfl, h1, hb_⟩; replace hS := hS.ext hb_; clear hb_)
   | ((with_reducible refine qA 29 ?_); refine BigFrame.wpList_want rfl fun _ hK => FK (v := .string (F7 st)) rfl rfl (Hs h1) (hK _ _ ?_); clear h1)
   | ((with_reducible show wpList _ _ _ (⟨_, .insert _ _ _ _, _, _, _, _⟩ :: _) _ _); refine st_insert hS 0 rfl _ _ _ rfl rfl map_made HST.out (by decide) rfl rfl rfl ?_; clear hS; intro es' clock' w_ hm hS; (try simp only [Act.put, Act.eval, zz, Value.cells] at hS))
   | ((with_reducible refine qm 99 ?_); refine st_cstore hS 1 rfl _ _ _ rfl _ _ _ rfl rfl rfl (by simp) rfl rfl (by kernel_rfl) ?_; clear hS; intro w_ hS; (try simp only [Act.put, Act.eval, zz, Value.cells] at hS))
   | ((with_reducible refine qk 27 ?_); first | (refine AB hS 0 rfl _ _ rfl _ _ rfl _ _ rfl _ (by first | rfl | assumption) Tryz.underlying27 rfl (by kernel_rfl) ?_) | (refine AB hS 1 rfl _ _ rfl _ _ rfl _ _ rfl _ (by first | rfl | assumption) Tryz.underlying27 rfl (by kernel_rfl) ?_) | (refine AB hS 2 rfl _ _ rfl _ _ rfl _ _ rfl _ (by first | rfl | assumption) Tryz.underlying27 rfl (by kernel_rfl) ?_) | (refine AB hS 3 rfl _ _ rfl _ _ rfl _ _ rfl _ (by first | rfl | assumption) Tryz.underlying27 rfl (by kernel_rfl) ?_) | (refine AB hS 4 rfl _ _ rfl _ _ rfl _ _ rfl _ (by first | rfl | assumption) Tryz.underlying27 rfl (by kernel_rfl) ?_) | (refine AB hS 5 rfl _ _ rfl _ _ rfl _ _ rfl _ (by first | rfl | assumption) Tryz.underlying27 rfl (by kernel_rfl) ?_))
   | ((with_reducible refine qK ?_); refine qC hS ?_))
  go_ret2
  have hS2 := hS.perm (F' := .own (.slice (some ⟨g20, 0, none⟩) 1 1) 103 3 1 #[.slice Cs ns cs, .int .i64 (-1), .int .i64 (-1)].toList :: .own (.slice (some ⟨g21, 0, none⟩) 1 1) 3 1 1 [.int .i64 1] :: .obj g25 (.map es' clock') :: .box g23 101 (CD #[.int .i64 p.roles, .pointer la, .slice Cs ns cs, .slice Ar p.rules.length cr, .slice An p.never.length cn, .slice Ag p.goal.length cg] lim (.slice (some ⟨g20, 0, none⟩) 1 1) (.map (some g25)) (.slice (some ⟨g21, 0, none⟩) 1 1)) :: .box g2 31 #[.int .i64 p.roles, .pointer la, .slice Cs ns cs, .slice Ar p.rules.length cr, .slice An p.never.length cn, .slice Ag p.goal.length cg] :: F) (perm4 _ _ _ _ _)
  rw [BegR, HE.out, HR0.out]
  refine .inr (.inr ⟨by omega, rfl, g23, rfl, _, _, _, _, _, _, _, hm, by simp, (hS2.sub (by repeat (first | exact List.Sublist.refl _ | apply List.Sublist.cons_cons | apply List.Sublist.cons))).mono (KS.out.and B5) fun D w h => ⟨h, Bi.single (z := (st, -1, -1)) (HSET.out _ _ h)⟩⟩)
 ·go_enter Tryz.func47, Tryz.ntmps47
  go_wp2_with (first
   | ((with_reducible refine qA 2 ?_); refine At hS rfl _ _ rfl (.agg #[.int .i64 p.roles, .pointer la, .slice Cs ns cs, .slice Ar p.rules.length cr, .slice An p.never.length cn, .slice Ag p.goal.length cg]) _ rfl rfl ?_; clear hS; intro g2 w_ hS; (try simp only [Act.put, Act.eval, zz, Value.cells] at hS))
   | ((with_reducible refine qB ?_); refine qc ?_ ?_ <;> intro h_ <;> go_prune)
   | ((with_reducible refine qk 31 ?_); refine BigFrame.wpList_want rfl fun _ hK => Bq rfl rfl (hS.box 0 rfl) Tryz.underlying31 rfl (by kernel_rfl) (hK _ _ ?_))
   | (go_at_call 39; refine (schk_any (HK.out _ _ hS.ro) HP.out (HT.out _ _ hS.ro)).mono ?_; rw [HE.out]; rintro r_ w_ ⟨_, rfl, rfl, hb_⟩; replace hS := hS.ext hb_; clear hb_)
   | ((with_reducible refine qK ?_); refine qC hS ?_))
  go_ret2
  rw [BegR, HE.out]
  exact   .inr (.inl ⟨by omega, hE0, rfl, hS.sub (List.sublist_cons_self _ _)⟩)
end
section
open Go.RowKit
attribute [local go_sem ↓] Go.wp_at_zero Go.wp_at_succ
set_option maxRecDepth 20000
theorem i64s_at (l : List Nat) (k : Nat) (h : k < l.length) : (AV l)[k]? = some (.int .i64 (l.getD k 0 : Nat)) := by simp [AV, List.getElem?_eq_getElem h]
theorem i64s_set (l : List Nat) (k x : Nat) : AV (l.set k x) = (AV l).set k (.int .i64 (x : Nat)) := by simp [AV, List.map_set]
theorem own_seti {w x : World} {base : Nat} {e : TypeId} {g n cap k y : Nat} {l : List Nat} (h : w.ownsRow base e 1 (.slice (some ⟨g, 0, none⟩) n cap) n (AV l)) (hb : Below w.heap.size w x) :
  (x.setCell ⟨g, k, none⟩ (.int .i64 (y : Nat))).ownsRow base e 1 (.slice (some ⟨g, 0, none⟩) n cap) n (AV (l.set k y)) := by
 have h2 := ((H3 h hb).stored k (.int .i64 (y : Nat))).1
 rw [<- i64s_set] at h2
 exact h2
set_option maxHeartbeats 1000000 in
theorem srev_any (g cap : Nat) (l : List Nat) (w : World) (base : Nat) (hown : w.ownsRow base 3 1 (.slice (some ⟨g, 0, none⟩) l.length cap) l.length (AV l)) (hl : l.length <= 1000000000000) :
  Calls Tryz.prog 98 #[.slice (some ⟨g, 0, none⟩) l.length cap] w fun e w' => e = .returned (.tuple #[]) /\ w'.ownsRow base 3 1 (.slice (some ⟨g, 0, none⟩) l.length cap) l.length (AV l.reverse) /\ w.grownBy w' (some g) := by
 go_enter Tryz.func98, Tryz.ntmps98
 go_wp2
 go_loopw [2, 3] (fun i j wr => ∃ k : Nat, i = .int .i64 k /\ j = .int .i64 ((l.length : Int) - 1 - k) /\ k <= l.length /\ wr.ownsRow base 3 1 (.slice (some ⟨g, 0, none⟩) l.length cap) l.length (AV (swp l k)) /\ w.grownBy wr (some g)) (fun i _ _ => l.length - (intOf i).toNat)
 case atStart => exact ⟨0, rfl, by simp, by omega, by rw [swp_zero]; exact hown, World.grownBy.refl w _⟩
 case round =>
  clear hown
  obtain ⟨k, rfl, rfl, hk, hown, hg⟩ := hrel
  by_cases hlt : k < l.length - 1 - k
  ·obtain ⟨m, hm⟩ : ∃ m, m = l.length - 1 - k := ⟨_, rfl⟩
   have hmi : (l.length : Int) - 1 - k = m := by omega
   have hml : m < l.length := by omega
   have hkm : k < m := by omega
   have HM := Lib.hid hm
   have c1 := hown.cellAt k (by omega)
   have c2 := hown.cellAt m (by omega)
   rw [i64s_at _ _ (by rw [swp_len]; omega)] at c1 c2
   have f1 := hown.frozenAt k
   have f2 := hown.frozenAt m
   have HS := Lib.hid (swp_step l k hlt)
   rw [<- hm] at HS
   have H1 := own_seti (k := k) (y := (swp l k).getD m 0) hown (Below.refl _ _)
   have H2 := Lib.hid (own_seti (k := m) (y := (swp l k).getD k 0) H1 (Below.refl _ _))
   rw [HS.out] at H2
   have HG := Lib.hid hg
   rw [hmi]
   clear hown H1 hm hmi hg hlt
   generalize (swp l k).getD k 0 = x at *
   generalize (swp l k).getD m 0 = y at *
   go_wp2
   go_region
   all_goals
    go_wp2
    exact ⟨⟨k + 1, by go_num, by have := HM.out; congr 1; omega, by omega, H2.out, grown_drew (grown_set (grown_set HG.out _ _) _ _)⟩, by simp [intOf]; omega⟩
  ·have HS := Lib.hid (swp_end l k (by omega))
   have HO := Lib.hid hown
   clear hown
   go_wp2
   refine bodyPost_end (results_none rfl _ _ _) rfl ⟨rfl, ?_, hg⟩
   rw [<- HS.out]
   exact HO.out
end
section
open Go.RowKit
attribute [local go_sem ↓] Go.wp_at_zero Go.wp_at_succ
set_option maxRecDepth 20000
set_option exponentiation.threshold 5000
theorem srev_nil (w : World) : Calls Tryz.prog 98 #[.slice none 0 0] w fun e w' => e = .returned (.tuple #[]) /\ Below w.heap.size w w' := by
 go_enter Tryz.func98, Tryz.ntmps98
 go_wp2
 go_loopw [2, 3] (fun i j wr => i = .int .i64 0 /\ j = .int .i64 (-1) /\ Below w.heap.size w wr) (fun i _ _ => 0)
 case atStart => exact ⟨rfl, rfl, Below.refl _ _⟩
 case round =>
  obtain ⟨rfl, rfl, hb⟩ := hrel
  go_wp2
  exact bodyPost_end (results_none rfl _ _ _) rfl ⟨rfl, hb⟩
set_option maxHeartbeats 4000000 in
theorem fplan_any {w0 w : World} {g : Nat} {xs : Array Value} {lim : Int} {p : Ac} {l : List CO} {es : List Nat} {F : List Aa} {K : (Nat -> Prop) -> World -> Prop} {i : Nat} (hw : Iv p l) (hi : i < l.length) (hln : l.length <= 1000000) (hS0 : E7 w0 w g xs lim l es F K) (hKs : Ao K) :
  Calls Tryz.prog 48 #[.pointer (some ⟨g, 0, none⟩), .int .i64 (i : Nat)] w fun e w' => ∃ u, e = .returned u /\ E7 w0 w' g xs lim l es F fun D w => K D w /\ Sl w D 1 u (B0 l i).length (AV (B0 l i)) := by
 obtain ⟨lv, ev, cells, b, clock, n, ents, hm, hn, hS⟩ := hS0
 have HW := Lib.hid hw
 have HMP := Lib.hid hm
 have HN := Lib.hid hn
 have KS := Lib.hid hKs
 obtain ⟨EL, cl, rfl, hcl, _⟩ := Ba (hS.own 0 rfl) hw.pos
 obtain ⟨Ae, ce, rfl, _, _⟩ := B9 (hS.own 1 rfl)
 unfold CD at hS
 obtain ⟨xx0, hxx0⟩ : ∃ xx0, xs.getD 0 undef = xx0 := ⟨_, rfl⟩
 obtain ⟨xx1, hxx1⟩ : ∃ xx1, xs.getD 1 undef = xx1 := ⟨_, rfl⟩
 obtain ⟨xx2, hxx2⟩ : ∃ xx2, xs.getD 2 undef = xx2 := ⟨_, rfl⟩
 obtain ⟨xx3, hxx3⟩ : ∃ xx3, xs.getD 3 undef = xx3 := ⟨_, rfl⟩
 obtain ⟨xx4, hxx4⟩ : ∃ xx4, xs.getD 4 undef = xx4 := ⟨_, rfl⟩
 obtain ⟨xx5, hxx5⟩ : ∃ xx5, xs.getD 5 undef = xx5 := ⟨_, rfl⟩
 have HSC := Lib.hid (show ∀ lv mv ev, CD xs lim lv mv ev = #[xx0, xx1, xx2, xx3, xx4, xx5, .int .i64 lim, lv, mv, ev] from fun lv mv ev => by unfold CD; rw [hxx0, hxx1, hxx2, hxx3, hxx4, hxx5])
 rw [hxx0, hxx1, hxx2, hxx3, hxx4, hxx5] at hS
 clear hxx0 hxx1 hxx2 hxx3 hxx4 hxx5 hw hm hn hKs
 have HI := Lib.hid hi
 go_enter Tryz.func48, Tryz.ntmps48
 go_wp2_with fail
 replace hS := hS.nil 3 1
 go_loopw [1, 5] (fun iv ov wr => ∃ (j : Nat) (kv : Value) (out : List Nat), iv = .int .i64 (j : Nat) /\ kv = ov /\ j < l.length /\ out ++ CN l (j + 1) j = CN l (i + 1) i /\ out.length <= 1000000 /\ Hid (out = [] -> kv = .slice none 0 0) /\ St w0 wr (.own kv 3 1 out.length (AV out) :: .own (.slice (some ⟨EL, 0, none⟩) l.length cl) 103 3 l.length cells :: .own (.slice Ae es.length ce) 3 1 es.length (AV es) :: .obj b (.map ents clock) :: .box g 101 #[xx0, xx1, xx2, xx3, xx4, xx5, .int .i64 lim, .slice (some ⟨EL, 0, none⟩) l.length cl, .map (some b), .slice Ae es.length ce] :: F) (fun D w => K D w /\ Bi w D cells l)) (fun iv _ _ => (intOf iv).toNat)
 case atStart => exact ⟨i, _, [], rfl, rfl, hi, rfl, by simp, Lib.hid fun _ => rfl, hS⟩
 case round =>
  clear hS
  obtain ⟨j, kv, out, rfl, rfl, hj, ho, hol, HNIL, hS⟩ := hrel
  obtain ⟨ca, hc0, hc1, hc2, -⟩ := hS.ro.2 j _ (Dc hj)
  have HZ := Lib.hid (HW.out.from0 hj)
  have HLK := Lib.hid (HW.out.link j _ (Dc hj))
  have HO := Lib.hid ho
  have HST := Lib.hid (Iq HW.out hj)
  have HEN := Lib.hid (backR_end (l := l) (i := j))
  generalize l.getD j AK = z at *
  obtain ⟨zs, zf, zr⟩ := z
  dsimp only at hc1 hc2 HZ HLK HST HEN
  by_cases hz : 0 <= zf
  ·obtain ⟨i2, k2, y2, hf2, hr2, hlt, hkl, -, -⟩ := HLK.out (HZ.out.1.1 hz)
   subst hf2 hr2
   have hs2 := HST.out hz
   rw [Int.toNat_natCast, Int.toNat_natCast] at hs2
   have HS2 := Lib.hid hs2
   have HC1 := Lib.hid hc1
   have HC2 := Lib.hid hc2
   have hbl := backR_len (l := l) (i + 1) i
   rw [<- ho, hs2] at hbl
   have hol2 : out.length + 1 <= i + 1 := by rw [List.length_append, List.length_cons] at hbl; omega
   clear hc0 hc1 hc2 hs2 hbl ho
   go_wp2_with (first
    | ((with_reducible refine qB ?_); refine qc ?_ ?_ <;> intro h_ <;> go_prune)
    | ((with_reducible refine qk 3 ?_); refine BigFrame.wpList_want rfl fun _ hK => ?_; first | refine Ab rfl rfl (by kernel_rfl) (AO (hS.own 1 rfl) _ _ HC1.out) (hK _ _ ?_) | refine Ab rfl rfl (by kernel_rfl) (AO (hS.own 1 rfl) _ _ HC2.out) (hK _ _ ?_))
    | ((with_reducible refine qA 32 ?_); refine Di hS 0 rfl rfl _ _ _ _ rfl rfl Dh kv out.length (AV out) (.int .i64 (k2 : Nat)) #[.int .i64 (k2 : Nat)] rfl (by kernel_rfl) rfl rfl rfl rfl (by intro u hu; simp at hu; subst hu; rfl) (by omega) (by omega) ?_; clear hS; intro z_ kv' w_ hS; (try simp only [Act.put, Act.eval, zz, Value.cells] at hS))
    | ((with_reducible refine qK ?_); refine qC hS ?_))
   refine ⟨⟨i2, _, out ++ [k2], rfl, rfl, by omega, ?_, by rw [List.length_append, List.length_singleton]; omega, Lib.hid (by simp), ?_⟩, by simp [intOf]; omega⟩
   ·rw [List.append_assoc, List.singleton_append, <- HS2.out]; exact HO.out
   ·rw [show (out ++ [k2]).length = out.length + 1 by simp, show AV (out ++ [k2]) = AV out ++ [.int .i64 (k2 : Nat)] by simp [AV]]
    exact hS
  ·have he2 := HEN.out hz
   have HC1 := Lib.hid hc1
   rw [he2, List.append_nil] at ho
   have hpl : (B0 l i) = out.reverse := by unfold B0; rw [<- ho]
   have HPL := Lib.hid hpl
   clear hc0 hc1 hc2 he2 hpl HO HEN HST ho
   rcases Nat.eq_zero_or_pos out.length with h0 | h0
   ·obtain rfl : out = [] := List.length_eq_zero_iff.1 h0
    obtain rfl := HNIL.out rfl
    go_wp2_with (first
     | ((with_reducible refine qB ?_); refine qc ?_ ?_ <;> intro h_ <;> go_prune)
     | ((with_reducible refine qk 3 ?_); refine BigFrame.wpList_want rfl fun _ hK => Ab rfl rfl (by kernel_rfl) (AO (hS.own 1 rfl) _ _ HC1.out) (hK _ _ ?_))
     | (go_at_call 98; refine (srev_nil _).mono ?_; rintro e w_ ⟨rfl, hb_⟩; replace hS := hS.ext hb_; clear hb_)
     | ((with_reducible refine qK ?_); refine qC hS ?_))
    go_ret
    refine ⟨_, rfl, ?_⟩
    rw [E7, HPL.out, List.length_reverse]
    have hS2 := hS.freeze 0 (by decide) rfl
    exact ⟨_, _, _, _, _, _, _, HMP.out, HN.out, by rw [HSC.out]; exact hS2.mono ((KS.out.and (Ah (by decide))).and B5) fun D w h => ⟨⟨h.1.1, h.2⟩, h.1.2⟩⟩
   ·obtain ⟨go, co, rfl, hco, _⟩ := Ba (hS.own 0 rfl) h0
    go_wp2_with (first
     | ((with_reducible refine qB ?_); refine qc ?_ ?_ <;> intro h_ <;> go_prune)
     | ((with_reducible refine qk 3 ?_); refine BigFrame.wpList_want rfl fun _ hK => Ab rfl rfl (by kernel_rfl) (AO (hS.own 1 rfl) _ _ HC1.out) (hK _ _ ?_))
     | (go_at_call 98; refine (srev_any go co out _ _ (hS.own 0 rfl) (by omega)).mono ?_; rintro e w_ ⟨rfl, hown, hg⟩; replace hS := hS.upd 0 rfl (.own (.slice (some ⟨go, 0, none⟩) out.length co) 3 1 out.length (AV out.reverse)) hg hown fun _ e => .inl e)
     | ((with_reducible refine qK ?_); refine qC hS ?_))
    go_ret
    refine ⟨_, rfl, ?_⟩
    rw [E7, HPL.out, List.length_reverse]
    have hS2 := hS.freeze 0 (by decide) rfl
    exact ⟨_, _, _, _, _, _, _, HMP.out, HN.out, by rw [HSC.out]; exact hS2.mono ((KS.out.and (Ah (by decide))).and B5) fun D w h => ⟨⟨h.1.1, h.2⟩, h.1.2⟩⟩
end
section
open Go.RowKit
attribute [local go_sem ↓] Go.wp_at_zero Go.wp_at_succ
set_option maxRecDepth 20000
set_option exponentiation.threshold 5000
set_option maxHeartbeats 4000000 in
theorem Gh {w0 w : World} {F : List Aa} {K : (Nat -> Prop) -> World -> Prop} {v z : Value} {p : Ac} {N : Nat} (k : Int) (hP : p.Ok) (hS : St w0 w F K) (kp : ∀ D w, K D w -> Bg w D v p) (ku : ∀ D w, K D w -> A5 w D z N) (kt : ∀ D w, K D w -> BM w) :
  Calls Tryz.prog 29 #[v, z, .int .i64 k] w fun e w' => ∃ x, e = .returned (.tuple #[x, .bool (stepM p N k).isSome]) /\ St w0 w' F fun D w => K D w /\ A5 w D x ((stepM p N k).getD 0) := by
 obtain ⟨R, lk, st, rl, nl, gl⟩ := p
 obtain ⟨lp, s, rv, nv, gv, rfl, h1, h2, h3, h4, h5⟩ := kp _ _ hS.ro
 dsimp only at h1 h2 h3 h4 h5
 obtain ⟨la, rfl⟩ : ∃ la, lp = .pointer la := by
  cases lk with
  | none => exact ⟨none, h1⟩
  | some L => obtain ⟨q, o, rfl, -⟩ := h1; exact ⟨_, rfl⟩
 obtain ⟨Cs, ns, cs, rfl⟩ := h2.shape
 obtain ⟨Ar, cr, rfl, _, _⟩ := h3.shape
 obtain ⟨An, cn, rfl, _, _⟩ := h4.shape
 obtain ⟨Ag, cg, rfl, _, _⟩ := h5.shape
 obtain ⟨u, rfl⟩ : ∃ u, z = .agg #[u] := by
  obtain ⟨A, c, l, rfl, -⟩ := (ku _ _ hS.ro).parts
  exact ⟨_, rfl⟩
 obtain ⟨KC, kc, hS2⟩ : ∃ KC : (Nat -> Prop) -> World -> Prop, Hid (∀ D w, KC D w -> K D w /\ Gs w D (.pointer la) lk /\ Bt w D (.slice Ar rl.length cr) rl) /\ St w0 w F KC := ⟨_, Lib.hid fun D w h => ⟨h.1, h.2.1, h.2.2⟩, hS.add (D := DZ F) (BT.and B3) ⟨h1, h3⟩ fun _ h _ => h⟩
 have KS := Lib.hid hS.stable
 clear hS h1 h2 h3 h4 h5
 have hS := hS2
 clear hS2
 have HP := Lib.hid hP
 have hrl : rl.length <= 100000 := hP.rules
 clear hP
 have HK := Lib.hid kp
 have HU := Lib.hid ku
 have HT := Lib.hid kt
 clear kp ku kt
 by_cases hk : 0 <= k /\ k < rl.length /\ lk.isSome = true
 ·obtain ⟨hk0, hk1, hk2⟩ := hk
  cases lk with
  | none => cases hk2
  | some L =>
   clear hk2
   obtain ⟨j, rfl⟩ : ∃ j : Nat, k = (j : Int) := ⟨k.toNat, by omega⟩
   have hlj : j < rl.length := by omega
   clear hk0 hk1
   obtain ⟨q, o, e, -⟩ := id (kc.out _ _ hS.ro).2.1
   injection e with e
   subst e
   obtain ⟨b, o2, _, _, rfl, -⟩ := (kc.out _ _ hS.ro).2.2.at_ hlj
   rw [stepM_at (p := ⟨R, some L, st, rl, nl, gl⟩) (N := N) rfl hlj]
   dsimp only
   obtain ⟨z, hz⟩ : ∃ z, rl.getD j AX = z := ⟨_, rfl⟩
   rw [hz]
   have HZ := Lib.hid hz
   clear hz
   obtain ⟨zr, ry, rn, rt, ro⟩ := z
   obtain ⟨V, hV⟩ : ∃ V, V = if stepB ⟨R, some L, st, rl, nl, gl⟩ N ⟨zr, ry, rn, rt, ro⟩ = true then some (E2 N ⟨zr, ry, rn, rt, ro⟩) else none := ⟨_, rfl⟩
   rw [<- hV]
   have HV := Lib.hid hV
   clear hV
   cases zr
   ·go_enter Tryz.func29, Tryz.ntmps29
    go_wp2_with (first | ((with_reducible refine qA 3 ?_); refine At hS rfl _ _ rfl (.agg #[.int .i64 R, .pointer (some ⟨q, 0, none⟩), .slice Cs ns cs, .slice (some ⟨b, o2, none⟩) rl.length cr, .slice An nl.length cn, .slice Ag gl.length cg]) _ rfl rfl ?_; clear hS; intro g3 w_ hS; (try simp only [Act.put, Act.eval, zz, Value.cells] at hS)) | ((with_reducible refine qA 4 ?_); refine At hS rfl _ _ rfl (.agg #[u]) _ rfl rfl ?_; clear hS; intro g4 w_ hS; (try simp only [Act.put, Act.eval, zz, Value.cells] at hS)) | ((with_reducible refine qA 6 ?_); refine qa hS #[.slice none 0 0] ?_; clear hS; intro g6 w_ hS) | ((with_reducible refine qA 12 ?_); refine BigFrame.wpList_want rfl fun _ hK => AH (v := .bool false) rfl rfl rfl rfl rfl (hK _ _ ?_)) | ((with_reducible refine qB ?_); refine qc ?_ ?_ <;> intro h_ <;> go_prune) | ((with_reducible refine qA 29 ?_); obtain ⟨b', o', y, n, e', _, _, c0, c1, c2, c3, c4, hy, hn⟩ := (kc.out _ _ hS.ro).2.2.at_ hlj; injection e' with e'; injection e' with e1 e2; subst e1 e2; rw [HZ.out] at c0 c3 c4 hy hn; dsimp only at c0 c3 c4 hy hn; obtain ⟨Ay, my, cy, rfl⟩ := hy.shape; obtain ⟨Am, mn, cm, rfl⟩ := hn.shape; replace hS := hS.add (D := DZ _) (A6.and A6) ⟨hy, hn⟩ (fun _ h _ => h); refine BigFrame.wpList_want rfl fun _ hK => Bh (cs := [.bool false, .slice Ay my cy, .slice Am mn cm, .int .i64 rt, .int .i64 ro]) rfl rfl (rng5 c0 c1 c2 c3 c4) Tryz.underlying83 rfl (by kernel_rfl) (hK _ _ ?_)) | ((with_reducible refine qA 8 ?_); refine qa hS #[.bool false, .slice none 0 0, .slice none 0 0, .int .i64 0, .int .i64 0] ?_; clear hS; intro g8 w_ hS) | ((with_reducible refine qA 9 ?_); refine qa hS #[.slice none 0 0] ?_; clear hS; intro g9 w_ hS) | ((with_reducible refine qK ?_); refine qL hS Tryz.underlying27 ?_) | ((with_reducible refine qM ?_); (first | refine qS hS ?_ | refine qT hS ?_); clear hS; intro w_ hS; (try simp only [Act.put, Act.eval, zz, Value.cells] at hS)) | (go_at_call 32; refine (Eb _ N rt _ _ (HU.out _ _ (kc.out _ _ hS.ro.1).1)).mono ?_; rintro r_ w_ ⟨_, rfl, hM, hb_⟩; obtain ⟨A9, n9, l9, rfl, -⟩ := hM.parts; replace hS := hS.ret2 hb_ A6 hM; clear hb_ hM) | (go_at_call 65; refine (Ea _ N rt _ _ (HU.out _ _ (kc.out _ _ hS.ro.1.1).1)).mono ?_; rintro r_ w_ ⟨_, rfl, hM, hb_⟩; obtain ⟨A10, n10, l10, rfl, -⟩ := hM.parts; replace hS := hS.ret2 hb_ A6 hM; clear hb_ hM) | ((with_reducible refine qK ?_); refine qC hS ?_))
    simp only [Act.put, List.setIfInBounds_toArray, List.set_cons_zero, List.set_cons_succ, List.getElem_toArray, List.getElem_cons_zero]
    have HH := Lib.hid (HP.out.links L rfl).1
    obtain ⟨K7, x9, k7, hS2⟩ : ∃ (K7 : (Nat -> Prop) -> World -> Prop) (x9 : Value), Hid (∀ D w, K7 D w -> K D w /\ Gs w D (.pointer (some ⟨q, 0, none⟩)) (some L) /\ A5 w D (.agg #[.slice Ay my cy]) ry /\ A5 w D (.agg #[.slice Am mn cm]) rn /\ A5 w D (.agg #[x9]) (E2 N ⟨false, ry, rn, rt, ro⟩)) /\ St w0 w_ (.box g9 27 #[x9] :: .box g8 83 #[.bool false, .slice Ay my cy, .slice Am mn cm, .int .i64 rt, .int .i64 ro] :: .box g6 27 #[.slice none 0 0] :: .box g4 27 #[u] :: .box g3 31 #[.int .i64 R, .pointer (some ⟨q, 0, none⟩), .slice Cs ns cs, .slice (some ⟨b, o2, none⟩) rl.length cr, .slice An nl.length cn, .slice Ag gl.length cg] :: F) K7 := ⟨_, _, Lib.hid fun D w h => ⟨(kc.out _ _ h.1.1).1, (kc.out _ _ h.1.1).2.1, h.1.2.1, h.1.2.2, h.2⟩, hS⟩
    have hx9 : x9.oneCell' = true := by
     obtain ⟨A, c, l, e, -⟩ := (k7.out _ _ hS2.ro).2.2.2.2.parts
     injection e with e; injection e with e; injection e with e
     subst e; rfl
    clear hS
    have hS := hS2
    clear hS2
    obtain ⟨rb, hrb⟩ : ∃ rb, rb = false := ⟨_, rfl⟩
    have HRB := Lib.hid hrb
    rw [<- hrb] at k7
    clear hrb
    obtain ⟨hb, hhb⟩ : ∃ hb, BS N rt = hb := ⟨_, rfl⟩
    obtain ⟨ho, hho⟩ : ∃ ho, Bz (ry, rn) (closM L N) = ho := ⟨_, rfl⟩
    obtain ⟨M, hM⟩ : ∃ M, E2 N ⟨rb, ry, rn, rt, ro⟩ = M := ⟨_, rfl⟩
    obtain ⟨gd, hgd⟩ : ∃ gd, goodB ⟨R, some L, st, rl, nl, gl⟩ M = gd := ⟨_, rfl⟩
    have HSB : Hid (stepB ⟨R, some L, st, rl, nl, gl⟩ N ⟨rb, ry, rn, rt, ro⟩ = !(((hb != rb) || (!rb && !ho)) || !gd)) := Lib.hid (by rw [<- hhb, <- hho, <- hgd, <- hM]; rfl)
    have HHB := Lib.hid hhb
    have HHO := Lib.hid hho
    have HGD := Lib.hid hgd
    have HNM := Lib.hid hM
    rw [HNM.out] at k7
    have HVV : Hid (V = if (!(((hb != rb) || (!rb && !ho)) || !gd)) = true then some M else none) := Lib.hid (by rw [HV.out, <- HRB.out, HNM.out, HSB.out])
    clear hhb hho hgd hM HV HSB HNM
    refine C8 [.i (.agg #[u]), .q g8 3, .n rt, .i (.bool hb), .q g8 0, .i (.bool rb), .i (.bool (hb != rb)), .i (.bool (hb != rb)), .g (!(hb != rb)) (.pointer (some ⟨g8, 0, none⟩)), .g (!(hb != rb)) (.bool rb), .g (!(hb != rb)) (.bool (!rb)), .g (!(hb != rb)) (.bool (!rb)), .g ((!(hb != rb)) && (!rb)) (.pointer (some ⟨g8, 1, none⟩)), .g ((!(hb != rb)) && (!rb)) (.agg #[.slice Ay my cy, .slice Am mn cm]), .g ((!(hb != rb)) && (!rb)) (.pointer (some ⟨g3, 1, none⟩)), .g ((!(hb != rb)) && (!rb)) (.pointer (some ⟨q, 0, none⟩)), .g ((!(hb != rb)) && (!rb)) (.agg #[u]), (.s (fun v w => ((!(hb != rb)) && (!rb)) = true -> A5 w (fun _ => True) v (closM L N)) fun v w w' h hb hc => by replace h := h hc; exact h.ext hb), .g ((!(hb != rb)) && (!rb)) (.bool ho), .g ((!(hb != rb)) && (!rb)) (.bool (!ho)), .g (!(hb != rb)) (.bool ((!rb) && (!ho))), .i (.bool ((hb != rb) || ((!rb) && (!ho)))), .i (.bool ((hb != rb) || ((!rb) && (!ho)))), .g (!((hb != rb) || ((!rb) && (!ho)))) (.agg #[.int .i64 R, .pointer (some ⟨q, 0, none⟩), .slice Cs ns cs, .slice (some ⟨b, o2, none⟩) rl.length cr, .slice An nl.length cn, .slice Ag gl.length cg]), .g (!((hb != rb) || ((!rb) && (!ho)))) (.agg #[x9]), .g (!((hb != rb) || ((!rb) && (!ho)))) (.bool gd), .g (!((hb != rb) || ((!rb) && (!ho)))) (.bool (!gd)), .i (.bool (((hb != rb) || ((!rb) && (!ho))) || (!gd)))] ⟨uR (h := fun w hW hN => (hS.ext hW).box 3 rfl), uF, uC (h := fun w hW hN => (hS.ext hW).shut 1 rfl 3 rfl), ?_, uF, uC (h := fun w hW hN => by rw [HRB.out]; exact (hS.ext hW).shut 1 rfl 0 rfl), uB (h := fun w hW hN => by cases hb <;> cases rb <;> rfl), uM, (by cases hb <;> cases rb <;> first | exact uY | exact uX | exact uF), (by cases hb <;> cases rb <;> first | exact uY | exact uX | exact uC (h := fun w hW hN => by first | (rw [HRB.out]; exact (hS.ext hW).shut 1 rfl 0 rfl) | (rw [<- HRB.out]; exact (hS.ext hW).shut 1 rfl 0 rfl) | exact (hS.ext hW).shut 1 rfl 0 rfl)), (by cases hb <;> cases rb <;> first | exact uY | exact uX | exact uU), (by cases hb <;> cases rb <;> first | exact uY | exact uX | exact uM), (by cases hb <;> cases rb <;> first | exact uY | exact uX | exact uF), (by cases hb <;> cases rb <;> first | exact uY | exact uX | exact uD (h := fun w hW hN => rng2 ((hS.ext hW).shut 1 rfl 1 rfl) ((hS.ext hW).shut 1 rfl 2 rfl))), (by cases hb <;> cases rb <;> first | exact uY | exact uX | exact uF), (by cases hb <;> cases rb <;> first | exact uY | exact uX | exact uC (h := fun w hW hN => (hS.ext hW).shut 4 rfl 1 rfl)), (by cases hb <;> cases rb <;> first | exact uY | exact uX | exact uR (h := fun w hW hN => (hS.ext hW).box 3 rfl)), ?_, ?_, (by cases hb <;> cases rb <;> first | exact uY | exact uX | exact uU), (by cases hb <;> cases rb <;> first | exact uY | exact uX | exact uP), (by cases hb <;> cases rb <;> exact uP), uM, (by cases hb <;> cases rb <;> cases ho <;> first | exact uY | exact uX | exact uR (h := fun w hW hN => (hS.ext hW).box 4 rfl)), (by cases hb <;> cases rb <;> cases ho <;> first | exact uY | exact uX | exact uR (h := fun w hW hN => (hS.ext hW).box 0 rfl)), ?_, (by cases hb <;> cases rb <;> cases ho <;> first | exact uY | exact uX | exact uU), (by cases hb <;> cases rb <;> cases ho <;> exact uP), trivial⟩ ?_
    ·refine uT fun b__ w hW hE K hK => ?_
     have e40 := hE 40
     have e42 := hE 42
     exact AF rfl (by kernel_rfl) (by simp only [List.map_cons, List.map_nil, e40, e42]) (Cv _ N rt w _ (HU.out _ _ (k7.out _ _ (hS.ext hW).ro).1)) fun v w' h hb_ => hK v w' (h.trans (by rw [HHB.out])) hb_
    ·cases hb <;> cases rb <;> first | exact uY | exact uX | (refine uT fun b__ w hW hE K hK => ?_; have e55 : b__.eval (.tmp 55) = .pointer (some ⟨q, 0, none⟩) := hE 55; have e56 : b__.eval (.tmp 56) = .agg #[u] := hE 56; (exact AF rfl (by kernel_rfl) (by simp only [List.map_cons, List.map_nil, e55, e56]) (EJ (show IsH _ _ _ L from (k7.out _ _ (hS.ext hW).ro).2.1) (HT.out _ _ (k7.out _ _ (hS.ext hW).ro).1) HH.out (HU.out _ _ (k7.out _ _ (hS.ext hW).ro).1)) fun v w' h hb => hK v w' (fun _ => h.imp fun _ _ _ => trivial) hb))
    ·cases hb <;> cases rb <;> first | exact uY | exact uX | (refine uT fun b__ w hW hE K hK => ?_; have e53 : b__.eval (.tmp 53) = .agg #[.slice Ay my cy, .slice Am mn cm] := hE 53; have e57 := hE 57; have e57 := e57 rfl; (exact AF rfl (by kernel_rfl) (by simp only [List.map_cons, List.map_nil, e53]) (Gq (z := (ry, rn)) ⟨_, _, rfl, (k7.out _ _ (hS.ext hW).ro).2.2.1, (k7.out _ _ (hS.ext hW).ro).2.2.2.1⟩ e57) fun v w' h hb => hK v w' (h.trans (by rw [HHO.out]; rfl)) hb))
    ·cases hb <;> cases rb <;> cases ho <;> first | exact uY | exact uX | (refine uT fun b__ w hW hE K hK => ?_; have e63 : b__.eval (.tmp 63) = .agg #[.int .i64 R, .pointer (some ⟨q, 0, none⟩), .slice Cs ns cs, .slice (some ⟨b, o2, none⟩) rl.length cr, .slice An nl.length cn, .slice Ag gl.length cg] := hE 63; have e64 : b__.eval (.tmp 64) = .agg #[x9] := hE 64; (exact AF rfl (by kernel_rfl) (by simp only [List.map_cons, List.map_nil, e63, e64]) (Ie (HK.out _ _ (k7.out _ _ (hS.ext hW).ro).1) HP.out (HT.out _ _ (k7.out _ _ (hS.ext hW).ro).1) (k7.out _ _ (hS.ext hW).ro).2.2.2.2) fun v w' h hb => hK v w' (h.trans (by rw [HGD.out]; rfl)) hb))
    ·intro vs wz hW hT
     obtain ⟨e40, e41, e42, e43, e44, e45, e46, e47, -, -, -, -, -, -, -, -, -, -, -, -, -, e61, e62, -, -, -, -, e67, -⟩ := hT
     have bx : (fun _ : Nat => True) 0 := trivial
     simp only [Aw, Act.put, zz, ze]
     rw [e67]
     replace hS := hS.ext hW
     clear hW e67
     obtain ⟨E, hE⟩ : ∃ E : Bool, (((hb != rb) || (!rb && !ho)) || !gd) = E := ⟨_, rfl⟩
     rw [hE] at HVV ⊢
     clear hE HHB HHO HGD
     cases E
     ·go_wp2_with (first
       | ((with_reducible refine qK ?_); refine qL hS Tryz.underlying27 ?_)
       | ((with_reducible refine qm 27 ?_); refine Bb hS 2 rfl _ _ _ rfl _ _ rfl rfl _ _ rfl (by kernel_rfl) (by kernel_rfl) (by simpa using hx9) ?_; clear hS; intro w_ hS; (try simp only [Act.put, Act.eval, zz, Value.cells] at hS)))
      refine Bk Tryz.results29 rfl (hS.box 2 rfl) Tryz.underlying27 rfl (by kernel_rfl) rfl rfl ?_
      rw [show V = some M from HVV.out]
      exact ⟨_, rfl, (hS.sub (List.sublist_append_right [_, _, _, _, _] F)).mono (KS.out.and A6) fun D w h => ⟨(k7.out _ _ h).1, (k7.out _ _ h).2.2.2.2⟩⟩
     ·go_wp2_with (first
       | ((with_reducible refine qA 68 ?_); refine Ad rfl _ _ rfl #[.slice none 0 0] (by kernel_rfl) ?_; (try simp only [Act.put, List.setIfInBounds_toArray, List.set_cons_zero, List.set_cons_succ]))
       | ((with_reducible refine qM ?_); (first | refine qS hS ?_ | refine qT hS ?_); clear hS; intro w_ hS; (try simp only [Act.put, Act.eval, zz, Value.cells] at hS)))
      refine Bk Tryz.results29 rfl (hS.box 2 rfl) Tryz.underlying27 rfl (by kernel_rfl) rfl rfl ?_
      rw [show V = none from HVV.out]
      exact ⟨_, rfl, (hS.sub (List.sublist_append_right [_, _, _, _, _] F)).mono (KS.out.and A6) fun D w h => ⟨(k7.out _ _ h).1, A5.empty⟩⟩
   ·go_enter Tryz.func29, Tryz.ntmps29
    go_wp2_with (first | ((with_reducible refine qA 3 ?_); refine At hS rfl _ _ rfl (.agg #[.int .i64 R, .pointer (some ⟨q, 0, none⟩), .slice Cs ns cs, .slice (some ⟨b, o2, none⟩) rl.length cr, .slice An nl.length cn, .slice Ag gl.length cg]) _ rfl rfl ?_; clear hS; intro g3 w_ hS; (try simp only [Act.put, Act.eval, zz, Value.cells] at hS)) | ((with_reducible refine qA 4 ?_); refine At hS rfl _ _ rfl (.agg #[u]) _ rfl rfl ?_; clear hS; intro g4 w_ hS; (try simp only [Act.put, Act.eval, zz, Value.cells] at hS)) | ((with_reducible refine qA 6 ?_); refine qa hS #[.slice none 0 0] ?_; clear hS; intro g6 w_ hS) | ((with_reducible refine qA 12 ?_); refine BigFrame.wpList_want rfl fun _ hK => AH (v := .bool false) rfl rfl rfl rfl rfl (hK _ _ ?_)) | ((with_reducible refine qB ?_); refine qc ?_ ?_ <;> intro h_ <;> go_prune) | ((with_reducible refine qA 29 ?_); obtain ⟨b', o', y, n, e', _, _, c0, c1, c2, c3, c4, hy, hn⟩ := (kc.out _ _ hS.ro).2.2.at_ hlj; injection e' with e'; injection e' with e1 e2; subst e1 e2; rw [HZ.out] at c0 c3 c4 hy hn; dsimp only at c0 c3 c4 hy hn; obtain ⟨Ay, my, cy, rfl⟩ := hy.shape; obtain ⟨Am, mn, cm, rfl⟩ := hn.shape; replace hS := hS.add (D := DZ _) (A6.and A6) ⟨hy, hn⟩ (fun _ h _ => h); refine BigFrame.wpList_want rfl fun _ hK => Bh (cs := [.bool true, .slice Ay my cy, .slice Am mn cm, .int .i64 rt, .int .i64 ro]) rfl rfl (rng5 c0 c1 c2 c3 c4) Tryz.underlying83 rfl (by kernel_rfl) (hK _ _ ?_)) | ((with_reducible refine qA 8 ?_); refine qa hS #[.bool false, .slice none 0 0, .slice none 0 0, .int .i64 0, .int .i64 0] ?_; clear hS; intro g8 w_ hS) | ((with_reducible refine qA 9 ?_); refine qa hS #[.slice none 0 0] ?_; clear hS; intro g9 w_ hS) | ((with_reducible refine qK ?_); refine qL hS Tryz.underlying27 ?_) | ((with_reducible refine qM ?_); (first | refine qS hS ?_ | refine qT hS ?_); clear hS; intro w_ hS; (try simp only [Act.put, Act.eval, zz, Value.cells] at hS)) | (go_at_call 32; refine (Eb _ N rt _ _ (HU.out _ _ (kc.out _ _ hS.ro.1).1)).mono ?_; rintro r_ w_ ⟨_, rfl, hM, hb_⟩; obtain ⟨A9, n9, l9, rfl, -⟩ := hM.parts; replace hS := hS.ret2 hb_ A6 hM; clear hb_ hM) | (go_at_call 65; refine (Ea _ N rt _ _ (HU.out _ _ (kc.out _ _ hS.ro.1.1).1)).mono ?_; rintro r_ w_ ⟨_, rfl, hM, hb_⟩; obtain ⟨A10, n10, l10, rfl, -⟩ := hM.parts; replace hS := hS.ret2 hb_ A6 hM; clear hb_ hM) | ((with_reducible refine qK ?_); refine qC hS ?_))
    simp only [Act.put, List.setIfInBounds_toArray, List.set_cons_zero, List.set_cons_succ, List.getElem_toArray, List.getElem_cons_zero]
    have HH := Lib.hid (HP.out.links L rfl).1
    obtain ⟨K7, x9, k7, hS2⟩ : ∃ (K7 : (Nat -> Prop) -> World -> Prop) (x9 : Value), Hid (∀ D w, K7 D w -> K D w /\ Gs w D (.pointer (some ⟨q, 0, none⟩)) (some L) /\ A5 w D (.agg #[.slice Ay my cy]) ry /\ A5 w D (.agg #[.slice Am mn cm]) rn /\ A5 w D (.agg #[x9]) (E2 N ⟨true, ry, rn, rt, ro⟩)) /\ St w0 w_ (.box g9 27 #[x9] :: .box g8 83 #[.bool true, .slice Ay my cy, .slice Am mn cm, .int .i64 rt, .int .i64 ro] :: .box g6 27 #[.slice none 0 0] :: .box g4 27 #[u] :: .box g3 31 #[.int .i64 R, .pointer (some ⟨q, 0, none⟩), .slice Cs ns cs, .slice (some ⟨b, o2, none⟩) rl.length cr, .slice An nl.length cn, .slice Ag gl.length cg] :: F) K7 := ⟨_, _, Lib.hid fun D w h => ⟨(kc.out _ _ h.1.1.1).1, (kc.out _ _ h.1.1.1).2.1, h.1.1.2.1, h.1.1.2.2, h.2⟩, hS⟩
    have hx9 : x9.oneCell' = true := by
     obtain ⟨A, c, l, e, -⟩ := (k7.out _ _ hS2.ro).2.2.2.2.parts
     injection e with e; injection e with e; injection e with e
     subst e; rfl
    clear hS
    have hS := hS2
    clear hS2
    obtain ⟨rb, hrb⟩ : ∃ rb, rb = true := ⟨_, rfl⟩
    have HRB := Lib.hid hrb
    rw [<- hrb] at k7
    clear hrb
    obtain ⟨hb, hhb⟩ : ∃ hb, BS N rt = hb := ⟨_, rfl⟩
    obtain ⟨ho, hho⟩ : ∃ ho, Bz (ry, rn) (closM L N) = ho := ⟨_, rfl⟩
    obtain ⟨M, hM⟩ : ∃ M, E2 N ⟨rb, ry, rn, rt, ro⟩ = M := ⟨_, rfl⟩
    obtain ⟨gd, hgd⟩ : ∃ gd, goodB ⟨R, some L, st, rl, nl, gl⟩ M = gd := ⟨_, rfl⟩
    have HSB : Hid (stepB ⟨R, some L, st, rl, nl, gl⟩ N ⟨rb, ry, rn, rt, ro⟩ = !(((hb != rb) || (!rb && !ho)) || !gd)) := Lib.hid (by rw [<- hhb, <- hho, <- hgd, <- hM]; rfl)
    have HHB := Lib.hid hhb
    have HHO := Lib.hid hho
    have HGD := Lib.hid hgd
    have HNM := Lib.hid hM
    rw [HNM.out] at k7
    have HVV : Hid (V = if (!(((hb != rb) || (!rb && !ho)) || !gd)) = true then some M else none) := Lib.hid (by rw [HV.out, <- HRB.out, HNM.out, HSB.out])
    clear hhb hho hgd hM HV HSB HNM
    refine C8 [.i (.agg #[u]), .q g8 3, .n rt, .i (.bool hb), .q g8 0, .i (.bool rb), .i (.bool (hb != rb)), .i (.bool (hb != rb)), .g (!(hb != rb)) (.pointer (some ⟨g8, 0, none⟩)), .g (!(hb != rb)) (.bool rb), .g (!(hb != rb)) (.bool (!rb)), .g (!(hb != rb)) (.bool (!rb)), .g ((!(hb != rb)) && (!rb)) (.pointer (some ⟨g8, 1, none⟩)), .g ((!(hb != rb)) && (!rb)) (.agg #[.slice Ay my cy, .slice Am mn cm]), .g ((!(hb != rb)) && (!rb)) (.pointer (some ⟨g3, 1, none⟩)), .g ((!(hb != rb)) && (!rb)) (.pointer (some ⟨q, 0, none⟩)), .g ((!(hb != rb)) && (!rb)) (.agg #[u]), (.s (fun v w => ((!(hb != rb)) && (!rb)) = true -> A5 w (fun _ => True) v (closM L N)) fun v w w' h hb hc => by replace h := h hc; exact h.ext hb), .g ((!(hb != rb)) && (!rb)) (.bool ho), .g ((!(hb != rb)) && (!rb)) (.bool (!ho)), .g (!(hb != rb)) (.bool ((!rb) && (!ho))), .i (.bool ((hb != rb) || ((!rb) && (!ho)))), .i (.bool ((hb != rb) || ((!rb) && (!ho)))), .g (!((hb != rb) || ((!rb) && (!ho)))) (.agg #[.int .i64 R, .pointer (some ⟨q, 0, none⟩), .slice Cs ns cs, .slice (some ⟨b, o2, none⟩) rl.length cr, .slice An nl.length cn, .slice Ag gl.length cg]), .g (!((hb != rb) || ((!rb) && (!ho)))) (.agg #[x9]), .g (!((hb != rb) || ((!rb) && (!ho)))) (.bool gd), .g (!((hb != rb) || ((!rb) && (!ho)))) (.bool (!gd)), .i (.bool (((hb != rb) || ((!rb) && (!ho))) || (!gd)))] ⟨uR (h := fun w hW hN => (hS.ext hW).box 3 rfl), uF, uC (h := fun w hW hN => (hS.ext hW).shut 1 rfl 3 rfl), ?_, uF, uC (h := fun w hW hN => by rw [HRB.out]; exact (hS.ext hW).shut 1 rfl 0 rfl), uB (h := fun w hW hN => by cases hb <;> cases rb <;> rfl), uM, (by cases hb <;> cases rb <;> first | exact uY | exact uX | exact uF), (by cases hb <;> cases rb <;> first | exact uY | exact uX | exact uC (h := fun w hW hN => by first | (rw [HRB.out]; exact (hS.ext hW).shut 1 rfl 0 rfl) | (rw [<- HRB.out]; exact (hS.ext hW).shut 1 rfl 0 rfl) | exact (hS.ext hW).shut 1 rfl 0 rfl)), (by cases hb <;> cases rb <;> first | exact uY | exact uX | exact uU), (by cases hb <;> cases rb <;> first | exact uY | exact uX | exact uM), (by cases hb <;> cases rb <;> first | exact uY | exact uX | exact uF), (by cases hb <;> cases rb <;> first | exact uY | exact uX | exact uD (h := fun w hW hN => rng2 ((hS.ext hW).shut 1 rfl 1 rfl) ((hS.ext hW).shut 1 rfl 2 rfl))), (by cases hb <;> cases rb <;> first | exact uY | exact uX | exact uF), (by cases hb <;> cases rb <;> first | exact uY | exact uX | exact uC (h := fun w hW hN => (hS.ext hW).shut 4 rfl 1 rfl)), (by cases hb <;> cases rb <;> first | exact uY | exact uX | exact uR (h := fun w hW hN => (hS.ext hW).box 3 rfl)), ?_, ?_, (by cases hb <;> cases rb <;> first | exact uY | exact uX | exact uU), (by cases hb <;> cases rb <;> first | exact uY | exact uX | exact uP), (by cases hb <;> cases rb <;> exact uP), uM, (by cases hb <;> cases rb <;> cases ho <;> first | exact uY | exact uX | exact uR (h := fun w hW hN => (hS.ext hW).box 4 rfl)), (by cases hb <;> cases rb <;> cases ho <;> first | exact uY | exact uX | exact uR (h := fun w hW hN => (hS.ext hW).box 0 rfl)), ?_, (by cases hb <;> cases rb <;> cases ho <;> first | exact uY | exact uX | exact uU), (by cases hb <;> cases rb <;> cases ho <;> exact uP), trivial⟩ ?_
    ·refine uT fun b__ w hW hE K hK => ?_
     have e40 := hE 40
     have e42 := hE 42
     exact AF rfl (by kernel_rfl) (by simp only [List.map_cons, List.map_nil, e40, e42]) (Cv _ N rt w _ (HU.out _ _ (k7.out _ _ (hS.ext hW).ro).1)) fun v w' h hb_ => hK v w' (h.trans (by rw [HHB.out])) hb_
    ·cases hb <;> cases rb <;> first | exact uY | exact uX | (refine uT fun b__ w hW hE K hK => ?_; have e55 : b__.eval (.tmp 55) = .pointer (some ⟨q, 0, none⟩) := hE 55; have e56 : b__.eval (.tmp 56) = .agg #[u] := hE 56; (exact AF rfl (by kernel_rfl) (by simp only [List.map_cons, List.map_nil, e55, e56]) (EJ (show IsH _ _ _ L from (k7.out _ _ (hS.ext hW).ro).2.1) (HT.out _ _ (k7.out _ _ (hS.ext hW).ro).1) HH.out (HU.out _ _ (k7.out _ _ (hS.ext hW).ro).1)) fun v w' h hb => hK v w' (fun _ => h.imp fun _ _ _ => trivial) hb))
    ·cases hb <;> cases rb <;> first | exact uY | exact uX | (refine uT fun b__ w hW hE K hK => ?_; have e53 : b__.eval (.tmp 53) = .agg #[.slice Ay my cy, .slice Am mn cm] := hE 53; have e57 := hE 57; have e57 := e57 rfl; (exact AF rfl (by kernel_rfl) (by simp only [List.map_cons, List.map_nil, e53]) (Gq (z := (ry, rn)) ⟨_, _, rfl, (k7.out _ _ (hS.ext hW).ro).2.2.1, (k7.out _ _ (hS.ext hW).ro).2.2.2.1⟩ e57) fun v w' h hb => hK v w' (h.trans (by rw [HHO.out]; rfl)) hb))
    ·cases hb <;> cases rb <;> cases ho <;> first | exact uY | exact uX | (refine uT fun b__ w hW hE K hK => ?_; have e63 : b__.eval (.tmp 63) = .agg #[.int .i64 R, .pointer (some ⟨q, 0, none⟩), .slice Cs ns cs, .slice (some ⟨b, o2, none⟩) rl.length cr, .slice An nl.length cn, .slice Ag gl.length cg] := hE 63; have e64 : b__.eval (.tmp 64) = .agg #[x9] := hE 64; (exact AF rfl (by kernel_rfl) (by simp only [List.map_cons, List.map_nil, e63, e64]) (Ie (HK.out _ _ (k7.out _ _ (hS.ext hW).ro).1) HP.out (HT.out _ _ (k7.out _ _ (hS.ext hW).ro).1) (k7.out _ _ (hS.ext hW).ro).2.2.2.2) fun v w' h hb => hK v w' (h.trans (by rw [HGD.out]; rfl)) hb))
    ·intro vs wz hW hT
     obtain ⟨e40, e41, e42, e43, e44, e45, e46, e47, -, -, -, -, -, -, -, -, -, -, -, -, -, e61, e62, -, -, -, -, e67, -⟩ := hT
     have bx : (fun _ : Nat => True) 0 := trivial
     simp only [Aw, Act.put, zz, ze]
     rw [e67]
     replace hS := hS.ext hW
     clear hW e67
     obtain ⟨E, hE⟩ : ∃ E : Bool, (((hb != rb) || (!rb && !ho)) || !gd) = E := ⟨_, rfl⟩
     rw [hE] at HVV ⊢
     clear hE HHB HHO HGD
     cases E
     ·go_wp2_with (first
       | ((with_reducible refine qK ?_); refine qL hS Tryz.underlying27 ?_)
       | ((with_reducible refine qm 27 ?_); refine Bb hS 2 rfl _ _ _ rfl _ _ rfl rfl _ _ rfl (by kernel_rfl) (by kernel_rfl) (by simpa using hx9) ?_; clear hS; intro w_ hS; (try simp only [Act.put, Act.eval, zz, Value.cells] at hS)))
      refine Bk Tryz.results29 rfl (hS.box 2 rfl) Tryz.underlying27 rfl (by kernel_rfl) rfl rfl ?_
      rw [show V = some M from HVV.out]
      exact ⟨_, rfl, (hS.sub (List.sublist_append_right [_, _, _, _, _] F)).mono (KS.out.and A6) fun D w h => ⟨(k7.out _ _ h).1, (k7.out _ _ h).2.2.2.2⟩⟩
     ·go_wp2_with (first
       | ((with_reducible refine qA 68 ?_); refine Ad rfl _ _ rfl #[.slice none 0 0] (by kernel_rfl) ?_; (try simp only [Act.put, List.setIfInBounds_toArray, List.set_cons_zero, List.set_cons_succ]))
       | ((with_reducible refine qM ?_); (first | refine qS hS ?_ | refine qT hS ?_); clear hS; intro w_ hS; (try simp only [Act.put, Act.eval, zz, Value.cells] at hS)))
      refine Bk Tryz.results29 rfl (hS.box 2 rfl) Tryz.underlying27 rfl (by kernel_rfl) rfl rfl ?_
      rw [show V = none from HVV.out]
      exact ⟨_, rfl, (hS.sub (List.sublist_append_right [_, _, _, _, _] F)).mono (KS.out.and A6) fun D w h => ⟨(k7.out _ _ h).1, A5.empty⟩⟩
 ·rw [Hg (p := ⟨R, lk, st, rl, nl, gl⟩) hk]
  cases lk with
  | none =>
   obtain rfl : la = none := by have := (kc.out _ _ hS.ro).2.1; injection this
   go_enter Tryz.func29, Tryz.ntmps29
   go_wp2_with (first | ((with_reducible refine qA 3 ?_); refine At hS rfl _ _ rfl (.agg #[.int .i64 R, .pointer none, .slice Cs ns cs, .slice Ar rl.length cr, .slice An nl.length cn, .slice Ag gl.length cg]) _ rfl rfl ?_; clear hS; intro g3 w_ hS; (try simp only [Act.put, Act.eval, zz, Value.cells] at hS)) | ((with_reducible refine qA 4 ?_); refine At hS rfl _ _ rfl (.agg #[u]) _ rfl rfl ?_; clear hS; intro g4 w_ hS; (try simp only [Act.put, Act.eval, zz, Value.cells] at hS)) | ((with_reducible refine qA 6 ?_); refine qa hS #[.slice none 0 0] ?_; clear hS; intro g6 w_ hS) | ((with_reducible refine qA 12 ?_); refine BigFrame.wpList_want rfl fun _ hK => AH (v := .bool true) rfl rfl rfl rfl rfl (hK _ _ ?_)) | ((with_reducible refine qA 24 ?_); refine Ad rfl _ _ rfl #[.slice none 0 0] (by kernel_rfl) ?_; (try simp only [Act.put, List.setIfInBounds_toArray, List.set_cons_zero, List.set_cons_succ])) | ((with_reducible refine qB ?_); refine qc ?_ ?_ <;> intro h_ <;> go_prune) | ((with_reducible refine qM ?_); (first | refine qS hS ?_ | refine qT hS ?_); clear hS; intro w_ hS; (try simp only [Act.put, Act.eval, zz, Value.cells] at hS)) | ((with_reducible refine qK ?_); refine qC hS ?_))
   refine Bk Tryz.results29 rfl (hS.box 0 rfl) Tryz.underlying27 rfl (by kernel_rfl) rfl rfl ?_; exact ⟨_, rfl, (hS.sub (List.sublist_append_right [_, _, _] F)).mono (KS.out.and A6) fun D w h => ⟨(kc.out _ _ h).1, A5.empty⟩⟩
  | some L =>
   obtain ⟨q, o, e, -⟩ := id (kc.out _ _ hS.ro).2.1
   injection e with e
   subst e
   have hk' : k < 0 \/ rl.length <= k := by
    rcases Int.lt_or_le k 0 with h | h
    ·exact .inl h
    ·exact .inr (by rcases Int.lt_or_le k rl.length with h2 | h2; exact absurd ⟨h, h2, rfl⟩ hk; exact h2)
   clear hk
   go_enter Tryz.func29, Tryz.ntmps29
   go_wp2_with (first | ((with_reducible refine qA 3 ?_); refine At hS rfl _ _ rfl (.agg #[.int .i64 R, .pointer (some ⟨q, 0, none⟩), .slice Cs ns cs, .slice Ar rl.length cr, .slice An nl.length cn, .slice Ag gl.length cg]) _ rfl rfl ?_; clear hS; intro g3 w_ hS; (try simp only [Act.put, Act.eval, zz, Value.cells] at hS)) | ((with_reducible refine qA 4 ?_); refine At hS rfl _ _ rfl (.agg #[u]) _ rfl rfl ?_; clear hS; intro g4 w_ hS; (try simp only [Act.put, Act.eval, zz, Value.cells] at hS)) | ((with_reducible refine qA 6 ?_); refine qa hS #[.slice none 0 0] ?_; clear hS; intro g6 w_ hS) | ((with_reducible refine qA 12 ?_); refine BigFrame.wpList_want rfl fun _ hK => AH (v := .bool false) rfl rfl rfl rfl rfl (hK _ _ ?_)) | ((with_reducible refine qA 24 ?_); refine Ad rfl _ _ rfl #[.slice none 0 0] (by kernel_rfl) ?_; (try simp only [Act.put, List.setIfInBounds_toArray, List.set_cons_zero, List.set_cons_succ])) | ((with_reducible refine qB ?_); refine qc ?_ ?_ <;> intro h_ <;> go_prune) | ((with_reducible refine qM ?_); (first | refine qS hS ?_ | refine qT hS ?_); clear hS; intro w_ hS; (try simp only [Act.put, Act.eval, zz, Value.cells] at hS)) | ((with_reducible refine qK ?_); refine qC hS ?_))
   all_goals
    refine Bk Tryz.results29 rfl (hS.box 0 rfl) Tryz.underlying27 rfl (by kernel_rfl) rfl rfl ?_; exact ⟨_, rfl, (hS.sub (List.sublist_append_right [_, _, _] F)).mono (KS.out.and A6) fun D w h => ⟨(kc.out _ _ h).1, A5.empty⟩⟩
end
section
open Go.RowKit
attribute [local go_sem ↓] Go.wp_at_zero Go.wp_at_succ
set_option maxRecDepth 20000
set_option exponentiation.threshold 5000
theorem ty_reached : B6 Tryz.prog 98 103 3 40 := ⟨Tryz.underlying98, by kernel_rfl⟩
theorem rng6 {w : World} {g i : Nat} {a b c d e f : Value} (h0 : w.cell? ⟨g, i, none⟩ = some a) (h1 : w.cell? ⟨g, i + 1, none⟩ = some b) (h2 : w.cell? ⟨g, i + 2, none⟩ = some c) (h3 : w.cell? ⟨g, i + 3, none⟩ = some d) (h4 : w.cell? ⟨g, i + 4, none⟩ = some e) (h5 : w.cell? ⟨g, i + 5, none⟩ = some f) : w.rangeAt g i [a, b, c, d, e, f] := fun j v hj => by
 match j, hj with
 | 0, hj => obtain rfl := Option.some.inj (show some _ = some v from hj); exact h0
 | 1, hj => obtain rfl := Option.some.inj (show some _ = some v from hj); exact h1
 | 2, hj => obtain rfl := Option.some.inj (show some _ = some v from hj); exact h2
 | 3, hj => obtain rfl := Option.some.inj (show some _ = some v from hj); exact h3
 | 4, hj => obtain rfl := Option.some.inj (show some _ = some v from hj); exact h4
 | 5, hj => obtain rfl := Option.some.inj (show some _ = some v from hj); exact h5
 | j + 6, hj => simp at hj
theorem opw_lookup {P : Program} {o : Oper} {a : Act} {w : World} {K : Act -> World -> Prop} {Q : Exit -> Act -> World -> Prop} {t : TypeId} {m x : Operand} {vm vx v : Value} (ho : o.op = .lookup t m x false) (hm : a.eval m = vm) (hx : a.eval x = vx) (hr : (Instr.lookup t vm vx false).run P w = .ok v w) (hk : K (a.put o.dst v) w) : o.wp P a w K Q := BZ (by simp [execOp, ho, hm, hx, hr]) hk
theorem opw_insert {P : Program} {o : Oper} {a : Act} {w w' : World} {K : Act -> World -> Prop} {Q : Exit -> Act -> World -> Prop} {t : TypeId} {m x v : Operand} {vm vx vv : Value} (ho : o.op = .mapUpdate t m x v) (hm : a.eval m = vm) (hx : a.eval x = vx) (hv : a.eval v = vv) (hr : (Instr.mapUpdate t vm vx vv).run P w = .ok () w') (hk : K (a.put o.dst undef) w') : o.wp P a w K Q := by
 unfold Oper.wp execOp
 simp only [ho, hm, hx, hv, Sem.run_bind, hr, Result.andThen_ok]
 exact hk
theorem GJ.own {w : World × GK} {w0 : World} {F : List Aa} {ty : TypeId} {zs : Array Value} (hJ : GJ w0 F ty zs w) {v : Value} {e : TypeId} {size n : Nat} {xs : List Value} (i : Nat) (hi : F[i]? = Option.some (Aa.own v e size n xs)) : w.1.ownsRow w0.heap.size e size v n xs := (show St w0 w.1 (w.2.F ty zs ++ F) w.2.K from hJ).holds (.own v e size n xs) (List.mem_append_right _ (List.mem_of_getElem? hi))
theorem getE {l : List Nat} {i x : Nat} (h : l[i]? = some x) : (AV l)[i]? = some (.int .i64 (x : Nat)) := by unfold AV; rw [List.getElem?_map, h]; rfl
def DeepR (w0 : World) (g : Nat) (xs : Array Value) (p : Ac) (lim : Int) (l : List CO) (es : List Nat) (a : Nat) (F : List Aa) (K : (Nat -> Prop) -> World -> Prop) (e : Ending) (w' : World) : Prop :=
 (((lvlR p l a (l.length - a)).length : Int) <= lim /\ e = .returned (.tuple #[.bool (decide (l.length < (lvlR p l a (l.length - a)).length)), .int .i64 0]) /\ E7 w0 w' g xs lim (lvlR p l a (l.length - a)) (if l.length < (lvlR p l a (l.length - a)).length then es ++ [(lvlR p l a (l.length - a)).length] else es) F K) \/
 (lim < ((lvlR p l a (l.length - a)).length : Int) /\ e = .returned (.tuple #[.bool false, .int .i64 3]) /\ St w0 w' F K)
set_option maxHeartbeats 8000000 in
theorem deepen_any {w0 w : World} {g : Nat} {xs : Array Value} {lim : Int} {p : Ac} {l : List CO} {es : List Nat} {F : List Aa} {K : (Nat -> Prop) -> World -> Prop} {a : Nat} (hw : Iv p l) (hP : p.Ok) (hrl : p.rules.length <= 1000) (kp : ∀ D w, K D w -> Bg w D (.agg xs) p) (kt : ∀ D w, K D w -> BM w) (hKs : Ao K)
  (he : es[es.length - 1]? = some l.length) (ha : (es.length <= 1 /\ a = 0) \/ (1 < es.length /\ es[es.length - 2]? = some a)) (hal : a <= l.length) (hln : (l.length : Int) <= lim) (hlim : lim <= 10000) (hel : es.length <= 20000) (hS0 : E7 w0 w g xs lim l es F K) :
  Calls Tryz.prog 50 #[.pointer (some ⟨g, 0, none⟩)] w (DeepR w0 g xs p lim l es a F K) := by
 have hlp := hw.pos
 have hes : 0 < es.length := by have := (List.getElem?_eq_some_iff.1 he).1; omega
 have HE0 := Lib.hid hes
 have HW := Lib.hid hw
 have HP := Lib.hid hP
 have HK := Lib.hid kp
 have HT := Lib.hid kt
 have KS := Lib.hid hKs
 have HEE := Lib.hid (getE he)
 have HAE := Lib.hid ha
 obtain ⟨D0, hp0⟩ : ∃ D, Bg w D (.agg xs) p := by obtain ⟨_, _, _, _, _, _, _, _, _, hS⟩ := hS0; exact ⟨_, kp _ _ hS.ro.1⟩
 obtain ⟨la, Cs, ns, cs, Ar, cr, An, cn, Ag, cg, e6⟩ := hp0.shape6
 clear hp0
 injection e6 with e6
 subst e6
 have HSC := Lib.hid (show ∀ lv mv ev, CD #[.int .i64 p.roles, .pointer la, .slice Cs ns cs, .slice Ar p.rules.length cr, .slice An p.never.length cn, .slice Ag p.goal.length cg] lim lv mv ev = #[.int .i64 p.roles, .pointer la, .slice Cs ns cs, .slice Ar p.rules.length cr, .slice An p.never.length cn, .slice Ag p.goal.length cg, .int .i64 lim, lv, mv, ev] from fun lv mv ev => rfl)
 clear hw hP kp kt hKs he
 have HLE1 : Hid (((es.length : Nat) : Int) - 1 = ((es.length - 1 : Nat) : Int)) := Lib.hid (by omega)
 obtain ⟨lv, ev, cells, b, clock, n, ents, hm, hn, hS⟩ := hS0; obtain ⟨EL, cl, rfl, hcl, _⟩ := Ba (hS.own 0 rfl) (by omega); obtain ⟨Ae, ce, rfl, _, _⟩ := Ba (hS.own 1 rfl) HE0.out; have HCL0 := Lib.hid (hS.own 0 rfl).1; rw [HSC.out] at hS; replace hm := Lib.hid hm; replace hn := Lib.hid hn
 go_enter Tryz.func50, Tryz.ntmps50
 go_upto_if 16 with (first | ((with_reducible refine qK ?_); refine qC hS ?_))
 go_cut [4] from 5 (fun c w' => c = .int .i64 (a : Nat) /\ E7 w0 w' g #[.int .i64 p.roles, .pointer la, .slice Cs ns cs, .slice Ar p.rules.length cr, .slice An p.never.length cn, .slice Ag p.goal.length cg] lim l es F K)
 case first =>
  rcases HAE.out with ⟨h1, rfl⟩ | ⟨h1, h2⟩
  ·go_wp2_with (first | ((with_reducible refine qB ?_); refine qc ?_ ?_ <;> intro h_ <;> go_prune))
   go_meet
   case rel => exact ⟨rfl, _, _, _, _, _, _, _, hm.out, hn.out, hS⟩
  ·have HA2 := Lib.hid (getE h2)
   clear h2
   have HLE2 : Hid (((es.length : Nat) : Int) - 2 = ((es.length - 2 : Nat) : Int)) := Lib.hid (by omega)
   go_wp2_with (first
    | ((with_reducible refine qB ?_); refine qc ?_ ?_ <;> intro h_ <;> go_prune)
    | ((with_reducible refine qk 3 ?_); refine BigFrame.wpList_want rfl fun _ hK => Ab rfl rfl (by kernel_rfl) (AO (hS.own 1 rfl) _ _ HA2.out) (hK _ _ ?_))
    | ((with_reducible refine qK ?_); refine qC hS ?_))
   go_meet
   case rel => exact ⟨rfl, _, _, _, _, _, _, _, hm.out, hn.out, hS⟩
 case rest =>
  clear hS hm hn
  obtain ⟨rfl, hS0⟩ := hcut
  go_wp2_with fail
  go_loopw [6] (fun iv wr => ∃ j : Nat, iv = .int .i64 ((a + j : Nat) : Int) /\ a + j <= l.length /\ Hid (((lvlR p l a j).length : Int) <= lim) /\ Hid (E7 w0 wr g #[.int .i64 p.roles, .pointer la, .slice Cs ns cs, .slice Ar p.rules.length cr, .slice An p.never.length cn, .slice Ag p.goal.length cg] lim (lvlR p l a j) es F K)) (fun iv _ => l.length - (intOf iv).toNat)
  case atStart => exact ⟨0, rfl, hal, Lib.hid hln, Lib.hid hS0⟩
  case round =>
   clear hS0
   obtain ⟨j, rfl, hj, HLN, HS⟩ := hrel
   have hwl := wf_lvlR HW.out (p := p) (l := l) (a := a) (n := j) hj
   have hpl := (Db p l a j).length_le
   by_cases hjl : a + j < l.length
   ·have HD : Hid (decide (((a + j : Nat) : Int) < ((l.length : Nat) : Int)) = true) := Lib.hid (decide_eq_true (by omega))
    have HLV := Lib.hid (Cq p l a j)
    have HMN := Lib.hid (lvlR_mono p l a (m := j + 1) (n := l.length - a) (by omega))
    obtain ⟨l2, hl2⟩ : ∃ l2, lvlR p l a j = l2 := ⟨_, rfl⟩
    rw [hl2] at HLN HS hwl hpl HLV
    clear hl2
    have HWL := Lib.hid hwl
    clear hwl
    have hS0 := HS.out
    clear HS
    have hln2 := HLN.out
    obtain ⟨lv, ev, cells, b, clock, n, ents, hm, hn, hS⟩ := hS0; obtain ⟨EL, cl, rfl, hcl, _⟩ := Ba (hS.own 0 rfl) (by omega); obtain ⟨Ae, ce, rfl, _, _⟩ := Ba (hS.own 1 rfl) HE0.out; have HCL0 := Lib.hid (hS.own 0 rfl).1; rw [HSC.out] at hS; replace hm := Lib.hid hm; replace hn := Lib.hid hn
    go_wp2_with fail
    refine C8 [.n ((a + j : Nat) : Int), .q g 0, .q g 0, .q g 9, .i (.slice (some ⟨Ae, 0, none⟩) es.length ce), .q g 0, .q g 0, .q g 9, .i (.slice (some ⟨Ae, 0, none⟩) es.length ce), .n (es.length : Nat), .n ((es.length - 1 : Nat) : Int), .q Ae (0 + (es.length - 1) * 1), .n (l.length : Nat), .b true] ⟨uM, uM, uN, uF, uC (h := fun w hW hN => (hS.ext hW).shut 3 rfl 9 rfl), uM, uN, uF, uC (h := fun w hW hN => (hS.ext hW).shut 3 rfl 9 rfl), ?_, uB (h := fun w hW hN => by rw [Cl (by omega) (by omega), HLE1.out]), uI (h := fun w hW hN => Af (m := es.length - 1) Tryz.underlying40 (by kernel_rfl) (by omega) (by omega)), uC (h := fun w hW hN => by rw [Nat.mul_one, Nat.zero_add]; exact AO ((hS.ext hW).own 1 rfl) _ _ HEE.out), uB (h := fun w hW hN => run_ltB HD.out), trivial⟩ ?_
    ·refine uT fun b__ w hW hE K hK => ?_
     have e34 := hE 34
     exact Da rfl e34 Tryz.underlying40 (hK _ _ rfl (Below.refl _ _))
    ·intro vs wz hW hT
     obtain ⟨e26, e27, e28, e29, e30, e31, e32, e33, e34, e35, e36, e37, e38, e39, -⟩ := hT
     simp only [Aw, Act.put, zz, ze]
     rw [e39]
     clear e26 e27 e28 e29 e30 e31 e32 e33 e34 e35 e36 e37 e38 e39
     replace hS := hS.ext hW
     clear hW
     have hSr : Hid (E7 w0 wz g #[.int .i64 p.roles, .pointer la, .slice Cs ns cs, .slice Ar p.rules.length cr, .slice An p.never.length cn, .slice Ag p.goal.length cg] lim l2 es F K) := Lib.hid ⟨_, _, _, _, _, _, _, hm.out, hn.out, hS⟩
     go_wp2_with (first | ((with_reducible refine qK ?_); refine qC hS ?_))
     go_loopw [48] (fun kv wr => ∃ k : Nat, kv = .int .i64 (k : Nat) /\ k <= p.rules.length /\ Hid (((rowR p l2 (a + j) k).length : Int) <= lim) /\ Hid (E7 w0 wr g #[.int .i64 p.roles, .pointer la, .slice Cs ns cs, .slice Ar p.rules.length cr, .slice An p.never.length cn, .slice Ag p.goal.length cg] lim (rowR p l2 (a + j) k) es F K)) (fun kv _ => p.rules.length - (intOf kv).toNat)
     case atStart => exact ⟨0, rfl, Nat.zero_le _, HLN, hSr⟩
     case round =>
      clear hS hm hn hcl hSr
      obtain ⟨k, rfl, hk, HLM, HS⟩ := hrel
      by_cases hkr : k < p.rules.length
      ·have hp3 := (D7 p l2 (a + j) k).length_le
       have HRS := Lib.hid (Cn p l2 (a + j) k)
       have HRM := Lib.hid (rowR_mono p l2 (a + j) (m := k + 1) (n := p.rules.length) (by omega))
       have HAD := Lib.hid (CB p (rowR p l2 (a + j) k) (a + j) k)
       obtain ⟨l3, hl3⟩ : ∃ l3, rowR p l2 (a + j) k = l3 := ⟨_, rfl⟩
       rw [hl3] at HLM HS hp3 HRS HAD
       clear hl3
       have hS0 := HS.out
       clear HS
       have hln3 := HLM.out
       have hi3 : a + j < l3.length := by omega
       obtain ⟨lv, ev, cells, b, clock, n, ents, hm, hn, hS⟩ := hS0; obtain ⟨EL, cl, rfl, hcl, _⟩ := Ba (hS.own 0 rfl) (by omega); obtain ⟨Ae, ce, rfl, _, _⟩ := Ba (hS.own 1 rfl) HE0.out; have HCL0 := Lib.hid (hS.own 0 rfl).1; rw [HSC.out] at hS; replace hm := Lib.hid hm; replace hn := Lib.hid hn
       have HRX := Lib.hid (Dc (l := l3) hi3)
       obtain ⟨z, hz⟩ : ∃ z, l3.getD (a + j) AK = z := ⟨_, rfl⟩
       rw [hz] at HRX HAD
       clear hz
       obtain ⟨s, zf, zr⟩ := z
       dsimp only at HAD
       obtain ⟨ca, hc0, -, -, -⟩ := hS.ro.2 _ _ HRX.out
       have HC0 := Lib.hid hc0
       have HSI : Hid (∀ D w, Bi w D cells l3 -> A5 w D (.agg #[ca]) s) := Lib.hid fun D w h => by
        obtain ⟨c2, h1, _, _, h2⟩ := h _ _ HRX.out
        rw [HC0.out] at h1
        obtain rfl := Option.some.inj h1
        exact h2
       clear hc0
       obtain ⟨V, hV⟩ : ∃ V, stepM p s (k : Nat) = V := ⟨_, rfl⟩
       rw [hV] at HAD
       have HV := Lib.hid hV
       clear hV
       go_wp2_with (first | ((with_reducible refine qB ?_); refine qc ?_ ?_ <;> intro h_ <;> go_prune))
       obtain ⟨K8, k8, hS2⟩ : ∃ K8 : (Nat -> Prop) -> World -> Prop, Hid (∀ D w, K8 D w -> K D w /\ Bi w D cells l3) /\ St w0 wr (.own (.slice (some ⟨EL, 0, none⟩) (l3).length cl) 103 3 (l3).length cells :: .own (.slice (some ⟨Ae, 0, none⟩) es.length ce) 3 1 es.length (AV es) :: .obj b (.map ents clock) :: .box g 101 #[.int .i64 p.roles, .pointer la, .slice Cs ns cs, .slice Ar p.rules.length cr, .slice An p.never.length cn, .slice Ag p.goal.length cg, .int .i64 lim, .slice (some ⟨EL, 0, none⟩) (l3).length cl, .map (some b), .slice (some ⟨Ae, 0, none⟩) es.length ce] :: F) K8 := ⟨_, Lib.hid fun D w h => h, hS⟩
       clear hS
       have hS := hS2
       clear hS2
       have hK8 := Lib.hid hS.stable
       have hJ0 : GJ w0 (.own (.slice (some ⟨EL, 0, none⟩) (l3).length cl) 103 3 (l3).length cells :: .own (.slice (some ⟨Ae, 0, none⟩) es.length ce) 3 1 es.length (AV es) :: .obj b (.map ents clock) :: .box g 101 #[.int .i64 p.roles, .pointer la, .slice Cs ns cs, .slice Ar p.rules.length cr, .slice An p.never.length cn, .slice Ag p.goal.length cg, .int .i64 lim, .slice (some ⟨EL, 0, none⟩) (l3).length cl, .map (some b), .slice (some ⟨Ae, 0, none⟩) es.length ce] :: F) 27 #[.slice none 0 0] (wr.drew, ⟨none, K8⟩) := hS.drew
       have hRr := @GR.refl w0 (.own (.slice (some ⟨EL, 0, none⟩) (l3).length cl) 103 3 (l3).length cells :: .own (.slice (some ⟨Ae, 0, none⟩) es.length ce) 3 1 es.length (AV es) :: .obj b (.map ents clock) :: .box g 101 #[.int .i64 p.roles, .pointer la, .slice Cs ns cs, .slice Ar p.rules.length cr, .slice An p.never.length cn, .slice Ag p.goal.length cg, .int .i64 lim, .slice (some ⟨EL, 0, none⟩) (l3).length cl, .map (some b), .slice (some ⟨Ae, 0, none⟩) es.length ce] :: F) 27 #[.slice none 0 0]
       have hRt := @GR.trans w0 (.own (.slice (some ⟨EL, 0, none⟩) (l3).length cl) 103 3 (l3).length cells :: .own (.slice (some ⟨Ae, 0, none⟩) es.length ce) 3 1 es.length (AV es) :: .obj b (.map ents clock) :: .box g 101 #[.int .i64 p.roles, .pointer la, .slice Cs ns cs, .slice Ar p.rules.length cr, .slice An p.never.length cn, .slice Ag p.goal.length cg, .int .i64 lim, .slice (some ⟨EL, 0, none⟩) (l3).length cl, .map (some b), .slice (some ⟨Ae, 0, none⟩) es.length ce] :: F) 27 #[.slice none 0 0]
       have hN0 := @GN.start 17 18 wr.drew K8
       clear hS
       refine ER (GR w0 (.own (.slice (some ⟨EL, 0, none⟩) (l3).length cl) 103 3 (l3).length cells :: .own (.slice (some ⟨Ae, 0, none⟩) es.length ce) 3 1 es.length (AV es) :: .obj b (.map ents clock) :: .box g 101 #[.int .i64 p.roles, .pointer la, .slice Cs ns cs, .slice Ar p.rules.length cr, .slice An p.never.length cn, .slice Ag p.goal.length cg, .int .i64 lim, .slice (some ⟨EL, 0, none⟩) (l3).length cl, .map (some b), .slice (some ⟨Ae, 0, none⟩) es.length ce] :: F) 27 #[.slice none 0 0]) (GN 17 18) (⟨none, K8⟩) hRr hRt [.q g 0, .q g 0, .q g 0, .i (.agg #[.int .i64 p.roles, .pointer la, .slice Cs ns cs, .slice Ar p.rules.length cr, .slice An p.never.length cn, .slice Ag p.goal.length cg]), .q g 0, .q g 0, .q g 7, .i (.slice (some ⟨EL, 0, none⟩) l3.length cl), .n ((a + j : Nat) : Int), .q EL (0 + (a + j) * 3), .q EL (0 + (a + j) * 3), .i (.agg #[ca]), .n (k : Nat), .s (fun v w => ∃ u, v = .tuple #[.agg #[u], .bool V.isSome] /\ u.oneCell' = true /\ ∀ D w1, w.2.K D w1 -> A5 w1 D (.agg #[u]) (V.getD 0)) fun v w w' h hb => by obtain ⟨u, e, e2, h⟩ := h; exact ⟨u, e, e2, fun D w1 h1 => h D w1 (hb.2.1 D w1 h1)⟩, .s (fun v w => ∃ u, v = .tuple #[.agg #[u], .bool V.isSome] /\ u.oneCell' = true /\ ∀ D w1, w.2.K D w1 -> A5 w1 D (.agg #[u]) (V.getD 0)) fun v w w' h hb => by obtain ⟨u, e, e2, h⟩ := h; exact ⟨u, e, e2, fun D w1 h1 => h D w1 (hb.2.1 D w1 h1)⟩, .s (fun v w => ∃ u, v = .agg #[u] /\ u.oneCell' = true /\ ∀ D w1, w.2.K D w1 -> A5 w1 D (.agg #[u]) (V.getD 0)) fun v w w' h hb => by obtain ⟨u, e, e2, h⟩ := h; exact ⟨u, e, e2, fun D w1 h1 => h D w1 (hb.2.1 D w1 h1)⟩, .i (.bool V.isSome), .s (fun v w => ∃ g o, v = .pointer (some ⟨g, 0, none⟩) /\ w.2.b = some (g, o)) fun v w w' h hb => hb.var h, .s (fun v w => ∃ g u, w.2.b = some (g, some #[u]) /\ u.oneCell' = true /\ ∀ D w1, w.2.K D w1 -> A5 w1 D (.agg #[u]) (V.getD 0)) fun v w w' h hb => by obtain ⟨g, u, h1, h2, h3⟩ := h; exact ⟨g, u, hb.2.2.2 g _ h1, h2, fun D w1 k => h3 D w1 (hb.2.1 D w1 k)⟩, .i (.bool V.isSome)] ?_ ⟨uM, uN, uF, uD (h := fun w hW hN => rng6 ((hW.1 hJ0).cell 3 rfl 0 rfl) ((hW.1 hJ0).cell 3 rfl 1 rfl) ((hW.1 hJ0).cell 3 rfl 2 rfl) ((hW.1 hJ0).cell 3 rfl 3 rfl) ((hW.1 hJ0).cell 3 rfl 4 rfl) ((hW.1 hJ0).cell 3 rfl 5 rfl)), uM, uN, uF, uC (h := fun w hW hN => (hW.1 hJ0).cell 3 rfl 7 rfl), uM, uI (h := fun w hW hN => Af (m := a + j) Tryz.underlying98 (by kernel_rfl) (by omega) (by omega)), uF, uD (h := fun w hW hN => rng1 (by rw [Nat.zero_add]; exact AO ((hW.1 hJ0).own 0 rfl) _ _ HC0.out)), uM, ?_, uM, ?_, ?_, ?_, ?_, uA, trivial⟩ ?_
       ·first | assumption | (intro i; (try dsimp only); split <;> first | trivial | assumption | (left; assumption))
       ·refine uG fun b__ w hW hN hE K hK => ?_
        have e55 := hE 55
        have e63 := hE 63
        have e64 := hE 64
        refine BW rfl (by kernel_rfl) (by simp only [List.map_cons, List.map_nil, e55, e63, e64]) (Gh (k : Nat) HP.out (hW.1 hJ0) (fun D w1 h => HK.out _ _ (k8.out _ _ (hW.2.1 D w1 h)).1) (fun D w1 h => HSI.out _ _ (k8.out _ _ (hW.2.1 D w1 h)).2) (fun D w1 h => HT.out _ _ (k8.out _ _ (hW.2.1 D w1 h)).1)) fun e w' ⟨x, he, hs⟩ => ⟨_, he, ?_⟩
        obtain ⟨u, rfl, h1⟩ := CT hs.ro.2
        exact hK _ (w', { w.2 with K := _ }) ⟨u, by rw [HV.out], h1, fun D w1 h => by rw [<- HV.out]; exact h.2⟩ (GK.more hs fun D w1 h => h.1)
       ·refine uG fun b__ w hW hN hE K hK => ?_
        have e51 := hE 51
        obtain ⟨u, hu, hu1, h1⟩ := e51
        exact Dm rfl hu rfl (hK _ _ ⟨u, rfl, hu1, h1⟩ ⟨hRr _, fun _ _ h => h⟩)
       ·refine uG fun b__ w hW hN hE K hK => ?_
        have e51 := hE 51
        obtain ⟨u, hu, hu1, h1⟩ := e51
        exact Dm rfl hu rfl (hK _ _ rfl ⟨hRr _, fun _ _ h => h⟩)
       ·refine uG fun b__ w hW hN hE K hK => ?_
        exact gk_alloc rfl (by kernel_rfl) (by kernel_rfl) (hW.1 hJ0) (hN.1 rfl) fun g w' hs => hK _ (w', { w.2 with b := some (g, none) }) ⟨g, none, rfl, rfl⟩ (GK.made (hN.1 rfl) hs)
       ·refine uG fun b__ w hW hN hE K hK => ?_
        have e8 := hE 8
        have e66 := hE 66
        obtain ⟨g, o, hg, hgb⟩ := e8
        obtain ⟨u, hv, hu1, hset⟩ := e66
        obtain rfl : o = none := (by cases o with | none => rfl | some cs => exact absurd hgb (hN.2 rfl g cs))
        exact gk_store rfl hg hv (hW.1 hJ0) hgb (by kernel_rfl) rfl (by simpa using hu1) fun w' hs => hK undef (w', { w.2 with b := some (g, some #[u]) }) ⟨g, u, rfl, hu1, hset⟩ (GK.put hgb hs)
       ·intro vs wz hW hT
        obtain ⟨e52, e53, e54, e55, e56, e57, e58, e59, e60, e61, e62, e63, e64, e65, e51, e66, e67, e8, z18, e9, -⟩ := hT
        have bx : (fun _ : Nat => True) 0 := trivial
        simp only [Aw, Act.put, zz, ze]
        obtain ⟨_, hst⟩ := z18
        obtain ⟨g8, o8, hg8, hgb⟩ := e8
        obtain ⟨g9, u, hgb2, hu1, hset⟩ := hst
        obtain rfl : g8 = g9 := by rw [hgb] at hgb2; injection hgb2 with h; injection h with h1 h2
        obtain ⟨A8, n8, c8, rfl⟩ := (hset _ _ (hW.1 hJ0).ro).shape
        have hS : St w0 wz.1 (.box g8 27 #[.slice A8 n8 c8] :: .own (.slice (some ⟨EL, 0, none⟩) (l3).length cl) 103 3 (l3).length cells :: .own (.slice (some ⟨Ae, 0, none⟩) es.length ce) 3 1 es.length (AV es) :: .obj b (.map ents clock) :: .box g 101 #[.int .i64 p.roles, .pointer la, .slice Cs ns cs, .slice Ar p.rules.length cr, .slice An p.never.length cn, .slice Ag p.goal.length cg, .int .i64 lim, .slice (some ⟨EL, 0, none⟩) (l3).length cl, .map (some b), .slice (some ⟨Ae, 0, none⟩) es.length ce] :: F) (fun D w => K8 D w /\ A5 w D (.agg #[.slice A8 n8 c8]) (V.getD 0)) := ((hW.1 hJ0).some hgb2).mono (hK8.out.and A6) fun D w h => ⟨hW.2.1 D w h, hset D w h⟩
        clear hW hJ0 hRr hRt hN0 hgb hgb2 hset hu1 e51 e52 e53 e54 e55 e56 e57 e58 e59 e60 e61 e62 e63 e64 e65 e66 e67
        generalize wz.1 = wf at *
        generalize vs 51 = s51, vs 52 = s52, vs 53 = s53, vs 54 = s54, vs 55 = s55, vs 56 = s56, vs 57 = s57, vs 58 = s58, vs 59 = s59, vs 60 = s60, vs 61 = s61, vs 62 = s62, vs 63 = s63, vs 64 = s64, vs 65 = s65, vs 66 = s66, vs 67 = s67
        simp only [show vs (8 : Nat) = _ from hg8]
        rw [e9]
        clear e9
        have hSr : Hid (¬ V.isSome = true -> E7 w0 wf g #[.int .i64 p.roles, .pointer la, .slice Cs ns cs, .slice Ar p.rules.length cr, .slice An p.never.length cn, .slice Ag p.goal.length cg] lim l3 es F K) := Lib.hid fun _ => ⟨_, _, _, _, _, _, _, hm.out, hn.out, (hS.sub (List.sublist_cons_self _ _)).mono (KS.out.and B5) fun D w h => k8.out D w h.1⟩
        cases V with
        | none =>
         have HAE2 : Hid (addR p l3 (a + j) k = l3) := Lib.hid (by rcases HAD.out with ⟨h, _⟩ | ⟨t, h, _⟩; exact h; cases h)
         simp only [Option.isSome_none, Option.getD_none]
         go_wp2_with fail
         refine C8 [.b false, .b true, .b true, .t, .t, .t, .t, .t, .t, .t, .t, .b true] ⟨uM, uU, uM, uW, uW, uW, uW, uW, uW, uW, uW, uP, trivial⟩ ?_
         ·intro vs wz hW hT
          obtain ⟨e68, e69, e70, e79, -⟩ := hT
          simp only [Aw, Act.put, zz, ze]
          rw [e79]
          replace hS := hS.ext hW
          clear e68 e69 e70 e79
          go_wp2_with fail
          refine ⟨⟨k + 1, by go_num, hkr, ?_, ?_⟩, by simp [intOf]; omega⟩
          ·rw [HRS.out, HAE2.out]; exact HLM
          ·rw [HRS.out, HAE2.out]
           exact Lib.hid ⟨_, _, _, _, _, _, _, hm.out, hn.out, (hS.sub (List.sublist_cons_self _ _)).mono (KS.out.and B5) fun D w h => k8.out D w h.1⟩
        | some t =>
         have HSB : Hid ((AC t).length <= 512) := Lib.hid (Fy hS.ro.2.bound)
         simp only [Option.isSome_some, Option.getD_some] at hS ⊢
         obtain ⟨sb, hsb⟩ : ∃ sb, decide (t ∈ l3.map (·.1)) = sb := ⟨_, rfl⟩
         have HSN := Lib.hid hsb
         clear hsb
         go_wp2_with fail
         refine C8 [.b true, .b false, .b false, .q g 0, .q g 0, .q g 8, .i (.map (some b)), .i (.agg #[.slice A8 n8 c8]), .s (fun v w => Sl w (fun _ => True) 1 v (AC t).length (Fj (AC t))) fun v w w' h hb => h.ext hb, .i (.string (F7 t)), .i (.bool sb), .i (.bool sb)] ⟨uM, uU, uM, uM, uN, uF, uC (h := fun w hW hN => (hS.ext hW).shut 4 rfl 8 rfl), uR (h := fun w hW hN => (hS.ext hW).box 0 rfl), ?_, ?_, ?_, uP, trivial⟩ ?_
         ·refine uT fun b__ w hW hE K hK => ?_
          have e75 := hE 75
          exact AF rfl (by kernel_rfl) (by simp only [List.map_cons, List.map_nil, e75]) (Du _ t _ _ (hS.ext hW).ro.2) fun v w' h hb => hK v w' (h.imp fun _ _ _ => trivial) hb
         ·refine uT fun b__ w hW hE K hK => ?_
          have e76 := hE 76
          exact FK rfl rfl (Hs e76) (hK _ _ rfl (Below.refl _ _))
         ·refine uT fun b__ w hW hE K hK => ?_
          have e74 := hE 74
          have e77 := hE 77
          exact opw_lookup rfl e74 e77 (by rw [<- HSN.out]; exact run_seen hm.out ((hS.ext hW).holds _ (List.mem_of_getElem? (i := 3) rfl)).2 HSB.out) (hK _ _ rfl (Below.refl _ _))
         ·intro vs wz hW hT
          obtain ⟨e68, e69, e70, e71, e72, e73, e74, e75, e76, e77, e78, e79, -⟩ := hT
          have bx : (fun _ : Nat => True) 0 := trivial
          simp only [Aw, Act.put, zz, ze]
          rw [e79]
          replace hS := hS.ext hW
          clear e68 e69 e70 e71 e72 e73 e74 e75 e76 e77 e78 e79 hW
          cases sb
          ·have HTN : Hid (¬ t ∈ l3.map (·.1)) := Lib.hid (of_decide_eq_false HSN.out)
           have HAE2 : Hid (addR p l3 (a + j) k = l3 ++ [(t, ((a + j : Nat) : Int), (k : Int))]) := Lib.hid (by
            rcases HAD.out with ⟨_, h⟩ | ⟨t', h, _, h2⟩
            ·exact absurd (h t rfl) HTN.out
            ·obtain rfl := Option.some.inj h; exact h2)
           rw [HAE2.out] at HRS
           go_wp2_with fail
           refine wp_zL 7 [] [.q g 0, .q g 0, .q g 8, .i (.map (some b)), .i (.agg #[.slice A8 n8 c8]), .s (fun v w => Sl w (fun _ => True) 1 v (AC t).length (Fj (AC t))) fun v w w' h hb => h.ext hb, .i (.string (F7 t)), .t] ⟨uM, uN, uF, uC (h := fun w hW hN => (hS.ext hW).shut 4 rfl 8 rfl), uR (h := fun w hW hN => (hS.ext hW).box 0 rfl), ?_, ?_, trivial⟩ ?_
           ·refine uT fun b__ w hW hE K hK => ?_
            have e84 := hE 84
            exact AF rfl (by kernel_rfl) (by simp only [List.map_cons, List.map_nil, e84]) (Du _ t _ _ (hS.ext hW).ro.2) fun v w' h hb => hK v w' (h.imp fun _ _ _ => trivial) hb
           ·refine uT fun b__ w hW hE K hK => ?_
            have e85 := hE 85
            exact FK rfl rfl (Hs e85) (hK _ _ rfl (Below.refl _ _))
           ·intro vs wz hW hT
            obtain ⟨e80, e81, e82, e83, e84, e85, e86, -⟩ := hT
            have bx : (fun _ : Nat => True) 0 := trivial
            simp only [Aw, Act.put, zz, ze]
            have hS1 := hS.ext hW
            have hn2 := hn.out
            obtain ⟨wn, es2, ck2, hrun, hm2, hS2, -, -⟩ := hS1.enter 3 rfl hm.out HSB.out (by omega)
            (intro o_ ho_; simp only [List.getElem?_toArray, List.getElem?_cons_succ, List.getElem?_cons_zero, Option.some.injEq] at ho_; subst ho_)
            refine opw_insert rfl e83 e86 rfl hrun ?_
            simp only [Dz]
            simp only [Act.put, List.setIfInBounds_toArray, List.set_cons_zero, List.set_cons_succ]
            clear hS hS1 hW e80 e81 e82 e83 e84 e85 e86 hrun
            have hS := hS2
            clear hS2 hSr hm
            have hm := Lib.hid hm2
            clear hm2
            simp only [List.set_cons_zero, List.set_cons_succ] at hS
            go_wp2_with fail
            have hSd := hS.drew
            clear hS
            refine wp_zS [9, 10, 13] [some (.pointer (some ⟨g, 0, none⟩)), some (.pointer (some ⟨g, 0, none⟩)), some (.pointer (some ⟨g, 0, none⟩)), some (.pointer (some ⟨g, 7, none⟩)), some (.slice (some ⟨EL, 0, none⟩) l3.length cl), some (.agg #[.slice A8 n8 c8]), some (.int .i64 ((a + j : Nat) : Int)), some (.int .i64 (k : Nat)), some (.agg #[.slice A8 n8 c8, .int .i64 ((a + j : Nat) : Int), .int .i64 (k : Nat)]), none, none, some (.pointer (some ⟨g, 0, none⟩)), some (.pointer (some ⟨g, 7, none⟩)), none] (fun vs w => match vs with | [] => St w0 w (.box g8 27 #[.slice A8 n8 c8] :: .own (.slice (some ⟨EL, 0, none⟩) l3.length cl) 103 3 l3.length cells :: .own (.slice (some ⟨Ae, 0, none⟩) es.length ce) 3 1 es.length (AV es) :: .obj b (.map es2 ck2) :: .box g 101 #[.int .i64 p.roles, .pointer la, .slice Cs ns cs, .slice Ar p.rules.length cr, .slice An p.never.length cn, .slice Ag p.goal.length cg, .int .i64 lim, .slice (some ⟨EL, 0, none⟩) l3.length cl, .map (some b), .slice (some ⟨Ae, 0, none⟩) es.length ce] :: F) (fun D w => K8 D w /\ A5 w D (.agg #[.slice A8 n8 c8]) t) | [u] => St w0 w (.box g8 27 #[.slice A8 n8 c8] :: .own (.slice (some ⟨EL, 0, none⟩) l3.length cl) 103 3 l3.length cells :: .own (.slice (some ⟨Ae, 0, none⟩) es.length ce) 3 1 es.length (AV es) :: .obj b (.map es2 ck2) :: .box g 101 #[.int .i64 p.roles, .pointer la, .slice Cs ns cs, .slice Ar p.rules.length cr, .slice An p.never.length cn, .slice Ag p.goal.length cg, .int .i64 lim, .slice (some ⟨EL, 0, none⟩) l3.length cl, .map (some b), .slice (some ⟨Ae, 0, none⟩) es.length ce] :: F) (fun D w => (fun D w => K8 D w /\ A5 w D (.agg #[.slice A8 n8 c8]) t) D w /\ Sl w D 3 u 1 [Value.slice A8 n8 c8, Value.int .i64 ((a + j : Nat) : Int), Value.int .i64 (k : Nat)]) | [_, p'] => St w0 w (.box g8 27 #[.slice A8 n8 c8] :: .own p' 103 3 (l3.length + 1) (cells ++ [Value.slice A8 n8 c8, Value.int .i64 ((a + j : Nat) : Int), Value.int .i64 (k : Nat)]) :: .own (.slice (some ⟨Ae, 0, none⟩) es.length ce) 3 1 es.length (AV es) :: .obj b (.map es2 ck2) :: .box g 101 #[.int .i64 p.roles, .pointer la, .slice Cs ns cs, .slice Ar p.rules.length cr, .slice An p.never.length cn, .slice Ag p.goal.length cg, .int .i64 lim, .slice (some ⟨EL, 0, none⟩) l3.length cl, .map (some b), .slice (some ⟨Ae, 0, none⟩) es.length ce] :: F) (fun D w => K8 D w /\ A5 w D (.agg #[.slice A8 n8 c8]) t) | [_, p', _] => St w0 w (.box g8 27 #[.slice A8 n8 c8] :: .own p' 103 3 (l3.length + 1) (cells ++ [Value.slice A8 n8 c8, Value.int .i64 ((a + j : Nat) : Int), Value.int .i64 (k : Nat)]) :: .own (.slice (some ⟨Ae, 0, none⟩) es.length ce) 3 1 es.length (AV es) :: .obj b (.map es2 ck2) :: .box g 101 #[.int .i64 p.roles, .pointer la, .slice Cs ns cs, .slice Ar p.rules.length cr, .slice An p.never.length cn, .slice Ag p.goal.length cg, .int .i64 lim, p', .map (some b), .slice (some ⟨Ae, 0, none⟩) es.length ce] :: F) (fun D w => K8 D w /\ A5 w D (.agg #[.slice A8 n8 c8]) t) | _ => False) ?_ ⟨vM, vM, vN, vF, ?_, ?_, vM, vM, ?_, ?_, ?_, vN, vF, ?_, trivial⟩ ?_
            ·first | assumption | (dsimp only; assumption)
            ·refine vR 0 1 fun b__ w vs hS h1 h2 hE K hK => ?_
             rcases vs with _ | ⟨x0, _ | ⟨x1, vs⟩⟩ <;> first | (exfalso; first | exact hS | (revert h1 h2; simp <;> omega); done) | ((have e90 := hE 90); (exact Ab rfl e90 (by kernel_rfl) (hS.shut 4 rfl 7 rfl) (hK _ rfl)))
            ·refine vR 0 0 fun b__ w vs hS h1 h2 hE K hK => ?_
             rcases vs with _ | ⟨x0, vs⟩ <;> first | (exfalso; first | exact hS | (revert h1 h2; simp <;> omega); done) | ((have e8 : b__.eval (.tmp 8) = .pointer (some ⟨g8, 0, none⟩) := hE 8); (exact Bq rfl e8 (hS.box 0 rfl) Tryz.underlying27 rfl (by kernel_rfl) (hK _ rfl)))
            ·refine vR 0 0 fun b__ w vs hS h1 h2 hE K hK => ?_
             rcases vs with _ | ⟨x0, vs⟩ <;> first | (exfalso; first | exact hS | (revert h1 h2; simp <;> omega); done) | ((have e92 := hE 92); (have e93 := hE 93); (have e94 := hE 94); (exact Cp rfl (ps := [(0, .agg #[.slice A8 n8 c8]), (1, .int .i64 ((a + j : Nat) : Int)), (2, .int .i64 (k : Nat))]) (by simp [e92, e93, e94]) (cells := #[.slice A8 n8 c8, .int .i64 ((a + j : Nat) : Int), .int .i64 (k : Nat)]) (by kernel_rfl) (hK _ rfl)))
            ·refine vX 0 fun b__ w vs hS hl hE K hK => ?_
             obtain rfl := Fm hl
             have e95 := hE 95
             refine BV rfl Tryz.underlying98 (ps := [(0, .agg #[.slice A8 n8 c8, .int .i64 ((a + j : Nat) : Int), .int .i64 (k : Nat)])]) (by simp [e95]) (cells := #[.slice A8 n8 c8, .int .i64 ((a + j : Nat) : Int), .int .i64 (k : Nat)]) (by kernel_rfl) fun w' hX hb => hK _ w' (hS.ret hb (Ah (by decide)) ((Sl.of_box (n := 1) (size := 3) hX rfl (by omega)).imp fun z hz _ => Nat.le_of_eq hz.symm))
            ·refine vX 1 fun b__ w vs hS hl hE K hK => ?_
             obtain ⟨x0, rfl⟩ := Ey hl
             have e91 := hE 91
             have e96 := hE 96
             refine DR rfl ty_reached e91 (hS.own 1 rfl) e96 hS.ro.2 (by intro u hu; simp at hu; rcases hu with rfl | rfl | rfl <;> rfl) (by omega) (by omega) hS.size ?_
             intro v' w' ho hg hat
             exact hK v' w' ((hS.upd 1 rfl (.own v' 103 3 (l3.length + 1) (cells ++ [Value.slice A8 n8 c8, Value.int .i64 ((a + j : Nat) : Int), Value.int .i64 (k : Nat)])) hg ho hat).mono (hK8.out.and A6) fun D w h => h.1)
            ·refine vX 2 fun b__ w vs hS hl hE K hK => ?_
             obtain ⟨x0, x1, rfl⟩ := Ex hl
             have e99 := hE 99
             have e97 := hE 97
             refine CA rfl e99 e97 (hS.box 4 rfl) (by simp) (EG (hS.own 1 rfl)) (GZ (hS.own 1 rfl)) (by kernel_rfl) ?_
             intro w' hbx hup
             exact hK _ w' (hS.upd 4 rfl (.box g 101 #[.int .i64 p.roles, .pointer la, .slice Cs ns cs, .slice Ar p.rules.length cr, .slice An p.never.length cn, .slice Ag p.goal.length cg, .int .i64 lim, x1, .map (some b), .slice (some ⟨Ae, 0, none⟩) es.length ce]) (Bw hup) ⟨(hS.holds _ (List.mem_of_getElem? (i := 4) rfl)).1, hbx⟩ fun _ e => .inl e)
            ·intro us wz vs hS hl hT
             obtain ⟨x0, x1, x2, rfl⟩ := Ew hl
             obtain ⟨e87, e88, e89, e90, e91, e92, e93, e94, e95, e96, e97, e98, e99, -⟩ := hT
             clear hl
             simp only [Aw, Act.put, zz, ze]
             have hS1 : St w0 wz (.box g8 27 #[.slice A8 n8 c8] :: .own x1 103 3 (l3.length + 1) (cells ++ [Value.slice A8 n8 c8, Value.int .i64 ((a + j : Nat) : Int), Value.int .i64 (k : Nat)]) :: .own (.slice (some ⟨Ae, 0, none⟩) es.length ce) 3 1 es.length (AV es) :: .obj b (.map es2 ck2) :: .box g 101 #[.int .i64 p.roles, .pointer la, .slice Cs ns cs, .slice Ar p.rules.length cr, .slice An p.never.length cn, .slice Ag p.goal.length cg, .int .i64 lim, x1, .map (some b), .slice (some ⟨Ae, 0, none⟩) es.length ce] :: F) (fun D w => K8 D w /\ A5 w D (.agg #[.slice A8 n8 c8]) t) := hS
             clear hS
             obtain ⟨A80, c80, rfl, _, _⟩ := Ba (hS1.own 1 rfl) (by omega)
             generalize us 87 = s87, us 88 = s88, us 89 = s89, us 90 = s90, us 91 = s91, us 92 = s92, us 93 = s93, us 94 = s94, us 95 = s95, us 96 = s96, us 98 = s98, us 99 = s99
             have HCL : Hid (cells.length = l3.length * 3) := Lib.hid HCL0.out
             have hS := hS1.mono (KS.out.and B5) fun D w h => ⟨(k8.out _ _ h.1).1, Bi.append HCL.out (k8.out _ _ h.1).2 (Bi.single (z := (t, ((a + j : Nat) : Int), (k : Int))) h.2)⟩
             clear hS1
             obtain ⟨ov, hov⟩ : ∃ ov, decide (((l3.length + 1 : Nat) : Int) > lim) = ov := ⟨_, rfl⟩
             have HOV := Lib.hid hov
             clear hov
             go_wp2_with fail
             refine C8 [.q g 0, .q g 0, .q g 7, .i (.slice (some ⟨A80, 0, none⟩) (l3.length + 1) c80), .n ((l3.length + 1 : Nat) : Int), .q g 0, .q g 0, .q g 6, .n lim, .i (.bool ov)] ⟨uM, uN, uF, uC (h := fun w hW hN => (hS.ext hW).shut 4 rfl 7 rfl), ?_, uM, uN, uF, uC (h := fun w hW hN => (hS.ext hW).shut 4 rfl 6 rfl), uB (h := fun w hW hN => run_gtB HOV.out), trivial⟩ ?_
             ·refine uT fun b__ w hW hE K hK => ?_
              have e103 := hE 103
              exact Da rfl e103 Tryz.underlying98 (hK _ _ rfl (Below.refl _ _))
             ·intro vs wz hW hT
              obtain ⟨e100, e101, e102, e103, e104, e105, e106, e107, e108, e109, -⟩ := hT
              simp only [Aw, Act.put, zz, ze]
              rw [e109]
              replace hS := hS.ext hW
              clear hW e100 e101 e102 e103 e104 e105 e106 e107 e108 e109
              cases ov
              ·go_wp2_with fail
               have hnl := of_decide_eq_false HOV.out
               refine ⟨⟨k + 1, by go_num, hkr, ?_, ?_⟩, by simp [intOf]; omega⟩
               ·rw [HRS.out]; exact Lib.hid (by rw [List.length_append, List.length_singleton]; omega)
               ·rw [HRS.out]
                refine Lib.hid ?_
                refine ⟨.slice (some ⟨A80, 0, none⟩) (l3.length + 1) c80, .slice (some ⟨Ae, 0, none⟩) es.length ce, cells ++ [.slice A8 n8 c8, .int .i64 ((a + j : Nat) : Int), .int .i64 (k : Nat)], b, ck2, n + 1, es2, by rw [List.map_append]; exact hm.out, by rw [List.length_append, List.length_singleton]; omega, ?_⟩
                rw [HSC.out, List.length_append, List.length_singleton]
                exact hS.sub (List.sublist_cons_self _ _)
              ·go_wp2_with fail
               go_ret2
               have hnl := of_decide_eq_true HOV.out
               refine .inr ⟨?_, rfl, (hS.sub (((((List.sublist_cons_self _ _).trans (List.sublist_cons_self _ _)).trans (List.sublist_cons_self _ _)).trans (List.sublist_cons_self _ _)).trans (List.sublist_cons_self _ _))).mono KS.out fun D w h => h.1⟩
               have h1 := HRM.out.length_le
               rw [HRS.out, List.length_append, List.length_singleton, <- HLV.out] at h1
               have h2 := HMN.out.length_le
               omega
          ·have HAE2 : Hid (addR p l3 (a + j) k = l3) := Lib.hid (by
            rcases HAD.out with ⟨h, _⟩ | ⟨t', h, h2, _⟩
            ·exact h
            ·obtain rfl := Option.some.inj h; exact absurd (of_decide_eq_true HSN.out) h2)
           go_wp2_with fail
           refine ⟨⟨k + 1, by go_num, hkr, ?_, ?_⟩, by simp [intOf]; omega⟩
           ·rw [HRS.out, HAE2.out]; exact HLM
           ·rw [HRS.out, HAE2.out]
            exact Lib.hid ⟨_, _, _, _, _, _, _, hm.out, hn.out, (hS.sub (List.sublist_cons_self _ _)).mono (KS.out.and B5) fun D w h => k8.out D w h.1⟩
      ·obtain rfl : k = p.rules.length := by omega
       have hS0 := HS.out
       clear HS
       go_wp2_with (first | ((with_reducible refine qB ?_); refine qc ?_ ?_ <;> intro h_ <;> go_prune))
       refine ⟨⟨j + 1, by go_num, by omega, ?_, ?_⟩, by simp [intOf]; omega⟩
       ·rw [HLV.out]; exact HLM
       ·rw [HLV.out]; exact Lib.hid hS0
   ·have hje : a + j = l.length := by omega
    obtain rfl : j = l.length - a := by omega
    have HD : Hid (decide (((a + (l.length - a) : Nat) : Int) < ((l.length : Nat) : Int)) = false) := Lib.hid (decide_eq_false (by omega))
    obtain ⟨l2, hl2⟩ : ∃ l2, lvlR p l a (l.length - a) = l2 := ⟨_, rfl⟩
    rw [hl2] at HLN HS hwl hpl
    have HL2 := Lib.hid hl2
    clear hl2
    have HWL := Lib.hid hwl
    clear hwl
    have hS0 := HS.out
    clear HS
    have hln2 := HLN.out
    obtain ⟨lv, ev, cells, b, clock, n, ents, hm, hn, hS⟩ := hS0; obtain ⟨EL, cl, rfl, hcl, _⟩ := Ba (hS.own 0 rfl) (by omega); obtain ⟨Ae, ce, rfl, _, _⟩ := Ba (hS.own 1 rfl) HE0.out; have HCL0 := Lib.hid (hS.own 0 rfl).1; rw [HSC.out] at hS; replace hm := Lib.hid hm; replace hn := Lib.hid hn
    go_wp2_with fail
    refine C8 [.n ((a + (l.length - a) : Nat) : Int), .q g 0, .q g 0, .q g 9, .i (.slice (some ⟨Ae, 0, none⟩) es.length ce), .q g 0, .q g 0, .q g 9, .i (.slice (some ⟨Ae, 0, none⟩) es.length ce), .n (es.length : Nat), .n ((es.length - 1 : Nat) : Int), .q Ae (0 + (es.length - 1) * 1), .n (l.length : Nat), .b false] ⟨uM, uM, uN, uF, uC (h := fun w hW hN => (hS.ext hW).shut 3 rfl 9 rfl), uM, uN, uF, uC (h := fun w hW hN => (hS.ext hW).shut 3 rfl 9 rfl), ?_, uB (h := fun w hW hN => by rw [Cl (by omega) (by omega), HLE1.out]), uI (h := fun w hW hN => Af (m := es.length - 1) Tryz.underlying40 (by kernel_rfl) (by omega) (by omega)), uC (h := fun w hW hN => by rw [Nat.mul_one, Nat.zero_add]; exact AO ((hS.ext hW).own 1 rfl) _ _ HEE.out), uB (h := fun w hW hN => run_ltB HD.out), trivial⟩ ?_
    ·refine uT fun b__ w hW hE K hK => ?_
     have e34 := hE 34
     exact Da rfl e34 Tryz.underlying40 (hK _ _ rfl (Below.refl _ _))
    ·intro vs wz hW hT
     obtain ⟨e26, e27, e28, e29, e30, e31, e32, e33, e34, e35, e36, e37, e38, e39, -⟩ := hT
     simp only [Aw, Act.put, zz, ze]
     rw [e39]
     clear e26 e27 e28 e29 e30 e31 e32 e33 e34 e35 e36 e37 e38 e39
     replace hS := hS.ext hW
     clear hW
     obtain ⟨eq, heq⟩ : ∃ eq, decide (((l2.length : Nat) : Int) = ((l.length : Nat) : Int)) = eq := ⟨_, rfl⟩
     have HQ := Lib.hid heq
     clear heq
     go_wp2_with fail
     refine C8 [.q g 0, .q g 0, .q g 7, .i (.slice (some ⟨EL, 0, none⟩) l2.length cl), .n (l2.length : Nat), .q g 0, .q g 0, .q g 9, .i (.slice (some ⟨Ae, 0, none⟩) es.length ce), .q g 0, .q g 0, .q g 9, .i (.slice (some ⟨Ae, 0, none⟩) es.length ce), .n (es.length : Nat), .n ((es.length - 1 : Nat) : Int), .q Ae (0 + (es.length - 1) * 1), .n (l.length : Nat), .i (.bool eq)] ⟨uM, uN, uF, uC (h := fun w hW hN => (hS.ext hW).shut 3 rfl 7 rfl), ?_, uM, uN, uF, uC (h := fun w hW hN => (hS.ext hW).shut 3 rfl 9 rfl), uM, uN, uF, uC (h := fun w hW hN => (hS.ext hW).shut 3 rfl 9 rfl), ?_, uB (h := fun w hW hN => by rw [Cl (by omega) (by omega), HLE1.out]), uI (h := fun w hW hN => Af (m := es.length - 1) Tryz.underlying40 (by kernel_rfl) (by omega) (by omega)), uC (h := fun w hW hN => by rw [Nat.mul_one, Nat.zero_add]; exact AO ((hS.ext hW).own 1 rfl) _ _ HEE.out), uB (h := fun w hW hN => run_eqB HQ.out), trivial⟩ ?_
     ·refine uT fun b__ w hW hE K hK => ?_
      have e114 := hE 114
      exact Da rfl e114 Tryz.underlying98 (hK _ _ rfl (Below.refl _ _))
     ·refine uT fun b__ w hW hE K hK => ?_
      have e123 := hE 123
      exact Da rfl e123 Tryz.underlying40 (hK _ _ rfl (Below.refl _ _))
     ·intro vs wz hW hT
      obtain ⟨e111, e112, e113, e114, e115, e116, e117, e118, e119, e120, e121, e122, e123, e124, e125, e126, e127, e128, -⟩ := hT
      simp only [Aw, Act.put, zz, ze]
      rw [e128]
      clear e111 e112 e113 e114 e115 e116 e117 e118 e119 e120 e121 e122 e123 e124 e125 e126 e127 e128
      replace hS := hS.ext hW
      clear hW
      cases eq
      ·have hlt : l.length < l2.length := by have := of_decide_eq_false HQ.out; omega
       go_wp2_with fail
       have hSd := hS.drew
       clear hS
       refine wp_zS [10, 11, 14] [some (.pointer (some ⟨g, 0, none⟩)), some (.pointer (some ⟨g, 0, none⟩)), some (.pointer (some ⟨g, 0, none⟩)), some (.pointer (some ⟨g, 9, none⟩)), some (.slice (some ⟨Ae, 0, none⟩) es.length ce), some (.pointer (some ⟨g, 0, none⟩)), some (.pointer (some ⟨g, 0, none⟩)), some (.pointer (some ⟨g, 7, none⟩)), some (.slice (some ⟨EL, 0, none⟩) l2.length cl), some (.int .i64 (l2.length : Nat)), none, none, some (.pointer (some ⟨g, 0, none⟩)), some (.pointer (some ⟨g, 9, none⟩)), none] (fun vs w => match vs with | [] => St w0 w (.own (.slice (some ⟨EL, 0, none⟩) l2.length cl) 103 3 l2.length cells :: .own (.slice (some ⟨Ae, 0, none⟩) es.length ce) 3 1 es.length (AV es) :: .obj b (.map ents clock) :: .box g 101 #[.int .i64 p.roles, .pointer la, .slice Cs ns cs, .slice Ar p.rules.length cr, .slice An p.never.length cn, .slice Ag p.goal.length cg, .int .i64 lim, .slice (some ⟨EL, 0, none⟩) l2.length cl, .map (some b), .slice (some ⟨Ae, 0, none⟩) es.length ce] :: F) (fun D w => K D w /\ Bi w D cells l2) | [u] => St w0 w (.own (.slice (some ⟨EL, 0, none⟩) l2.length cl) 103 3 l2.length cells :: .own (.slice (some ⟨Ae, 0, none⟩) es.length ce) 3 1 es.length (AV es) :: .obj b (.map ents clock) :: .box g 101 #[.int .i64 p.roles, .pointer la, .slice Cs ns cs, .slice Ar p.rules.length cr, .slice An p.never.length cn, .slice Ag p.goal.length cg, .int .i64 lim, .slice (some ⟨EL, 0, none⟩) l2.length cl, .map (some b), .slice (some ⟨Ae, 0, none⟩) es.length ce] :: F) (fun D w => (fun D w => K D w /\ Bi w D cells l2) D w /\ Sl w D 1 u 1 [Value.int .i64 (l2.length : Nat)]) | [_, p'] => St w0 w (.own (.slice (some ⟨EL, 0, none⟩) l2.length cl) 103 3 l2.length cells :: .own p' 3 1 (es.length + 1) (AV es ++ [Value.int .i64 (l2.length : Nat)]) :: .obj b (.map ents clock) :: .box g 101 #[.int .i64 p.roles, .pointer la, .slice Cs ns cs, .slice Ar p.rules.length cr, .slice An p.never.length cn, .slice Ag p.goal.length cg, .int .i64 lim, .slice (some ⟨EL, 0, none⟩) l2.length cl, .map (some b), .slice (some ⟨Ae, 0, none⟩) es.length ce] :: F) (fun D w => K D w /\ Bi w D cells l2) | [_, p', _] => St w0 w (.own (.slice (some ⟨EL, 0, none⟩) l2.length cl) 103 3 l2.length cells :: .own p' 3 1 (es.length + 1) (AV es ++ [Value.int .i64 (l2.length : Nat)]) :: .obj b (.map ents clock) :: .box g 101 #[.int .i64 p.roles, .pointer la, .slice Cs ns cs, .slice Ar p.rules.length cr, .slice An p.never.length cn, .slice Ag p.goal.length cg, .int .i64 lim, .slice (some ⟨EL, 0, none⟩) l2.length cl, .map (some b), p'] :: F) (fun D w => K D w /\ Bi w D cells l2) | _ => False) ?_ ⟨vM, vM, vN, vF, ?_, vM, vN, vF, ?_, ?_, ?_, ?_, vN, vF, ?_, trivial⟩ ?_
       ·first | assumption | (dsimp only; assumption)
       ·refine vR 0 1 fun b__ w vs hS h1 h2 hE K hK => ?_
        rcases vs with _ | ⟨x0, _ | ⟨x1, vs⟩⟩ <;> first | (exfalso; first | exact hS | (revert h1 h2; simp <;> omega); done) | ((have e132 := hE 132); (exact Ab rfl e132 (by kernel_rfl) (hS.shut 3 rfl 9 rfl) (hK _ rfl)))
       ·refine vR 0 0 fun b__ w vs hS h1 h2 hE K hK => ?_
        rcases vs with _ | ⟨x0, vs⟩ <;> first | (exfalso; first | exact hS | (revert h1 h2; simp <;> omega); done) | ((have e136 := hE 136); (exact Ab rfl e136 (by kernel_rfl) (hS.shut 3 rfl 7 rfl) (hK _ rfl)))
       ·refine vR 0 0 fun b__ w vs hS h1 h2 hE K hK => ?_
        rcases vs with _ | ⟨x0, vs⟩ <;> first | (exfalso; first | exact hS | (revert h1 h2; simp <;> omega); done) | ((have e137 := hE 137); (exact Da rfl e137 Tryz.underlying98 (hK _ rfl)))
       ·refine vX 0 fun b__ w vs hS hl hE K hK => ?_
        obtain rfl := Fm hl
        have e138 := hE 138
        refine BV rfl Tryz.underlying40 (ps := [(0, .int .i64 (l2.length : Nat))]) (by simp [e138]) (cells := #[.int .i64 (l2.length : Nat)]) (by kernel_rfl) fun w' hX hb => hK _ w' (hS.ret hb (Ah (by decide)) ((Sl.of_box (n := 1) (size := 1) hX rfl (by omega)).imp fun z hz _ => Nat.le_of_eq hz.symm))
       ·refine vX 1 fun b__ w vs hS hl hE K hK => ?_
        obtain ⟨x0, rfl⟩ := Ey hl
        have e133 := hE 133
        have e139 := hE 139
        refine DR rfl Dh e133 (hS.own 1 rfl) e139 hS.ro.2 (by intro u hu; simp at hu; subst hu; rfl) (by omega) (by omega) hS.size ?_
        intro v' w' ho hg hat
        exact hK v' w' ((hS.upd 1 rfl (.own v' 3 1 (es.length + 1) (AV es ++ [Value.int .i64 (l2.length : Nat)])) hg ho hat).mono (KS.out.and B5) fun D w h => h.1)
       ·refine vX 2 fun b__ w vs hS hl hE K hK => ?_
        obtain ⟨x0, x1, rfl⟩ := Ex hl
        have e142 := hE 142
        have e140 := hE 140
        refine CA rfl e142 e140 (hS.box 3 rfl) (by simp) (EG (hS.own 1 rfl)) (GZ (hS.own 1 rfl)) (by kernel_rfl) ?_
        intro w' hbx hup
        exact hK _ w' (hS.upd 3 rfl (.box g 101 #[.int .i64 p.roles, .pointer la, .slice Cs ns cs, .slice Ar p.rules.length cr, .slice An p.never.length cn, .slice Ag p.goal.length cg, .int .i64 lim, .slice (some ⟨EL, 0, none⟩) l2.length cl, .map (some b), x1]) (Bw hup) ⟨(hS.holds _ (List.mem_of_getElem? (i := 3) rfl)).1, hbx⟩ fun _ e => .inl e)
       ·intro us wz vs hS hl hT
        obtain ⟨x0, x1, x2, rfl⟩ := Ew hl
        obtain ⟨e129, e130, e131, e132, e133, e134, e135, e136, e137, e138, e139, e140, e141, e142, -⟩ := hT
        clear hl
        simp only [Aw, Act.put, zz, ze]
        have hS1 : St w0 wz (.own (.slice (some ⟨EL, 0, none⟩) l2.length cl) 103 3 l2.length cells :: .own x1 3 1 (es.length + 1) (AV es ++ [Value.int .i64 (l2.length : Nat)]) :: .obj b (.map ents clock) :: .box g 101 #[.int .i64 p.roles, .pointer la, .slice Cs ns cs, .slice Ar p.rules.length cr, .slice An p.never.length cn, .slice Ag p.goal.length cg, .int .i64 lim, .slice (some ⟨EL, 0, none⟩) l2.length cl, .map (some b), x1] :: F) (fun D w => K D w /\ Bi w D cells l2) := hS
        clear hS
        obtain ⟨A80, c80, rfl, _, _⟩ := Ba (hS1.own 1 rfl) (by omega)
        go_wp2_with fail
        go_ret2
        rw [DeepR, HL2.out]
        refine .inl ⟨HLN.out, by rw [decide_eq_true hlt]; rfl, ?_⟩
        rw [if_pos hlt]
        refine ⟨.slice (some ⟨EL, 0, none⟩) l2.length cl, .slice (some ⟨A80, 0, none⟩) (es.length + 1) c80, cells, b, clock, n, ents, hm.out, hn.out, ?_⟩
        rw [HSC.out, show (es ++ [l2.length]).length = es.length + 1 by simp, show AV (es ++ [l2.length]) = AV es ++ [.int .i64 (l2.length : Nat)] by simp [AV]]
        exact hS1
      ·have hnl : ¬ l.length < l2.length := by have := of_decide_eq_true HQ.out; omega
       go_wp2_with fail
       go_ret2
       rw [DeepR, HL2.out]
       refine .inl ⟨HLN.out, by rw [decide_eq_false hnl]; rfl, ?_⟩
       rw [if_neg hnl]
       exact ⟨.slice (some ⟨EL, 0, none⟩) l2.length cl, .slice (some ⟨Ae, 0, none⟩) es.length ce, cells, b, clock, n, ents, hm.out, hn.out, by rw [HSC.out]; exact hS⟩
end
section
open Go.RowKit
attribute [local go_sem ↓] Go.wp_at_zero Go.wp_at_succ
set_option maxRecDepth 20000
set_option exponentiation.threshold 5000
theorem Ij (p : Ac) (d : Nat) : (endsN p d).length = d + 1 := by simp [endsN]
theorem ends_at (p : Ac) {d e : Nat} (h : e <= d) : (endsN p d)[e]? = some (srchN p e).1.length := by
 unfold endsN; rw [List.getElem?_map, List.getElem?_range (by omega)]; rfl
theorem ends_succ (p : Ac) (d : Nat) : endsN p (d + 1) = endsN p d ++ [(srchN p (d + 1)).1.length] := by
 unfold endsN; rw [List.range_succ, List.map_append]; rfl
theorem ends_last (p : Ac) (d : Nat) : (endsN p d)[(endsN p d).length - 1]? = some (srchN p d).1.length := by
 rw [Ij, Nat.add_sub_cancel]; exact ends_at p (Nat.le_refl _)
theorem ends_prev (p : Ac) (d : Nat) : ((endsN p d).length <= 1 /\ (srchN p d).2 = 0) \/ (1 < (endsN p d).length /\ (endsN p d)[(endsN p d).length - 2]? = some (srchN p d).2) := by
 rw [Ij]
 cases d with
 | zero => exact .inl ⟨by omega, rfl⟩
 | succ d => exact .inr ⟨by omega, ends_at p (by omega)⟩
theorem cmpL_swap : ∀ {a b : List Nat}, Bn a b = -1 -> Bn b a = 1
 | [], [], h => absurd h (by decide)
 | [], _ :: _, _ => rfl
 | _ :: _, [], h => by simp [Bn] at h
 | x :: a, y :: b, h => by
  rw [Bn] at h ⊢
  split at h
  ·rename_i h0
   have : x = y := by unfold CL at h0; split at h0 <;> first | omega | (split at h0 <;> omega)
   subst this
   rw [if_pos (by simp [CL])]
   exact cmpL_swap h
  ·have h1 : x < y := by unfold CL at h; split at h <;> first | omega | (split at h <;> omega)
   have h2 : CL y x = 1 := by unfold CL; rw [if_neg (by omega), if_pos h1]
   rw [if_neg (by rw [h2]; decide), h2]
def ReachR (w0 : World) (p : Ac) (lim : Int) (F : List Aa) (K : (Nat -> Prop) -> World -> Prop) (e : Ending) (w' : World) : Prop :=
 ∃ n f pl er u, Ix p lim n f pl er /\ e = .returned (.tuple #[.agg #[.int .i64 (n : Nat), .bool f, u], .int .i64 er]) /\ St w0 w' F fun D w => K D w /\ Sl w D 1 u pl.length (AV pl)
set_option maxHeartbeats 8000000 in
theorem DV {w0 w : World} {F : List Aa} {K : (Nat -> Prop) -> World -> Prop} {v : Value} {p : Ac} (lim : Int) (hlim : checkE p = 0 -> lim <= 10000) (hP : p.Ok) (hrl : p.rules.length <= 1000) (hS : St w0 w F K) (kp : ∀ D w, K D w -> Bg w D v p) (kt : ∀ D w, K D w -> BM w) :
  Calls Tryz.prog 15 #[v, .int .i64 lim] w (ReachR w0 p lim F K) := by
 obtain ⟨la, Cs, ns, cs, Ar, cr, An, cn, Ag, cg, rfl⟩ := Bg.shape6 (kp _ _ hS.ro)
 have HP := Lib.hid hP
 have HK := Lib.hid kp
 have HT := Lib.hid kt
 have KS := Lib.hid hS.stable
 have HST : Hid ((AC p.start).length <= 512) := Lib.hid (by obtain ⟨_, _, _, _, _, _, _, h2, _⟩ := kp _ _ hS.ro; exact Fy h2.bound)
 have HLI := Lib.hid hlim
 clear hP kp kt hlim
 go_enter Tryz.func15, Tryz.ntmps15
 go_wp2_with (first
  | ((with_reducible refine qA 2 ?_); refine At hS rfl _ _ rfl (.agg #[.int .i64 p.roles, .pointer la, .slice Cs ns cs, .slice Ar p.rules.length cr, .slice An p.never.length cn, .slice Ag p.goal.length cg]) _ rfl rfl ?_; clear hS; intro g2 w_ hS; (try simp only [Act.put, Act.eval, zz, Value.cells] at hS))
  | ((with_reducible refine qA 4 ?_); refine qa hS #[.int .i64 0, .bool false, .slice none 0 0] ?_; clear hS; intro g4 w_ hS)
  | ((with_reducible refine qk 31 ?_); refine BigFrame.wpList_want rfl fun _ hK => Bq rfl rfl (hS.box 1 rfl) Tryz.underlying31 rfl (by kernel_rfl) (hK _ _ ?_))
  | (go_at_call 47; refine (begin_any lim HP.out HST.out hS HK.out HT.out).mono ?_; clear hS; rintro e w_ hB; rcases hB with ⟨h1, rfl, hS⟩ | ⟨h1, h2, rfl, hS⟩ | ⟨h1, h2, g, rfl, hS0⟩)
  | ((with_reducible refine qB ?_); refine qc ?_ ?_ <;> intro h_ <;> go_prune)
  | ((with_reducible refine qA 23 ?_); refine Ad rfl _ _ rfl #[.int .i64 0, .bool false, .slice none 0 0] (by kernel_rfl) ?_; (try simp only [Act.put, List.setIfInBounds_toArray, List.set_cons_zero, List.set_cons_succ]))
  | ((with_reducible refine qm 42 ?_); refine qS hS ?_; clear hS; intro w_ hS; (try simp only [Act.put, Act.eval, zz, Value.cells] at hS)))
 ·refine Bk Tryz.results15 rfl (hS.box 0 rfl) Tryz.underlying42 rfl (by kernel_rfl) rfl rfl ?_
  exact ⟨0, false, [], 1, _, .inl ⟨h1, rfl, rfl, rfl, rfl⟩, rfl, (((hS.nil 3 1).freeze 0 (by decide) rfl).sub ((List.sublist_cons_self _ _).trans (List.sublist_cons_self _ _)))⟩
 ·refine Bk Tryz.results15 rfl (hS.box 0 rfl) Tryz.underlying42 rfl (by kernel_rfl) rfl rfl ?_
  exact ⟨0, false, [], checkE p, _, .inr (.inl ⟨by omega, h2, rfl, rfl, rfl, rfl⟩), rfl, (((hS.nil 3 1).freeze 0 (by decide) rfl).sub ((List.sublist_cons_self _ _).trans (List.sublist_cons_self _ _)))⟩
 ·have HC := Lib.hid h2
  have hlm := HLI.out h2
  have HL1 := Lib.hid h1
  clear h1 h2
  have hS1 : Hid (E7 w0 w_ g #[.int .i64 p.roles, .pointer la, .slice Cs ns cs, .slice Ar p.rules.length cr, .slice An p.never.length cn, .slice Ag p.goal.length cg] lim (srchN p 0).1 (endsN p 0) (.box g4 42 #[.int .i64 0, .bool false, .slice none 0 0] :: .box g2 31 #[.int .i64 p.roles, .pointer la, .slice Cs ns cs, .slice Ar p.rules.length cr, .slice An p.never.length cn, .slice Ag p.goal.length cg] :: F) K) := Lib.hid hS0
  clear hS0
  have HL0 : Hid (((srchN p 0).1.length : Int) <= lim) := Lib.hid (by show ((1 : Nat) : Int) <= lim; have := HL1.out; omega)
  go_loopg [8] lim.toNat (fun k fv wr => ∃ d : Nat, fv = .int .i64 ((srchN p d).2 : Nat) /\ lim.toNat - (srchN p d).1.length <= k /\ Hid (d < (srchN p d).1.length /\ ((srchN p d).1.length : Int) <= lim /\ ∀ i, i < d -> E6 p (srchN p i).1 (srchN p i).2) /\ Hid (E7 w0 wr g #[.int .i64 p.roles, .pointer la, .slice Cs ns cs, .slice Ar p.rules.length cr, .slice An p.never.length cn, .slice Ag p.goal.length cg] lim (srchN p d).1 (endsN p d) (.box g4 42 #[.int .i64 0, .bool false, .slice none 0 0] :: .box g2 31 #[.int .i64 p.roles, .pointer la, .slice Cs ns cs, .slice Ar p.rules.length cr, .slice An p.never.length cn, .slice Ag p.goal.length cg] :: F) K))
  case atStart => exact ⟨0, rfl, by omega, Lib.hid ⟨by show 0 < 1; omega, HL0.out, fun i h => by omega⟩, hS1⟩
  case round =>
   clear hS1 HL0 HLI
   obtain ⟨d, rfl, hmk, HI, HS⟩ := hrel
   have hv := BC p d
   have HNX := Lib.hid (show (srchN p (d + 1)).1 = lvlR p (srchN p d).1 (srchN p d).2 ((srchN p d).1.length - (srchN p d).2) from rfl)
   have HNA := Lib.hid (show (srchN p (d + 1)).2 = (srchN p d).1.length from rfl)
   have HES := Lib.hid (ends_succ p d)
   have HEL := Lib.hid (ends_last p d)
   have HEP := Lib.hid (ends_prev p d)
   have HEN := Lib.hid (Ij p d)
   obtain ⟨l, hl⟩ : ∃ l, (srchN p d).1 = l := ⟨_, rfl⟩
   obtain ⟨a, ha⟩ : ∃ a, (srchN p d).2 = a := ⟨_, rfl⟩
   obtain ⟨es, he⟩ : ∃ es, endsN p d = es := ⟨_, rfl⟩
   have HLQ := Lib.hid hl
   have HAQ := Lib.hid ha
   have HEQ := Lib.hid he
   rw [hl, ha] at hv HNX
   rw [he] at HS HES HEL HEP HEN
   rw [hl] at HI HS HEL hmk HNA
   rw [ha] at HEP ⊢
   clear hl ha he
   have hlp := hv.wf.pos
   have hal := hv.le
   have hll := HI.out.2.1
   have HV := Lib.hid hv
   clear hv
   have HK0 : Hid (∃ K', Hid (∀ D w, K' D w -> K D w) /\ Hid (Ao K') /\ Hid (E7 w0 wr g #[.int .i64 p.roles, .pointer la, .slice Cs ns cs, .slice Ar p.rules.length cr, .slice An p.never.length cn, .slice Ag p.goal.length cg] lim l es (.box g4 42 #[.int .i64 0, .bool false, .slice none 0 0] :: .box g2 31 #[.int .i64 p.roles, .pointer la, .slice Cs ns cs, .slice Ar p.rules.length cr, .slice An p.never.length cn, .slice Ag p.goal.length cg] :: F) K')) := Lib.hid ⟨K, Lib.hid fun _ _ h => h, KS, HS⟩
   clear HS
   go_wp2_with fail
   go_loopw [9, 10, 11] (fun bv fv iv wr => ∃ i : Nat, iv = .int .i64 (i : Nat) /\ a <= i /\ i <= l.length /\ ∃ K', Hid (∀ D w, K' D w -> K D w) /\ Hid (Ao K') /\ Hid (E7 w0 wr g #[.int .i64 p.roles, .pointer la, .slice Cs ns cs, .slice Ar p.rules.length cr, .slice An p.never.length cn, .slice Ag p.goal.length cg] lim l es (.box g4 42 #[.int .i64 0, .bool false, .slice none 0 0] :: .box g2 31 #[.int .i64 p.roles, .pointer la, .slice Cs ns cs, .slice Ar p.rules.length cr, .slice An p.never.length cn, .slice Ag p.goal.length cg] :: F) K') /\ ((bv = .slice none 0 0 /\ fv = .bool false /\ Hid (∀ m, a <= m -> m < i -> reachB p (l.getD m AK).1 = false)) \/ ∃ j A c, bv = .slice A (B0 l j).length c /\ fv = .bool true /\ j < i /\ Hid (HitR p l a j) /\ Hid (∀ D w, K' D w -> Sl w D 1 (.slice A (B0 l j).length c) (B0 l j).length (AV (B0 l j))))) (fun _ _ iv _ => l.length - (intOf iv).toNat)
   case atStart =>
    obtain ⟨K', h1, h2, h3⟩ := HK0.out
    exact ⟨a, rfl, Nat.le_refl _, hal, K', h1, h2, h3, .inl ⟨rfl, rfl, Lib.hid fun m h1 h2 => by omega⟩⟩
   case round =>
    clear HK0
    obtain ⟨i, rfl, hai, hil, K', HKK, KS', HS, hcase⟩ := hrel
    by_cases hi : i < l.length
    ·have hS0 := HS.out
     clear HS
     obtain ⟨lv, ev, cells, b, clock, n, ents, hm, hn, hS⟩ := hS0; obtain ⟨EL, cl, rfl, hcl, _⟩ := Ba (hS.own 0 rfl) (by omega); obtain ⟨Ae, ce, rfl, _, _⟩ := B9 (hS.own 1 rfl); have HSC := Lib.hid (show ∀ lv mv ev, CD #[.int .i64 p.roles, .pointer la, .slice Cs ns cs, .slice Ar p.rules.length cr, .slice An p.never.length cn, .slice Ag p.goal.length cg] lim lv mv ev = #[.int .i64 p.roles, .pointer la, .slice Cs ns cs, .slice Ar p.rules.length cr, .slice An p.never.length cn, .slice Ag p.goal.length cg, .int .i64 lim, lv, mv, ev] from fun lv mv ev => rfl); rw [HSC.out] at hS; replace hm := Lib.hid hm; replace hn := Lib.hid hn
     have HRX := Lib.hid (Dc (l := l) hi)
     obtain ⟨z, hz⟩ : ∃ z, l.getD i AK = z := ⟨_, rfl⟩
     have HZQ := Lib.hid hz
     rw [hz] at HRX
     clear hz
     obtain ⟨s, zf, zr⟩ := z
     obtain ⟨ca, hc0, -, -, -⟩ := hS.ro.2 _ _ HRX.out
     have HC0 := Lib.hid hc0
     have HSI : Hid (∀ D w, Bi w D cells l -> A5 w D (.agg #[ca]) s) := Lib.hid fun D w h => by
      obtain ⟨c2, h1, _, _, h2⟩ := h _ _ HRX.out
      rw [HC0.out] at h1
      obtain rfl := Option.some.inj h1
      exact h2
     clear hc0
     obtain ⟨rb, hrb⟩ : ∃ rb, reachB p s = rb := ⟨_, rfl⟩
     have HRB := Lib.hid hrb
     clear hrb
     go_wp2_with (first | ((with_reducible refine qB ?_); refine qc ?_ ?_ <;> intro h_ <;> go_prune) | ((with_reducible refine qK ?_); refine qC hS ?_))
     refine C8 [.i (.agg #[.int .i64 p.roles, .pointer la, .slice Cs ns cs, .slice Ar p.rules.length cr, .slice An p.never.length cn, .slice Ag p.goal.length cg]), .q g 0, .q g 0, .q g 7, .i (.slice (some ⟨EL, 0, none⟩) l.length cl), .n (i : Nat), .q EL (0 + (i) * 3), .q EL (0 + (i) * 3), .i (.agg #[ca]), .i (.bool rb), .i (.bool (!rb))] ⟨uR (h := fun w hW hN => (hS.ext hW).box 5 rfl), uM, uN, uF, uC (h := fun w hW hN => (hS.ext hW).shut 3 rfl 7 rfl), uM, uI (h := fun w hW hN => Af (m := i) Tryz.underlying98 (by kernel_rfl) (by omega) (by omega)), uF, uD (h := fun w hW hN => rng1 (by rw [Nat.zero_add]; exact AO ((hS.ext hW).own 0 rfl) _ _ HC0.out)), ?_, uU, trivial⟩ ?_
     ·refine uT fun b__ w hW hE K hK => ?_
      have e35 := hE 35
      have e43 := hE 43
      exact AF rfl (by kernel_rfl) (by simp only [List.map_cons, List.map_nil, e35, e43]) (Ei (HK.out _ _ (HKK.out _ _ (hS.ext hW).ro.1)) HP.out (HT.out _ _ (HKK.out _ _ (hS.ext hW).ro.1)) (HSI.out _ _ (hS.ext hW).ro.2)) fun v w' h hb => hK v w' (h.trans (by rw [HRB.out])) hb
     ·intro vs wz hW hT
      obtain ⟨e35, e36, e37, e38, e39, e40, e41, e42, e43, e44, e45, -⟩ := hT
      simp only [Aw, Act.put, zz, ze]
      rw [e45]
      replace hS := hS.ext hW
      clear hW e35 e36 e37 e38 e39 e40 e41 e42 e43 e44 e45
      have HSR : Hid (E7 w0 wz g #[.int .i64 p.roles, .pointer la, .slice Cs ns cs, .slice Ar p.rules.length cr, .slice An p.never.length cn, .slice Ag p.goal.length cg] lim l es (.box g4 42 #[.int .i64 0, .bool false, .slice none 0 0] :: .box g2 31 #[.int .i64 p.roles, .pointer la, .slice Cs ns cs, .slice Ar p.rules.length cr, .slice An p.never.length cn, .slice Ag p.goal.length cg] :: F) K') := Lib.hid ⟨_, _, _, _, _, _, _, hm.out, hn.out, hS⟩
      clear hS hm hn hcl
      cases rb
      ·go_wp2_with fail
       refine ⟨⟨i + 1, by go_num, by omega, hi, K', HKK, KS', HSR, ?_⟩, by simp [intOf]; omega⟩
       rcases hcase with ⟨rfl, rfl, HN⟩ | ⟨j, A, c, rfl, rfl, hj, HH, HSl⟩
       ·refine .inl ⟨rfl, rfl, Lib.hid fun m h1 h2 => ?_⟩
        rcases Nat.lt_or_ge m i with h3 | h3
        ·exact HN.out m h1 h3
        ·obtain rfl : m = i := by omega
         rw [HZQ.out]; exact HRB.out
       ·exact .inr ⟨j, A, c, rfl, rfl, by omega, HH, HSl⟩
      ·rcases hcase with ⟨rfl, rfl, HN⟩ | ⟨j, A, c, rfl, rfl, hj, HH, HSl⟩
       ·go_wp2_with (first
         | (go_at_call 48; refine (fplan_any HV.out.wf hi (by omega) HSR.out KS'.out).mono ?_; rintro e w_ ⟨u, rfl, hS2⟩; obtain ⟨_, _, _, _, _, _, _, _, _, hS3⟩ := id hS2; obtain ⟨A, c, rfl, _, _⟩ := hS3.ro.1.2.shape; clear hS3; replace hS2 := Lib.hid hS2))
        refine ⟨⟨i + 1, by go_num, by omega, hi, _, Lib.hid fun D w h => HKK.out _ _ h.1, Lib.hid (KS'.out.and (Ah (by decide))), hS2, .inr ⟨i, A, c, rfl, rfl, by omega, Lib.hid ⟨hai, hi, by rw [HZQ.out]; exact HRB.out, HN.out⟩, Lib.hid fun D w h => h.2⟩⟩, by simp [intOf]; omega⟩
       ·have HCM : Hid (Bn (B0 l i) (B0 l j) = 1) := Lib.hid (cmpL_swap (HV.out.asc j i HH.out.1 hj hi))
        have hlj := I2 HV.out.wf (j + 1) j (by omega) (by omega)
        have hli := I2 HV.out.wf (i + 1) i (by omega) (by omega)
        have HLJ := Lib.hid hlj
        have HLI := Lib.hid hli
        obtain ⟨pj, hpj⟩ : ∃ pj, B0 l j = pj := ⟨_, rfl⟩
        obtain ⟨pi, hpi⟩ : ∃ pi, B0 l i = pi := ⟨_, rfl⟩
        have HPJ := Lib.hid hpj
        have HPI := Lib.hid hpi
        rw [hpj] at HSl HCM hlj ⊢
        rw [hpi] at HCM hli
        clear hpj hpi
        go_wp2_with (first
         | (go_at_call 48; refine (fplan_any HV.out.wf hi (by omega) HSR.out KS'.out).mono ?_; rintro e w_ ⟨u, rfl, hS2⟩; rw [HPI.out] at hS2; obtain ⟨lv, ev, cells, b, clock, n, ents, hm, hn, hS⟩ := hS2; replace hm := Lib.hid hm; replace hn := Lib.hid hn; obtain ⟨Ai, ci, rfl, _, _⟩ := hS.ro.1.2.shape)
         | (go_at_call 49; refine (scmp_any hS.ro.1.2 (HSl.out _ _ hS.ro.1.1) (by omega) (by omega)).mono ?_; rw [HCM.out]; rintro r_ w_ ⟨_, rfl, rfl, hb_⟩; replace hS := hS.ext hb_; clear hb_)
         | ((with_reducible refine qB ?_); refine qc ?_ ?_ <;> intro h_ <;> go_prune))
        refine ⟨⟨i + 1, by go_num, by omega, hi, _, Lib.hid fun D w h => HKK.out _ _ h.1, Lib.hid (KS'.out.and (Ah (v := .slice Ai pi.length ci) (n := pi.length) (xs := AV pi) (by decide))), Lib.hid ⟨_, _, _, _, _, _, _, hm.out, hn.out, hS⟩, .inr ⟨j, A, c, by rw [HPJ.out], rfl, by omega, HH, Lib.hid fun D w h => by rw [HPJ.out]; exact HSl.out _ _ h.1⟩⟩, by simp [intOf]; omega⟩
    ·obtain rfl : i = l.length := by omega
     have hS0 := HS.out
     clear HS
     rcases hcase with ⟨rfl, rfl, HN⟩ | ⟨j, A, c, rfl, rfl, hj, HH, HSl⟩
     ·have HNH : Hid (E6 p l a) := Lib.hid HN.out
      obtain ⟨lv, ev, cells, b, clock, n, ents, hm, hn, hS⟩ := hS0; obtain ⟨EL, cl, rfl, hcl, _⟩ := Ba (hS.own 0 rfl) (by omega); obtain ⟨Ae, ce, rfl, _, _⟩ := B9 (hS.own 1 rfl); have HSC := Lib.hid (show ∀ lv mv ev, CD #[.int .i64 p.roles, .pointer la, .slice Cs ns cs, .slice Ar p.rules.length cr, .slice An p.never.length cn, .slice Ag p.goal.length cg] lim lv mv ev = #[.int .i64 p.roles, .pointer la, .slice Cs ns cs, .slice Ar p.rules.length cr, .slice An p.never.length cn, .slice Ag p.goal.length cg, .int .i64 lim, lv, mv, ev] from fun lv mv ev => rfl); rw [HSC.out] at hS; replace hm := Lib.hid hm; replace hn := Lib.hid hn
      go_wp2_with (first
       | ((with_reducible refine qB ?_); refine qc ?_ ?_ <;> intro h_ <;> go_prune)
       | (go_at_call 50; have HSR := Lib.hid (show E7 w0 _ g #[.int .i64 p.roles, .pointer la, .slice Cs ns cs, .slice Ar p.rules.length cr, .slice An p.never.length cn, .slice Ag p.goal.length cg] lim l es (.box g4 42 #[.int .i64 0, .bool false, .slice none 0 0] :: .box g2 31 #[.int .i64 p.roles, .pointer la, .slice Cs ns cs, .slice Ar p.rules.length cr, .slice An p.never.length cn, .slice Ag p.goal.length cg] :: F) K' from ⟨_, _, _, _, _, _, _, hm.out, hn.out, hS⟩); clear hS hm hn hcl; refine (deepen_any HV.out.wf HP.out hrl (fun D w h => HK.out _ _ (HKK.out _ _ h)) (fun D w h => HT.out _ _ (HKK.out _ _ h)) KS'.out HEL.out HEP.out hal hll hlm (by have := HEN.out; have := HI.out.1; omega) HSR.out).mono ?_; rintro e w_ hD; rw [DeepR, <- HNX.out] at hD; clear HSR; obtain ⟨mb, hmb⟩ : ∃ mb : Bool, decide (l.length < (srchN p (d + 1)).1.length) = mb := ⟨_, rfl⟩; rw [hmb] at hD; replace hmb := Lib.hid hmb; have HL2 := Lib.hid (BC p (d + 1)).wf.pos; have HPR := Lib.hid (Eg p d).length_le; rw [HLQ.out] at HPR; obtain ⟨l2, hl2⟩ : ∃ l2, (srchN p (d + 1)).1 = l2 := ⟨_, rfl⟩; have HLQ2 := Lib.hid hl2; rw [hl2] at hmb HL2 HPR hD; rcases hD with ⟨h1, rfl, hS0⟩ | ⟨h1, rfl, hS⟩; cases mb; (obtain ⟨lv, ev, cells, b, clock, n, ents, hm, hn, hS⟩ := hS0; obtain ⟨EL, cl, rfl, hcl, _⟩ := Ba (hS.own 0 rfl) HL2.out; obtain ⟨Ae, ce, rfl, _, _⟩ := B9 (hS.own 1 rfl); rw [show ∀ lv mv ev, CD #[.int .i64 p.roles, .pointer la, .slice Cs ns cs, .slice Ar p.rules.length cr, .slice An p.never.length cn, .slice Ag p.goal.length cg] lim lv mv ev = #[.int .i64 p.roles, .pointer la, .slice Cs ns cs, .slice Ar p.rules.length cr, .slice An p.never.length cn, .slice Ag p.goal.length cg, .int .i64 lim, lv, mv, ev] from fun lv mv ev => rfl] at hS; clear hm hn hcl hl2))
       | ((with_reducible refine qA 87 ?_); refine Ad rfl _ _ rfl #[.int .i64 (l2.length : Nat), .bool false, .slice none 0 0] (by kernel_rfl) ?_; (try simp only [Act.put, List.setIfInBounds_toArray, List.set_cons_zero, List.set_cons_succ]))
       | ((with_reducible refine qA 78 ?_); refine Ad rfl _ _ rfl #[.int .i64 0, .bool false, .slice none 0 0] (by kernel_rfl) ?_; (try simp only [Act.put, List.setIfInBounds_toArray, List.set_cons_zero, List.set_cons_succ]))
       | ((with_reducible refine qm 42 ?_); refine qS hS ?_; clear hS; intro w_ hS; (try simp only [Act.put, Act.eval, zz, Value.cells] at hS))
       | ((with_reducible refine qm 42 ?_); refine qS hS ?_; clear hS; intro w_ hS; (try simp only [Act.put, Act.eval, zz, Value.cells] at hS))
       | ((with_reducible refine qK ?_); refine qC hS ?_))
      ·refine Bk Tryz.results15 rfl (hS.box 4 rfl) Tryz.underlying42 rfl (by kernel_rfl) rfl rfl ?_
       have h2 : l2.length = l.length := by have := of_decide_eq_false hmb.out; have := HPR.out; omega
       refine ⟨l2.length, false, [], 0, _, .inr (.inr ⟨by have := HL1.out; omega, HC.out, d, HI.out.2.2, by rw [HLQ.out]; exact HI.out.2.1, .inr (.inl ⟨by rw [HLQ.out, HAQ.out]; exact HNH.out, by rw [HLQ.out, HLQ2.out, h2], by rw [HLQ.out, h2], rfl, rfl, rfl⟩)⟩), rfl, ?_⟩
       have hS2 := (hS.nil 3 1).freeze 0 (by decide) rfl
       exact (hS2.sub (by repeat (first | exact List.Sublist.refl _ | apply List.Sublist.cons))).mono (KS.out.and (Ah (by decide))) fun D w h => ⟨HKK.out _ _ h.1.1, h.2⟩
      ·have h2 : l.length < l2.length := of_decide_eq_true hmb.out
       go_roundg (lim.toNat - l2.length)
       case measure => omega
       case rel =>
        refine ⟨d + 1, by rw [HNA.out], by rw [HLQ2.out]; omega, Lib.hid ⟨by rw [HLQ2.out]; have := HI.out.1; omega, by rw [HLQ2.out]; exact h1, fun i hi => ?_⟩, Lib.hid ?_⟩
        ·rcases Nat.lt_or_ge i d with h3 | h3
         ·exact HI.out.2.2 i h3
         ·obtain rfl : i = d := by omega
          rw [HLQ.out, HAQ.out]; exact HNH.out
        ·rw [HLQ2.out, HES.out, HLQ2.out]
         obtain ⟨lv, ev, cells, b, clock, n, ents, hm, hn, hS⟩ := hS0
         rw [if_pos h2] at hS
         exact ⟨lv, ev, cells, b, clock, n, ents, hm, hn, hS.mono (KS.out.and B5) fun D w h => ⟨HKK.out _ _ h.1, h.2⟩⟩
      ·refine Bk Tryz.results15 rfl (hS.box 0 rfl) Tryz.underlying42 rfl (by kernel_rfl) rfl rfl ?_
       refine ⟨0, false, [], 3, _, .inr (.inr ⟨by have := HL1.out; omega, HC.out, d, HI.out.2.2, by rw [HLQ.out]; exact HI.out.2.1, .inr (.inr ⟨by rw [HLQ.out, HAQ.out]; exact HNH.out, by rw [HLQ2.out]; exact h1, rfl, rfl, rfl, rfl⟩)⟩), rfl, ?_⟩
       have hS2 := (hS.nil 3 1).freeze 0 (by decide) rfl
       exact (hS2.sub ((List.sublist_cons_self _ _).trans (List.sublist_cons_self _ _))).mono (KS.out.and (Ah (by decide))) fun D w h => ⟨HKK.out _ _ h.1, h.2⟩
     ·obtain ⟨lv, ev, cells, b, clock, n, ents, hm, hn, hS⟩ := hS0; obtain ⟨EL, cl, rfl, hcl, _⟩ := Ba (hS.own 0 rfl) (by omega); obtain ⟨Ae, ce, rfl, _, _⟩ := B9 (hS.own 1 rfl); have HSC := Lib.hid (show ∀ lv mv ev, CD #[.int .i64 p.roles, .pointer la, .slice Cs ns cs, .slice Ar p.rules.length cr, .slice An p.never.length cn, .slice Ag p.goal.length cg] lim lv mv ev = #[.int .i64 p.roles, .pointer la, .slice Cs ns cs, .slice Ar p.rules.length cr, .slice An p.never.length cn, .slice Ag p.goal.length cg, .int .i64 lim, lv, mv, ev] from fun lv mv ev => rfl); rw [HSC.out] at hS; replace hm := Lib.hid hm; replace hn := Lib.hid hn
      go_wp2_with (first
       | ((with_reducible refine qA 65 ?_); refine Ad rfl _ _ rfl #[.int .i64 (l.length : Nat), .bool true, .slice A (B0 l j).length c] (by kernel_rfl) ?_; (try simp only [Act.put, List.setIfInBounds_toArray, List.set_cons_zero, List.set_cons_succ]))
       | ((with_reducible refine qm 42 ?_); refine qS hS ?_; clear hS; intro w_ hS; (try simp only [Act.put, Act.eval, zz, Value.cells] at hS))
       | ((with_reducible refine qK ?_); refine qC hS ?_))
      refine Bk Tryz.results15 rfl (hS.box 4 rfl) Tryz.underlying42 rfl (by kernel_rfl) rfl rfl ?_
      refine ⟨l.length, true, B0 l j, 0, _, .inr (.inr ⟨by have := HL1.out; omega, HC.out, d, HI.out.2.2, by rw [HLQ.out]; exact HI.out.2.1, .inl ⟨j, by rw [HLQ.out, HAQ.out]; exact HH.out, by rw [HLQ.out], rfl, by rw [HLQ.out], rfl⟩⟩), rfl, ?_⟩
      exact (hS.sub (by repeat (first | exact List.Sublist.refl _ | apply List.Sublist.cons))).mono (KS.out.and (Ah (by decide))) fun D w h => ⟨HKK.out _ _ h.1, HSl.out _ _ h.1⟩
end
section
open Go.RowKit
attribute [local go_sem ↓] Go.wp_at_zero Go.wp_at_succ
set_option maxRecDepth 20000
set_option exponentiation.threshold 5000
open Classical in
noncomputable def rchB (p : Ac) : Bool := decide (∃ s, Rch p s /\ reachB p s = true)
open Classical in
theorem rchB_true {p : Ac} (h : ∃ s, Rch p s /\ reachB p s = true) : rchB p = true := by unfold rchB; exact decide_eq_true h
open Classical in
theorem rchB_false {p : Ac} (h : ∀ s, Rch p s -> reachB p s = false) : rchB p = false := by
 unfold rchB
 exact decide_eq_false fun ⟨s, h1, h2⟩ => by rw [h s h1] at h2; cases h2
end
section
open Go.RowKit
attribute [local go_sem ↓] Go.wp_at_zero Go.wp_at_succ
set_option maxRecDepth 20000
set_option exponentiation.threshold 5000
theorem cc_oneS {w : World} {D : Nat -> Prop} {a b : Value} {z : Nat × Nat} (h1 : A5 w D (.agg #[a]) z.1) (h2 : A5 w D (.agg #[b]) z.2) : Aj w D [a, b] [z] := fun i y n hi => by
 cases i with
 | zero => obtain rfl := Option.some.inj (show some z = some (y, n) from hi); exact ⟨a, b, rfl, rfl, h1, h2⟩
 | succ i => simp at hi
theorem cubes_nil {w : World} {D : Nat -> Prop} : Az w D (.slice none 0 0) [] := ⟨[], Sl.none_, fun i y n hi => by simp at hi⟩
end
section
open Go.RowKit
attribute [local go_sem ↓] Go.wp_at_zero Go.wp_at_succ
set_option maxRecDepth 20000
set_option exponentiation.threshold 5000
theorem lit_w {P : Program} {ops : Array Oper} {rest : List Oper} {o : Oper} {a : Act} {Q : Exit -> Act -> World -> Prop} {w0 w : World} {F : List Aa} {K : (Nat -> Prop) -> World -> Prop} (h : St w0 w F K) (hg : Region.wanted o (yielded ops a.tmps) = true) (t e : TypeId) (len : Nat) (parts : Array (Nat × Operand)) (ho : o.op = .buildSlice t len parts) (ht : P.underlying t = some (.slice e)) (cells : Array Value)
  (hb : Bo P e len (parts.map fun (i, x) => (i, a.eval x)).toList = some cells) (size : Nat) (hs : cells.size = len * size) (hm : len <= 1000000000000)
  (hk : ∀ g w', St w0 w' (.own (.slice (some ⟨g, 0, none⟩) len len) e size len cells.toList :: F) K -> wpList P ops Q rest (a.put o.dst (.slice (some ⟨g, 0, none⟩) len len)) w') : wpList P ops Q (o :: rest) a w :=
 BigFrame.wpList_want hg fun _ hK => BV ho ht rfl hb fun w' hX hB => hK _ _ (hk _ w' (h.new hB _ ⟨by simpa using hs, .inr ⟨w.heap.size, len, cells, rfl, Nat.le_refl _, hX, Nat.le_refl _, by unfold maxLen; omega, hs, by rw [<- hs, show cells.size = cells.toList.length by simp, List.take_length]⟩⟩))
theorem cellsRA {w : World} {D : Nat -> Prop} {a b c : Value} (ha : A5 w D (.agg #[a]) 2) (hb : A5 w D (.agg #[b]) 4) (hc : A5 w D (.agg #[c]) 2) :
  AA w D [.bool false, .slice none 0 0, .slice none 0 0, .int .i64 1, .int .i64 0, .bool false, a, .slice none 0 0, .int .i64 2, .int .i64 0, .bool false, b, c, .int .i64 3, .int .i64 0, .bool true, .slice none 0 0, .slice none 0 0, .int .i64 1, .int .i64 0] RA.rules :=
 AA.append (l := [⟨false, 0, 0, 1, 0⟩]) (xs := [.bool false, .slice none 0 0, .slice none 0 0, .int .i64 1, .int .i64 0]) rfl (AA.single (z := ⟨false, 0, 0, 1, 0⟩) A5.empty A5.empty)
  (AA.append (l := [⟨false, 2, 0, 2, 0⟩]) (xs := [.bool false, a, .slice none 0 0, .int .i64 2, .int .i64 0]) rfl (AA.single (z := ⟨false, 2, 0, 2, 0⟩) ha A5.empty)
   (AA.append (l := [⟨false, 4, 2, 3, 0⟩]) (xs := [.bool false, b, c, .int .i64 3, .int .i64 0]) rfl (AA.single (z := ⟨false, 4, 2, 3, 0⟩) hb hc) (AA.single (z := ⟨true, 0, 0, 1, 0⟩) A5.empty A5.empty)))
theorem cellsRB {w : World} {D : Nat -> Prop} {a b c : Value} (ha : A5 w D (.agg #[a]) 2) (hb : A5 w D (.agg #[b]) 4) (hc : A5 w D (.agg #[c]) 2) :
  AA w D [.bool false, .slice none 0 0, .slice none 0 0, .int .i64 1, .int .i64 0, .bool false, a, .slice none 0 0, .int .i64 2, .int .i64 0, .bool false, b, c, .int .i64 3, .int .i64 0] RB.rules :=
 AA.append (l := [⟨false, 0, 0, 1, 0⟩]) (xs := [.bool false, .slice none 0 0, .slice none 0 0, .int .i64 1, .int .i64 0]) rfl (AA.single (z := ⟨false, 0, 0, 1, 0⟩) A5.empty A5.empty)
  (AA.append (l := [⟨false, 2, 0, 2, 0⟩]) (xs := [.bool false, a, .slice none 0 0, .int .i64 2, .int .i64 0]) rfl (AA.single (z := ⟨false, 2, 0, 2, 0⟩) ha A5.empty)
   (AA.single (z := ⟨false, 4, 2, 3, 0⟩) hb hc))
theorem sl_take5 {w : World} {D : Nat -> Prop} {b : Nat} {xs ys : List Value} (h : Sl w D 5 (.slice (some ⟨b, 0, none⟩) 4 4) 4 (xs ++ ys)) (hx : xs.length = 15) : Sl w D 5 (.slice (some ⟨b, 0, none⟩) 3 4) 3 xs := by
 obtain ⟨h1, A', c', e, h2, h3, h4⟩ := h
 injection e with e1 _ e3
 subst e1 e3
 obtain ⟨b', o', e, h5, h6, h7⟩ := h4 (by decide)
 injection e with e
 injection e with e1 e2
 subst e1 e2
 refine ⟨by omega, _, 4, rfl, by decide, by decide, fun _ => ⟨b, 0, rfl, h5, h6, fun j x hj => h7 j x ?_⟩⟩
 have := (List.getElem?_eq_some_iff.1 hj).1
 rw [List.getElem?_append_left this]; exact hj
set_option maxHeartbeats 4000000 in
theorem lawake32_any {w0 w : World} {F : List Aa} {K : (Nat -> Prop) -> World -> Prop} (hS : St w0 w F K) (kt : ∀ D w, K D w -> BM w /\ D 0) : Calls Tryz.prog 13 #[] w fun e w' => e = .returned (.bool true) /\ St w0 w' F K := by
 have KS := Lib.hid hS.stable
 go_enter Tryz.func13, Tryz.ntmps13
 go_wp2_with (first
  | (go_at_call 44; refine (hnew_any hS kt).mono ?_; clear hS; rintro e w_ ⟨p, rfl, hS⟩; obtain ⟨q, o, rfl, -⟩ := id hS.ro.2)
  | ((with_reducible refine qA 9 ?_); refine Cz hS rfl _ 3 1 _ rfl Tryz.underlying40 #[.int .i64 3] (by kernel_rfl) 1 rfl (by decide) ?_; clear hS; intro g9 w_ hS; (try simp only [Act.put, List.setIfInBounds_toArray, List.set_cons_zero, List.set_cons_succ]))
  | ((with_reducible show Calls _ _ #[.slice (some ⟨g9, 0, none⟩) 1 1] _ _); go_at_call 38; refine (I8 _ [3] _ _ (Sl.of_own (hS.own 0 rfl))).mono ?_; rw [show ofN [3] = 8 from by decide]; rintro r_ w_ ⟨_, rfl, h1, hb_⟩; replace hS := hS.ret hb_ A6 h1; clear h1 hb_; obtain ⟨A10, c10, l_, rfl, -⟩ := hS.ro.2.parts; obtain ⟨n10, hn_⟩ : ∃ n, n = l_.length := ⟨_, rfl⟩; rw [<- hn_] at hS ⊢; clear hn_)
  | ((with_reducible refine qA 11 ?_); refine Ad rfl _ _ rfl #[.slice A10 n10 c10, .slice none 0 0] (by kernel_rfl) ?_; (try simp only [Act.put, List.setIfInBounds_toArray, List.set_cons_zero, List.set_cons_succ]))
  | ((with_reducible refine qA 12 ?_); refine Hh hS rfl _ 81 1 _ rfl Tryz.underlying29 [(0, .agg #[.slice A10 n10 c10, .slice none 0 0])] (by simp [Act.eval]) #[.slice A10 n10 c10, .slice none 0 0] (by kernel_rfl) 2 rfl (by decide) ?_; clear hS; intro g12 w_ hS; (try simp only [Act.put, List.setIfInBounds_toArray, List.set_cons_zero, List.set_cons_succ]))
  | ((with_reducible refine qA 13 ?_); refine Ad rfl _ _ rfl #[.bool false, .slice none 0 0, .slice none 0 0, .int .i64 1, .int .i64 0] (by kernel_rfl) ?_; (try simp only [Act.put, List.setIfInBounds_toArray, List.set_cons_zero, List.set_cons_succ]))
  | ((with_reducible refine qA 14 ?_); refine Cz hS rfl _ 3 1 _ rfl Tryz.underlying40 #[.int .i64 1] (by kernel_rfl) 1 rfl (by decide) ?_; clear hS; intro g14 w_ hS; (try simp only [Act.put, List.setIfInBounds_toArray, List.set_cons_zero, List.set_cons_succ]))
  | ((with_reducible show Calls _ _ #[.slice (some ⟨g14, 0, none⟩) 1 1] _ _); go_at_call 38; refine (I8 _ [1] _ _ (Sl.of_own (hS.own 0 rfl))).mono ?_; rw [show ofN [1] = 2 from by decide]; rintro r_ w_ ⟨_, rfl, h1, hb_⟩; replace hS := hS.ret hb_ A6 h1; clear h1 hb_; obtain ⟨A15, c15, l_, rfl, -⟩ := hS.ro.2.parts; obtain ⟨n15, hn_⟩ : ∃ n, n = l_.length := ⟨_, rfl⟩; rw [<- hn_] at hS ⊢; clear hn_)
  | ((with_reducible refine qA 16 ?_); refine Ad rfl _ _ rfl #[.slice A15 n15 c15, .slice none 0 0] (by kernel_rfl) ?_; (try simp only [Act.put, List.setIfInBounds_toArray, List.set_cons_zero, List.set_cons_succ]))
  | ((with_reducible refine qA 17 ?_); refine Ad rfl _ _ rfl #[.bool false, .slice A15 n15 c15, .slice none 0 0, .int .i64 2, .int .i64 0] (by kernel_rfl) ?_; (try simp only [Act.put, List.setIfInBounds_toArray, List.set_cons_zero, List.set_cons_succ]))
  | ((with_reducible refine qA 18 ?_); refine Cz hS rfl _ 3 1 _ rfl Tryz.underlying40 #[.int .i64 2] (by kernel_rfl) 1 rfl (by decide) ?_; clear hS; intro g18 w_ hS; (try simp only [Act.put, List.setIfInBounds_toArray, List.set_cons_zero, List.set_cons_succ]))
  | ((with_reducible show Calls _ _ #[.slice (some ⟨g18, 0, none⟩) 1 1] _ _); go_at_call 38; refine (I8 _ [2] _ _ (Sl.of_own (hS.own 0 rfl))).mono ?_; rw [show ofN [2] = 4 from by decide]; rintro r_ w_ ⟨_, rfl, h1, hb_⟩; replace hS := hS.ret hb_ A6 h1; clear h1 hb_; obtain ⟨A19, c19, l_, rfl, -⟩ := hS.ro.2.parts; obtain ⟨n19, hn_⟩ : ∃ n, n = l_.length := ⟨_, rfl⟩; rw [<- hn_] at hS ⊢; clear hn_)
  | ((with_reducible refine qA 20 ?_); refine Cz hS rfl _ 3 1 _ rfl Tryz.underlying40 #[.int .i64 1] (by kernel_rfl) 1 rfl (by decide) ?_; clear hS; intro g20 w_ hS; (try simp only [Act.put, List.setIfInBounds_toArray, List.set_cons_zero, List.set_cons_succ]))
  | ((with_reducible show Calls _ _ #[.slice (some ⟨g20, 0, none⟩) 1 1] _ _); go_at_call 38; refine (I8 _ [1] _ _ (Sl.of_own (hS.own 0 rfl))).mono ?_; rw [show ofN [1] = 2 from by decide]; rintro r_ w_ ⟨_, rfl, h1, hb_⟩; replace hS := hS.ret hb_ A6 h1; clear h1 hb_; obtain ⟨A21, c21, l_, rfl, -⟩ := hS.ro.2.parts; obtain ⟨n21, hn_⟩ : ∃ n, n = l_.length := ⟨_, rfl⟩; rw [<- hn_] at hS ⊢; clear hn_)
  | ((with_reducible refine qA 22 ?_); refine Ad rfl _ _ rfl #[.slice A19 n19 c19, .slice A21 n21 c21] (by kernel_rfl) ?_; (try simp only [Act.put, List.setIfInBounds_toArray, List.set_cons_zero, List.set_cons_succ]))
  | ((with_reducible refine qA 23 ?_); refine Ad rfl _ _ rfl #[.bool false, .slice A19 n19 c19, .slice A21 n21 c21, .int .i64 3, .int .i64 0] (by kernel_rfl) ?_; (try simp only [Act.put, List.setIfInBounds_toArray, List.set_cons_zero, List.set_cons_succ]))
  | ((with_reducible refine qA 24 ?_); refine Ad rfl _ _ rfl #[.bool true, .slice none 0 0, .slice none 0 0, .int .i64 1, .int .i64 0] (by kernel_rfl) ?_; (try simp only [Act.put, List.setIfInBounds_toArray, List.set_cons_zero, List.set_cons_succ]))
  | ((with_reducible refine qA 25 ?_); refine Hh hS rfl _ 83 4 _ rfl Tryz.underlying28 [(0, .agg #[.bool false, .slice none 0 0, .slice none 0 0, .int .i64 1, .int .i64 0]), (1, .agg #[.bool false, .slice A15 n15 c15, .slice none 0 0, .int .i64 2, .int .i64 0]), (2, .agg #[.bool false, .slice A19 n19 c19, .slice A21 n21 c21, .int .i64 3, .int .i64 0]), (3, .agg #[.bool true, .slice none 0 0, .slice none 0 0, .int .i64 1, .int .i64 0])] (by simp [Act.eval]) #[.bool false, .slice none 0 0, .slice none 0 0, .int .i64 1, .int .i64 0, .bool false, .slice A15 n15 c15, .slice none 0 0, .int .i64 2, .int .i64 0, .bool false, .slice A19 n19 c19, .slice A21 n21 c21, .int .i64 3, .int .i64 0, .bool true, .slice none 0 0, .slice none 0 0, .int .i64 1, .int .i64 0] (by kernel_rfl) 5 rfl (by decide) ?_; clear hS; intro g25 w_ hS; (try simp only [Act.put, List.setIfInBounds_toArray, List.set_cons_zero, List.set_cons_succ]))
  | ((with_reducible refine qA 26 ?_); refine Ad rfl _ _ rfl #[.int .i64 3, .pointer (some ⟨q, 0, none⟩), .slice none 0 0, .slice (some ⟨g25, 0, none⟩) 4 4, .slice none 0 0, .slice (some ⟨g12, 0, none⟩) 1 1] (by kernel_rfl) ?_; (try simp only [Act.put, List.setIfInBounds_toArray, List.set_cons_zero, List.set_cons_succ]))
  | ((with_reducible refine qA 1 ?_); refine qa hS #[.int .i64 0, .pointer none, .slice none 0 0, .slice none 0 0, .slice none 0 0, .slice none 0 0] ?_; clear hS; intro g1 w_ hS)
  | ((with_reducible refine qM ?_); (first | refine qS hS ?_ | refine qT hS ?_); clear hS; intro w_ hS; (try simp only [Act.put, Act.eval, zz, Value.cells] at hS))
  | ((with_reducible refine qA 28 ?_)
     replace hS := (hS.freeze 1 (by decide) rfl).freeze 4 (by decide) rfl
     obtain ⟨K1, k0, kpA, kpB, hS2⟩ : ∃ K1 : (Nat -> Prop) -> World -> Prop, Hid (∀ D w, K1 D w -> K D w) /\ Hid (∀ D w, K1 D w -> Bg w D (.agg #[.int .i64 3, .pointer (some ⟨q, 0, none⟩), .slice none 0 0, .slice (some ⟨g25, 0, none⟩) 4 4, .slice none 0 0, .slice (some ⟨g12, 0, none⟩) 1 1]) RA) /\ Hid (∀ D w, K1 D w -> Bg w D (.agg #[.int .i64 3, .pointer (some ⟨q, 0, none⟩), .slice none 0 0, .slice (some ⟨g25, 0, none⟩) 3 4, .slice none 0 0, .slice (some ⟨g12, 0, none⟩) 1 1]) RB) /\ St w0 w_ (.box g1 31 #[.int .i64 3, .pointer (some ⟨q, 0, none⟩), .slice none 0 0, .slice (some ⟨g25, 0, none⟩) 4 4, .slice none 0 0, .slice (some ⟨g12, 0, none⟩) 1 1] :: F) K1 := ⟨_, Lib.hid fun D w h => h.1.1.1.1.1.1.1, Lib.hid fun D w h => ⟨_, _, _, _, _, rfl, h.1.1.1.1.1.1.2, A5.empty, ⟨_, h.1.2, cellsRA h.1.1.1.1.2 h.1.1.1.2 h.1.1.2⟩, cubes_nil, _, h.2, cc_oneS h.1.1.1.1.1.2 A5.empty⟩, Lib.hid fun D w h => ⟨_, _, _, _, _, rfl, h.1.1.1.1.1.1.2, A5.empty, ⟨_, sl_take5 (xs := [.bool false, .slice none 0 0, .slice none 0 0, .int .i64 1, .int .i64 0, .bool false, .slice A15 n15 c15, .slice none 0 0, .int .i64 2, .int .i64 0, .bool false, .slice A19 n19 c19, .slice A21 n21 c21, .int .i64 3, .int .i64 0]) h.1.2 rfl, cellsRB h.1.1.1.1.2 h.1.1.1.2 h.1.1.2⟩, cubes_nil, _, h.2, cc_oneS h.1.1.1.1.1.2 A5.empty⟩, hS.sub (.cons_cons _ (.cons _ (.cons _ (.cons _ (.cons _ (List.Sublist.refl _))))))⟩
     clear hS
     have hS := hS2
     clear hS2
     refine BigFrame.wpList_want rfl fun _ hK => Bq rfl rfl (hS.box 0 rfl) Tryz.underlying31 rfl (by kernel_rfl) (hK _ _ ?_)))
 have kt1 := Lib.hid fun D w h => (kt _ _ (k0.out D w h)).1
 refine (DV 100 (fun _ => by decide) okRA (by decide) hS (fun D w h => kpA.out _ _ h) (fun D w h => kt1.out _ _ h)).mono ?_
 clear hS
 rintro e w_ ⟨n, f, pl, er, u, hF, rfl, hS⟩
 obtain ⟨rfl, rfl, rfl, rfl⟩ := fwdA_out hF
 obtain ⟨Ap, cp, rfl, _, _⟩ := hS.ro.2.shape
 clear hF
 go_wp2_with (first
  | ((with_reducible refine qA 2 ?_); refine qa hS #[.int .i64 0, .bool false, .slice none 0 0] ?_; clear hS; intro g2 w_ hS)
  | ((with_reducible refine qA 4 ?_); refine qa hS #[.int .i64 0, .bool false, .slice none 0 0] ?_; clear hS; intro g4 w_ hS)
  | ((with_reducible refine qA 6 ?_); refine qa hS #[.int .i64 0, .bool false, .slice none 0 0] ?_; clear hS; intro g6 w_ hS)
  | ((with_reducible refine qm 42 ?_); refine qS hS ?_; clear hS; intro w_ hS; (try simp only [Act.put, Act.eval, zz, Value.cells] at hS))
  | ((with_reducible refine qA 34 ?_); refine BigFrame.wpList_want rfl fun _ hK => H4 (k := 3) rfl Tryz.underlying28 ⟨5, by kernel_rfl⟩ rfl rfl (by decide) (hK _ _ ?_))
  | ((with_reducible refine qM ?_); (first | refine qS hS ?_ | refine qT hS ?_); clear hS; intro w_ hS; (try simp only [Act.put, Act.eval, zz, Value.cells] at hS))
  | ((with_reducible refine qA 37 ?_); refine BigFrame.wpList_want rfl fun _ hK => Bq rfl rfl (hS.box 1 rfl) Tryz.underlying31 rfl (by kernel_rfl) (hK _ _ ?_))
  | ((with_reducible show Calls _ _ #[_, .int .i64 3] _ _); go_at_call 15; refine (DV 3 (fun _ => by decide) okRB (by decide) hS (fun D w h => kpB.out _ _ h.1) (fun D w h => kt1.out _ _ h.1)).mono ?_; clear hS; rintro e w_ ⟨n, f, pl, er, u, hF, rfl, hS⟩; obtain ⟨rfl, rfl, rfl, rfl⟩ := fwdB_out hF; obtain ⟨Aq, cq, rfl, _, _⟩ := hS.ro.2.shape; clear hF)
  | ((with_reducible refine qA 42 ?_); refine BigFrame.wpList_want rfl fun _ hK => Bq rfl rfl (hS.box 2 rfl) Tryz.underlying31 rfl (by kernel_rfl) (hK _ _ ?_))
  | ((with_reducible show Calls _ _ #[_, .int .i64 2] _ _); go_at_call 15; refine (DV 2 (fun _ => by decide) okRB (by decide) hS (fun D w h => kpB.out _ _ h.1.1) (fun D w h => kt1.out _ _ h.1.1)).mono ?_; clear hS; rintro e w_ ⟨n, f, pl, er, u, hF, rfl, hS⟩; obtain rfl := fwdB2_out hF; obtain ⟨Ar, cr, rfl, _, _⟩ := hS.ro.2.shape; clear hF)
  | ((with_reducible refine qA 55 ?_); refine lit_w hS rfl _ 3 4 _ rfl Tryz.underlying40 #[.int .i64 0, .int .i64 1, .int .i64 3, .int .i64 2] (by kernel_rfl) 1 rfl (by decide) ?_; clear hS; intro g55 w_ hS; (try simp only [Act.put, List.setIfInBounds_toArray, List.set_cons_zero, List.set_cons_succ]))
  | (go_at_call 17; refine (sleq_any _ _ [0, 1, 3, 2] [0, 1, 3, 2] _ _ _ hS.ro.1.1.2 (Sl.of_own (hS.own 0 rfl))).mono ?_; rw [show (([0, 1, 3, 2] : List Int) == [0, 1, 3, 2]) = true from by decide]; rintro r_ w_ ⟨_, rfl, rfl, hb_⟩; replace hS := hS.ext hb_; clear hb_)
  | ((with_reducible refine qK ?_); refine qC hS ?_))
 go_ret
 exact ⟨rfl, (hS.sub (by repeat (first | exact List.Sublist.refl _ | apply List.Sublist.cons))).mono KS.out fun D w h => k0.out _ _ h.1.1.1⟩
end
section
open Go.RowKit
set_option exponentiation.threshold 5000
section
variable {p : Ac} {L : List (Nat × Nat)} {R : Nat}
theorem srchN_small (hM : DI p L R) (d : Nat) : (srchN p d).1.length <= 64 := by
 have h := Gn 64 ((srchN p d).1.map (·.1)) (BC p d).wf.nodup fun x hx => by
  obtain ⟨j, hj, rfl⟩ := Gp hx
  exact mask_lt hM.r5 ((Hk hj).mask hM)
 rwa [List.length_map] at h
theorem no_hit {d : Nat} (h : ∀ i, i < d -> E6 p (srchN p i).1 (srchN p i).2) : ∀ n, n < d -> ∀ s, Cw p n s -> reachB p s = false
 | n, hn, s, hs => by
  by_cases ho : ∃ e, e < n /\ Cw p e s
  ·obtain ⟨e, he, h2⟩ := ho
   exact no_hit h e (by omega) s h2
  ·have hv := BC p n
   obtain ⟨j, hj, rfl⟩ := Gp ((hv.mem s).2 hs)
   refine h n hn j (Nat.le_of_not_lt fun hja => ho ((hv.old _).1 ?_)) hj
   refine List.mem_map.2 ⟨(srchN p n).1.getD j AK, List.mem_of_getElem? (i := j) ?_, rfl⟩
   rw [List.getElem?_take, if_pos hja]
   exact Dc hj
termination_by n => n
def EP (p : Ac) (n : Nat) (f : Bool) (pl : List Nat) : Prop := ∃ d, (∀ i, i < d -> E6 p (srchN p i).1 (srchN p i).2) /\
 ((∃ j, HitR p (srchN p d).1 (srchN p d).2 j /\ n = (srchN p d).1.length /\ f = true /\ pl = B0 (srchN p d).1 j) \/
  (E6 p (srchN p d).1 (srchN p d).2 /\ (srchN p (d + 1)).1.length = (srchN p d).1.length /\ n = (srchN p d).1.length /\ f = false /\ pl = []))
theorem fwd_well (hM : DI p L R) (hc : checkE p = 0) {lim : Int} (hl : 64 <= lim) {n : Nat} {f : Bool} {pl : List Nat} {e : Int} (h : Ix p lim n f pl e) : e = 0 /\ EP p n f pl := by
 rcases h with ⟨h, _⟩ | ⟨_, h, _⟩ | ⟨_, _, d, h1, h2, h3⟩
 ·omega
 ·exact absurd hc h
 ·rcases h3 with ⟨j, q1, q2, q3, q4, q5⟩ | ⟨q1, q2, q3, q4, q5, q6⟩ | ⟨_, q2, _⟩
  ·exact ⟨q5, d, h1, .inl ⟨j, q1, q2, q3, q4⟩⟩
  ·exact ⟨q6, d, h1, .inr ⟨q1, q2, q3, q4, q5⟩⟩
  ·have := srchN_small hM (d + 1); omega
theorem hit_goal {d j : Nat} (h : ∀ i, i < d -> E6 p (srchN p i).1 (srchN p i).2) (hj : HitR p (srchN p d).1 (srchN p d).2 j) :
  GoalD p d /\ (B0 (srchN p d).1 j).length = d /\ (∃ s, runTo p p.start 0 (Ce (B0 (srchN p d).1 j)) = (s, d, true) /\ reachB p s = true) /\ Rch p ((srchN p d).1.getD j AK).1 := by
 obtain ⟨h1, h2, h3, h4⟩ := hj
 have hv := BC p d
 have hlen := hv.len j h1 h2
 have hrun := planR_run hv.wf (j + 1) j (by omega) h2
 rw [hlen] at hrun
 refine ⟨goal_near.2 ⟨⟨_, (hv.mem _).1 (at_mem h2), h3⟩, no_hit h⟩, hlen, ⟨_, hrun, h3⟩, Hk h2⟩
theorem H9 {n : Nat} {f : Bool} {pl : List Nat} (h : EP p n f pl) : f = rchB p /\ (f = false -> pl = [] /\ (∀ s, Rch p s -> ∃ d, s ∈ (srchN p d).1.map (·.1) /\ n = (srchN p d).1.length) /\ ∀ d, ¬ GoalD p d) /\ (f = true -> GoalD p pl.length /\ ∃ s, runTo p p.start 0 (Ce pl) = (s, pl.length, true) /\ reachB p s = true) := by
 obtain ⟨d, h1, ⟨j, q1, q2, rfl, rfl⟩ | ⟨q1, q2, q3, rfl, rfl⟩⟩ := h
 ·obtain ⟨g1, g2, g3, g4⟩ := hit_goal h1 q1
  refine ⟨(rchB_true ⟨_, g4, q1.2.2.1⟩).symm, fun h => (by cases h), fun _ => ?_⟩
  rw [g2]
  exact ⟨g1, g3⟩
 ·have hno : ∀ s, Rch p s -> reachB p s = false := fun s hs => by
   have hm := (BC p d).mem s
   refine no_hit (d := d + 1) (fun i hi => ?_) d (by omega) s (hm.1 (Hm q2 hs))
   rcases Nat.lt_or_ge i d with h | h
   ·exact h1 i h
   ·obtain rfl : i = d := by omega
    exact q1
  refine ⟨(rchB_false hno).symm, fun _ => ⟨rfl, fun s hs => ⟨d, Hm q2 hs, q3⟩, fun e ⟨⟨s, h2, h3⟩, _⟩ => ?_⟩, fun h => by cases h⟩
  rw [hno s (at_rch h2)] at h3; cases h3
end
end
section
open Go.RowKit
attribute [local go_sem ↓] Go.wp_at_zero Go.wp_at_succ
set_option maxRecDepth 20000
set_option exponentiation.threshold 5000
def RunR (w0 : World) (F : List Aa) (K : (Nat -> Prop) -> World -> Prop) (p : Ac) (l : List Int) (e : Ending) (w' : World) : Prop :=
 ∃ (x : Value) (N n : Nat) (b : Bool), e = .returned (.tuple #[x, .int .i64 (n : Nat), .bool b]) /\ Hid (runTo p p.start 0 l = (N, n, b)) /\ St w0 w' F fun D w => K D w /\ A5 w D x N
set_option maxHeartbeats 4000000 in
theorem srun_any {w0 w : World} {F : List Aa} {K : (Nat -> Prop) -> World -> Prop} {v pv : Value} {p : Ac} {L : List (Nat × Nat)} {l : List Int} (hl : p.links = some L) (hP : p.Ok) (hlen : l.length <= 1000000) (hS : St w0 w F K) (kp : ∀ D w, K D w -> Bg w D v p) (kv : ∀ D w, K D w -> Sl w D 1 pv l.length (Bd l)) (kt : ∀ D w, K D w -> BM w) :
  Calls Tryz.prog 18 #[v, pv] w (RunR w0 F K p l) := by
 obtain ⟨Ap, cp, rfl, _, _⟩ := (kv _ _ hS.ro).shape
 obtain ⟨R, lk, st, rl, nl, gl⟩ := p
 obtain rfl : lk = some L := hl
 obtain ⟨lp, s, rv, nv, gv, rfl, h1, h2, h3, h4, h5⟩ := kp _ _ hS.ro
 dsimp only at h1 h2 h3 h4 h5
 obtain ⟨q, o, rfl, -⟩ := id h1
 obtain ⟨Cs, ns, cs, rfl⟩ := h2.shape
 obtain ⟨Ar, cr, rfl, _, _⟩ := h3.shape
 obtain ⟨An, cn, rfl, _, _⟩ := h4.shape
 obtain ⟨Ag, cg, rfl, _, _⟩ := h5.shape
 obtain ⟨KC, kc, hS2⟩ : ∃ KC : (Nat -> Prop) -> World -> Prop, Hid (∀ D w, KC D w -> K D w /\ A5 w D (.agg #[.slice Cs ns cs]) st) /\ St w0 w F KC := ⟨_, Lib.hid fun D w h => ⟨h.1, h.2⟩, hS.add (D := DZ F) A6 h2 fun _ h _ => h⟩
 have KS := Lib.hid hS.stable
 clear hS h1 h2 h3 h4 h5
 have hS := hS2
 clear hS2
 have HP := Lib.hid hP
 have HK := Lib.hid kp
 have HT := Lib.hid kt
 clear hP kp kt
 have HV := Lib.hid kv
 clear kv
 go_enter Tryz.func18, Tryz.ntmps18
 go_wp2_with (first
  | ((with_reducible refine qA 2 ?_); refine At hS rfl _ _ rfl (.agg #[.int .i64 R, .pointer (some ⟨q, 0, none⟩), .slice Cs ns cs, .slice Ar rl.length cr, .slice An nl.length cn, .slice Ag gl.length cg]) _ rfl rfl ?_; clear hS; intro g2 w_ hS; (try simp only [Act.put, Act.eval, zz, Value.cells] at hS))
  | ((with_reducible refine qA 4 ?_); refine qa hS #[.slice none 0 0] ?_; clear hS; intro g4 w_ hS)
  | ((with_reducible refine qA 14 ?_); refine BigFrame.wpList_want rfl fun _ hK => AH (v := .bool false) rfl rfl rfl rfl rfl (hK _ _ ?_))
  | ((with_reducible refine qA 7 ?_); refine qa hS #[.slice none 0 0] ?_; clear hS; intro g7 w_ hS)
  | ((with_reducible refine qk 27 ?_); first | (refine AB hS 0 rfl _ _ rfl _ _ rfl _ _ rfl _ (by first | rfl | assumption) Tryz.underlying27 rfl (by kernel_rfl) ?_) | (refine AB hS 1 rfl _ _ rfl _ _ rfl _ _ rfl _ (by first | rfl | assumption) Tryz.underlying27 rfl (by kernel_rfl) ?_) | (refine AB hS 2 rfl _ _ rfl _ _ rfl _ _ rfl _ (by first | rfl | assumption) Tryz.underlying27 rfl (by kernel_rfl) ?_) | (refine AB hS 3 rfl _ _ rfl _ _ rfl _ _ rfl _ (by first | rfl | assumption) Tryz.underlying27 rfl (by kernel_rfl) ?_) | (refine AB hS 4 rfl _ _ rfl _ _ rfl _ _ rfl _ (by first | rfl | assumption) Tryz.underlying27 rfl (by kernel_rfl) ?_) | (refine AB hS 5 rfl _ _ rfl _ _ rfl _ _ rfl _ (by first | rfl | assumption) Tryz.underlying27 rfl (by kernel_rfl) ?_))
  | ((with_reducible refine qM ?_); (first | refine qS hS ?_ | refine qT hS ?_); clear hS; intro w_ hS; (try simp only [Act.put, Act.eval, zz, Value.cells] at hS))
  | ((with_reducible refine qK ?_); refine qC hS ?_))
 go_loopw [20] (fun iv wr => ∃ (j N : Nat) (u : Value), iv = .int .i64 (j : Nat) /\ j <= l.length /\ u.oneCell' = true /\ Hid (runTo ⟨R, some L, st, rl, nl, gl⟩ st 0 l = runTo ⟨R, some L, st, rl, nl, gl⟩ N j (l.drop j)) /\ St w0 wr (.box g7 27 #[u] :: .box g4 27 #[.slice none 0 0] :: .box g2 31 #[.int .i64 R, .pointer (some ⟨q, 0, none⟩), .slice Cs ns cs, .slice Ar rl.length cr, .slice An nl.length cn, .slice Ag gl.length cg] :: F) (fun D w => K D w /\ A5 w D (.agg #[u]) N)) (fun i _ => l.length - (intOf i).toNat)
 case atStart => exact ⟨0, st, _, rfl, by omega, rfl, Lib.hid rfl, hS.mono (KS.out.and A6) fun D w h => kc.out D w h⟩
 case round =>
  clear hS
  obtain ⟨j, N, u, rfl, hj, hu, HR, hS⟩ := hrel
  by_cases hjl : j < l.length
  ·obtain ⟨bp, op, rfl⟩ := sl_pos (HV.out _ _ hS.ro.1) (by omega)
   obtain ⟨k, hk⟩ : ∃ k, l[j]? = some k := ⟨_, List.getElem?_eq_getElem hjl⟩
   have HY : Hid ((Bd l)[j]? = some (.int .i64 k)) := Lib.hid (by simp [Bd, hk])
   have hd : l.drop j = k :: l.drop (j + 1) := by
    rw [List.drop_eq_getElem_cons hjl]
    congr 1
    rw [List.getElem?_eq_getElem hjl] at hk
    exact Option.some.inj hk
   rw [hd] at HR
   obtain ⟨V, hV⟩ : ∃ V, stepM ⟨R, some L, st, rl, nl, gl⟩ N k = V := ⟨_, rfl⟩
   have HVV := Lib.hid hV
   clear hk hd hV
   cases V with
   | none =>
    go_wp2_with (first
     | ((with_reducible refine qB ?_); refine qc ?_ ?_ <;> intro h_ <;> go_prune)
     | ((with_reducible refine qk 3 ?_); refine BigFrame.wpList_want rfl fun _ hK => Ab rfl rfl (by kernel_rfl) (DL (HV.out _ _ hS.ro.1) HY.out) (hK _ _ ?_))
     | ((with_reducible refine qK ?_); refine qL hS Tryz.underlying31 ?_)
     | ((with_reducible refine qK ?_); refine qL hS Tryz.underlying27 ?_)
     | (go_at_call 29; refine (Gh (N := N) k HP.out hS (fun D w h => HK.out _ _ h.1) (fun D w h => h.2) (fun D w h => HT.out _ _ h.1)).mono ?_; clear hS; rw [HVV.out]; rintro e w_ ⟨x, rfl, hS⟩; obtain ⟨u', rfl, hu'⟩ := CT hS.ro.2)
     | ((with_reducible refine qA 10 ?_); refine qa hS #[.slice none 0 0] ?_; clear hS; intro g10 w_ hS)
     | ((with_reducible refine qm 27 ?_); (first | refine Bb hS 0 rfl _ _ _ rfl _ _ rfl rfl _ _ rfl (by kernel_rfl) (by kernel_rfl) (by first | (simpa using hu') | (simpa using hu)) ?_ | refine Bb hS 1 rfl _ _ _ rfl _ _ rfl rfl _ _ rfl (by kernel_rfl) (by kernel_rfl) (by first | (simpa using hu') | (simpa using hu)) ?_ | refine Bb hS 2 rfl _ _ _ rfl _ _ rfl rfl _ _ rfl (by kernel_rfl) (by kernel_rfl) (by first | (simpa using hu') | (simpa using hu)) ?_); clear hS; intro w_ hS; (try simp only [Act.put, Act.eval, zz, Value.cells] at hS)))
    refine ret3_cell Tryz.results18 rfl (hS.box 2 rfl) Tryz.underlying27 rfl (by kernel_rfl) rfl rfl rfl ?_
    exact ⟨_, N, j, false, rfl, Lib.hid (by rw [HR.out]; exact D6 HVV.out), (hS.sub (List.sublist_append_right [_, _, _, _] F)).mono (KS.out.and A6) fun D w h => ⟨h.1.1, h.1.2⟩⟩
   | some M =>
    go_wp2_with (first
     | ((with_reducible refine qB ?_); refine qc ?_ ?_ <;> intro h_ <;> go_prune)
     | ((with_reducible refine qk 3 ?_); refine BigFrame.wpList_want rfl fun _ hK => Ab rfl rfl (by kernel_rfl) (DL (HV.out _ _ hS.ro.1) HY.out) (hK _ _ ?_))
     | ((with_reducible refine qK ?_); refine qL hS Tryz.underlying31 ?_)
     | ((with_reducible refine qK ?_); refine qL hS Tryz.underlying27 ?_)
     | (go_at_call 29; refine (Gh (N := N) k HP.out hS (fun D w h => HK.out _ _ h.1) (fun D w h => h.2) (fun D w h => HT.out _ _ h.1)).mono ?_; clear hS; rw [HVV.out]; rintro e w_ ⟨x, rfl, hS⟩; obtain ⟨u', rfl, hu'⟩ := CT hS.ro.2)
     | ((with_reducible refine qA 10 ?_); refine qa hS #[.slice none 0 0] ?_; clear hS; intro g10 w_ hS)
     | ((with_reducible refine qm 27 ?_); (first | refine Bb hS 0 rfl _ _ _ rfl _ _ rfl rfl _ _ rfl (by kernel_rfl) (by kernel_rfl) (by first | (simpa using hu') | (simpa using hu)) ?_ | refine Bb hS 1 rfl _ _ _ rfl _ _ rfl rfl _ _ rfl (by kernel_rfl) (by kernel_rfl) (by first | (simpa using hu') | (simpa using hu)) ?_ | refine Bb hS 2 rfl _ _ _ rfl _ _ rfl rfl _ _ rfl (by kernel_rfl) (by kernel_rfl) (by first | (simpa using hu') | (simpa using hu)) ?_); clear hS; intro w_ hS; (try simp only [Act.put, Act.eval, zz, Value.cells] at hS)))
    exact ⟨⟨j + 1, M, u', by go_num, hjl, hu', Lib.hid (by rw [HR.out]; exact C5 HVV.out), (hS.sub (List.sublist_cons_self _ _)).mono (KS.out.and A6) fun D w h => ⟨h.1.1, h.2⟩⟩, by simp [intOf]; omega⟩
  ·obtain rfl : j = l.length := by omega
   rw [List.drop_length] at HR
   go_wp2_with (first
    | ((with_reducible refine qB ?_); refine qc ?_ ?_ <;> intro h_ <;> go_prune)
    | ((with_reducible refine qK ?_); refine qL hS Tryz.underlying27 ?_)
    | ((with_reducible refine qm 27 ?_); (first | refine Bb hS 0 rfl _ _ _ rfl _ _ rfl rfl _ _ rfl (by kernel_rfl) (by kernel_rfl) (by simpa using hu) ?_ | refine Bb hS 1 rfl _ _ _ rfl _ _ rfl rfl _ _ rfl (by kernel_rfl) (by kernel_rfl) (by simpa using hu) ?_ | refine Bb hS 2 rfl _ _ _ rfl _ _ rfl rfl _ _ rfl (by kernel_rfl) (by kernel_rfl) (by simpa using hu) ?_); clear hS; intro w_ hS; (try simp only [Act.put, Act.eval, zz, Value.cells] at hS)))
   refine ret3_cell Tryz.results18 rfl (hS.box 1 rfl) Tryz.underlying27 rfl (by kernel_rfl) rfl rfl rfl ?_
   exact ⟨_, N, l.length, true, rfl, Lib.hid HR.out, (hS.sub (List.sublist_append_right [_, _, _] F)).mono (KS.out.and A6) fun D w h => h⟩
end
section
open Go.RowKit
attribute [local go_sem ↓] Go.wp_at_zero Go.wp_at_succ
set_option maxRecDepth 20000
set_option exponentiation.threshold 5000
theorem start_bytesF {W : World} {D : Nat -> Prop} {v : Value} {l : List Nat} (h : BM W) (hv : Sl W D 1 v l.length (Fj l)) : ∃ K : (Nat -> Prop) -> World -> Prop, (∀ D w, K D w -> BM w /\ D 0) /\ (∀ D w, K D w -> Sl w D 1 v l.length (Fj l)) /\ St W W [] K :=
 ⟨fun D w => (BM w /\ D 0) /\ Sl w D 1 v l.length (Fj l), fun _ _ h => h.1, fun _ _ h => h.2, St.start (D := fun _ => True) (CK.and (Ah (by decide))) ⟨⟨h, trivial⟩, hv.imp fun _ _ _ => trivial⟩⟩
theorem Fd (l : List Nat) : Bd (Ce l) = AV l := by simp [Bd, Ce, AV]
theorem EI (l : List Nat) : (Ce l).length = l.length := by simp [Ce]
end
end Go.Proofs.YtpcioefppjljoaaGreatDoor
