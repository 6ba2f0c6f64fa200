/-
  The card of SchemeRuns.
-/
import Derived.Deep.LoopGhost
import Derived.Test.YtchjigffejhmfaaGreatDoorRows
import Derived.ProofKit
import Derived.OpenShut
import Derived.Lib.LaidU8
import Derived.Lay
import Derived.MakeChecks
import Derived.LaidLaws
import Derived.Stop.Joined
import Derived.Test.YtchjigffejhmfaaGreatDoorCards
import Derived.Test.YtchjigffejhmfaaGreatDoorTie
import Derived.SevenTiedAt
import Derived.Test.YtchjigffejhmfaaGreatDoorScr4
namespace Go.Proofs.YtchjigffejhmfaaGreatDoor
section
open Go.RowKit
attribute [local go_sem ↓] Go.wp_at_zero Go.wp_at_succ
set_option maxRecDepth 20000
set_option exponentiation.threshold 5000
set_option maxHeartbeats 4000000 in
theorem ED {w0 w : World} {F : List Ac} {K : (Nat -> Prop) -> World -> Prop} {v z : Value} {p : AP} {N : Nat} (k : Int) (hP : p.Ok) (hS : St w0 w F K) (kp : ∀ D w, K D w -> Bw w D v p) (ku : ∀ D w, K D w -> Aa w D z N) (kt : ∀ D w, K D w -> B7 w) :
  Calls Tryz.prog 31 #[v, z, .int .i64 k] w fun e w' => ∃ x, e = .returned (.tuple #[x, .bool (stepM p N k).isSome]) /\ St w0 w' F fun D w => K D w /\ Aa w D x ((stepM p N k).getD 0) := by
 obtain ⟨R, lk, st, rl, nl, gl⟩ := p
 obtain ⟨lp, s, rv, nv, gv, rfl, h1, h2, h3, h4, h5⟩ := kp _ _ hS.ro
 dsimp only at h1 h2 h3 h4 h5
 obtain ⟨la, rfl⟩ : ∃ la, lp = .pointer la := by
  cases lk with
  | none => exact ⟨none, h1⟩
  | some L => obtain ⟨q, o, rfl, -⟩ := h1; exact ⟨_, rfl⟩
 obtain ⟨Cs, ns, cs, rfl⟩ := h2.shape
 obtain ⟨Ar, cr, rfl, _, _⟩ := h3.shape
 obtain ⟨An, cn, rfl, _, _⟩ := h4.shape
 obtain ⟨Ag, cg, rfl, _, _⟩ := h5.shape
 obtain ⟨u, rfl⟩ : ∃ u, z = .agg #[u] := by
  obtain ⟨A, c, l, rfl, -⟩ := (ku _ _ hS.ro).parts
  exact ⟨_, rfl⟩
 obtain ⟨KC, kc, hS2⟩ : ∃ KC : (Nat -> Prop) -> World -> Prop, Hid (∀ D w, KC D w -> K D w /\ ID w D (.pointer la) lk /\ BA w D (.slice Ar rl.length cr) rl) /\ St w0 w F KC := ⟨_, Lib.hid fun D w h => ⟨h.1, h.2.1, h.2.2⟩, hS.add (D := Dh F) (Cu.and Bj) ⟨h1, h3⟩ fun _ h _ => h⟩
 have KS := Lib.hid hS.stable
 clear hS h1 h2 h3 h4 h5
 have hS := hS2
 clear hS2
 have HP := Lib.hid hP
 have hrl : rl.length <= 100000 := hP.rules
 clear hP
 have HK := Lib.hid kp
 have HU := Lib.hid ku
 have HT := Lib.hid kt
 clear kp ku kt
 by_cases hk : 0 <= k /\ k < rl.length /\ lk.isSome = true
 ·obtain ⟨hk0, hk1, hk2⟩ := hk
  cases lk with
  | none => cases hk2
  | some L =>
   clear hk2
   obtain ⟨j, rfl⟩ : ∃ j : Nat, k = (j : Int) := ⟨k.toNat, by omega⟩
   have hlj : j < rl.length := by omega
   clear hk0 hk1
   obtain ⟨q, o, e, -⟩ := id (kc.out _ _ hS.ro).2.1
   injection e with e
   subst e
   obtain ⟨b, o2, _, _, rfl, -⟩ := (kc.out _ _ hS.ro).2.2.at_ hlj
   rw [Fk (p := ⟨R, some L, st, rl, nl, gl⟩) (N := N) rfl hlj]
   dsimp only
   obtain ⟨z, hz⟩ : ∃ z, rl.getD j B5 = z := ⟨_, rfl⟩
   rw [hz]
   have HZ := Lib.hid hz
   clear hz
   obtain ⟨zr, ry, rn, rt, ro⟩ := z
   obtain ⟨V, hV⟩ : ∃ V, V = if stepB ⟨R, some L, st, rl, nl, gl⟩ N ⟨zr, ry, rn, rt, ro⟩ = true then some (El N ⟨zr, ry, rn, rt, ro⟩) else none := ⟨_, rfl⟩
   rw [<- hV]
   have HV := Lib.hid hV
   clear hV
   cases zr
   ·go_enter Tryz.func31, Tryz.ntmps31
    go_wp2_with (first | ((with_reducible refine qA 3 ?_); refine Aw hS rfl _ _ rfl (.agg #[.int .i64 R, .pointer (some ⟨q, 0, none⟩), .slice Cs ns cs, .slice (some ⟨b, o2, none⟩) rl.length cr, .slice An nl.length cn, .slice Ag gl.length cg]) _ rfl rfl ?_; clear hS; intro g3 w_ hS; (try simp only [Act.put, Act.eval, zz, Value.cells] at hS)) | ((with_reducible refine qA 4 ?_); refine Aw hS rfl _ _ rfl (.agg #[u]) _ rfl rfl ?_; clear hS; intro g4 w_ hS; (try simp only [Act.put, Act.eval, zz, Value.cells] at hS)) | ((with_reducible refine qA 6 ?_); refine qa hS #[.slice none 0 0] ?_; clear hS; intro g6 w_ hS) | ((with_reducible refine qA 12 ?_); refine BigFrame.wpList_want rfl fun _ hK => AB (v := .bool false) rfl rfl rfl rfl rfl (hK _ _ ?_)) | ((with_reducible refine qB ?_); refine qc ?_ ?_ <;> intro h_ <;> go_prune) | ((with_reducible refine qA 29 ?_); obtain ⟨b', o', y, n, e', _, _, c0, c1, c2, c3, c4, hy, hn⟩ := (kc.out _ _ hS.ro).2.2.at_ hlj; injection e' with e'; injection e' with e1 e2; subst e1 e2; rw [HZ.out] at c0 c3 c4 hy hn; dsimp only at c0 c3 c4 hy hn; obtain ⟨Ay, my, cy, rfl⟩ := hy.shape; obtain ⟨Am, mn, cm, rfl⟩ := hn.shape; replace hS := hS.add (D := Dh _) (Ab.and Ab) ⟨hy, hn⟩ (fun _ h _ => h); refine BigFrame.wpList_want rfl fun _ hK => AU (cs := [.bool false, .slice Ay my cy, .slice Am mn cm, .int .i64 rt, .int .i64 ro]) rfl rfl (rng5 c0 c1 c2 c3 c4) Tryz.underlying84 rfl (by kernel_rfl) (hK _ _ ?_)) | ((with_reducible refine qA 8 ?_); refine qa hS #[.bool false, .slice none 0 0, .slice none 0 0, .int .i64 0, .int .i64 0] ?_; clear hS; intro g8 w_ hS) | ((with_reducible refine qA 9 ?_); refine qa hS #[.slice none 0 0] ?_; clear hS; intro g9 w_ hS) | ((with_reducible refine qK ?_); refine qL hS Tryz.underlying39 ?_) | ((with_reducible refine qM ?_); (first | refine qS hS ?_ | refine qT hS ?_); clear hS; intro w_ hS; (try simp only [Act.put, Act.eval, zz, Value.cells] at hS)) | (go_at_call 75; refine (D4 _ N rt _ _ (HU.out _ _ (kc.out _ _ hS.ro.1).1)).mono ?_; rintro r_ w_ ⟨_, rfl, hM, hb_⟩; obtain ⟨A9, n9, l9, rfl, -⟩ := hM.parts; replace hS := hS.ret2 hb_ Ab hM; clear hb_ hM) | (go_at_call 69; refine (Di _ N rt _ _ (HU.out _ _ (kc.out _ _ hS.ro.1.1).1)).mono ?_; rintro r_ w_ ⟨_, rfl, hM, hb_⟩; obtain ⟨A10, n10, l10, rfl, -⟩ := hM.parts; replace hS := hS.ret2 hb_ Ab hM; clear hb_ hM) | ((with_reducible refine qK ?_); refine qC hS ?_))
    simp only [Act.put, List.setIfInBounds_toArray, List.set_cons_zero, List.set_cons_succ, List.getElem_toArray, List.getElem_cons_zero]
    have HH := Lib.hid (HP.out.links L rfl).1
    obtain ⟨K7, x9, k7, hS2⟩ : ∃ (K7 : (Nat -> Prop) -> World -> Prop) (x9 : Value), Hid (∀ D w, K7 D w -> K D w /\ ID w D (.pointer (some ⟨q, 0, none⟩)) (some L) /\ Aa w D (.agg #[.slice Ay my cy]) ry /\ Aa w D (.agg #[.slice Am mn cm]) rn /\ Aa w D (.agg #[x9]) (El N ⟨false, ry, rn, rt, ro⟩)) /\ St w0 w_ (.box g9 39 #[x9] :: .box g8 84 #[.bool false, .slice Ay my cy, .slice Am mn cm, .int .i64 rt, .int .i64 ro] :: .box g6 39 #[.slice none 0 0] :: .box g4 39 #[u] :: .box g3 43 #[.int .i64 R, .pointer (some ⟨q, 0, none⟩), .slice Cs ns cs, .slice (some ⟨b, o2, none⟩) rl.length cr, .slice An nl.length cn, .slice Ag gl.length cg] :: F) K7 := ⟨_, _, Lib.hid fun D w h => ⟨(kc.out _ _ h.1.1).1, (kc.out _ _ h.1.1).2.1, h.1.2.1, h.1.2.2, h.2⟩, hS⟩
    have hx9 : x9.oneCell' = true := by
     obtain ⟨A, c, l, e, -⟩ := (k7.out _ _ hS2.ro).2.2.2.2.parts
     injection e with e; injection e with e; injection e with e
     subst e; rfl
    clear hS
    have hS := hS2
    clear hS2
    obtain ⟨rb, hrb⟩ : ∃ rb, rb = false := ⟨_, rfl⟩
    have HRB := Lib.hid hrb
    rw [<- hrb] at k7
    clear hrb
    obtain ⟨hb, hhb⟩ : ∃ hb, BI N rt = hb := ⟨_, rfl⟩
    obtain ⟨ho, hho⟩ : ∃ ho, AZ (ry, rn) (closM L N) = ho := ⟨_, rfl⟩
    obtain ⟨M, hM⟩ : ∃ M, El N ⟨rb, ry, rn, rt, ro⟩ = M := ⟨_, rfl⟩
    obtain ⟨gd, hgd⟩ : ∃ gd, goodB ⟨R, some L, st, rl, nl, gl⟩ M = gd := ⟨_, rfl⟩
    have HSB : Hid (stepB ⟨R, some L, st, rl, nl, gl⟩ N ⟨rb, ry, rn, rt, ro⟩ = !(((hb != rb) || (!rb && !ho)) || !gd)) := Lib.hid (by rw [<- hhb, <- hho, <- hgd, <- hM]; rfl)
    have HHB := Lib.hid hhb
    have HHO := Lib.hid hho
    have HGD := Lib.hid hgd
    have HNM := Lib.hid hM
    rw [HNM.out] at k7
    have HVV : Hid (V = if (!(((hb != rb) || (!rb && !ho)) || !gd)) = true then some M else none) := Lib.hid (by rw [HV.out, <- HRB.out, HNM.out, HSB.out])
    clear hhb hho hgd hM HV HSB HNM
    refine BQ [.i (.agg #[u]), .q g8 3, .n rt, .i (.bool hb), .q g8 0, .i (.bool rb), .i (.bool (hb != rb)), .i (.bool (hb != rb)), .g (!(hb != rb)) (.pointer (some ⟨g8, 0, none⟩)), .g (!(hb != rb)) (.bool rb), .g (!(hb != rb)) (.bool (!rb)), .g (!(hb != rb)) (.bool (!rb)), .g ((!(hb != rb)) && (!rb)) (.pointer (some ⟨g8, 1, none⟩)), .g ((!(hb != rb)) && (!rb)) (.agg #[.slice Ay my cy, .slice Am mn cm]), .g ((!(hb != rb)) && (!rb)) (.pointer (some ⟨g3, 1, none⟩)), .g ((!(hb != rb)) && (!rb)) (.pointer (some ⟨q, 0, none⟩)), .g ((!(hb != rb)) && (!rb)) (.agg #[u]), (.s (fun v w => ((!(hb != rb)) && (!rb)) = true -> Aa w (fun _ => True) v (closM L N)) fun v w w' h hb hc => by replace h := h hc; exact h.ext hb), .g ((!(hb != rb)) && (!rb)) (.bool ho), .g ((!(hb != rb)) && (!rb)) (.bool (!ho)), .g (!(hb != rb)) (.bool ((!rb) && (!ho))), .i (.bool ((hb != rb) || ((!rb) && (!ho)))), .i (.bool ((hb != rb) || ((!rb) && (!ho)))), .g (!((hb != rb) || ((!rb) && (!ho)))) (.agg #[.int .i64 R, .pointer (some ⟨q, 0, none⟩), .slice Cs ns cs, .slice (some ⟨b, o2, none⟩) rl.length cr, .slice An nl.length cn, .slice Ag gl.length cg]), .g (!((hb != rb) || ((!rb) && (!ho)))) (.agg #[x9]), .g (!((hb != rb) || ((!rb) && (!ho)))) (.bool gd), .g (!((hb != rb) || ((!rb) && (!ho)))) (.bool (!gd)), .i (.bool (((hb != rb) || ((!rb) && (!ho))) || (!gd)))] ⟨uR (h := fun w hW hN => (hS.ext hW).box 3 rfl), uF, uC (h := fun w hW hN => (hS.ext hW).shut 1 rfl 3 rfl), ?_, uF, uC (h := fun w hW hN => by rw [HRB.out]; exact (hS.ext hW).shut 1 rfl 0 rfl), uB (h := fun w hW hN => by cases hb <;> cases rb <;> rfl), uM, (by cases hb <;> cases rb <;> first | exact uY | exact uX | exact uF), (by cases hb <;> cases rb <;> first | exact uY | exact uX | exact uC (h := fun w hW hN => by first | (rw [HRB.out]; exact (hS.ext hW).shut 1 rfl 0 rfl) | (rw [<- HRB.out]; exact (hS.ext hW).shut 1 rfl 0 rfl) | exact (hS.ext hW).shut 1 rfl 0 rfl)), (by cases hb <;> cases rb <;> first | exact uY | exact uX | exact uU), (by cases hb <;> cases rb <;> first | exact uY | exact uX | exact uM), (by cases hb <;> cases rb <;> first | exact uY | exact uX | exact uF), (by cases hb <;> cases rb <;> first | exact uY | exact uX | exact uD (h := fun w hW hN => rng2 ((hS.ext hW).shut 1 rfl 1 rfl) ((hS.ext hW).shut 1 rfl 2 rfl))), (by cases hb <;> cases rb <;> first | exact uY | exact uX | exact uF), (by cases hb <;> cases rb <;> first | exact uY | exact uX | exact uC (h := fun w hW hN => (hS.ext hW).shut 4 rfl 1 rfl)), (by cases hb <;> cases rb <;> first | exact uY | exact uX | exact uR (h := fun w hW hN => (hS.ext hW).box 3 rfl)), ?_, ?_, (by cases hb <;> cases rb <;> first | exact uY | exact uX | exact uU), (by cases hb <;> cases rb <;> first | exact uY | exact uX | exact uP), (by cases hb <;> cases rb <;> exact uP), uM, (by cases hb <;> cases rb <;> cases ho <;> first | exact uY | exact uX | exact uR (h := fun w hW hN => (hS.ext hW).box 4 rfl)), (by cases hb <;> cases rb <;> cases ho <;> first | exact uY | exact uX | exact uR (h := fun w hW hN => (hS.ext hW).box 0 rfl)), ?_, (by cases hb <;> cases rb <;> cases ho <;> first | exact uY | exact uX | exact uU), (by cases hb <;> cases rb <;> cases ho <;> exact uP), trivial⟩ ?_
    ·refine uT fun b__ w hW hE K hK => ?_
     have e40 := hE 40
     have e42 := hE 42
     exact Ai rfl (by kernel_rfl) (by simp only [List.map_cons, List.map_nil, e40, e42]) (CD _ N rt w _ (HU.out _ _ (k7.out _ _ (hS.ext hW).ro).1)) fun v w' h hb_ => hK v w' (h.trans (by rw [HHB.out])) hb_
    ·cases hb <;> cases rb <;> first | exact uY | exact uX | (refine uT fun b__ w hW hE K hK => ?_; have e55 : b__.eval (.tmp 55) = .pointer (some ⟨q, 0, none⟩) := hE 55; have e56 : b__.eval (.tmp 56) = .agg #[u] := hE 56; (exact Ai rfl (by kernel_rfl) (by simp only [List.map_cons, List.map_nil, e55, e56]) (Gl (show IsH _ _ _ L from (k7.out _ _ (hS.ext hW).ro).2.1) (HT.out _ _ (k7.out _ _ (hS.ext hW).ro).1) HH.out (HU.out _ _ (k7.out _ _ (hS.ext hW).ro).1)) fun v w' h hb => hK v w' (fun _ => h.imp fun _ _ _ => trivial) hb))
    ·cases hb <;> cases rb <;> first | exact uY | exact uX | (refine uT fun b__ w hW hE K hK => ?_; have e53 : b__.eval (.tmp 53) = .agg #[.slice Ay my cy, .slice Am mn cm] := hE 53; have e57 := hE 57; have e57 := e57 rfl; (exact Ai rfl (by kernel_rfl) (by simp only [List.map_cons, List.map_nil, e53]) (Gk (z := (ry, rn)) ⟨_, _, rfl, (k7.out _ _ (hS.ext hW).ro).2.2.1, (k7.out _ _ (hS.ext hW).ro).2.2.2.1⟩ e57) fun v w' h hb => hK v w' (h.trans (by rw [HHO.out]; rfl)) hb))
    ·cases hb <;> cases rb <;> cases ho <;> first | exact uY | exact uX | (refine uT fun b__ w hW hE K hK => ?_; have e63 : b__.eval (.tmp 63) = .agg #[.int .i64 R, .pointer (some ⟨q, 0, none⟩), .slice Cs ns cs, .slice (some ⟨b, o2, none⟩) rl.length cr, .slice An nl.length cn, .slice Ag gl.length cg] := hE 63; have e64 : b__.eval (.tmp 64) = .agg #[x9] := hE 64; (exact Ai rfl (by kernel_rfl) (by simp only [List.map_cons, List.map_nil, e63, e64]) (Il (HK.out _ _ (k7.out _ _ (hS.ext hW).ro).1) HP.out (HT.out _ _ (k7.out _ _ (hS.ext hW).ro).1) (k7.out _ _ (hS.ext hW).ro).2.2.2.2) fun v w' h hb => hK v w' (h.trans (by rw [HGD.out]; rfl)) hb))
    ·intro vs wz hW hT
     obtain ⟨e40, e41, e42, e43, e44, e45, e46, e47, -, -, -, -, -, -, -, -, -, -, -, -, -, e61, e62, -, -, -, -, e67, -⟩ := hT
     have bx : (fun _ : Nat => True) 0 := trivial
     simp only [At, Act.put, zz, ze]
     rw [e67]
     replace hS := hS.ext hW
     clear hW e67
     obtain ⟨E, hE⟩ : ∃ E : Bool, (((hb != rb) || (!rb && !ho)) || !gd) = E := ⟨_, rfl⟩
     rw [hE] at HVV ⊢
     clear hE HHB HHO HGD
     cases E
     ·go_wp2_with (first
       | ((with_reducible refine qK ?_); refine qL hS Tryz.underlying39 ?_)
       | ((with_reducible refine qm 39 ?_); refine Be hS 2 rfl _ _ _ rfl _ _ rfl rfl _ _ rfl (by kernel_rfl) (by kernel_rfl) (by simpa using hx9) ?_; clear hS; intro w_ hS; (try simp only [Act.put, Act.eval, zz, Value.cells] at hS)))
      refine Cq Tryz.results31 rfl (hS.box 2 rfl) Tryz.underlying39 rfl (by kernel_rfl) rfl rfl ?_
      rw [show V = some M from HVV.out]
      exact ⟨_, rfl, (hS.sub (List.sublist_append_right [_, _, _, _, _] F)).mono (KS.out.and Ab) fun D w h => ⟨(k7.out _ _ h).1, (k7.out _ _ h).2.2.2.2⟩⟩
     ·go_wp2_with (first
       | ((with_reducible refine qA 68 ?_); refine Av rfl _ _ rfl #[.slice none 0 0] (by kernel_rfl) ?_; (try simp only [Act.put, List.setIfInBounds_toArray, List.set_cons_zero, List.set_cons_succ]))
       | ((with_reducible refine qM ?_); (first | refine qS hS ?_ | refine qT hS ?_); clear hS; intro w_ hS; (try simp only [Act.put, Act.eval, zz, Value.cells] at hS)))
      refine Cq Tryz.results31 rfl (hS.box 2 rfl) Tryz.underlying39 rfl (by kernel_rfl) rfl rfl ?_
      rw [show V = none from HVV.out]
      exact ⟨_, rfl, (hS.sub (List.sublist_append_right [_, _, _, _, _] F)).mono (KS.out.and Ab) fun D w h => ⟨(k7.out _ _ h).1, Aa.empty⟩⟩
   ·go_enter Tryz.func31, Tryz.ntmps31
    go_wp2_with (first | ((with_reducible refine qA 3 ?_); refine Aw hS rfl _ _ rfl (.agg #[.int .i64 R, .pointer (some ⟨q, 0, none⟩), .slice Cs ns cs, .slice (some ⟨b, o2, none⟩) rl.length cr, .slice An nl.length cn, .slice Ag gl.length cg]) _ rfl rfl ?_; clear hS; intro g3 w_ hS; (try simp only [Act.put, Act.eval, zz, Value.cells] at hS)) | ((with_reducible refine qA 4 ?_); refine Aw hS rfl _ _ rfl (.agg #[u]) _ rfl rfl ?_; clear hS; intro g4 w_ hS; (try simp only [Act.put, Act.eval, zz, Value.cells] at hS)) | ((with_reducible refine qA 6 ?_); refine qa hS #[.slice none 0 0] ?_; clear hS; intro g6 w_ hS) | ((with_reducible refine qA 12 ?_); refine BigFrame.wpList_want rfl fun _ hK => AB (v := .bool false) rfl rfl rfl rfl rfl (hK _ _ ?_)) | ((with_reducible refine qB ?_); refine qc ?_ ?_ <;> intro h_ <;> go_prune) | ((with_reducible refine qA 29 ?_); obtain ⟨b', o', y, n, e', _, _, c0, c1, c2, c3, c4, hy, hn⟩ := (kc.out _ _ hS.ro).2.2.at_ hlj; injection e' with e'; injection e' with e1 e2; subst e1 e2; rw [HZ.out] at c0 c3 c4 hy hn; dsimp only at c0 c3 c4 hy hn; obtain ⟨Ay, my, cy, rfl⟩ := hy.shape; obtain ⟨Am, mn, cm, rfl⟩ := hn.shape; replace hS := hS.add (D := Dh _) (Ab.and Ab) ⟨hy, hn⟩ (fun _ h _ => h); refine BigFrame.wpList_want rfl fun _ hK => AU (cs := [.bool true, .slice Ay my cy, .slice Am mn cm, .int .i64 rt, .int .i64 ro]) rfl rfl (rng5 c0 c1 c2 c3 c4) Tryz.underlying84 rfl (by kernel_rfl) (hK _ _ ?_)) | ((with_reducible refine qA 8 ?_); refine qa hS #[.bool false, .slice none 0 0, .slice none 0 0, .int .i64 0, .int .i64 0] ?_; clear hS; intro g8 w_ hS) | ((with_reducible refine qA 9 ?_); refine qa hS #[.slice none 0 0] ?_; clear hS; intro g9 w_ hS) | ((with_reducible refine qK ?_); refine qL hS Tryz.underlying39 ?_) | ((with_reducible refine qM ?_); (first | refine qS hS ?_ | refine qT hS ?_); clear hS; intro w_ hS; (try simp only [Act.put, Act.eval, zz, Value.cells] at hS)) | (go_at_call 75; refine (D4 _ N rt _ _ (HU.out _ _ (kc.out _ _ hS.ro.1).1)).mono ?_; rintro r_ w_ ⟨_, rfl, hM, hb_⟩; obtain ⟨A9, n9, l9, rfl, -⟩ := hM.parts; replace hS := hS.ret2 hb_ Ab hM; clear hb_ hM) | (go_at_call 69; refine (Di _ N rt _ _ (HU.out _ _ (kc.out _ _ hS.ro.1.1).1)).mono ?_; rintro r_ w_ ⟨_, rfl, hM, hb_⟩; obtain ⟨A10, n10, l10, rfl, -⟩ := hM.parts; replace hS := hS.ret2 hb_ Ab hM; clear hb_ hM) | ((with_reducible refine qK ?_); refine qC hS ?_))
    simp only [Act.put, List.setIfInBounds_toArray, List.set_cons_zero, List.set_cons_succ, List.getElem_toArray, List.getElem_cons_zero]
    have HH := Lib.hid (HP.out.links L rfl).1
    obtain ⟨K7, x9, k7, hS2⟩ : ∃ (K7 : (Nat -> Prop) -> World -> Prop) (x9 : Value), Hid (∀ D w, K7 D w -> K D w /\ ID w D (.pointer (some ⟨q, 0, none⟩)) (some L) /\ Aa w D (.agg #[.slice Ay my cy]) ry /\ Aa w D (.agg #[.slice Am mn cm]) rn /\ Aa w D (.agg #[x9]) (El N ⟨true, ry, rn, rt, ro⟩)) /\ St w0 w_ (.box g9 39 #[x9] :: .box g8 84 #[.bool true, .slice Ay my cy, .slice Am mn cm, .int .i64 rt, .int .i64 ro] :: .box g6 39 #[.slice none 0 0] :: .box g4 39 #[u] :: .box g3 43 #[.int .i64 R, .pointer (some ⟨q, 0, none⟩), .slice Cs ns cs, .slice (some ⟨b, o2, none⟩) rl.length cr, .slice An nl.length cn, .slice Ag gl.length cg] :: F) K7 := ⟨_, _, Lib.hid fun D w h => ⟨(kc.out _ _ h.1.1.1).1, (kc.out _ _ h.1.1.1).2.1, h.1.1.2.1, h.1.1.2.2, h.2⟩, hS⟩
    have hx9 : x9.oneCell' = true := by
     obtain ⟨A, c, l, e, -⟩ := (k7.out _ _ hS2.ro).2.2.2.2.parts
     injection e with e; injection e with e; injection e with e
     subst e; rfl
    clear hS
    have hS := hS2
    clear hS2
    obtain ⟨rb, hrb⟩ : ∃ rb, rb = true := ⟨_, rfl⟩
    have HRB := Lib.hid hrb
    rw [<- hrb] at k7
    clear hrb
    obtain ⟨hb, hhb⟩ : ∃ hb, BI N rt = hb := ⟨_, rfl⟩
    obtain ⟨ho, hho⟩ : ∃ ho, AZ (ry, rn) (closM L N) = ho := ⟨_, rfl⟩
    obtain ⟨M, hM⟩ : ∃ M, El N ⟨rb, ry, rn, rt, ro⟩ = M := ⟨_, rfl⟩
    obtain ⟨gd, hgd⟩ : ∃ gd, goodB ⟨R, some L, st, rl, nl, gl⟩ M = gd := ⟨_, rfl⟩
    have HSB : Hid (stepB ⟨R, some L, st, rl, nl, gl⟩ N ⟨rb, ry, rn, rt, ro⟩ = !(((hb != rb) || (!rb && !ho)) || !gd)) := Lib.hid (by rw [<- hhb, <- hho, <- hgd, <- hM]; rfl)
    have HHB := Lib.hid hhb
    have HHO := Lib.hid hho
    have HGD := Lib.hid hgd
    have HNM := Lib.hid hM
    rw [HNM.out] at k7
    have HVV : Hid (V = if (!(((hb != rb) || (!rb && !ho)) || !gd)) = true then some M else none) := Lib.hid (by rw [HV.out, <- HRB.out, HNM.out, HSB.out])
    clear hhb hho hgd hM HV HSB HNM
    refine BQ [.i (.agg #[u]), .q g8 3, .n rt, .i (.bool hb), .q g8 0, .i (.bool rb), .i (.bool (hb != rb)), .i (.bool (hb != rb)), .g (!(hb != rb)) (.pointer (some ⟨g8, 0, none⟩)), .g (!(hb != rb)) (.bool rb), .g (!(hb != rb)) (.bool (!rb)), .g (!(hb != rb)) (.bool (!rb)), .g ((!(hb != rb)) && (!rb)) (.pointer (some ⟨g8, 1, none⟩)), .g ((!(hb != rb)) && (!rb)) (.agg #[.slice Ay my cy, .slice Am mn cm]), .g ((!(hb != rb)) && (!rb)) (.pointer (some ⟨g3, 1, none⟩)), .g ((!(hb != rb)) && (!rb)) (.pointer (some ⟨q, 0, none⟩)), .g ((!(hb != rb)) && (!rb)) (.agg #[u]), (.s (fun v w => ((!(hb != rb)) && (!rb)) = true -> Aa w (fun _ => True) v (closM L N)) fun v w w' h hb hc => by replace h := h hc; exact h.ext hb), .g ((!(hb != rb)) && (!rb)) (.bool ho), .g ((!(hb != rb)) && (!rb)) (.bool (!ho)), .g (!(hb != rb)) (.bool ((!rb) && (!ho))), .i (.bool ((hb != rb) || ((!rb) && (!ho)))), .i (.bool ((hb != rb) || ((!rb) && (!ho)))), .g (!((hb != rb) || ((!rb) && (!ho)))) (.agg #[.int .i64 R, .pointer (some ⟨q, 0, none⟩), .slice Cs ns cs, .slice (some ⟨b, o2, none⟩) rl.length cr, .slice An nl.length cn, .slice Ag gl.length cg]), .g (!((hb != rb) || ((!rb) && (!ho)))) (.agg #[x9]), .g (!((hb != rb) || ((!rb) && (!ho)))) (.bool gd), .g (!((hb != rb) || ((!rb) && (!ho)))) (.bool (!gd)), .i (.bool (((hb != rb) || ((!rb) && (!ho))) || (!gd)))] ⟨uR (h := fun w hW hN => (hS.ext hW).box 3 rfl), uF, uC (h := fun w hW hN => (hS.ext hW).shut 1 rfl 3 rfl), ?_, uF, uC (h := fun w hW hN => by rw [HRB.out]; exact (hS.ext hW).shut 1 rfl 0 rfl), uB (h := fun w hW hN => by cases hb <;> cases rb <;> rfl), uM, (by cases hb <;> cases rb <;> first | exact uY | exact uX | exact uF), (by cases hb <;> cases rb <;> first | exact uY | exact uX | exact uC (h := fun w hW hN => by first | (rw [HRB.out]; exact (hS.ext hW).shut 1 rfl 0 rfl) | (rw [<- HRB.out]; exact (hS.ext hW).shut 1 rfl 0 rfl) | exact (hS.ext hW).shut 1 rfl 0 rfl)), (by cases hb <;> cases rb <;> first | exact uY | exact uX | exact uU), (by cases hb <;> cases rb <;> first | exact uY | exact uX | exact uM), (by cases hb <;> cases rb <;> first | exact uY | exact uX | exact uF), (by cases hb <;> cases rb <;> first | exact uY | exact uX | exact uD (h := fun w hW hN => rng2 ((hS.ext hW).shut 1 rfl 1 rfl) ((hS.ext hW).shut 1 rfl 2 rfl))), (by cases hb <;> cases rb <;> first | exact uY | exact uX | exact uF), (by cases hb <;> cases rb <;> first | exact uY | exact uX | exact uC (h := fun w hW hN => (hS.ext hW).shut 4 rfl 1 rfl)), (by cases hb <;> cases rb <;> first | exact uY | exact uX | exact uR (h := fun w hW hN => (hS.ext hW).box 3 rfl)), ?_, ?_, (by cases hb <;> cases rb <;> first | exact uY | exact uX | exact uU), (by cases hb <;> cases rb <;> first | exact uY | exact uX | exact uP), (by cases hb <;> cases rb <;> exact uP), uM, (by cases hb <;> cases rb <;> cases ho <;> first | exact uY | exact uX | exact uR (h := fun w hW hN => (hS.ext hW).box 4 rfl)), (by cases hb <;> cases rb <;> cases ho <;> first | exact uY | exact uX | exact uR (h := fun w hW hN => (hS.ext hW).box 0 rfl)), ?_, (by cases hb <;> cases rb <;> cases ho <;> first | exact uY | exact uX | exact uU), (by cases hb <;> cases rb <;> cases ho <;> exact uP), trivial⟩ ?_
    ·refine uT fun b__ w hW hE K hK => ?_
     have e40 := hE 40
     have e42 := hE 42
     exact Ai rfl (by kernel_rfl) (by simp only [List.map_cons, List.map_nil, e40, e42]) (CD _ N rt w _ (HU.out _ _ (k7.out _ _ (hS.ext hW).ro).1)) fun v w' h hb_ => hK v w' (h.trans (by rw [HHB.out])) hb_
    ·cases hb <;> cases rb <;> first | exact uY | exact uX | (refine uT fun b__ w hW hE K hK => ?_; have e55 : b__.eval (.tmp 55) = .pointer (some ⟨q, 0, none⟩) := hE 55; have e56 : b__.eval (.tmp 56) = .agg #[u] := hE 56; (exact Ai rfl (by kernel_rfl) (by simp only [List.map_cons, List.map_nil, e55, e56]) (Gl (show IsH _ _ _ L from (k7.out _ _ (hS.ext hW).ro).2.1) (HT.out _ _ (k7.out _ _ (hS.ext hW).ro).1) HH.out (HU.out _ _ (k7.out _ _ (hS.ext hW).ro).1)) fun v w' h hb => hK v w' (fun _ => h.imp fun _ _ _ => trivial) hb))
    ·cases hb <;> cases rb <;> first | exact uY | exact uX | (refine uT fun b__ w hW hE K hK => ?_; have e53 : b__.eval (.tmp 53) = .agg #[.slice Ay my cy, .slice Am mn cm] := hE 53; have e57 := hE 57; have e57 := e57 rfl; (exact Ai rfl (by kernel_rfl) (by simp only [List.map_cons, List.map_nil, e53]) (Gk (z := (ry, rn)) ⟨_, _, rfl, (k7.out _ _ (hS.ext hW).ro).2.2.1, (k7.out _ _ (hS.ext hW).ro).2.2.2.1⟩ e57) fun v w' h hb => hK v w' (h.trans (by rw [HHO.out]; rfl)) hb))
    ·cases hb <;> cases rb <;> cases ho <;> first | exact uY | exact uX | (refine uT fun b__ w hW hE K hK => ?_; have e63 : b__.eval (.tmp 63) = .agg #[.int .i64 R, .pointer (some ⟨q, 0, none⟩), .slice Cs ns cs, .slice (some ⟨b, o2, none⟩) rl.length cr, .slice An nl.length cn, .slice Ag gl.length cg] := hE 63; have e64 : b__.eval (.tmp 64) = .agg #[x9] := hE 64; (exact Ai rfl (by kernel_rfl) (by simp only [List.map_cons, List.map_nil, e63, e64]) (Il (HK.out _ _ (k7.out _ _ (hS.ext hW).ro).1) HP.out (HT.out _ _ (k7.out _ _ (hS.ext hW).ro).1) (k7.out _ _ (hS.ext hW).ro).2.2.2.2) fun v w' h hb => hK v w' (h.trans (by rw [HGD.out]; rfl)) hb))
    ·intro vs wz hW hT
     obtain ⟨e40, e41, e42, e43, e44, e45, e46, e47, -, -, -, -, -, -, -, -, -, -, -, -, -, e61, e62, -, -, -, -, e67, -⟩ := hT
     have bx : (fun _ : Nat => True) 0 := trivial
     simp only [At, Act.put, zz, ze]
     rw [e67]
     replace hS := hS.ext hW
     clear hW e67
     obtain ⟨E, hE⟩ : ∃ E : Bool, (((hb != rb) || (!rb && !ho)) || !gd) = E := ⟨_, rfl⟩
     rw [hE] at HVV ⊢
     clear hE HHB HHO HGD
     cases E
     ·go_wp2_with (first
       | ((with_reducible refine qK ?_); refine qL hS Tryz.underlying39 ?_)
       | ((with_reducible refine qm 39 ?_); refine Be hS 2 rfl _ _ _ rfl _ _ rfl rfl _ _ rfl (by kernel_rfl) (by kernel_rfl) (by simpa using hx9) ?_; clear hS; intro w_ hS; (try simp only [Act.put, Act.eval, zz, Value.cells] at hS)))
      refine Cq Tryz.results31 rfl (hS.box 2 rfl) Tryz.underlying39 rfl (by kernel_rfl) rfl rfl ?_
      rw [show V = some M from HVV.out]
      exact ⟨_, rfl, (hS.sub (List.sublist_append_right [_, _, _, _, _] F)).mono (KS.out.and Ab) fun D w h => ⟨(k7.out _ _ h).1, (k7.out _ _ h).2.2.2.2⟩⟩
     ·go_wp2_with (first
       | ((with_reducible refine qA 68 ?_); refine Av rfl _ _ rfl #[.slice none 0 0] (by kernel_rfl) ?_; (try simp only [Act.put, List.setIfInBounds_toArray, List.set_cons_zero, List.set_cons_succ]))
       | ((with_reducible refine qM ?_); (first | refine qS hS ?_ | refine qT hS ?_); clear hS; intro w_ hS; (try simp only [Act.put, Act.eval, zz, Value.cells] at hS)))
      refine Cq Tryz.results31 rfl (hS.box 2 rfl) Tryz.underlying39 rfl (by kernel_rfl) rfl rfl ?_
      rw [show V = none from HVV.out]
      exact ⟨_, rfl, (hS.sub (List.sublist_append_right [_, _, _, _, _] F)).mono (KS.out.and Ab) fun D w h => ⟨(k7.out _ _ h).1, Aa.empty⟩⟩
 ·rw [Hm (p := ⟨R, lk, st, rl, nl, gl⟩) hk]
  cases lk with
  | none =>
   obtain rfl : la = none := by have := (kc.out _ _ hS.ro).2.1; injection this
   go_enter Tryz.func31, Tryz.ntmps31
   go_wp2_with (first | ((with_reducible refine qA 3 ?_); refine Aw hS rfl _ _ rfl (.agg #[.int .i64 R, .pointer none, .slice Cs ns cs, .slice Ar rl.length cr, .slice An nl.length cn, .slice Ag gl.length cg]) _ rfl rfl ?_; clear hS; intro g3 w_ hS; (try simp only [Act.put, Act.eval, zz, Value.cells] at hS)) | ((with_reducible refine qA 4 ?_); refine Aw hS rfl _ _ rfl (.agg #[u]) _ rfl rfl ?_; clear hS; intro g4 w_ hS; (try simp only [Act.put, Act.eval, zz, Value.cells] at hS)) | ((with_reducible refine qA 6 ?_); refine qa hS #[.slice none 0 0] ?_; clear hS; intro g6 w_ hS) | ((with_reducible refine qA 12 ?_); refine BigFrame.wpList_want rfl fun _ hK => AB (v := .bool true) rfl rfl rfl rfl rfl (hK _ _ ?_)) | ((with_reducible refine qA 24 ?_); refine Av rfl _ _ rfl #[.slice none 0 0] (by kernel_rfl) ?_; (try simp only [Act.put, List.setIfInBounds_toArray, List.set_cons_zero, List.set_cons_succ])) | ((with_reducible refine qB ?_); refine qc ?_ ?_ <;> intro h_ <;> go_prune) | ((with_reducible refine qM ?_); (first | refine qS hS ?_ | refine qT hS ?_); clear hS; intro w_ hS; (try simp only [Act.put, Act.eval, zz, Value.cells] at hS)) | ((with_reducible refine qK ?_); refine qC hS ?_))
   refine Cq Tryz.results31 rfl (hS.box 0 rfl) Tryz.underlying39 rfl (by kernel_rfl) rfl rfl ?_; exact ⟨_, rfl, (hS.sub (List.sublist_append_right [_, _, _] F)).mono (KS.out.and Ab) fun D w h => ⟨(kc.out _ _ h).1, Aa.empty⟩⟩
  | some L =>
   obtain ⟨q, o, e, -⟩ := id (kc.out _ _ hS.ro).2.1
   injection e with e
   subst e
   have hk' : k < 0 \/ rl.length <= k := by
    rcases Int.lt_or_le k 0 with h | h
    ·exact .inl h
    ·exact .inr (by rcases Int.lt_or_le k rl.length with h2 | h2; exact absurd ⟨h, h2, rfl⟩ hk; exact h2)
   clear hk
   go_enter Tryz.func31, Tryz.ntmps31
   go_wp2_with (first | ((with_reducible refine qA 3 ?_); refine Aw hS rfl _ _ rfl (.agg #[.int .i64 R, .pointer (some ⟨q, 0, none⟩), .slice Cs ns cs, .slice Ar rl.length cr, .slice An nl.length cn, .slice Ag gl.length cg]) _ rfl rfl ?_; clear hS; intro g3 w_ hS; (try simp only [Act.put, Act.eval, zz, Value.cells] at hS)) | ((with_reducible refine qA 4 ?_); refine Aw hS rfl _ _ rfl (.agg #[u]) _ rfl rfl ?_; clear hS; intro g4 w_ hS; (try simp only [Act.put, Act.eval, zz, Value.cells] at hS)) | ((with_reducible refine qA 6 ?_); refine qa hS #[.slice none 0 0] ?_; clear hS; intro g6 w_ hS) | ((with_reducible refine qA 12 ?_); refine BigFrame.wpList_want rfl fun _ hK => AB (v := .bool false) rfl rfl rfl rfl rfl (hK _ _ ?_)) | ((with_reducible refine qA 24 ?_); refine Av rfl _ _ rfl #[.slice none 0 0] (by kernel_rfl) ?_; (try simp only [Act.put, List.setIfInBounds_toArray, List.set_cons_zero, List.set_cons_succ])) | ((with_reducible refine qB ?_); refine qc ?_ ?_ <;> intro h_ <;> go_prune) | ((with_reducible refine qM ?_); (first | refine qS hS ?_ | refine qT hS ?_); clear hS; intro w_ hS; (try simp only [Act.put, Act.eval, zz, Value.cells] at hS)) | ((with_reducible refine qK ?_); refine qC hS ?_))
   all_goals
    refine Cq Tryz.results31 rfl (hS.box 0 rfl) Tryz.underlying39 rfl (by kernel_rfl) rfl rfl ?_; exact ⟨_, rfl, (hS.sub (List.sublist_append_right [_, _, _] F)).mono (KS.out.and Ab) fun D w h => ⟨(kc.out _ _ h).1, Aa.empty⟩⟩
end
section
open Go.RowKit
attribute [local go_sem ↓] Go.wp_at_zero Go.wp_at_succ
set_option maxRecDepth 20000
set_option exponentiation.threshold 5000
set_option maxHeartbeats 4000000 in
theorem lawake31_any {w0 w : World} {F : List Ac} {K : (Nat -> Prop) -> World -> Prop} (hS : St w0 w F K) (kt : ∀ D w, K D w -> B7 w /\ D 0) : Calls Tryz.prog 12 #[] w fun e w' => e = .returned (.bool true) /\ St w0 w' F K := by
 have KS := Lib.hid hS.stable
 go_enter Tryz.func12, Tryz.ntmps12
 go_wp2_with (first
  | ((with_reducible refine qA 12 ?_); refine Av rfl _ _ rfl #[.int .i64 1, .int .i64 2] (by kernel_rfl) ?_; (try simp only [Act.put, List.setIfInBounds_toArray, List.set_cons_zero, List.set_cons_succ]))
  | ((with_reducible refine qA 13 ?_); refine EB hS rfl _ 107 1 _ rfl Tryz.underlying25 #[.int .i64 1, .int .i64 2] (by kernel_rfl) 2 rfl (by decide) ?_; clear hS; intro g13 w_ hS; (try simp only [Act.put, List.setIfInBounds_toArray, List.set_cons_zero, List.set_cons_succ]))
  | ((with_reducible refine qA 14 ?_); refine Av rfl _ _ rfl #[.bool false, .int .u64 0, .int .u64 0, .int .i64 1, .int .i64 0] (by kernel_rfl) ?_; (try simp only [Act.put, List.setIfInBounds_toArray, List.set_cons_zero, List.set_cons_succ]))
  | ((with_reducible refine qA 15 ?_); refine Av rfl _ _ rfl #[.int .u64 4, .int .u64 0] (by kernel_rfl) ?_; (try simp only [Act.put, List.setIfInBounds_toArray, List.set_cons_zero, List.set_cons_succ]))
  | ((with_reducible refine qA 16 ?_); refine Av rfl _ _ rfl #[.bool false, .int .u64 4, .int .u64 0, .int .i64 3, .int .i64 1] (by kernel_rfl) ?_; (try simp only [Act.put, List.setIfInBounds_toArray, List.set_cons_zero, List.set_cons_succ]))
  | ((with_reducible refine qA 17 ?_); refine EB hS rfl _ 109 2 _ rfl Tryz.underlying27 #[.bool false, .int .u64 0, .int .u64 0, .int .i64 1, .int .i64 0, .bool false, .int .u64 4, .int .u64 0, .int .i64 3, .int .i64 1] (by kernel_rfl) 5 rfl (by decide) ?_; clear hS; intro g17 w_ hS; (try simp only [Act.put, List.setIfInBounds_toArray, List.set_cons_zero, List.set_cons_succ]))
  | ((with_reducible refine qA 18 ?_); refine Av rfl _ _ rfl #[.int .u64 10, .int .u64 0] (by kernel_rfl) ?_; (try simp only [Act.put, List.setIfInBounds_toArray, List.set_cons_zero, List.set_cons_succ]))
  | ((with_reducible refine qA 19 ?_); refine EB hS rfl _ 50 1 _ rfl Tryz.underlying28 #[.int .u64 10, .int .u64 0] (by kernel_rfl) 2 rfl (by decide) ?_; clear hS; intro g19 w_ hS; (try simp only [Act.put, List.setIfInBounds_toArray, List.set_cons_zero, List.set_cons_succ]))
  | ((with_reducible refine qA 20 ?_); refine Av rfl _ _ rfl #[.int .i64 3, .slice (some ⟨g13, 0, none⟩) 1 1, .int .u64 0, .slice (some ⟨g17, 0, none⟩) 2 2, .slice (some ⟨g19, 0, none⟩) 1 1, .slice none 0 0] (by kernel_rfl) ?_; (try simp only [Act.put, List.setIfInBounds_toArray, List.set_cons_zero, List.set_cons_succ]))
  | ((with_reducible refine qA 1 ?_); refine qa hS #[.int .i64 0, .slice none 0 0, .int .u64 0, .slice none 0 0, .slice none 0 0, .slice none 0 0] ?_; clear hS; intro g1 w_ hS)
  | ((with_reducible refine qM ?_); (first | refine qS hS ?_ | refine qT hS ?_); clear hS; intro w_ hS; (try simp only [Act.put, Act.eval, zz, Value.cells] at hS))
  | ((with_reducible refine qA 22 ?_); replace hS := hS.freeze 1 (by decide) rfl; simp only [List.eraseIdx_cons_succ, List.eraseIdx_cons_zero] at hS; replace hS := hS.freeze 1 (by decide) rfl; simp only [List.eraseIdx_cons_succ, List.eraseIdx_cons_zero] at hS; replace hS := hS.freeze 1 (by decide) rfl; simp only [List.eraseIdx_cons_succ, List.eraseIdx_cons_zero] at hS; obtain ⟨K1, hK1, KS1, hS2⟩ := openK hS (A := fun D w => K D w /\ Bk w D (.agg #[.int .i64 3, .slice (some ⟨g13, 0, none⟩) 1 1, .int .u64 0, .slice (some ⟨g17, 0, none⟩) 2 2, .slice (some ⟨g19, 0, none⟩) 1 1, .slice none 0 0]) PE) fun D w h => ⟨h.1.1.1, _, _, _, _, [(1, 2)], rfl, rfl, h.2, h.1.2, h.1.1.2, Sl.none_⟩; clear hS; have hS := hS2; clear hS2; replace hK1 := Lib.hid hK1; refine BigFrame.wpList_want rfl fun _ hK => CN rfl rfl (hS.box 0 rfl) Tryz.underlying30 rfl (by kernel_rfl) (hK _ _ ?_))
  | (go_at_call 16; refine (FK rfl e12_hok (by decide) PE_fits hS (fun D w h => (hK1.out D w h).2) (fun D w h => kt D w (hK1.out D w h).1)).mono ?_; clear hS; rintro e w_ ⟨u, rfl, hS⟩; obtain ⟨la, As, ns, cs, Ar, cr, An, cn, Ag, cg, rfl⟩ := hS.ro.2.shape6; obtain ⟨K2, hK2, KS2, hS2⟩ := openK hS (A := fun D w => K D w /\ Bw w D (.agg #[.int .i64 PE.roles, .pointer la, .slice As ns cs, .slice Ar PE.rules.length cr, .slice An PE.never.length cn, .slice Ag PE.goal.length cg]) PE) fun D w h => ⟨(hK1.out D w h.1).1, h.2⟩; clear hS; have hS := hS2; clear hS2; replace hK2 := Lib.hid hK2)
  | ((with_reducible refine qA 2 ?_); refine qa hS #[.int .i64 0, .pointer none, .slice none 0 0, .slice none 0 0, .slice none 0 0, .slice none 0 0] ?_; clear hS; intro g2 w_ hS)
  | ((with_reducible refine qk 43 ?_); refine BigFrame.wpList_want rfl fun _ hK => ?_; first | refine CN rfl rfl (hS.box 0 rfl) Tryz.underlying43 rfl (by kernel_rfl) (hK _ _ ?_) | refine CN rfl rfl (hS.box 1 rfl) Tryz.underlying43 rfl (by kernel_rfl) (hK _ _ ?_))
  | (go_at_call 17; refine (schk_any (hK2.out _ _ hS.ro).2 PE_ok (kt _ _ (hK2.out _ _ hS.ro).1).1).mono ?_; rw [PE_check]; rintro r_ w_ ⟨_, rfl, rfl, hb_⟩; replace hS := hS.ext hb_; clear hb_)
  | ((with_reducible refine qB ?_); refine qc ?_ ?_ <;> intro h_ <;> go_prune)
  | ((with_reducible refine qk 39 ?_); first | (refine Ao hS 0 rfl _ _ rfl _ _ rfl _ _ rfl _ (by first | rfl | assumption) Tryz.underlying39 rfl (by kernel_rfl) ?_) | (refine Ao hS 1 rfl _ _ rfl _ _ rfl _ _ rfl _ (by first | rfl | assumption) Tryz.underlying39 rfl (by kernel_rfl) ?_) | (refine Ao hS 2 rfl _ _ rfl _ _ rfl _ _ rfl _ (by first | rfl | assumption) Tryz.underlying39 rfl (by kernel_rfl) ?_) | (refine Ao hS 3 rfl _ _ rfl _ _ rfl _ _ rfl _ (by first | rfl | assumption) Tryz.underlying39 rfl (by kernel_rfl) ?_) | (refine Ao hS 4 rfl _ _ rfl _ _ rfl _ _ rfl _ (by first | rfl | assumption) Tryz.underlying39 rfl (by kernel_rfl) ?_) | (refine Ao hS 5 rfl _ _ rfl _ _ rfl _ _ rfl _ (by first | rfl | assumption) Tryz.underlying39 rfl (by kernel_rfl) ?_))
  | ((with_reducible show Calls _ _ #[_, .agg #[.slice As ns cs], _] _ _); go_at_call 31; refine (ED 0 PE_ok hS (fun D w h => (hK2.out D w h).2) (N := 0) (fun D w h => by obtain ⟨_, _, _, _, _, he, _, h2, _⟩ := (hK2.out D w h).2; injection he with he; injection he with he; injection he with _ he; injection he with _ he; injection he with e3 _; rw [e3]; exact h2) (fun D w h => (kt D w (hK2.out D w h).1).1)).mono ?_; rw [PE_step0]; clear hS; rintro e w_ ⟨sv, rfl, hS⟩; obtain ⟨A4, c4, l4, rfl, -⟩ := hS.ro.2.parts; obtain ⟨n4, hn4⟩ : ∃ n, n = l4.length := ⟨_, rfl⟩; rw [<- hn4] at hS ⊢; clear hn4; obtain ⟨K3, hK3, KS3, hS2⟩ := openK hS (A := fun D w => (K D w /\ Bw w D (.agg #[.int .i64 PE.roles, .pointer la, .slice As ns cs, .slice Ar PE.rules.length cr, .slice An PE.never.length cn, .slice Ag PE.goal.length cg]) PE) /\ Aa w D (.agg #[.slice A4 n4 c4]) 2) fun D w h => ⟨hK2.out D w h.1, h.2⟩; clear hS; have hS := hS2; clear hS2; replace hK3 := Lib.hid hK3; (try simp only [Act.put, List.setIfInBounds_toArray, List.set_cons_zero, List.set_cons_succ]))
  | ((with_reducible show Calls _ _ #[_, .agg #[.slice A4 n4 c4], _] _ _); go_at_call 31; refine (ED 1 PE_ok hS (fun D w h => (hK3.out D w h).1.2) (N := 2) (fun D w h => (hK3.out D w h).2) (fun D w h => (kt D w (hK3.out D w h).1.1).1)).mono ?_; rw [PE_step1]; clear hS; rintro e w_ ⟨sv, rfl, hS⟩; obtain ⟨A5, c5, l5, rfl, -⟩ := hS.ro.2.parts; obtain ⟨n5, hn5⟩ : ∃ n, n = l5.length := ⟨_, rfl⟩; rw [<- hn5] at hS ⊢; clear hn5; (try simp only [Act.put, List.setIfInBounds_toArray, List.set_cons_zero, List.set_cons_succ]))
  | ((with_reducible refine qA 4 ?_); refine qa hS #[.slice none 0 0] ?_; clear hS; intro g4 w_ hS)
  | ((with_reducible refine qA 6 ?_); refine qa hS #[.slice none 0 0] ?_; clear hS; intro g6 w_ hS))
 obtain ⟨K4, hK4, KS4, hS2⟩ := openK hS (A := fun D w => (K D w /\ Bw w D (.agg #[.int .i64 PE.roles, .pointer la, .slice As ns cs, .slice Ar PE.rules.length cr, .slice An PE.never.length cn, .slice Ag PE.goal.length cg]) PE) /\ Aa w D (.agg #[.slice A4 n4 c4]) 2) fun D w h => hK3.out D w h.1
 clear hS
 have hS := hS2
 clear hS2
 replace hK4 := Lib.hid hK4
 have HTT := Lib.hid (fun D w h => (kt D w (hK4.out D w h).1.1).1)
 have HHH := Lib.hid e12_hok
 refine BQ [.i (.agg #[.int .i64 PE.roles, .pointer la, .slice As ns cs, .slice Ar PE.rules.length cr, .slice An PE.never.length cn, .slice Ag PE.goal.length cg]), .i (.agg #[.int .u64 4, .int .u64 0]), .s (fun v w => AA w (fun _ => True) v (4, 0)) fun v w w' h hb => h.ext hb, .s (fun v w => ∃ s, v = .tuple #[s, .int .i64 0] /\ Aj w (fun z => w_.heap.size <= z) s [(2, 0), (4, 0)]) fun v w w' h hb => ⟨_, h.choose_spec.1, h.choose_spec.2.ext hb⟩, .s (fun v w => ∃ s, v = .tuple #[s, .int .i64 0] /\ Aj w (fun z => w_.heap.size <= z) s [(2, 0), (4, 0)]) fun v w w' h hb => ⟨_, h.choose_spec.1, h.choose_spec.2.ext hb⟩, .s (fun v w => Aj w (fun z => w_.heap.size <= z) v [(2, 0), (4, 0)]) fun v w w' h hb => h.ext hb, .n 0, .s (fun v w => Aj w (fun z => w_.heap.size <= z) v [(2, 0), (4, 0)]) fun v w w' h hb => h.ext hb, .n 0] ⟨uR (h := fun w hW hN => (hS.ext hW).box 2 rfl), ?_, ?_, ?_, ?_, ?_, ?_, ?_, uA, trivial⟩ ?_
 ·refine uT fun b__ w hW hE K hK => ?_
  exact Bo rfl (ps := [(0, .int .u64 4)]) (by simp [Act.eval]) (cells := #[.int .u64 4, .int .u64 0]) (by kernel_rfl) (hK _ _ rfl (Below.refl _ _))
 ·refine uT fun b__ w hW hE K hK => ?_
  have e48 := hE 48
  refine Ai rfl (by kernel_rfl) (by simp only [List.map_cons, List.map_nil, e48]; rfl) (EL 4 0 (by decide) (by decide) w) fun v w' h hb => ?_
  exact hK v w' (h.imp fun _ _ _ => trivial) hb
 ·refine uT fun b__ w hW hE K hK => ?_
  have e47 := hE 47
  have e49 := hE 49
  refine Ai rfl (by kernel_rfl) (by simp only [List.map_cons, List.map_nil, e47]) (FN (r := 3) (hK4.out _ _ (hS.ext hW).ro).1.2 rfl rfl (by omega) HHH.out (HTT.out _ _ (hS.ext hW).ro) e49) fun v w' h hb => ?_
  obtain ⟨s, rs, e, rfl, h2, h3⟩ := h
  obtain ⟨rfl, rfl⟩ := expQ_uniq h3 expA
  exact hK _ w' ⟨s, rfl, h2.imp fun z hz _ => Nat.le_trans hW.size hz⟩ hb
 ·refine uT fun b__ w hW hE K hK => ?_
  have e50 := hE 50
  obtain ⟨s, h1, h2⟩ := e50
  exact FE rfl h1 (hK _ _ ⟨s, rfl, h2⟩ (Below.refl _ _))
 ·refine uT fun b__ w hW hE K hK => ?_
  have e46 := hE 46
  obtain ⟨s, h1, h2⟩ := e46
  exact Cx rfl h1 rfl (hK _ _ h2 (Below.refl _ _))
 ·refine uT fun b__ w hW hE K hK => ?_
  have e46 := hE 46
  obtain ⟨s, h1, h2⟩ := e46
  exact Cx rfl h1 rfl (hK _ _ rfl (Below.refl _ _))
 ·refine uT fun b__ w hW hE K hK => ?_
  have e51 := hE 51
  exact Cc rfl rfl (hK _ _ e51 (Below.refl _ _))
 ·intro vs wz hW hT
  obtain ⟨e47, e48, e49, e50, e46, e51, e52, e8, e9, -⟩ := hT
  have bx : (fun _ : Nat => True) 0 := trivial
  simp only [At, Act.put, zz, ze]
  replace hS := hS.ret hW AL e8
  obtain ⟨A8, c8, h8, _, _⟩ := e8.shape
  rw [h8] at hS ⊢
  rw [e9]
  clear e8 e9 h8 hW e46 e47 e48 e49 e50 e51 e52
  go_wp2_with fail
  refine BQ [.i (.agg #[.int .i64 PE.roles, .pointer la, .slice As ns cs, .slice Ar PE.rules.length cr, .slice An PE.never.length cn, .slice Ag PE.goal.length cg]), .i (.agg #[.int .u64 4, .int .u64 2]), .s (fun v w => AA w (fun _ => True) v (4, 2)) fun v w w' h hb => h.ext hb, .s (fun v w => ∃ s, v = .tuple #[s, .int .i64 0] /\ Aj w (fun z => wz.heap.size <= z) s [(4, 2)]) fun v w w' h hb => ⟨_, h.choose_spec.1, h.choose_spec.2.ext hb⟩, .s (fun v w => ∃ s, v = .tuple #[s, .int .i64 0] /\ Aj w (fun z => wz.heap.size <= z) s [(4, 2)]) fun v w w' h hb => ⟨_, h.choose_spec.1, h.choose_spec.2.ext hb⟩, .s (fun v w => Aj w (fun z => wz.heap.size <= z) v [(4, 2)]) fun v w w' h hb => h.ext hb, .n 0, .s (fun v w => Aj w (fun z => wz.heap.size <= z) v [(4, 2)]) fun v w w' h hb => h.ext hb, .n 0] ⟨uR (h := fun w hW hN => (hS.ext hW).box 2 rfl), ?_, ?_, ?_, ?_, ?_, ?_, ?_, uA, trivial⟩ ?_
  ·refine uT fun b__ w hW hE K hK => ?_
   exact Bo rfl (ps := [(0, .int .u64 4), (1, .int .u64 2)]) (by simp [Act.eval]) (cells := #[.int .u64 4, .int .u64 2]) (by kernel_rfl) (hK _ _ rfl (Below.refl _ _))
  ·refine uT fun b__ w hW hE K hK => ?_
   have e55 := hE 55
   refine Ai rfl (by kernel_rfl) (by simp only [List.map_cons, List.map_nil, e55]; rfl) (EL 4 2 (by decide) (by decide) w) fun v w' h hb => ?_
   exact hK v w' (h.imp fun _ _ _ => trivial) hb
  ·refine uT fun b__ w hW hE K hK => ?_
   have e54 := hE 54
   have e56 := hE 56
   refine Ai rfl (by kernel_rfl) (by simp only [List.map_cons, List.map_nil, e54]) (FN (r := 3) (hK4.out _ _ (hS.ext hW).ro.1).1.2 rfl rfl (by omega) HHH.out (HTT.out _ _ (hS.ext hW).ro.1) e56) fun v w' h hb => ?_
   obtain ⟨s, rs, e, rfl, h2, h3⟩ := h
   obtain ⟨rfl, rfl⟩ := expQ_uniq h3 expB
   exact hK _ w' ⟨s, rfl, h2.imp fun z hz _ => Nat.le_trans hW.size hz⟩ hb
  ·refine uT fun b__ w hW hE K hK => ?_
   have e57 := hE 57
   obtain ⟨s, h1, h2⟩ := e57
   exact FE rfl h1 (hK _ _ ⟨s, rfl, h2⟩ (Below.refl _ _))
  ·refine uT fun b__ w hW hE K hK => ?_
   have e53 := hE 53
   obtain ⟨s, h1, h2⟩ := e53
   exact Cx rfl h1 rfl (hK _ _ h2 (Below.refl _ _))
  ·refine uT fun b__ w hW hE K hK => ?_
   have e53 := hE 53
   obtain ⟨s, h1, h2⟩ := e53
   exact Cx rfl h1 rfl (hK _ _ rfl (Below.refl _ _))
  ·refine uT fun b__ w hW hE K hK => ?_
   have e58 := hE 58
   exact Cc rfl rfl (hK _ _ e58 (Below.refl _ _))
  ·intro vs wz hW hT
   obtain ⟨e54, e55, e56, e57, e53, e58, e59, e10, e11, -⟩ := hT
   have bx : (fun _ : Nat => True) 0 := trivial
   simp only [At, Act.put, zz, ze]
   replace hS := hS.ret hW AL e10
   obtain ⟨A10, c10, h10, _, _⟩ := e10.shape
   rw [h10] at hS ⊢
   rw [e11]
   clear e10 e11 h10 hW e53 e54 e55 e56 e57 e58 e59
   obtain ⟨K6, hK6, KS6, hS2⟩ := openK hS (A := fun D w => K4 D w /\ Aj w D (.slice A8 2 c8) [(2, 0), (4, 0)] /\ Aj w D (.slice A10 1 c10) [(4, 2)]) fun D w h => ⟨h.1.1, h.1.2, h.2⟩
   clear hS
   have hS := hS2
   clear hS2
   replace hK6 := Lib.hid hK6
   go_wp2_with fail
   refine BQ [.b true, .b true, .i (.agg #[.slice A4 n4 c4]), .s (fun v w => Sl w (fun _ => True) 1 v ([1] : List Int).length (AM [1])) fun v w w' h hb => h.ext hb, .s (fun v w => Aa w (fun _ => True) v 2) fun v w w' h hb => h.ext hb, .b true, .b true, .b true, .b false, .b true, .b true, .b true, .n 0, .b true, .b true, .b true, .i (.slice A8 2 c8), .i (.agg #[.int .u64 2, .int .u64 0]), .i (.agg #[.int .u64 4, .int .u64 0]), .s (fun v w => Bv w (fun _ => True) v [(2, 0), (4, 0)]) fun v w w' h hb => h.ext hb, .b true, .b true, .b true, .n 0, .b true, .b true, .b true, .i (.slice A10 1 c10), .i (.agg #[.int .u64 4, .int .u64 2]), .s (fun v w => Bv w (fun _ => True) v [(4, 2)]) fun v w w' h hb => h.ext hb, .b true, .b true, .b true] ⟨uM, uM, uR (h := fun w hW hN => (hS.ext hW).box 1 rfl), ?_, ?_, ?_, uP, uM, uM, uU, uP, uM, uM, uB (h := fun w hW hN => EF rfl), uP, uM, uM, ?_, ?_, ?_, ?_, uP, uM, uM, uB (h := fun w hW hN => EF rfl), uP, uM, uM, ?_, ?_, ?_, uP, uA, trivial⟩ ?_
   ·refine uT fun b__ w hW hE K hK => ?_
    refine C0 rfl Tryz.underlying74 (ps := [(0, .int .i64 1)]) (by simp [Act.eval]) (cells := #[.int .i64 1]) (by kernel_rfl) fun w' hX hb => hK _ _ ((Sl.of_box (n := 1) (size := 1) hX rfl (by omega)).imp fun _ _ _ => trivial) hb
   ·refine uT fun b__ w hW hE K hK => ?_
    have e63 := hE 63
    exact Ai rfl (by kernel_rfl) (by simp only [List.map_cons, List.map_nil]) (of_any _ [1] _ _ e63) fun v w' h hb => hK v w' (by rw [show ofN [1] = 2 from by decide] at h; exact h.imp fun _ _ _ => trivial) hb
   ·refine uT fun b__ w hW hE K hK => ?_
    have e62 := hE 62
    have e64 := hE 64
    exact Ai rfl (by kernel_rfl) (by simp only [List.map_cons, List.map_nil, e62]) (EM _ _ 2 2 _ _ _ (hK4.out _ _ (hK6.out _ _ (hS.ext hW).ro).1).2 e64) fun v w' h hb => hK v w' h hb
   ·refine uT fun b__ w hW hE K hK => ?_
    exact Bo rfl (ps := [(0, .int .u64 2)]) (by simp [Act.eval]) (cells := #[.int .u64 2, .int .u64 0]) (by kernel_rfl) (hK _ _ rfl (Below.refl _ _))
   ·refine uT fun b__ w hW hE K hK => ?_
    exact Bo rfl (ps := [(0, .int .u64 4)]) (by simp [Act.eval]) (cells := #[.int .u64 4, .int .u64 0]) (by kernel_rfl) (hK _ _ rfl (Below.refl _ _))
   ·refine uT fun b__ w hW hE K hK => ?_
    have e77 := hE 77
    have e78 := hE 78
    refine C0 rfl Tryz.underlying28 (ps := [(0, .agg #[.int .u64 2, .int .u64 0]), (1, .agg #[.int .u64 4, .int .u64 0])]) (by simp [e77, e78]) (cells := #[.int .u64 2, .int .u64 0, .int .u64 4, .int .u64 0]) (by kernel_rfl) fun w' hX hb => hK _ _ ((Sl.of_box (n := 2) (size := 2) hX rfl (by omega)).imp fun _ _ _ => trivial) hb
   ·refine uT fun b__ w hW hE K hK => ?_
    have e76 := hE 76
    have e79 := hE 79
    exact Ai rfl (by kernel_rfl) (by simp only [List.map_cons, List.map_nil, e76]) (lsame_any _ _ [(2, 0), (4, 0)] [(2, 0), (4, 0)] _ _ _ (hK6.out _ _ (hS.ext hW).ro).2.1 e79 (by unfold Small AK; simp) (by unfold Small AK; simp) (HTT.out _ _ (hK6.out _ _ (hS.ext hW).ro).1)) fun v w' h hb => hK v w' h hb
   ·refine uT fun b__ w hW hE K hK => ?_
    exact Bo rfl (ps := [(0, .int .u64 4), (1, .int .u64 2)]) (by simp [Act.eval]) (cells := #[.int .u64 4, .int .u64 2]) (by kernel_rfl) (hK _ _ rfl (Below.refl _ _))
   ·refine uT fun b__ w hW hE K hK => ?_
    have e88 := hE 88
    refine C0 rfl Tryz.underlying28 (ps := [(0, .agg #[.int .u64 4, .int .u64 2])]) (by simp [e88]) (cells := #[.int .u64 4, .int .u64 2]) (by kernel_rfl) fun w' hX hb => hK _ _ ((Sl.of_box (n := 1) (size := 2) hX rfl (by omega)).imp fun _ _ _ => trivial) hb
   ·refine uT fun b__ w hW hE K hK => ?_
    have e87 := hE 87
    have e89 := hE 89
    exact Ai rfl (by kernel_rfl) (by simp only [List.map_cons, List.map_nil, e87]) (lsame_any _ _ [(4, 2)] [(4, 2)] _ _ _ (hK6.out _ _ (hS.ext hW).ro).2.2 e89 (by unfold Small AK; simp) (by unfold Small AK; simp) (HTT.out _ _ (hK6.out _ _ (hS.ext hW).ro).1)) fun v w' h hb => hK v w' h hb
   ·intro vs wz hW hT
    obtain ⟨e60, e61, e62, e63, e64, e65, e66, e67, e68, e69, e70, e71, e72, e73, e74, e75, e76, e77, e78, e79, e80, e81, e82, e83, e84, e85, e86, e87, e88, e89, e90, e91, e0, -⟩ := hT
    have bx : (fun _ : Nat => True) 0 := trivial
    simp only [At, Act.put, zz, ze]
    rw [e0]
    replace hS := hS.ext hW
    clear hW
    go_wp2_with fail
    go_ret
    exact ⟨rfl, (hS.sub (List.sublist_append_right [_, _, _, _] F)).mono KS.out fun D w h => (hK4.out _ _ (hK6.out _ _ h).1).1.1⟩
end
section
open Go.RowKit
attribute [local go_sem ↓] Go.wp_at_zero Go.wp_at_succ
set_option maxRecDepth 20000
set_option exponentiation.threshold 5000
theorem Ei {w0 : World} {D : Nat -> Prop} {v : Value} {R : Nat} {L : List (Nat × Nat)} {st : Nat} {rl : List B9} {nl gl : List (Nat × Nat)} (h : Bk w0 D v ⟨R, some L, st, rl, nl, gl⟩) :
  ∃ Al cl Ar cr An cn Ag cg, v = .agg #[.int .i64 (R : Nat), .slice Al L.length cl, .int .u64 (st : Nat), .slice Ar rl.length cr, .slice An nl.length cn, .slice Ag gl.length cg] := by
 obtain ⟨lv, rv, nv, gv, L', rfl, hl', h1, h2, h3, h4⟩ := h
 injection hl' with e; subst e
 obtain ⟨Al, cl, rfl, _, _⟩ := h1.shape
 obtain ⟨Ar, cr, rfl, _, _⟩ := h2.shape
 obtain ⟨An, cn, rfl, _, _⟩ := Sl.shape (h3 : Sl _ _ _ _ _ _)
 obtain ⟨Ag, cg, rfl, _, _⟩ := Sl.shape (h4 : Sl _ _ _ _ _ _)
 exact ⟨_, _, _, _, _, _, _, _, rfl⟩
theorem Fv {w0 : World} {D : Nat -> Prop} {lv sv rv nv gv : Value} {R : Nat} {L : List (Nat × Nat)} {st : Nat} {rl : List B9} {nl gl : List (Nat × Nat)} (h : Bk w0 D (.agg #[.int .i64 (R : Nat), lv, sv, rv, nv, gv]) ⟨R, some L, st, rl, nl, gl⟩) :
  Sl w0 D 2 lv L.length (Ad L) /\ Sl w0 D 5 rv rl.length (AQ rl) /\ Sl w0 D 2 nv nl.length (B3 nl) /\ Sl w0 D 2 gv gl.length (B3 gl) := by
 obtain ⟨lv, rv, nv, gv, L', e, hl', h1, h2, h3, h4⟩ := h
 injection hl' with e2; subst e2
 injection e with e; injection e with e; injection e with _ e; injection e with a e; injection e with _ e; injection e with b e; injection e with c e; injection e with d _
 subst a b c d
 exact ⟨h1, h2, h3, h4⟩
end
section
open Go.RowKit
attribute [local go_sem ↓] Go.wp_at_zero Go.wp_at_succ
set_option maxRecDepth 20000
set_option exponentiation.threshold 5000
theorem Ij {N t : Nat} : BI N (t : Int) = N.testBit t := by simp [BI]
end
section
open Go.RowKit
attribute [local go_sem ↓] Go.wp_at_zero Go.wp_at_succ
set_option maxRecDepth 20000
set_option exponentiation.threshold 5000
theorem run_andnot64 {P : Program} {w : World} {t : TypeId} {x y : Nat} (hx : x < AK) (hy : y < AK) : (binOp .andNot t (.int .u64 (x : Nat)) (.int .u64 (y : Nat))).run P w = .ok (.int .u64 ((x &&& Cd y : Nat) : Int)) w := by
 go_simp; rw [IA hx hy]
end
section
open Go.RowKit
attribute [local go_sem ↓] Go.wp_at_zero Go.wp_at_succ
set_option maxRecDepth 20000
set_option exponentiation.threshold 5000
theorem rgood31_any {w0 : World} {D : Nat -> Prop} {v : Value} {p : AP} {L : List (Nat × Nat)} {R s : Nat} (hp : Bk w0 D v p) (hM : E8 p L R) :
  Calls Tryz.prog 28 #[v, .int .u64 (s : Nat)] w0 (Az (fun x _ => x = .bool (goodB p s)) w0) := by
 obtain ⟨R', lk, st, rl, nl, gl⟩ := p
 obtain rfl : lk = some L := hM.links
 obtain rfl : R' = (R : Int) := hM.roles
 obtain ⟨Al, cl, Ar, cr, An, cn, Ag, cg, rfl⟩ := Ei hp
 obtain ⟨K, kp, hS⟩ : ∃ K : (Nat -> Prop) -> World -> Prop, (∀ D w, K D w -> Bk w D (.agg #[.int .i64 (R : Nat), .slice Al L.length cl, .int .u64 (st : Nat), .slice Ar rl.length cr, .slice An nl.length cn, .slice Ag gl.length cg]) ⟨(R : Int), some L, st, rl, nl, gl⟩) /\ St w0 w0 [] K := ⟨_, fun _ _ h => h, St.start Cg hp⟩
 have kl : ∀ D w, K D w -> Sl w D 2 (.slice Al L.length cl) L.length (Ad L) := fun D w h => (Fv (kp D w h)).1
 have HM := Lib.hid hM
 have HL := Lib.hid (show E9 64 L from hM.hok.inr)
 have hlen := hM.len
 clear hp hM
 have kn : ∀ D w, K D w -> Bv w D (.slice An nl.length cn) nl := fun D w h => (Fv (kp D w h)).2.2.1
 obtain ⟨b, hb⟩ : ∃ b, nl.any (fun z => AZ z (closM L s)) = b := ⟨_, rfl⟩
 have HG : Hid (goodB ⟨(R : Int), some L, st, rl, nl, gl⟩ s = !b) := Lib.hid (by rw [<- hb]; rfl)
 have HB := Lib.hid hb
 clear hb
 go_enter Tryz.func28, Tryz.ntmps28
 go_wp2_with (first | ((with_reducible refine qA 2 ?_); refine Aw hS rfl _ _ rfl (.agg #[.int .i64 (R : Nat), .slice Al L.length cl, .int .u64 (st : Nat), .slice Ar rl.length cr, .slice An nl.length cn, .slice Ag gl.length cg]) _ rfl rfl ?_; clear hS; intro g2 w_ hS; (try simp only [Act.put, Act.eval, zz, Value.cells] at hS)))
 refine BQ [.q g2 4, .i (.slice An nl.length cn), .q g2 1, .i (.slice Al L.length cl), .i (.int .u64 (s : Nat)), .i (.int .u64 (closM L s : Nat)), .i (.bool b), .i (.bool (!b)), .i (.bool (!b))] ⟨uF, uC (h := fun w hW hN => (hS.ext hW).shut 0 rfl 4 rfl), uF, uC (h := fun w hW hN => (hS.ext hW).shut 0 rfl 1 rfl), uM, ?_, ?_, uU, uA, trivial⟩ ?_
 ·refine uT fun b__ w hW hE K hK => ?_
  have e8 := hE 8
  have e9 := hE 9
  exact Ai rfl (by kernel_rfl) (by simp only [List.map_cons, List.map_nil, e8, e9]) (Ge (kl _ _ (hS.ext hW).ro) HL.out (by omega) s) fun v w' h hb => hK v w' h hb
 ·refine uT fun b__ w hW hE K hK => ?_
  have e6 := hE 6
  have e10 := hE 10
  exact Ai rfl (by kernel_rfl) (by simp only [List.map_cons, List.map_nil, e6, e10]) (rsome_any (kn _ _ (hS.ext hW).ro) HM.out.fits.never (Gn L s)) fun v w' h hb => hK v w' (h.trans (by rw [HB.out])) hb
 ·intro vs wz hW hT
  obtain ⟨e5, e6, e7, e8, e9, e10, e11, e12, e4, -⟩ := hT
  simp only [At, Act.put, zz, ze]
  rw [e4]
  go_wp2_with fail
  go_ret
  exact Az.mk (by rw [HG.out]; rfl) (BF hS.below hW)
theorem tb_not64 {b i : Nat} (hb : b < AK) : (Cd b).testBit i = (decide (i < 64) && !b.testBit i) := by
 by_cases hi : i < 64
 ·rw [CL hb i hi]; simp [hi]
 ·rw [Ee (not64_lt b) (Nat.not_lt.1 hi)]; simp [hi]
theorem andnot_del {N t : Nat} (hN : N < AK) (ht : t < 64) : N &&& Cd (2 ^ t) = del N (t : Int) := AY fun i => by
 unfold del
 rw [Ij, Nat.testBit_and, tb_not64 (by rw [C4]; exact Nat.pow_lt_pow_right (by decide) ht), Int.toNat_natCast]
 by_cases hi : i < 64
 ·by_cases e : t = i
  ·subst e
   cases h : N.testBit t
   ·simp [h]
   ·simp [h, Nat.testBit_xor, Nat.testBit_two_pow_self]
  ·have h1 : (2 ^ t).testBit i = false := by rw [Nat.testBit_two_pow]; simp [e]
   simp only [h1, hi, decide_true, Bool.not_false, Bool.and_true]
   split
   ·rw [Nat.testBit_xor, h1, Bool.xor_false]
   ·rfl
 ·have h0 : N.testBit i = false := Ee hN (Nat.not_lt.1 hi)
  have h1 : (2 ^ t).testBit i = false := by rw [Nat.testBit_two_pow]; simp; omega
  simp only [h0, Bool.false_and]
  split
  ·rw [Nat.testBit_xor, h0, h1]; simp
  ·simp [h0]
theorem or_with {N t : Nat} (ht : t < 64) : N ||| 2 ^ t = Bu N (t : Int) := by
 unfold Bu
 rw [if_pos ⟨by omega, by omega⟩, Int.toNat_natCast]
theorem run_shlU {P : Program} {w : World} {t : TypeId} {r : Nat} (hr : r < 64) : (binOp .shl t (.int .u64 1) (.int .u64 (r : Nat))).run P w = .ok (.int .u64 ((2 ^ r : Nat) : Int)) w := by
 go_simp
 rw [shl64 r hr]
 simp
theorem run_convU {P : Program} {w : World} {n : Nat} (hn : n < AK) : (convert 3 58 (.int .i64 (n : Nat))).run Tryz.prog w = .ok (.int .u64 (n : Nat)) w := by
 go_simp
 exact wrap_u64_nat hn
theorem next_eq {N t : Nat} {rv : Bool} (hN : N < AK) (ht : t < 64) : ((if rv = true then del N (t : Int) else Bu N (t : Int)) == N) = (BI N (t : Int) != rv) := by
 have hp : (2 ^ t).testBit t = true := Nat.testBit_two_pow_self
 cases rv
 ·rw [if_neg (by simp), <- or_with ht, Ij]
  cases h : N.testBit t
  ·have : N ||| 2 ^ t ≠ N := fun e => by
    have : (N ||| 2 ^ t).testBit t = true := by rw [Nat.testBit_or, hp, Bool.or_true]
    rw [e, h] at this; cases this
   simpa using this
  ·have : N ||| 2 ^ t = N := AY fun i => by
    rw [Nat.testBit_or, Nat.testBit_two_pow]
    by_cases e : t = i
    ·subst e; simp [h]
    ·simp [e]
   simp [this]
 ·rw [if_pos rfl]
  unfold del
  rw [Ij, Int.toNat_natCast]
  cases h : N.testBit t
  ·simp
  ·have : N ^^^ 2 ^ t ≠ N := fun e => by
    have : (N ^^^ 2 ^ t).testBit t = false := by rw [Nat.testBit_xor, h, hp]; rfl
    rw [e, h] at this; cases this
   simpa using this
set_option maxHeartbeats 4000000 in
theorem Gx {w0 : World} {D : Nat -> Prop} {v : Value} {p : AP} {L : List (Nat × Nat)} {R N : Nat} (k : Int) (hp : Bk w0 D v p) (hM : E8 p L R) (hN : N < AK) :
  Calls Tryz.prog 32 #[v, .int .u64 (N : Nat), .int .i64 k] w0 (Az (fun x _ => x = .tuple #[.int .u64 ((stepM p N k).getD 0 : Nat), .bool (stepM p N k).isSome]) w0) := by
 obtain ⟨R', lk, st, rl, nl, gl⟩ := p
 obtain rfl : lk = some L := hM.links
 obtain rfl : R' = (R : Int) := hM.roles
 obtain ⟨Al, cl, Ar, cr, An, cn, Ag, cg, rfl⟩ := Ei hp
 obtain ⟨K, kp, hS⟩ : ∃ K : (Nat -> Prop) -> World -> Prop, (∀ D w, K D w -> Bk w D (.agg #[.int .i64 (R : Nat), .slice Al L.length cl, .int .u64 (st : Nat), .slice Ar rl.length cr, .slice An nl.length cn, .slice Ag gl.length cg]) ⟨(R : Int), some L, st, rl, nl, gl⟩) /\ St w0 w0 [] K := ⟨_, fun _ _ h => h, St.start Cg hp⟩
 have kl : ∀ D w, K D w -> Sl w D 2 (.slice Al L.length cl) L.length (Ad L) := fun D w h => (Fv (kp D w h)).1
 have HM := Lib.hid hM
 have HL := Lib.hid (show E9 64 L from hM.hok.inr)
 have hlen := hM.len
 clear hp hM
 have kr : ∀ D w, K D w -> Sl w D 5 (.slice Ar rl.length cr) rl.length (AQ rl) := fun D w h => (Fv (kp D w h)).2.1
 have hr6 : rl.length <= 6 := HM.out.rlen
 by_cases hk : 0 <= k /\ k < rl.length
 ·obtain ⟨j, rfl⟩ : ∃ j : Nat, k = (j : Int) := ⟨k.toNat, by omega⟩
  have hlj : j < rl.length := by omega
  clear hk
  obtain ⟨b, o2, rfl, -⟩ := rr_at (kr _ _ hS.ro) hlj
  rw [Fk (p := ⟨(R : Int), some L, st, rl, nl, gl⟩) (N := N) rfl hlj]
  dsimp only
  have HG := Lib.hid (Co B5 hlj)
  have hz := HM.out.rules _ (List.mem_of_getElem? HG.out)
  clear HG
  obtain ⟨z, hz2⟩ : ∃ z, rl.getD j B5 = z := ⟨_, rfl⟩
  rw [hz2] at hz ⊢
  have HZ := Lib.hid hz2
  clear hz2
  obtain ⟨zr, y, n, rt, ro⟩ := z
  obtain ⟨t, rfl, ht⟩ : ∃ t : Nat, rt = (t : Int) /\ t < 64 := ⟨rt.toNat, by have h := hz.1; have h5 := HM.out.r5; dsimp only at h h5; omega, by have h := hz.1; have h5 := HM.out.r5; dsimp only at h h5; omega⟩
  have hy64 : y < AK := by have := hz.2.2.2.2.2.1; dsimp only at this; unfold AK; omega
  have hn64 : n < AK := by have := hz.2.2.2.2.2.2.1; dsimp only at this; unfold AK; omega
  clear hz
  obtain ⟨V, hV⟩ : ∃ V, V = if stepB ⟨(R : Int), some L, st, rl, nl, gl⟩ N ⟨zr, y, n, (t : Int), ro⟩ = true then some (El N ⟨zr, y, n, (t : Int), ro⟩) else none := ⟨_, rfl⟩
  rw [<- hV]
  obtain ⟨M, hM2⟩ : ∃ M, El N ⟨zr, y, n, (t : Int), ro⟩ = M := ⟨_, rfl⟩
  have hMN : (M == N) = (BI N (t : Int) != zr) := by rw [<- hM2]; exact next_eq hN ht
  obtain ⟨ho, hho⟩ : ∃ ho, AZ (y, n) (closM L N) = ho := ⟨_, rfl⟩
  obtain ⟨gd, hgd⟩ : ∃ gd, goodB ⟨(R : Int), some L, st, rl, nl, gl⟩ M = gd := ⟨_, rfl⟩
  obtain ⟨e1, he1⟩ : ∃ e1, (M == N) = e1 := ⟨_, rfl⟩
  have HV : Hid (V = if (!((e1 || (!zr && !ho)) || !gd)) = true then some M else none) := Lib.hid (by rw [hV, hM2, <- hho, <- hgd, <- he1, hMN, <- hM2]; rfl)
  have HMf : Hid (zr = false -> N ||| 2 ^ t = M) := Lib.hid fun e => by rw [<- hM2, or_with ht, e]; rfl
  have HMt : Hid (zr = true -> N &&& Cd (2 ^ t) = M) := Lib.hid fun e => by rw [<- hM2, andnot_del hN ht, e]; rfl
  have HE1 : Hid (∀ w : World, (binOp .eql 26 (.int .u64 (M : Nat)) (.int .u64 (N : Nat))).run Tryz.prog w = .ok (.bool e1) w) := Lib.hid fun w => EF (by rw [<- he1, Bool.eq_iff_iff]; simp only [beq_iff_eq, decide_eq_true_eq]; omega)
  have HHO := Lib.hid hho
  have HGD := Lib.hid hgd
  have h2t : 2 ^ t < AK := pow_lt_64 ht
  clear hV hM2 hMN hho hgd he1
  obtain ⟨rb, hrb⟩ : ∃ rb, rb = zr := ⟨_, rfl⟩
  have HRB := Lib.hid hrb
  clear hrb
  cases zr <;> cases e1 <;> cases gd
  all_goals
   go_enter Tryz.func32, Tryz.ntmps32
   go_wp2_with (first
    | ((with_reducible refine qA 3 ?_); refine Aw hS rfl _ _ rfl (.agg #[.int .i64 (R : Nat), .slice Al L.length cl, .int .u64 (st : Nat), .slice (some ⟨b, o2, none⟩) rl.length cr, .slice An nl.length cn, .slice Ag gl.length cg]) _ rfl rfl ?_; clear hS; intro g3 w_ hS; (try simp only [Act.put, Act.eval, zz, Value.cells] at hS))
    | ((with_reducible refine qA 24 ?_); obtain ⟨b', o', e', c0, c1, c2, c3, c4⟩ := rr_at (kr _ _ hS.ro) hlj; injection e' with e'; injection e' with e1 e2; subst e1 e2; rw [HZ.out] at c0 c1 c2 c3 c4; dsimp only at c0 c1 c2 c3 c4; refine BigFrame.wpList_want rfl fun _ hK => AU (cs := [.bool _, .int .u64 (y : Nat), .int .u64 (n : Nat), .int .i64 (t : Nat), .int .i64 ro]) rfl rfl (rng5 c0 c1 c2 c3 c4) Tryz.underlying109 rfl (by kernel_rfl) (hK _ _ ?_))
    | ((with_reducible refine qA 8 ?_); refine qa hS #[.bool false, .int .u64 0, .int .u64 0, .int .i64 0, .int .i64 0] ?_; clear hS; intro g8 w_ hS)
    | ((with_reducible refine qA 27 ?_); refine BigFrame.wpList_want rfl fun _ hK => Ia (v := .int .u64 (t : Nat)) rfl rfl (run_convU (by omega)) (hK _ _ ?_))
    | ((with_reducible refine qA 28 ?_); refine BigFrame.wpList_want rfl fun _ hK => AB (v := .int .u64 ((2 ^ t : Nat) : Int)) rfl rfl rfl rfl (run_shlU ht) (hK _ _ ?_))
    | ((with_reducible refine qA 31 ?_); first | (refine BigFrame.wpList_want rfl fun _ hK => AB (v := .int .u64 (M : Nat)) rfl rfl rfl rfl (by rw [<- HMf.out rfl]; exact EE hN h2t) (hK _ _ ?_)) | (refine st_orN rfl _ _ _ _ rfl _ _ rfl rfl hN h2t ?_))
    | ((with_reducible refine qA 36 ?_); refine BigFrame.wpList_want rfl fun _ hK => AB (v := .int .u64 (M : Nat)) rfl rfl rfl rfl (by rw [<- HMt.out rfl]; exact run_andnot64 hN h2t) (hK _ _ ?_))
    | ((with_reducible refine qA 39 ?_); refine BigFrame.wpList_want rfl fun _ hK => AB (vx := .int .u64 (M : Nat)) (vy := .int .u64 (N : Nat)) rfl rfl rfl rfl (HE1.out _) (hK _ _ ?_))
    | ((with_reducible refine qB ?_); refine qc ?_ ?_ <;> intro h_ <;> go_prune)
    | ((with_reducible refine qA 41 ?_); refine BigFrame.wpList_want rfl fun _ hK => CN rfl rfl (hS.box 1 rfl) Tryz.underlying30 rfl (by kernel_rfl) (hK _ _ ?_))
    | (go_at_call 28; refine (rgood31_any (s := M) (kp _ _ hS.ro) HM.out).mono ?_; rw [HGD.out]; rintro r_ w_ ⟨_, rfl, rfl, hb_⟩; replace hS := hS.ext hb_; clear hb_)
    | ((with_reducible refine qM ?_); (first | refine qS hS ?_ | refine qT hS ?_); clear hS; intro w_ hS; (try simp only [Act.put, Act.eval, zz, Value.cells] at hS))
    | ((with_reducible refine qK ?_); refine qC hS ?_))
  all_goals try (go_ret2; exact Az.mk (by rw [HV.out]; cases ho <;> rfl) hS.below)
  all_goals
   refine BQ [.q g8 0, .i (.bool rb), .i (.bool (!rb)), .i (.bool (!rb)), .g ((!rb)) (.pointer (some ⟨g8, 1, none⟩)), .g ((!rb)) (.agg #[.int .u64 (y : Nat), .int .u64 (n : Nat)]), .g ((!rb)) (.pointer (some ⟨g3, 1, none⟩)), .g ((!rb)) (.slice Al L.length cl), .g ((!rb)) (.int .u64 (N : Nat)), .g ((!rb)) (.int .u64 (closM L N : Nat)), .g ((!rb)) (.bool ho), .g ((!rb)) (.bool (!ho)), .i (.bool ((!rb) && (!ho)))] ⟨uF, uC (h := fun w hW hN => by rw [HRB.out]; exact (hS.ext hW).shut 0 rfl 0 rfl), uU, uM, (by cases rb <;> first | exact uY | exact uX | exact uF), (by cases rb <;> first | exact uY | exact uX | exact uD (h := fun w hW hN => rng2 ((hS.ext hW).shut 0 rfl 1 rfl) ((hS.ext hW).shut 0 rfl 2 rfl))), (by cases rb <;> first | exact uY | exact uX | exact uF), (by cases rb <;> first | exact uY | exact uX | exact uC (h := fun w hW hN => (hS.ext hW).shut 1 rfl 1 rfl)), (by cases rb <;> first | exact uY | exact uX | exact uM), ?_, ?_, (by cases rb <;> first | exact uY | exact uX | exact uU), (by cases rb <;> exact uP), trivial⟩ ?_
   ·cases rb <;> first | exact uY | exact uX | (refine uT fun b__ w hW hE K hK => ?_; have e53 : b__.eval (.tmp 53) = .slice Al L.length cl := hE 53; have e54 : b__.eval (.tmp 54) = .int .u64 (N : Nat) := hE 54; (exact Ai rfl (by kernel_rfl) (by simp only [List.map_cons, List.map_nil, e53, e54]) (Ge (kl _ _ (hS.ext hW).ro) HL.out (by omega) N) fun v w' h hb => hK v w' h hb))
   ·cases rb <;> first | exact uY | exact uX | (refine uT fun b__ w hW hE K hK => ?_; have e51 : b__.eval (.tmp 51) = .agg #[.int .u64 (y : Nat), .int .u64 (n : Nat)] := hE 51; have e55 : b__.eval (.tmp 55) = .int .u64 (closM L N : Nat) := hE 55; (exact Ai rfl (by kernel_rfl) (by simp only [List.map_cons, List.map_nil, e51, e55]) (F6 hy64 hn64 (Gn L N) _) fun v w' h hb => hK v w' (h.trans (by rw [HHO.out]; rfl)) hb))
   ·intro vs wz hW hT
    obtain ⟨e46, e47, e48, e49, -, -, -, -, -, -, -, -, e58, -⟩ := hT
    simp only [At, Act.put, zz, ze]
    rw [e58, HRB.out]
    replace hS := hS.ext hW
    cases ho
    all_goals
     go_wp2_with fail
     go_ret2
     exact Az.mk (by rw [HV.out]; rfl) hS.below
 ·rw [Hm (p := ⟨(R : Int), some L, st, rl, nl, gl⟩) (fun h => hk ⟨h.1, h.2.1⟩)]
  have hk' : k < 0 \/ rl.length <= k := by omega
  clear hk
  go_enter Tryz.func32, Tryz.ntmps32
  go_wp2_with (first
   | ((with_reducible refine qA 3 ?_); refine Aw hS rfl _ _ rfl (.agg #[.int .i64 (R : Nat), .slice Al L.length cl, .int .u64 (st : Nat), .slice Ar rl.length cr, .slice An nl.length cn, .slice Ag gl.length cg]) _ rfl rfl ?_; clear hS; intro g3 w_ hS; (try simp only [Act.put, Act.eval, zz, Value.cells] at hS))
   | ((with_reducible refine qB ?_); refine qc ?_ ?_ <;> intro h_ <;> go_prune)
   | ((with_reducible refine qK ?_); refine qC hS ?_))
  all_goals
   go_ret2
   exact Az.mk rfl hS.below
end
section
open Go.RowKit
set_option exponentiation.threshold 5000
theorem role_in : ∀ R, R < 6 -> ∀ z, z < 6 -> 1 <= z -> z <= R -> (BG R).testBit z = true := by decide
end
section
open Go.RowKit
attribute [local go_sem ↓] Go.wp_at_zero Go.wp_at_succ
set_option maxRecDepth 20000
set_option exponentiation.threshold 5000
theorem mask_with {R N t : Nat} (hR : R <= 5) (hN : N &&& BG R = N) (h1 : 1 <= t) (h2 : t <= R) : Bu N (t : Int) &&& BG R = Bu N (t : Int) := by
 rw [<- or_with (by omega)]
 refine AY fun i => ?_
 have hN' : (N &&& BG R).testBit i = N.testBit i := by rw [hN]
 rw [Nat.testBit_and] at hN'
 rw [Nat.testBit_and, Nat.testBit_or, Nat.testBit_two_pow]
 by_cases e : t = i
 ·subst e
  rw [role_in R (by omega) t (by omega) h1 h2]; simp
 ·simp only [e, decide_false, Bool.or_false]
  exact Bool.eq_iff_iff.1 hN'
theorem mask_del {R N : Nat} (t : Int) (hN : N &&& BG R = N) : del N t &&& BG R = del N t := by
 unfold del
 split
 ·rename_i hb
  refine AY fun i => ?_
  have hN' : (N &&& BG R).testBit i = N.testBit i := by rw [hN]
  rw [Nat.testBit_and] at hN'
  have hb' : N.testBit t.toNat = true := by unfold BI at hb; simp only [Bool.and_eq_true] at hb; exact hb.2
  rw [Nat.testBit_and, Nat.testBit_xor, Nat.testBit_two_pow]
  by_cases e : t.toNat = i
  ·rw [e] at hb' ⊢; simp [hb']
  ·simp only [e, decide_false, Bool.xor_false]; exact Bool.eq_iff_iff.1 hN'
 ·exact hN
theorem Ho {p : AP} {L : List (Nat × Nat)} {R N M : Nat} {k : Int} (hM : E8 p L R) (hN : N &&& BG R = N) (h : stepM p N k = some M) : M &&& BG R = M := by
 unfold stepM at h
 split at h
 ·rename_i hk
  split at h
  ·injection h with h
   subst h
   have hj : k.toNat < p.rules.length := by omega
   have hz := hM.rules _ (List.mem_of_getElem? (Co B5 hj))
   generalize p.rules.getD k.toNat B5 = z at *
   unfold El
   split
   ·exact mask_del _ hN
   ·have h1 := hz.1
    have := mask_with (t := z.target.toNat) hM.r5 hN (by omega) (by omega)
    rwa [show ((z.target.toNat : Nat) : Int) = z.target by omega] at this
  ·cases h
 ·cases h
theorem mask_lt {R N : Nat} (hR : R <= 5) (hN : N &&& BG R = N) : N < 64 := by
 have h1 : BG R <= 62 := by
  have : ∀ R, R < 6 -> BG R <= 62 := by decide
  exact this R (by omega)
 have h2 : N &&& BG R <= BG R := Nat.and_le_right
 omega
end
section
open Go.RowKit
set_option exponentiation.threshold 5000
section
variable {p : AP} {L : List (Nat × Nat)} {R A k i : Nat}
end
noncomputable def runTo (p : AP) : Nat -> Nat -> List Int -> Nat × Nat × Bool
 | N, n, [] => (N, n, true)
 | N, n, k :: r => match stepM p N k with
  | none => (N, n, false)
  | some M => runTo p M (n + 1) r
theorem I1 {p : AP} {N M n : Nat} {k : Int} {r : List Int} (h : stepM p N k = some M) : runTo p N n (k :: r) = runTo p M (n + 1) r := by rw [runTo, h]
theorem Hz {p : AP} {N n : Nat} {k : Int} {r : List Int} (h : stepM p N k = none) : runTo p N n (k :: r) = (N, n, false) := by rw [runTo, h]
section
variable {p : AP} {L : List (Nat × Nat)} {R : Nat}
end
end
section
open Go.RowKit
set_option maxRecDepth 20000
set_option exponentiation.threshold 5000
theorem start31b {W : World} {D E : Nat -> Prop} {v u : Value} {l m : List Nat} (h : B7 W) (hv : Sl W D 1 v l.length (u8s l)) (hu : Sl W E 1 u m.length (u8s m)) : ∃ K : (Nat -> Prop) -> World -> Prop, (∀ D w, K D w -> B7 w /\ D 0) /\ (∀ D w, K D w -> Sl w D 1 v l.length (u8s l)) /\ (∀ D w, K D w -> Sl w D 1 u m.length (u8s m)) /\ St W W [] K :=
 ⟨fun D w => (B7 w /\ D 0) /\ Sl w D 1 v l.length (u8s l) /\ Sl w D 1 u m.length (u8s m), fun _ _ h => h.1, fun _ _ h => h.2.1, fun _ _ h => h.2.2, St.start (D := fun _ => True) (BS.and ((Aq (by decide)).and (Aq (by decide)))) ⟨⟨h, trivial⟩, hv.imp fun _ _ _ => trivial, hu.imp fun _ _ _ => trivial⟩⟩
theorem conv8_31 {w : World} {n : Nat} (h : n < 256) : (convert 5 3 (.int .u8 (n : Nat))).run Tryz.prog w = .ok (.int .i64 (n : Nat)) w := by
 go_simp
 exact Fe (by omega)
theorem rem8_31 {P : Program} {w : World} {t : TypeId} {n m : Nat} (hm : 0 < m) : (binOp .rem t (.int .u8 (n : Nat)) (.int .u8 (m : Nat))).run P w = .ok (.int .u8 ((n % m : Nat) : Int)) w := by
 go_simp
 rw [if_neg (by omega), tmod_nat n m]
 first
  | rfl
  | simp
theorem runTo_end {p : AP} : ∀ {l : List Int} {N n M m : Nat} {b : Bool}, runTo p N n l = (M, m, b) -> m <= n + l.length /\ b = decide (m = n + l.length)
 | [], N, n, M, m, b, h => by
  simp only [runTo, Prod.mk.injEq] at h
  obtain ⟨_, rfl, rfl⟩ := h
  simp
 | k :: r, N, n, M, m, b, h => by
  rw [runTo] at h
  cases hs : stepM p N k with
  | none =>
   rw [hs] at h
   simp only [Prod.mk.injEq] at h
   obtain ⟨_, rfl, rfl⟩ := h
   simp
  | some M' =>
   rw [hs] at h
   obtain ⟨h1, h2⟩ := runTo_end h
   rw [List.length_cons]
   exact ⟨by omega, by rw [h2]; congr 1; apply propext; omega⟩
theorem I0 {p : AP} {L : List (Nat × Nat)} {R : Nat} (hM : E8 p L R) : ∀ {l : List Int} {N n M m : Nat} {b : Bool}, N &&& BG R = N -> runTo p N n l = (M, m, b) -> M &&& BG R = M
 | [], N, n, M, m, b, hN, h => by
  simp only [runTo, Prod.mk.injEq] at h
  obtain ⟨rfl, _, _⟩ := h
  exact hN
 | k :: r, N, n, M, m, b, hN, h => by
  rw [runTo] at h
  cases hs : stepM p N k with
  | none =>
   rw [hs] at h
   simp only [Prod.mk.injEq] at h
   obtain ⟨rfl, _, _⟩ := h
   exact hN
  | some M' =>
   rw [hs] at h
   exact I0 hM (Ho hM hN hs) h
end
section
open Go.RowKit
attribute [local go_sem ↓] Go.wp_at_zero Go.wp_at_succ
set_option maxRecDepth 20000
set_option exponentiation.threshold 5000
def RunR (w0 : World) (F : List Ac) (K : (Nat -> Prop) -> World -> Prop) (p : AP) (l : List Int) (e : Ending) (w' : World) : Prop :=
 ∃ (x : Value) (N n : Nat) (b : Bool), e = .returned (.tuple #[x, .int .i64 (n : Nat), .bool b]) /\ Hid (runTo p p.start 0 l = (N, n, b)) /\ St w0 w' F fun D w => K D w /\ Aa w D x N
set_option maxHeartbeats 4000000 in
theorem srun_any {w0 w : World} {F : List Ac} {K : (Nat -> Prop) -> World -> Prop} {v pv : Value} {p : AP} {L : List (Nat × Nat)} {l : List Int} (hl : p.links = some L) (hP : p.Ok) (hlen : l.length <= 1000000) (hS : St w0 w F K) (kp : ∀ D w, K D w -> Bw w D v p) (kv : ∀ D w, K D w -> Sl w D 1 pv l.length (AM l)) (kt : ∀ D w, K D w -> B7 w) :
  Calls Tryz.prog 34 #[v, pv] w (RunR w0 F K p l) := by
 obtain ⟨Ap, cp, rfl, _, _⟩ := (kv _ _ hS.ro).shape
 obtain ⟨R, lk, st, rl, nl, gl⟩ := p
 obtain rfl : lk = some L := hl
 obtain ⟨lp, s, rv, nv, gv, rfl, h1, h2, h3, h4, h5⟩ := kp _ _ hS.ro
 dsimp only at h1 h2 h3 h4 h5
 obtain ⟨q, o, rfl, -⟩ := id h1
 obtain ⟨Cs, ns, cs, rfl⟩ := h2.shape
 obtain ⟨Ar, cr, rfl, _, _⟩ := h3.shape
 obtain ⟨An, cn, rfl, _, _⟩ := h4.shape
 obtain ⟨Ag, cg, rfl, _, _⟩ := h5.shape
 obtain ⟨KC, kc, hS2⟩ : ∃ KC : (Nat -> Prop) -> World -> Prop, Hid (∀ D w, KC D w -> K D w /\ Aa w D (.agg #[.slice Cs ns cs]) st) /\ St w0 w F KC := ⟨_, Lib.hid fun D w h => ⟨h.1, h.2⟩, hS.add (D := Dh F) Ab h2 fun _ h _ => h⟩
 have KS := Lib.hid hS.stable
 clear hS h1 h2 h3 h4 h5
 have hS := hS2
 clear hS2
 have HP := Lib.hid hP
 have HK := Lib.hid kp
 have HT := Lib.hid kt
 clear hP kp kt
 have HV := Lib.hid kv
 clear kv
 go_enter Tryz.func34, Tryz.ntmps34
 go_wp2_with (first
  | ((with_reducible refine qA 2 ?_); refine Aw hS rfl _ _ rfl (.agg #[.int .i64 R, .pointer (some ⟨q, 0, none⟩), .slice Cs ns cs, .slice Ar rl.length cr, .slice An nl.length cn, .slice Ag gl.length cg]) _ rfl rfl ?_; clear hS; intro g2 w_ hS; (try simp only [Act.put, Act.eval, zz, Value.cells] at hS))
  | ((with_reducible refine qA 4 ?_); refine qa hS #[.slice none 0 0] ?_; clear hS; intro g4 w_ hS)
  | ((with_reducible refine qA 14 ?_); refine BigFrame.wpList_want rfl fun _ hK => AB (v := .bool false) rfl rfl rfl rfl rfl (hK _ _ ?_))
  | ((with_reducible refine qA 7 ?_); refine qa hS #[.slice none 0 0] ?_; clear hS; intro g7 w_ hS)
  | ((with_reducible refine qk 39 ?_); first | (refine Ao hS 0 rfl _ _ rfl _ _ rfl _ _ rfl _ (by first | rfl | assumption) Tryz.underlying39 rfl (by kernel_rfl) ?_) | (refine Ao hS 1 rfl _ _ rfl _ _ rfl _ _ rfl _ (by first | rfl | assumption) Tryz.underlying39 rfl (by kernel_rfl) ?_) | (refine Ao hS 2 rfl _ _ rfl _ _ rfl _ _ rfl _ (by first | rfl | assumption) Tryz.underlying39 rfl (by kernel_rfl) ?_) | (refine Ao hS 3 rfl _ _ rfl _ _ rfl _ _ rfl _ (by first | rfl | assumption) Tryz.underlying39 rfl (by kernel_rfl) ?_) | (refine Ao hS 4 rfl _ _ rfl _ _ rfl _ _ rfl _ (by first | rfl | assumption) Tryz.underlying39 rfl (by kernel_rfl) ?_) | (refine Ao hS 5 rfl _ _ rfl _ _ rfl _ _ rfl _ (by first | rfl | assumption) Tryz.underlying39 rfl (by kernel_rfl) ?_))
  | ((with_reducible refine qM ?_); (first | refine qS hS ?_ | refine qT hS ?_); clear hS; intro w_ hS; (try simp only [Act.put, Act.eval, zz, Value.cells] at hS))
  | ((with_reducible refine qK ?_); refine qC hS ?_))
 go_loopw [20] (fun iv wr => ∃ (j N : Nat) (u : Value), iv = .int .i64 (j : Nat) /\ j <= l.length /\ u.oneCell' = true /\ Hid (runTo ⟨R, some L, st, rl, nl, gl⟩ st 0 l = runTo ⟨R, some L, st, rl, nl, gl⟩ N j (l.drop j)) /\ St w0 wr (.box g7 39 #[u] :: .box g4 39 #[.slice none 0 0] :: .box g2 43 #[.int .i64 R, .pointer (some ⟨q, 0, none⟩), .slice Cs ns cs, .slice Ar rl.length cr, .slice An nl.length cn, .slice Ag gl.length cg] :: F) (fun D w => K D w /\ Aa w D (.agg #[u]) N)) (fun i _ => l.length - (intOf i).toNat)
 case atStart => exact ⟨0, st, _, rfl, by omega, rfl, Lib.hid rfl, hS.mono (KS.out.and Ab) fun D w h => kc.out D w h⟩
 case round =>
  clear hS
  obtain ⟨j, N, u, rfl, hj, hu, HR, hS⟩ := hrel
  by_cases hjl : j < l.length
  ·obtain ⟨bp, op, rfl⟩ := sl_pos (HV.out _ _ hS.ro.1) (by omega)
   obtain ⟨k, hk⟩ : ∃ k, l[j]? = some k := ⟨_, List.getElem?_eq_getElem hjl⟩
   have HY : Hid ((AM l)[j]? = some (.int .i64 k)) := Lib.hid (by simp [AM, hk])
   have hd : l.drop j = k :: l.drop (j + 1) := by
    rw [List.drop_eq_getElem_cons hjl]
    congr 1
    rw [List.getElem?_eq_getElem hjl] at hk
    exact Option.some.inj hk
   rw [hd] at HR
   obtain ⟨V, hV⟩ : ∃ V, stepM ⟨R, some L, st, rl, nl, gl⟩ N k = V := ⟨_, rfl⟩
   have HVV := Lib.hid hV
   clear hk hd hV
   cases V with
   | none =>
    go_wp2_with (first
     | ((with_reducible refine qB ?_); refine qc ?_ ?_ <;> intro h_ <;> go_prune)
     | ((with_reducible refine qk 3 ?_); refine BigFrame.wpList_want rfl fun _ hK => Ak rfl rfl (by kernel_rfl) (DQ (HV.out _ _ hS.ro.1) HY.out) (hK _ _ ?_))
     | ((with_reducible refine qK ?_); refine qL hS Tryz.underlying43 ?_)
     | ((with_reducible refine qK ?_); refine qL hS Tryz.underlying39 ?_)
     | (go_at_call 31; refine (ED (N := N) k HP.out hS (fun D w h => HK.out _ _ h.1) (fun D w h => h.2) (fun D w h => HT.out _ _ h.1)).mono ?_; clear hS; rw [HVV.out]; rintro e w_ ⟨x, rfl, hS⟩; obtain ⟨u', rfl, hu'⟩ := CX hS.ro.2)
     | ((with_reducible refine qA 10 ?_); refine qa hS #[.slice none 0 0] ?_; clear hS; intro g10 w_ hS)
     | ((with_reducible refine qm 39 ?_); (first | refine Be hS 0 rfl _ _ _ rfl _ _ rfl rfl _ _ rfl (by kernel_rfl) (by kernel_rfl) (by first | (simpa using hu') | (simpa using hu)) ?_ | refine Be hS 1 rfl _ _ _ rfl _ _ rfl rfl _ _ rfl (by kernel_rfl) (by kernel_rfl) (by first | (simpa using hu') | (simpa using hu)) ?_ | refine Be hS 2 rfl _ _ _ rfl _ _ rfl rfl _ _ rfl (by kernel_rfl) (by kernel_rfl) (by first | (simpa using hu') | (simpa using hu)) ?_); clear hS; intro w_ hS; (try simp only [Act.put, Act.eval, zz, Value.cells] at hS)))
    refine ret3_cell Tryz.results34 rfl (hS.box 2 rfl) Tryz.underlying39 rfl (by kernel_rfl) rfl rfl rfl ?_
    exact ⟨_, N, j, false, rfl, Lib.hid (by rw [HR.out]; exact Hz HVV.out), (hS.sub (List.sublist_append_right [_, _, _, _] F)).mono (KS.out.and Ab) fun D w h => ⟨h.1.1, h.1.2⟩⟩
   | some M =>
    go_wp2_with (first
     | ((with_reducible refine qB ?_); refine qc ?_ ?_ <;> intro h_ <;> go_prune)
     | ((with_reducible refine qk 3 ?_); refine BigFrame.wpList_want rfl fun _ hK => Ak rfl rfl (by kernel_rfl) (DQ (HV.out _ _ hS.ro.1) HY.out) (hK _ _ ?_))
     | ((with_reducible refine qK ?_); refine qL hS Tryz.underlying43 ?_)
     | ((with_reducible refine qK ?_); refine qL hS Tryz.underlying39 ?_)
     | (go_at_call 31; refine (ED (N := N) k HP.out hS (fun D w h => HK.out _ _ h.1) (fun D w h => h.2) (fun D w h => HT.out _ _ h.1)).mono ?_; clear hS; rw [HVV.out]; rintro e w_ ⟨x, rfl, hS⟩; obtain ⟨u', rfl, hu'⟩ := CX hS.ro.2)
     | ((with_reducible refine qA 10 ?_); refine qa hS #[.slice none 0 0] ?_; clear hS; intro g10 w_ hS)
     | ((with_reducible refine qm 39 ?_); (first | refine Be hS 0 rfl _ _ _ rfl _ _ rfl rfl _ _ rfl (by kernel_rfl) (by kernel_rfl) (by first | (simpa using hu') | (simpa using hu)) ?_ | refine Be hS 1 rfl _ _ _ rfl _ _ rfl rfl _ _ rfl (by kernel_rfl) (by kernel_rfl) (by first | (simpa using hu') | (simpa using hu)) ?_ | refine Be hS 2 rfl _ _ _ rfl _ _ rfl rfl _ _ rfl (by kernel_rfl) (by kernel_rfl) (by first | (simpa using hu') | (simpa using hu)) ?_); clear hS; intro w_ hS; (try simp only [Act.put, Act.eval, zz, Value.cells] at hS)))
    exact ⟨⟨j + 1, M, u', by go_num, hjl, hu', Lib.hid (by rw [HR.out]; exact I1 HVV.out), (hS.sub (List.sublist_cons_self _ _)).mono (KS.out.and Ab) fun D w h => ⟨h.1.1, h.2⟩⟩, by simp [intOf]; omega⟩
  ·obtain rfl : j = l.length := by omega
   rw [List.drop_length] at HR
   go_wp2_with (first
    | ((with_reducible refine qB ?_); refine qc ?_ ?_ <;> intro h_ <;> go_prune)
    | ((with_reducible refine qK ?_); refine qL hS Tryz.underlying39 ?_)
    | ((with_reducible refine qm 39 ?_); (first | refine Be hS 0 rfl _ _ _ rfl _ _ rfl rfl _ _ rfl (by kernel_rfl) (by kernel_rfl) (by simpa using hu) ?_ | refine Be hS 1 rfl _ _ _ rfl _ _ rfl rfl _ _ rfl (by kernel_rfl) (by kernel_rfl) (by simpa using hu) ?_ | refine Be hS 2 rfl _ _ _ rfl _ _ rfl rfl _ _ rfl (by kernel_rfl) (by kernel_rfl) (by simpa using hu) ?_); clear hS; intro w_ hS; (try simp only [Act.put, Act.eval, zz, Value.cells] at hS)))
   refine ret3_cell Tryz.results34 rfl (hS.box 1 rfl) Tryz.underlying39 rfl (by kernel_rfl) rfl rfl rfl ?_
   exact ⟨_, N, l.length, true, rfl, Lib.hid HR.out, (hS.sub (List.sublist_append_right [_, _, _] F)).mono (KS.out.and Ab) fun D w h => h⟩
end
section
open Go.RowKit
attribute [local go_sem ↓] Go.wp_at_zero Go.wp_at_succ
set_option maxRecDepth 20000
set_option exponentiation.threshold 5000
set_option maxHeartbeats 4000000 in
theorem rrun31_any {w0 : World} {D E : Nat -> Prop} {v pv : Value} {p : AP} {L : List (Nat × Nat)} {R : Nat} {l : List Int} (hp : Bk w0 D v p) (hM : E8 p L R) (hv : Sl w0 E 1 pv l.length (AM l)) (hlen : l.length <= 1000000) :
  Calls Tryz.prog 35 #[v, pv] w0 (Az (fun x _ => x = .tuple #[.int .u64 ((runTo p p.start 0 l).1 : Nat), .int .i64 ((runTo p p.start 0 l).2.1 : Nat)]) w0) := by
 obtain ⟨Ap, cp, rfl, _, _⟩ := hv.shape
 obtain ⟨R', lk, st, rl, nl, gl⟩ := p
 obtain rfl : lk = some L := hM.links
 obtain rfl : R' = (R : Int) := hM.roles
 obtain ⟨Al, cl, Ar, cr, An, cn, Ag, cg, rfl⟩ := Ei hp
 obtain ⟨K, kp, kv, hS⟩ : ∃ K : (Nat -> Prop) -> World -> Prop, (∀ D w, K D w -> Bk w D (.agg #[.int .i64 (R : Nat), .slice Al L.length cl, .int .u64 (st : Nat), .slice Ar rl.length cr, .slice An nl.length cn, .slice Ag gl.length cg]) ⟨(R : Int), some L, st, rl, nl, gl⟩) /\ (∀ D w, K D w -> Sl w D 1 (.slice Ap l.length cp) l.length (AM l)) /\ St w0 w0 [] K := ⟨fun D w => Bk w D (.agg #[.int .i64 (R : Nat), .slice Al L.length cl, .int .u64 (st : Nat), .slice Ar rl.length cr, .slice An nl.length cn, .slice Ag gl.length cg]) ⟨(R : Int), some L, st, rl, nl, gl⟩ /\ Sl w D 1 (.slice Ap l.length cp) l.length (AM l), fun _ _ h => h.1, fun _ _ h => h.2, St.start (D := fun _ => True) (Cg.and (Aq (by decide))) ⟨Cg D _ w0 w0 hp (Nat.le_refl _) (fun _ _ _ _ h => h) fun _ _ _ _ => trivial, hv.imp fun _ _ _ => trivial⟩⟩
 have HM := Lib.hid hM
 have HST := Lib.hid (show st &&& BG R = st from hM.start)
 have hst : st < AK := hM.fits.start
 clear hp hv hM
 obtain ⟨RES, hR⟩ : ∃ RES, runTo ⟨(R : Int), some L, st, rl, nl, gl⟩ st 0 l = RES := ⟨_, rfl⟩
 dsimp only
 rw [hR]
 replace hR := Lib.hid hR
 go_enter Tryz.func35, Tryz.ntmps35
 go_wp2_with (first
  | ((with_reducible refine qA 2 ?_); refine Aw hS rfl _ _ rfl (.agg #[.int .i64 (R : Nat), .slice Al L.length cl, .int .u64 (st : Nat), .slice Ar rl.length cr, .slice An nl.length cn, .slice Ag gl.length cg]) _ rfl rfl ?_; clear hS; intro g1 w_ hS; (try simp only [Act.put, Act.eval, zz, Value.cells] at hS))
  | ((with_reducible refine qK ?_); refine qC hS ?_))
 go_loopw [6, 15] (fun sv iv wr => ∃ (j N : Nat), sv = .int .u64 (N : Nat) /\ iv = .int .i64 (j : Nat) /\ j <= l.length /\ N < AK /\ Hid (N &&& BG R = N) /\ Hid (RES = runTo ⟨(R : Int), some L, st, rl, nl, gl⟩ N j (l.drop j)) /\ St w0 wr [.box g1 30 #[.int .i64 (R : Nat), .slice Al L.length cl, .int .u64 (st : Nat), .slice Ar rl.length cr, .slice An nl.length cn, .slice Ag gl.length cg]] K) (fun _ i _ => l.length - (intOf i).toNat)
 case atStart => exact ⟨0, st, rfl, rfl, by omega, hst, HST, Lib.hid (by rw [<- hR.out]; rfl), hS⟩
 case round =>
  clear hS
  obtain ⟨j, N, rfl, rfl, hj, hN, HN, HR, hS⟩ := hrel
  by_cases hjl : j < l.length
  ·obtain ⟨bp, op, rfl⟩ := sl_pos (kv _ _ hS.ro) (by omega)
   obtain ⟨k, hk⟩ : ∃ k, l[j]? = some k := ⟨_, List.getElem?_eq_getElem hjl⟩
   have HY : Hid ((AM l)[j]? = some (.int .i64 k)) := Lib.hid (by simp [AM, hk])
   have hd : l.drop j = k :: l.drop (j + 1) := by
    rw [List.drop_eq_getElem_cons hjl]
    congr 1
    rw [List.getElem?_eq_getElem hjl] at hk
    exact Option.some.inj hk
   rw [hd] at HR
   obtain ⟨V, hV⟩ : ∃ V, stepM ⟨(R : Int), some L, st, rl, nl, gl⟩ N k = V := ⟨_, rfl⟩
   have HVV := Lib.hid hV
   clear hk hd hV
   cases V with
   | none =>
    go_wp2_with (first
     | ((with_reducible refine qB ?_); refine qc ?_ ?_ <;> intro h_ <;> go_prune)
     | ((with_reducible refine qk 3 ?_); refine BigFrame.wpList_want rfl fun _ hK => Ak rfl rfl (by kernel_rfl) (DQ (kv _ _ hS.ro) HY.out) (hK _ _ ?_))
     | ((with_reducible refine qK ?_); refine qL hS Tryz.underlying30 ?_)
     | (go_at_call 32; refine (Gx (N := N) k (kp _ _ hS.ro) HM.out hN).mono ?_; rw [HVV.out]; rintro e w_ ⟨_, rfl, rfl, hb_⟩; replace hS := hS.ext hb_; clear hb_)
     | ((with_reducible refine qK ?_); refine qC hS ?_))
    go_ret2
    exact Az.mk (by rw [HR.out, Hz HVV.out]; rfl) hS.below
   | some M =>
    have HMM := Lib.hid (Ho HM.out HN.out HVV.out)
    have hM64 : M < AK := by have := mask_lt HM.out.r5 HMM.out; unfold AK; omega
    go_wp2_with (first
     | ((with_reducible refine qB ?_); refine qc ?_ ?_ <;> intro h_ <;> go_prune)
     | ((with_reducible refine qk 3 ?_); refine BigFrame.wpList_want rfl fun _ hK => Ak rfl rfl (by kernel_rfl) (DQ (kv _ _ hS.ro) HY.out) (hK _ _ ?_))
     | ((with_reducible refine qK ?_); refine qL hS Tryz.underlying30 ?_)
     | (go_at_call 32; refine (Gx (N := N) k (kp _ _ hS.ro) HM.out hN).mono ?_; rw [HVV.out]; rintro e w_ ⟨_, rfl, rfl, hb_⟩; replace hS := hS.ext hb_; clear hb_)
     | ((with_reducible refine qK ?_); refine qC hS ?_))
    exact ⟨⟨j + 1, M, rfl, by go_num, hjl, hM64, HMM, Lib.hid (by rw [HR.out, I1 HVV.out]), hS⟩, by simp [intOf]; omega⟩
  ·obtain rfl : j = l.length := by omega
   rw [List.drop_length] at HR
   go_wp2_with (first | ((with_reducible refine qB ?_); refine qc ?_ ?_ <;> intro h_ <;> go_prune) | ((with_reducible refine qK ?_); refine qC hS ?_))
   go_ret2
   exact Az.mk (by rw [HR.out]; rfl) hS.below
end
section
open Go.RowKit
attribute [local go_sem ↓] Go.wp_at_zero Go.wp_at_succ
set_option maxRecDepth 20000
set_option exponentiation.threshold 5000
set_option maxHeartbeats 4000000 in
theorem lruns31_any (v u : Value) (l m : List Nat) (W : World) (D E : Nat -> Prop) (hl : ∀ x ∈ l, x < 256) (hm : ∀ x ∈ m, x < 256) (hv : Sl W D 1 v l.length (u8s l)) (hu : Sl W E 1 u m.length (u8s m)) (hT : B7 W) : Calls Tryz.prog 6 #[v, u] W (Az (fun x _ => x = .bool true) W) := by
 obtain ⟨K, kt, k1, k2, hS⟩ := start31b hT hv hu
 obtain ⟨A2, c2, rfl, _, _⟩ := hu.shape
 clear hv hu
 have HL := Lib.hid hl
 have HM := Lib.hid hm
 clear hl hT hm
 go_enter Tryz.func6, Tryz.ntmps6
 go_wp2_with (first
  | (go_at_call 12; refine (lawake31_any hS kt).mono ?_; clear hS; rintro e w_ ⟨rfl, hS⟩)
  | (go_at_call 18; refine (lmake31_any HL.out hS k1 kt).mono ?_; clear hS; rintro e w_ ⟨x, u, rfl, p, ⟨L, R, hM⟩, hS⟩; replace hM := Lib.hid hM; obtain ⟨xs, rfl, hx6, hx1⟩ := hS.ro.2.1.cells; replace hx6 := Lib.hid hx6; obtain ⟨us, rfl, hu6, hu1⟩ := hS.ro.2.2.cells; replace hu6 := Lib.hid hu6)
  | ((with_reducible refine qA 5 ?_); refine qa hS #[.int .i64 0, .pointer none, .slice none 0 0, .slice none 0 0, .slice none 0 0, .slice none 0 0] ?_; clear hS; intro g5 w_ hS)
  | ((with_reducible refine qA 6 ?_); refine qa hS #[.int .i64 0, .slice none 0 0, .int .u64 0, .slice none 0 0, .slice none 0 0, .slice none 0 0] ?_; clear hS; intro g6 w_ hS)
  | ((with_reducible refine qm 30 ?_); refine Be hS 0 rfl _ _ _ rfl _ _ rfl rfl _ _ rfl (by rw [hu6.out]; kernel_rfl) (by rw [hu6.out]; rfl) hu1 ?_; clear hS; intro w_ hS; (try simp only [Act.put, Act.eval, zz, Value.cells] at hS))
  | ((with_reducible refine qm 43 ?_); refine Be hS 1 rfl _ _ _ rfl _ _ rfl rfl _ _ rfl (by rw [hx6.out]; kernel_rfl) (by rw [hx6.out]; rfl) hx1 ?_; clear hS; intro w_ hS; (try simp only [Act.put, Act.eval, zz, Value.cells] at hS)))
 obtain ⟨K3, k3, kp, kr, km, KS3, hS2⟩ : ∃ K3 : (Nat -> Prop) -> World -> Prop, (∀ D w, K3 D w -> K D w) /\ (∀ D w, K3 D w -> Bw w D (.agg xs) p) /\ (∀ D w, K3 D w -> Bk w D (.agg us) p) /\ (∀ D w, K3 D w -> Sl w D 1 (.slice A2 m.length c2) m.length (u8s m)) /\ Hid (Ax K3) /\ St W w_ (.box g6 30 us :: .box g5 43 xs :: []) K3 := ⟨_, fun _ _ h => h.1, fun _ _ h => h.2.1, fun _ _ h => h.2.2, fun _ _ h => k2 _ _ h.1, Lib.hid hS.stable, hS⟩
 clear hS
 have hS := hS2
 clear hS2
 replace hS := hS.nil 3 1
 go_loopw [8, 9] (fun ov i wr => ∃ (j : Nat) (sv : Value) (qs : List Int), i = .int .i64 (j : Nat) /\ sv = ov /\ j <= 10 /\ Hid (qs.length = j) /\ St W wr (.own sv 3 1 j (AM qs) :: .box g6 30 us :: .box g5 43 xs :: []) K3) (fun _ i _ => 10 - (intOf i).toNat)
 case atStart => exact ⟨0, _, [], rfl, rfl, by omega, Lib.hid rfl, hS⟩
 case round =>
  clear hS
  obtain ⟨j, sv, qs, rfl, rfl, hj, HQ, hS⟩ := hrel
  obtain ⟨As, cs, rfl, _, _⟩ := Bd (hS.own 0 rfl)
  by_cases hgo : j < m.length /\ j < 10
  ·obtain ⟨hjm, hj10⟩ := hgo
   obtain ⟨b, o, rfl⟩ := sl_pos (km _ _ hS.ro) (by omega)
   have p1 := Lib.hid (u8s_at m j hjm)
   have hz256 := HM.out (m.getD j 0) (by rw [List.getD_eq_getElem?_getD, List.getElem?_eq_getElem hjm]; exact List.getElem_mem hjm)
   generalize m.getD j 0 = z at *
   have hz8 : z % 8 < 8 := Nat.mod_lt _ (by decide)
   obtain ⟨z8, hz8e⟩ : ∃ z8, z8 = z % 8 := ⟨_, rfl⟩
   have HR8 : Hid (∀ w : World, (binOp .rem 5 (.int .u8 (z : Nat)) (.int .u8 8)).run Tryz.prog w = .ok (.int .u8 (z8 : Nat)) w) := Lib.hid fun w => by rw [hz8e]; exact rem8_31 (m := 8) (by decide)
   rw [<- hz8e] at hz8
   clear hz8e
   go_wp2_with (first
    | ((with_reducible refine qB ?_); refine qc ?_ ?_ <;> intro h_ <;> go_prune)
    | ((with_reducible refine qA 40 ?_); refine BigFrame.wpList_want rfl fun _ hK => AB rfl rfl rfl rfl (HR8.out _) (hK _ _ ?_))
    | ((with_reducible refine qA 41 ?_); refine BigFrame.wpList_want rfl fun _ hK => Ia rfl rfl (conv8_31 (by omega)) (hK _ _ ?_))
    | ((with_reducible refine qk 5 ?_); refine BigFrame.wpList_want rfl fun _ hK => Ak rfl rfl (by kernel_rfl) (DQ (km _ _ hS.ro) p1.out) (hK _ _ ?_))
    | ((with_reducible refine qA 43 ?_); refine Dm hS 0 rfl rfl _ _ _ _ rfl rfl DN _ j (AM qs) (.int .i64 ((z8 : Nat) - 1 : Int)) #[.int .i64 ((z8 : Nat) - 1 : Int)] rfl (by kernel_rfl) rfl rfl rfl rfl (by intro u hu; simp at hu; subst hu; rfl) (by omega) (by omega) ?_; clear hS; intro z_ kv' w_ hS; (try simp only [Act.put, Act.eval, zz, Value.cells] at hS)))
   refine ⟨⟨j + 1, _, qs ++ [((z8 : Nat) - 1 : Int)], by go_num, rfl, by omega, Lib.hid (by rw [List.length_append, HQ.out]; rfl), ?_⟩, by simp [intOf]; omega⟩
   rw [show AM (qs ++ [((z8 : Nat) - 1 : Int)]) = AM qs ++ [.int .i64 ((z8 : Nat) - 1 : Int)] by simp [AM]]
   exact hS
  ·have hz : m.length <= j \/ (j < m.length /\ 10 <= j) := by omega
   clear hgo
   obtain rfl : qs.length = j := HQ.out
   clear HQ
   replace hS := hS.freeze 0 (by decide) rfl
   simp only [List.eraseIdx_cons_zero] at hS
   obtain ⟨N, hN⟩ : ∃ N, (runTo p p.start 0 qs).1 = N := ⟨_, rfl⟩
   obtain ⟨n, hn⟩ : ∃ n, (runTo p p.start 0 qs).2.1 = n := ⟨_, rfl⟩
   obtain ⟨b, hb⟩ : ∃ b, (runTo p p.start 0 qs).2.2 = b := ⟨_, rfl⟩
   have HR : Hid (runTo p p.start 0 qs = (N, n, b)) := Lib.hid (by rw [<- hN, <- hn, <- hb])
   have HN : Hid (N < AK) := Lib.hid (by
    have := mask_lt hM.out.r5 (I0 hM.out hM.out.start HR.out)
    unfold AK; omega)
   have hbq : b = decide (n = qs.length) := by
    have := (runTo_end HR.out).2
    rwa [Nat.zero_add] at this
   have HRR : Hid (∀ (w : World) (D E : Nat -> Prop) (v pv : Value), Bk w D v p -> Sl w E 1 pv qs.length (AM qs) -> Calls Tryz.prog 35 #[v, pv] w (Az (fun x _ => x = .tuple #[.int .u64 (N : Nat), .int .i64 (n : Nat)]) w)) := Lib.hid fun w D E v pv h1 h2 => by
    have := rrun31_any h1 hM.out h2 (by omega)
    rwa [hN, hn] at this
   have HSR : Hid (∀ (w : World) (F : List Ac) (K : (Nat -> Prop) -> World -> Prop) (v pv : Value), St W w F K -> (∀ D w, K D w -> Bw w D v p) -> (∀ D w, K D w -> Sl w D 1 pv qs.length (AM qs)) -> (∀ D w, K D w -> B7 w) -> Calls Tryz.prog 34 #[v, pv] w fun e w' => ∃ u, e = .returned (.tuple #[.agg #[u], .int .i64 (n : Nat), .bool b]) /\ u.oneCell' = true /\ St W w' F fun D w => K D w /\ Aa w D (.agg #[u]) N) := Lib.hid fun w F K v pv h1 h2 h3 h4 => by
    refine (srun_any hM.out.links hM.out.ok (by omega) h1 h2 h3 h4).mono ?_
    rintro e w_ ⟨x, N1, n1, b1, rfl, hr1, hS⟩
    have hq := hr1.out.symm.trans HR.out
    simp only [Prod.mk.injEq] at hq
    obtain ⟨rfl, rfl, rfl⟩ := hq
    obtain ⟨u, rfl, hu⟩ := CX hS.ro.2
    exact ⟨u, rfl, hu, hS⟩
   clear hN hn hb HR
   have HBQ := Lib.hid hbq
   clear hbq
   generalize qs.length = q at *
   rcases hz with h1 | ⟨h1, h2⟩
   all_goals
    go_wp2_with (first
     | ((with_reducible refine qB ?_); refine qc ?_ ?_ <;> intro h_ <;> go_prune)
     | ((with_reducible refine qk 43 ?_); refine Hc hS 1 rfl _ _ rfl g5 rfl _ xs rfl _ Tryz.underlying43 rfl (by rw [hx6.out]; kernel_rfl) ?_)
     | (go_at_call 34; refine (HSR.out _ _ _ _ _ hS (fun D w h => kp _ _ h.1) (fun D w h => h.2) (fun D w h => (kt _ _ (k3 _ _ h.1)).1)).mono ?_; clear hS; rintro e w_ ⟨ua, rfl, hua, hS⟩)
     | ((with_reducible refine qA 10 ?_); refine qa hS #[.slice none 0 0] ?_; clear hS; intro g10 w_ hS)
     | ((with_reducible refine qm 39 ?_); refine Be hS 0 rfl _ _ _ rfl _ _ rfl rfl _ _ rfl (by kernel_rfl) (by kernel_rfl) (by simpa using hua) ?_; clear hS; intro w_ hS; (try simp only [Act.put, Act.eval, zz, Value.cells] at hS))
     | ((with_reducible refine qk 30 ?_); refine Hc hS 1 rfl _ _ rfl g6 rfl _ us rfl _ Tryz.underlying30 rfl (by rw [hu6.out]; kernel_rfl) ?_)
     | (go_at_call 35; refine (HRR.out _ _ _ _ _ (kr _ _ hS.ro.1.1) hS.ro.1.2).mono ?_; rintro r_ w_ ⟨_, rfl, rfl, hb_⟩; replace hS := hS.ext hb_; clear hb_))
    refine BQ [.i (.agg #[ua]), .i (.int .u64 (N : Nat)), .s (fun v w => Aa w (fun _ => True) v N) fun v w w' h hb => h.ext hb, .b true, .b true, .n (n : Nat), .n (n : Nat), .b true, .b true, .b true, .i (.bool b), .n (n : Nat), .i (.slice As q cs), .n (q : Nat), .i (.bool b), .b true, .b true, .b true] ⟨uR (h := fun w hW hN => (hS.ext hW).box 0 rfl), uM, ?_, ?_, uM, uM, uM, uB (h := fun w hW hN => EF (by simp)), uP, uM, uM, uM, uM, ?_, uB (h := fun w hW hN => EF (by rw [HBQ.out]; exact decide_eq_decide.2 (by omega))), uB (h := fun w hW hN => by cases b <;> rfl), uP, uA, trivial⟩ ?_
    ·refine uT fun b__ w hW hE K hK => ?_
     have e59 := hE 59
     exact Ai rfl (by kernel_rfl) (by simp only [List.map_cons, List.map_nil, e59]) (FJ N HN.out _) fun v w' h hb => hK v w' (h.imp fun _ _ _ => trivial) hb
    ·refine uT fun b__ w hW hE K hK => ?_
     have e58 := hE 58
     have e60 := hE 60
     exact Ai rfl (by kernel_rfl) (by simp only [List.map_cons, List.map_nil, e58]) (EM _ _ N N _ _ _ (hS.ext hW).ro.2 e60) fun v w' h hb => hK v w' (h.trans (by simp)) hb
    ·refine uT fun b__ w hW hE K hK => ?_
     have e70 := hE 70
     exact opw_lenS rfl e70 Tryz.underlying74 (hK _ _ rfl (Below.refl _ _))
    ·intro vs wz hW hT
     obtain ⟨e58, e59, e60, e61, e62, e63, e64, e65, e66, e67, e68, e69, e70, e71, e72, e73, e74, e4, -⟩ := hT
     have bx : (fun _ : Nat => True) 0 := trivial
     simp only [At, Act.put, zz, ze]
     replace hS := hS.ext hW
     go_wp2_with fail
     go_ret
     first | exact Az.mk rfl hS.below | exact Az.mk e4 hS.below
end
section
open Go.RowKit Go.ChangeShapes Go.WideShapes
section
variable {H : Type} {enc : TypeId × Value -> H} {P : Program} {w : World} {base : Nat} {sp : Nat -> Bool} {held : Bool}
theorem sl_of_trod {t e : TypeId} {size fuel : Nat} {cs : List Value} {x : DataW H × List MemPlace} (ht : P.underlying t = some (.slice e)) (hc : P.cellsOf e = size) (hsz : 0 < size) (h : DataW.trod enc P w base sp held fuel t cs = some x) :
  ∃ v n xs, cs = [v] /\ Sl w (fun _ => True) size v n xs /\ ∀ k, k < n -> ∃ f' y, DataW.trod enc P w base sp held f' e ((xs.drop (k * size)).take size) = some y := by
 rcases DataW.trod_slice ht h with ⟨rfl, _⟩ | ⟨a, len, cap, elems, rest, n, _, rfl, _, hb, hl, hm, hlen, hel, _⟩
 ·exact ⟨_, 0, [], rfl, ⟨by simp, none, 0, rfl, Nat.le_refl _, Nat.zero_le _, fun h => by omega⟩, fun k hk => by omega⟩
 ·rw [hc] at hel
  have each : ∀ k, k < len -> ∃ ck y, w.cells? base (a.add (k * size)) size = some ck /\ DataW.trod enc P w base sp held n e ck = some y := by
   intro k hk
   have h1 := hel k hk
   rw [List.getElem?_eq_getElem (by omega)] at h1
   obtain ⟨ck, h2, h3⟩ := Option.bind_eq_some_iff.1 h1
   exact ⟨ck, _, h2, h3⟩
  have hadd : ∀ i j, (a.add i).add j = a.add (i + j) := by
   intro i j
   unfold Addr.add
   by_cases h1 : i = 0 <;> by_cases h2 : j = 0 <;> simp [h1, h2, Nat.add_assoc]
  have cell : ∀ j, j < len * size -> ∃ x, w.cell? (a.add j) = some x := by
   intro j hj
   have hk : j / size < len := (Nat.div_lt_iff_lt_mul hsz).2 hj
   obtain ⟨ck, y, h1, h2⟩ := each _ hk
   obtain ⟨_, h3, h4⟩ := World.cells?_some h1
   have h5 := h4 (j % size) (Nat.mod_lt _ hsz)
   rw [hadd, Nat.mul_comm, Nat.div_add_mod] at h5
   rw [h5, List.getElem?_eq_getElem (by rw [h3]; exact Nat.mod_lt _ hsz)]
   exact ⟨_, rfl⟩
  refine ⟨.slice (some a) len cap, len, (List.range (len * size)).map fun j => (w.cell? (a.add j)).getD undef, rfl, ⟨by simp, some a, cap, rfl, hl, hm, fun h0 => ?_⟩, fun k hk => ?_⟩
  ·obtain ⟨x0, hx0⟩ := cell 0 (Nat.mul_pos h0 hsz)
   obtain ⟨b, o, s⟩ := a
   have hs : s = none := cell_spot hx0
   subst hs
   refine ⟨b, o, rfl, trivial, ?_, fun j x hx => ?_⟩
   ·have := hx0
    unfold World.cell? at this
    simp only [Addr.add] at this
    rcases Nat.lt_or_ge b w.heap.size with hlt | hge
    ·exact hlt
    ·simp [Array.getElem?_eq_none hge] at this
   ·simp only [List.getElem?_map, Option.map_eq_some_iff] at hx
    obtain ⟨j', hj', rfl⟩ := hx
    have hjl := (List.getElem?_eq_some_iff.1 hj').1
    rw [List.getElem?_range (by simpa using hjl)] at hj'
    obtain rfl := Option.some.inj hj'
    obtain ⟨y, hy⟩ := cell j (by simpa using hjl)
    rw [hy]
    have e : (⟨b, o, none⟩ : Addr).add j = ⟨b, o + j, none⟩ := by
     unfold Addr.add; split <;> simp [*]
    rw [e] at hy
    exact hy
  ·obtain ⟨ck, y, h1, h2⟩ := each k hk
   obtain ⟨_, h3, h4⟩ := World.cells?_some h1
   refine ⟨n, y, ?_⟩
   rw [<- h2]
   congr 1
   have hle : k * size + size <= len * size := by
    rw [<- Nat.succ_mul]; exact Nat.mul_le_mul_right _ hk
   apply List.ext_getElem?
   intro i
   rcases Nat.lt_or_ge i size with hi | hi
   ·rw [List.getElem?_take_of_lt hi, List.getElem?_drop, List.getElem?_map, List.getElem?_range (by omega)]
    have h5 := h4 i hi
    rw [hadd] at h5
    simp only [Option.map_some]
    rw [h5, List.getElem?_eq_getElem (by omega)]
    simp
   ·rw [List.getElem?_eq_none (by simp; omega), List.getElem?_eq_none (by omega)]
end
theorem u8_nat {n : Int} (h : (Lit.int .u8 n).wf = true) : ∃ m : Nat, n = (m : Int) /\ m < 256 := by
 have := bounds_u8 h
 exact ⟨n.toNat, by omega, by omega⟩
end
section
open Go.ChangeShapes Go.WideShapes Go.ChangeAt Go.RowKit
set_option maxRecDepth 20000 in
theorem It {H : Type} {enc : TypeId × Value -> H} {W : World} {r : Reach} {b0 base : Nat} {sp : Nat -> Bool} {held : Bool} {v : Value} {d : DataW H} {p : List MemPlace} (hv : Value.okWide Tryz.prog W r b0 22 v) (h : DataW.Trod enc Tryz.prog W base sp held 22 v d p) :
  ∃ l : List Nat, (∀ x ∈ l, x < 256) /\ Sl W (fun _ => True) 1 v l.length (u8s l) := by
 obtain ⟨a0, len0, cap0, rfl⟩ := okWide_slice Tryz.underlying22 hv
 obtain ⟨fuel, hf⟩ := h
 obtain ⟨v, n, xs, e, hs, he⟩ := sl_of_trod Tryz.underlying22 (size := 1) (by kernel_rfl) (by decide) hf
 have hl := hs.1
 have : ∃ zs : List Nat, (∀ x ∈ zs, x < 256) /\ xs = u8s zs := by
  have : ∀ v ∈ xs, ∃ z : Nat, z < 256 /\ v = .int .u8 (z : Nat) := by
   intro v hv
   obtain ⟨k, hk, hkv⟩ := List.mem_iff_getElem.1 hv
   obtain ⟨f', y, hy⟩ := he k (by omega)
   obtain ⟨z, hz, _, hw⟩ := DataW.trod_int Tryz.underlying5 hy
   obtain ⟨m, rfl, hm⟩ := u8_nat hw
   have h0 := congrArg (·[0]?) hz
   simp only [Nat.mul_one, List.getElem?_take_of_lt Nat.zero_lt_one, List.getElem?_drop, Nat.add_zero] at h0
   rw [List.getElem?_eq_getElem hk, hkv] at h0
   exact ⟨m, hm, by simpa using h0⟩
  clear hs he hl
  induction xs with
  | nil => exact ⟨[], fun x hx => by simp at hx, rfl⟩
  | cons a r ih =>
   obtain ⟨zs, hzs, rfl⟩ := ih fun v hv => this v (List.mem_cons_of_mem _ hv)
   obtain ⟨z, hz, rfl⟩ := this a List.mem_cons_self
   exact ⟨z :: zs, fun x hx => by rcases List.mem_cons.1 hx with rfl | hx; exact hz; exact hzs x hx, rfl⟩
 obtain ⟨zs, hzs, rfl⟩ := this
 have hz : zs.length = n := by simpa [u8s] using hl
 obtain rfl : v = .slice a0 len0 cap0 := by simpa [Value.cells] using e.symm
 exact ⟨zs, hzs, hz ▸ hs⟩
end
section
open Go.RowKit Go.ChangeShapes Go.WideShapes
theorem boxF_of_reads {w : World} {n : String} {g : Nat} {t e : TypeId} {m : Nat} {k : IntKind} {zs : List Int} (hg : Tryz.prog.globalNamed n = some g) (hty : (Tryz.prog.globals[g]?).map (·.type) = some t)
  (ht : Tryz.prog.underlying t = some (.array m e)) (he : Tryz.prog.underlying e = some (.int k)) (hce : Tryz.prog.cellsOf e = 1) (hct : Tryz.prog.cellsOf t = m) (h : Lib.VarReads Tryz.prog w n (Lib.tabData k zs)) :
  ∃ t, BoxF w g t (zs.map fun z => Value.int k z).toArray := by
 obtain ⟨g', t', cs, fuel, p, hg', hty', hvar, hd⟩ := h
 obtain rfl := Option.some.inj (hg.symm.trans hg')
 obtain rfl := Option.some.inj (hty.symm.trans hty')
 have hcs := Lib.cells_of_tab ht he hce hct hd
 simp only [World.var?, hg, Option.bind_some] at hvar
 split at hvar
 ·rename_i cs' t'' f heq
  obtain rfl := Option.some.inj hvar
  refine ⟨(t'', f), ?_⟩
  rw [<- hcs]
  exact heq
 ·cases hvar
end
section
open Go.RowKit Go.ChangeShapes Go.WideShapes
theorem dtab_of_reads {w : World} (h1 : Lib.VarReads Tryz.prog w "math/bits.deBruijn64tab" Rows.laid_math_bits_deBruijn64tab) : B7 w := by
 have e1 : (Rows.laid_math_bits_deBruijn64tab : DataW Unit) = Lib.tabData .u8 (dbL.map fun x : Nat => (x : Int)) := by kernel_rfl
 rw [e1] at h1
 obtain ⟨t, b1⟩ := boxF_of_reads (g := 0) (by kernel_rfl) (t := 225) (by kernel_rfl) Tryz.underlying225 Tryz.underlying5 (by kernel_rfl) (by kernel_rfl) h1
 have e : (List.map (fun z => Value.int .u8 z) (dbL.map fun x : Nat => (x : Int))) = u8s dbL := by simp [u8s]
 rw [e] at b1
 intro q hq
 rw [b1.cell, List.getElem?_toArray]
 exact u8s_at _ _ hq
end
section
open Go.ChangeShapes Go.WideShapes Go.ChangeAt Go.RowKit
theorem H3 (W : World) (h : laidMetH Tryz.prog Rows.schemeRunsRow.laid W) : B7 W := by
 have h' : laidMetH Tryz.prog [("math/bits.deBruijn64tab", Rows.laid_math_bits_deBruijn64tab)] W := h
 rw [MakeChecks.laidMetH_plain _ _ _ (by kernel_rfl)] at h'
 exact dtab_of_reads (Lib.laidMet.reads h' (.head _))
noncomputable def schrStart (os : Os) : World := World.laidAll Tryz.prog os Rows.schemeRunsRow.laid
theorem Hu (os : Os) (args : Array Value) : laidMetH Tryz.prog Rows.schemeRunsRow.laid ((schrStart os).forCall (fun _ _ => 0) ⟨#[], args, []⟩).memory := by
 rw [MakeChecks.laidMetH_plain _ _ _ (by kernel_rfl)]
 exact laidMet_laidAll _ (by kernel_rfl) (by kernel_rfl)
theorem schr_own : ownKnob Tryz.prog.godebug = none := by kernel_rfl
theorem Fq : laidOutB Tryz.prog = true := by kernel_rfl
set_option maxRecDepth 100000 in
theorem schr_lifted (os : Os) (started : os.Started) (H : Type) (enc : TypeId × Value -> H) :
  ReturnsInHanded {} Tryz.checked os 6 .any (fun w args => (Rows.schemeRunsSpec.pre enc Tryz.prog Tryz.f6 [] false w args /\ laidMetH Tryz.prog Rows.schemeRunsRow.laid w) /\ sizedMet enc Tryz.prog Tryz.f6 (OpenSpec.ofChange Rows.schemeRunsSpec) false w args)
   (Rows.schemeRunsSpec.post enc Tryz.prog Tryz.f6 false true false false) := by
 refine returnsInHanded_of_change_and (C := Tryz.checked) (X := fun w _ => laidMetH Tryz.prog Rows.schemeRunsRow.laid w) (fun _ _ _ hh h => h.of_heap hh) schr_own started (by kernel_rfl) Tryz.func6
  (ChangeSpec.witness_shaped (enc := enc) (C := Tryz.checked) (os := os) (X := fun w _ => laidMetH Tryz.prog Rows.schemeRunsRow.laid w) false (schrStart os) #[.slice none 0 0, .slice none 0 0] 8 (World.laidAll_os _ _ _) (World.shaped_of_ZipB (by kernel_rfl) (by kernel_rfl)) (by kernel_rfl) (by kernel_rfl) (by kernel_rfl) (Hu os _)) ?_
 intro W base args ds gs before hval0 hW _ _ hL _
 have hval : ∀ (j : Nat) t v, Tryz.f6.params[j]? = some t -> args[j]? = some v -> Value.okWide Tryz.prog W .any base t v := hval0
 have hW' := hW
 obtain ⟨p, q, hA0, hV, rfl, hfz, hnd⟩ := hW
 have hA : DataW.TrodAll enc Tryz.prog W 0 (fun _ => true) true Tryz.f6.params.toList args.toList ds p := hA0
 rw [Tryz.params6] at hA hval
 obtain ⟨v0, v1, d0, d1, p0, p1, rfl, rfl, rfl, h0, h1⟩ := trodAll_two hA
 obtain ⟨rfl, rfl⟩ := trodVars_none hV
 obtain ⟨l, hl, hs⟩ := It (hval 0 _ v0 rfl rfl) h0
 obtain ⟨m, hm, hs2⟩ := It (hval 1 _ v1 rfl rfl) h1
 have hT := H3 W hL
 have lt : ∀ z ∈ p0 ++ p1, z.block < W.heap.size := fun z hz => by simpa using hW'.lt z (by simpa using hz)
 refine (lruns31_any v0 v1 l m W _ _ hl hm hs hs2 hT).mono fun E W' he => ?_
 obtain ⟨r, rfl, rfl, hb⟩ := he
 refine ⟨_, rfl, _, _, _, [], p0 ++ p1, [], hW', ?_, ?_, ?_, hb.frame _, fun h => by cases h⟩
 ·exact trodAll_mk1 (shut_bool Tryz.underlying4 true)
 ·rw [Tryz.params6]
  exact trodAll_mk2 (Below.trod Fq (by kernel_rfl) (of_decide_eq_true (by kernel_rfl)) h0 hb fun z hz => lt z (List.mem_append_left _ hz)) (Below.trod Fq (by kernel_rfl) (of_decide_eq_true (by kernel_rfl)) h1 hb fun z hz => lt z (List.mem_append_right _ hz))
 ·rfl
theorem schr_holds : Rows.SchemeRunsSaid :=
 OpenClaim.holds_of_wide 6 Tryz.f6 rfl rfl rfl rfl rfl rfl rfl ⟨rfl, rfl, rfl, rfl, rfl⟩ rfl rfl rfl rfl rfl (by kernel_rfl) Tryz.func6 (by kernel_rfl)
  (of_decide_eq_true (by kernel_rfl)) (by unfold Func.isWrapper; rw [if_neg (by decide +kernel)]; exact ⟨rfl, rfl⟩)
  (fun os started H enc _ => schr_lifted os started H enc)
end
section
open Go
theorem schr_card : Rows.SchemeRunsCardSaid :=
 Claim7.holds_tied_plain_at .later [] [.data] true (true, "2f541ff0f2b150b94377df4c904e54df060b1cc989d168e7cdafb17d6c9b7b94") false
  schr_holds (fun _ h => by cases h) (by kernel_rfl) (fun _ h => by cases h) schemeRuns_row_tie rfl ⟨rfl, rfl⟩ (by kernel_rfl) rfl
  (fun f fn hf hfn => by
   obtain rfl : f = 6 := Option.some.inj ((show Tryz.prog.funcNamed "arbac/arbaclaw31.SchemeRuns" = some 6 by kernel_rfl).symm.trans hf) |>.symm
   obtain rfl : fn = Tryz.f6 := (Option.some.inj (Tryz.func6.symm.trans hfn)).symm
   exact ⟨by kernel_rfl, fun j t ht => by
    rw [Tryz.params6] at ht
    have h3 : t = 22 := by
     rcases j with _ | _ | j
     ·simp at ht; simp [<- ht]
     ·simp at ht; simp [<- ht]
     ·simp at ht
    rcases h3 with rfl
    ·exact (show Tryz.prog.wantsStandIn 22 = false by kernel_rfl)⟩)
  (by kernel_rfl)
end
end Go.Proofs.YtchjigffejhmfaaGreatDoor
namespace Go.Proofs.YtchjigffejhmfaaGreatDoor
#print axioms schr_card
end Go.Proofs.YtchjigffejhmfaaGreatDoor
