/-
  The card of SchemeSteps.
-/
import Derived.Deep.LoopGhost
import Derived.Test.YtchjigffejhmfaaGreatDoorRows
import Derived.ProofKit
import Derived.OpenShut
import Derived.Lib.LaidU8
import Derived.Lay
import Derived.MakeChecks
import Derived.LaidLaws
import Derived.Stop.Joined
import Derived.Test.YtchjigffejhmfaaGreatDoorCards
import Derived.Test.YtchjigffejhmfaaGreatDoorTie
import Derived.SevenTiedAt
import Derived.Test.YtchjigffejhmfaaGreatDoorScs4
namespace Go.Proofs.YtchjigffejhmfaaGreatDoor
section
open Go.RowKit
attribute [local go_sem ↓] Go.wp_at_zero Go.wp_at_succ
set_option maxRecDepth 20000
set_option exponentiation.threshold 5000
set_option maxHeartbeats 4000000 in
theorem Gj {w0 w : World} {F : List Ac} {K : (Nat -> Prop) -> World -> Prop} {v z : Value} {p : AM} {N : Nat} (k : Int) (hP : p.Ok) (hS : St w0 w F K) (kp : ∀ D w, K D w -> B0 w D v p) (ku : ∀ D w, K D w -> Aa w D z N) (kt : ∀ D w, K D w -> B3 w) :
  Calls Tryz.prog 31 #[v, z, .int .i64 k] w fun e w' => ∃ x, e = .returned (.tuple #[x, .bool (stepM p N k).isSome]) /\ St w0 w' F fun D w => K D w /\ Aa w D x ((stepM p N k).getD 0) := by
 obtain ⟨R, lk, st, rl, nl, gl⟩ := p
 obtain ⟨lp, s, rv, nv, gv, rfl, h1, h2, h3, h4, h5⟩ := kp _ _ hS.ro
 dsimp only at h1 h2 h3 h4 h5
 obtain ⟨la, rfl⟩ : ∃ la, lp = .pointer la := by
  cases lk with
  | none => exact ⟨none, h1⟩
  | some L => obtain ⟨q, o, rfl, -⟩ := h1; exact ⟨_, rfl⟩
 obtain ⟨Cs, ns, cs, rfl⟩ := h2.shape
 obtain ⟨Ar, cr, rfl, _, _⟩ := h3.shape
 obtain ⟨An, cn, rfl, _, _⟩ := h4.shape
 obtain ⟨Ag, cg, rfl, _, _⟩ := h5.shape
 obtain ⟨u, rfl⟩ : ∃ u, z = .agg #[u] := by
  obtain ⟨A, c, l, rfl, -⟩ := (ku _ _ hS.ro).parts
  exact ⟨_, rfl⟩
 obtain ⟨KC, kc, hS2⟩ : ∃ KC : (Nat -> Prop) -> World -> Prop, Hid (∀ D w, KC D w -> K D w /\ Gy w D (.pointer la) lk /\ Bq w D (.slice Ar rl.length cr) rl) /\ St w0 w F KC := ⟨_, Lib.hid fun D w h => ⟨h.1, h.2.1, h.2.2⟩, hS.add (D := DC F) (C2.and B7) ⟨h1, h3⟩ fun _ h _ => h⟩
 have KS := Lib.hid hS.stable
 clear hS h1 h2 h3 h4 h5
 have hS := hS2
 clear hS2
 have HP := Lib.hid hP
 have hrl : rl.length <= 100000 := hP.rules
 clear hP
 have HK := Lib.hid kp
 have HU := Lib.hid ku
 have HT := Lib.hid kt
 clear kp ku kt
 by_cases hk : 0 <= k /\ k < rl.length /\ lk.isSome = true
 ·obtain ⟨hk0, hk1, hk2⟩ := hk
  cases lk with
  | none => cases hk2
  | some L =>
   clear hk2
   obtain ⟨j, rfl⟩ : ∃ j : Nat, k = (j : Int) := ⟨k.toNat, by omega⟩
   have hlj : j < rl.length := by omega
   clear hk0 hk1
   obtain ⟨q, o, e, -⟩ := id (kc.out _ _ hS.ro).2.1
   injection e with e
   subst e
   obtain ⟨b, o2, _, _, rfl, -⟩ := (kc.out _ _ hS.ro).2.2.at_ hlj
   rw [Ei (p := ⟨R, some L, st, rl, nl, gl⟩) (N := N) rfl hlj]
   dsimp only
   obtain ⟨z, hz⟩ : ∃ z, rl.getD j Bc = z := ⟨_, rfl⟩
   rw [hz]
   have HZ := Lib.hid hz
   clear hz
   obtain ⟨zr, ry, rn, rt, ro⟩ := z
   obtain ⟨V, hV⟩ : ∃ V, V = if stepB ⟨R, some L, st, rl, nl, gl⟩ N ⟨zr, ry, rn, rt, ro⟩ = true then some (Ea N ⟨zr, ry, rn, rt, ro⟩) else none := ⟨_, rfl⟩
   rw [<- hV]
   have HV := Lib.hid hV
   clear hV
   cases zr
   ·go_enter Tryz.func31, Tryz.ntmps31
    go_wp2_with (first | ((with_reducible refine qA 3 ?_); refine Ao hS rfl _ _ rfl (.agg #[.int .i64 R, .pointer (some ⟨q, 0, none⟩), .slice Cs ns cs, .slice (some ⟨b, o2, none⟩) rl.length cr, .slice An nl.length cn, .slice Ag gl.length cg]) _ rfl rfl ?_; clear hS; intro g3 w_ hS; (try simp only [Act.put, Act.eval, zz, Value.cells] at hS)) | ((with_reducible refine qA 4 ?_); refine Ao hS rfl _ _ rfl (.agg #[u]) _ rfl rfl ?_; clear hS; intro g4 w_ hS; (try simp only [Act.put, Act.eval, zz, Value.cells] at hS)) | ((with_reducible refine qA 6 ?_); refine qa hS #[.slice none 0 0] ?_; clear hS; intro g6 w_ hS) | ((with_reducible refine qA 12 ?_); refine BigFrame.wpList_want rfl fun _ hK => AB (v := .bool false) rfl rfl rfl rfl rfl (hK _ _ ?_)) | ((with_reducible refine qB ?_); refine qc ?_ ?_ <;> intro h_ <;> go_prune) | ((with_reducible refine qA 29 ?_); obtain ⟨b', o', y, n, e', _, _, c0, c1, c2, c3, c4, hy, hn⟩ := (kc.out _ _ hS.ro).2.2.at_ hlj; injection e' with e'; injection e' with e1 e2; subst e1 e2; rw [HZ.out] at c0 c3 c4 hy hn; dsimp only at c0 c3 c4 hy hn; obtain ⟨Ay, my, cy, rfl⟩ := hy.shape; obtain ⟨Am, mn, cm, rfl⟩ := hn.shape; replace hS := hS.add (D := DC _) (Ab.and Ab) ⟨hy, hn⟩ (fun _ h _ => h); refine BigFrame.wpList_want rfl fun _ hK => AQ (cs := [.bool false, .slice Ay my cy, .slice Am mn cm, .int .i64 rt, .int .i64 ro]) rfl rfl (rng5 c0 c1 c2 c3 c4) Tryz.underlying84 rfl (by kernel_rfl) (hK _ _ ?_)) | ((with_reducible refine qA 8 ?_); refine qa hS #[.bool false, .slice none 0 0, .slice none 0 0, .int .i64 0, .int .i64 0] ?_; clear hS; intro g8 w_ hS) | ((with_reducible refine qA 9 ?_); refine qa hS #[.slice none 0 0] ?_; clear hS; intro g9 w_ hS) | ((with_reducible refine qK ?_); refine qL hS Tryz.underlying39 ?_) | ((with_reducible refine qM ?_); (first | refine qS hS ?_ | refine qT hS ?_); clear hS; intro w_ hS; (try simp only [Act.put, Act.eval, zz, Value.cells] at hS)) | (go_at_call 75; refine (D5 _ N rt _ _ (HU.out _ _ (kc.out _ _ hS.ro.1).1)).mono ?_; rintro r_ w_ ⟨_, rfl, hM, hb_⟩; obtain ⟨A9, n9, l9, rfl, -⟩ := hM.parts; replace hS := hS.ret2 hb_ Ab hM; clear hb_ hM) | (go_at_call 69; refine (Dj _ N rt _ _ (HU.out _ _ (kc.out _ _ hS.ro.1.1).1)).mono ?_; rintro r_ w_ ⟨_, rfl, hM, hb_⟩; obtain ⟨A10, n10, l10, rfl, -⟩ := hM.parts; replace hS := hS.ret2 hb_ Ab hM; clear hb_ hM) | ((with_reducible refine qK ?_); refine qC hS ?_))
    simp only [Act.put, List.setIfInBounds_toArray, List.set_cons_zero, List.set_cons_succ, List.getElem_toArray, List.getElem_cons_zero]
    have HH := Lib.hid (HP.out.links L rfl).1
    obtain ⟨K7, x9, k7, hS2⟩ : ∃ (K7 : (Nat -> Prop) -> World -> Prop) (x9 : Value), Hid (∀ D w, K7 D w -> K D w /\ Gy w D (.pointer (some ⟨q, 0, none⟩)) (some L) /\ Aa w D (.agg #[.slice Ay my cy]) ry /\ Aa w D (.agg #[.slice Am mn cm]) rn /\ Aa w D (.agg #[x9]) (Ea N ⟨false, ry, rn, rt, ro⟩)) /\ St w0 w_ (.box g9 39 #[x9] :: .box g8 84 #[.bool false, .slice Ay my cy, .slice Am mn cm, .int .i64 rt, .int .i64 ro] :: .box g6 39 #[.slice none 0 0] :: .box g4 39 #[u] :: .box g3 43 #[.int .i64 R, .pointer (some ⟨q, 0, none⟩), .slice Cs ns cs, .slice (some ⟨b, o2, none⟩) rl.length cr, .slice An nl.length cn, .slice Ag gl.length cg] :: F) K7 := ⟨_, _, Lib.hid fun D w h => ⟨(kc.out _ _ h.1.1).1, (kc.out _ _ h.1.1).2.1, h.1.2.1, h.1.2.2, h.2⟩, hS⟩
    have hx9 : x9.oneCell' = true := by
     obtain ⟨A, c, l, e, -⟩ := (k7.out _ _ hS2.ro).2.2.2.2.parts
     injection e with e; injection e with e; injection e with e
     subst e; rfl
    clear hS
    have hS := hS2
    clear hS2
    obtain ⟨rb, hrb⟩ : ∃ rb, rb = false := ⟨_, rfl⟩
    have HRB := Lib.hid hrb
    rw [<- hrb] at k7
    clear hrb
    obtain ⟨hb, hhb⟩ : ∃ hb, BR N rt = hb := ⟨_, rfl⟩
    obtain ⟨ho, hho⟩ : ∃ ho, AW (ry, rn) (closM L N) = ho := ⟨_, rfl⟩
    obtain ⟨M, hM⟩ : ∃ M, Ea N ⟨rb, ry, rn, rt, ro⟩ = M := ⟨_, rfl⟩
    obtain ⟨gd, hgd⟩ : ∃ gd, goodB ⟨R, some L, st, rl, nl, gl⟩ M = gd := ⟨_, rfl⟩
    have HSB : Hid (stepB ⟨R, some L, st, rl, nl, gl⟩ N ⟨rb, ry, rn, rt, ro⟩ = !(((hb != rb) || (!rb && !ho)) || !gd)) := Lib.hid (by rw [<- hhb, <- hho, <- hgd, <- hM]; rfl)
    have HHB := Lib.hid hhb
    have HHO := Lib.hid hho
    have HGD := Lib.hid hgd
    have HNM := Lib.hid hM
    rw [HNM.out] at k7
    have HVV : Hid (V = if (!(((hb != rb) || (!rb && !ho)) || !gd)) = true then some M else none) := Lib.hid (by rw [HV.out, <- HRB.out, HNM.out, HSB.out])
    clear hhb hho hgd hM HV HSB HNM
    refine Bw [.i (.agg #[u]), .q g8 3, .n rt, .i (.bool hb), .q g8 0, .i (.bool rb), .i (.bool (hb != rb)), .i (.bool (hb != rb)), .g (!(hb != rb)) (.pointer (some ⟨g8, 0, none⟩)), .g (!(hb != rb)) (.bool rb), .g (!(hb != rb)) (.bool (!rb)), .g (!(hb != rb)) (.bool (!rb)), .g ((!(hb != rb)) && (!rb)) (.pointer (some ⟨g8, 1, none⟩)), .g ((!(hb != rb)) && (!rb)) (.agg #[.slice Ay my cy, .slice Am mn cm]), .g ((!(hb != rb)) && (!rb)) (.pointer (some ⟨g3, 1, none⟩)), .g ((!(hb != rb)) && (!rb)) (.pointer (some ⟨q, 0, none⟩)), .g ((!(hb != rb)) && (!rb)) (.agg #[u]), (.s (fun v w => ((!(hb != rb)) && (!rb)) = true -> Aa w (fun _ => True) v (closM L N)) fun v w w' h hb hc => by replace h := h hc; exact h.ext hb), .g ((!(hb != rb)) && (!rb)) (.bool ho), .g ((!(hb != rb)) && (!rb)) (.bool (!ho)), .g (!(hb != rb)) (.bool ((!rb) && (!ho))), .i (.bool ((hb != rb) || ((!rb) && (!ho)))), .i (.bool ((hb != rb) || ((!rb) && (!ho)))), .g (!((hb != rb) || ((!rb) && (!ho)))) (.agg #[.int .i64 R, .pointer (some ⟨q, 0, none⟩), .slice Cs ns cs, .slice (some ⟨b, o2, none⟩) rl.length cr, .slice An nl.length cn, .slice Ag gl.length cg]), .g (!((hb != rb) || ((!rb) && (!ho)))) (.agg #[x9]), .g (!((hb != rb) || ((!rb) && (!ho)))) (.bool gd), .g (!((hb != rb) || ((!rb) && (!ho)))) (.bool (!gd)), .i (.bool (((hb != rb) || ((!rb) && (!ho))) || (!gd)))] ⟨uR (h := fun w hW hN => (hS.ext hW).box 3 rfl), uF, uC (h := fun w hW hN => (hS.ext hW).shut 1 rfl 3 rfl), ?_, uF, uC (h := fun w hW hN => by rw [HRB.out]; exact (hS.ext hW).shut 1 rfl 0 rfl), uB (h := fun w hW hN => by cases hb <;> cases rb <;> rfl), uM, (by cases hb <;> cases rb <;> first | exact uY | exact uX | exact uF), (by cases hb <;> cases rb <;> first | exact uY | exact uX | exact uC (h := fun w hW hN => by first | (rw [HRB.out]; exact (hS.ext hW).shut 1 rfl 0 rfl) | (rw [<- HRB.out]; exact (hS.ext hW).shut 1 rfl 0 rfl) | exact (hS.ext hW).shut 1 rfl 0 rfl)), (by cases hb <;> cases rb <;> first | exact uY | exact uX | exact uU), (by cases hb <;> cases rb <;> first | exact uY | exact uX | exact uM), (by cases hb <;> cases rb <;> first | exact uY | exact uX | exact uF), (by cases hb <;> cases rb <;> first | exact uY | exact uX | exact uD (h := fun w hW hN => rng2 ((hS.ext hW).shut 1 rfl 1 rfl) ((hS.ext hW).shut 1 rfl 2 rfl))), (by cases hb <;> cases rb <;> first | exact uY | exact uX | exact uF), (by cases hb <;> cases rb <;> first | exact uY | exact uX | exact uC (h := fun w hW hN => (hS.ext hW).shut 4 rfl 1 rfl)), (by cases hb <;> cases rb <;> first | exact uY | exact uX | exact uR (h := fun w hW hN => (hS.ext hW).box 3 rfl)), ?_, ?_, (by cases hb <;> cases rb <;> first | exact uY | exact uX | exact uU), (by cases hb <;> cases rb <;> first | exact uY | exact uX | exact uP), (by cases hb <;> cases rb <;> exact uP), uM, (by cases hb <;> cases rb <;> cases ho <;> first | exact uY | exact uX | exact uR (h := fun w hW hN => (hS.ext hW).box 4 rfl)), (by cases hb <;> cases rb <;> cases ho <;> first | exact uY | exact uX | exact uR (h := fun w hW hN => (hS.ext hW).box 0 rfl)), ?_, (by cases hb <;> cases rb <;> cases ho <;> first | exact uY | exact uX | exact uU), (by cases hb <;> cases rb <;> cases ho <;> exact uP), trivial⟩ ?_
    ·refine uT fun b__ w hW hE K hK => ?_
     have e40 := hE 40
     have e42 := hE 42
     exact Af rfl (by kernel_rfl) (by simp only [List.map_cons, List.map_nil, e40, e42]) (CD _ N rt w _ (HU.out _ _ (k7.out _ _ (hS.ext hW).ro).1)) fun v w' h hb_ => hK v w' (h.trans (by rw [HHB.out])) hb_
    ·cases hb <;> cases rb <;> first | exact uY | exact uX | (refine uT fun b__ w hW hE K hK => ?_; have e55 : b__.eval (.tmp 55) = .pointer (some ⟨q, 0, none⟩) := hE 55; have e56 : b__.eval (.tmp 56) = .agg #[u] := hE 56; (exact Af rfl (by kernel_rfl) (by simp only [List.map_cons, List.map_nil, e55, e56]) (ER (show IsH _ _ _ L from (k7.out _ _ (hS.ext hW).ro).2.1) (HT.out _ _ (k7.out _ _ (hS.ext hW).ro).1) HH.out (HU.out _ _ (k7.out _ _ (hS.ext hW).ro).1)) fun v w' h hb => hK v w' (fun _ => h.imp fun _ _ _ => trivial) hb))
    ·cases hb <;> cases rb <;> first | exact uY | exact uX | (refine uT fun b__ w hW hE K hK => ?_; have e53 : b__.eval (.tmp 53) = .agg #[.slice Ay my cy, .slice Am mn cm] := hE 53; have e57 := hE 57; have e57 := e57 rfl; (exact Af rfl (by kernel_rfl) (by simp only [List.map_cons, List.map_nil, e53]) (Gu (z := (ry, rn)) ⟨_, _, rfl, (k7.out _ _ (hS.ext hW).ro).2.2.1, (k7.out _ _ (hS.ext hW).ro).2.2.2.1⟩ e57) fun v w' h hb => hK v w' (h.trans (by rw [HHO.out]; rfl)) hb))
    ·cases hb <;> cases rb <;> cases ho <;> first | exact uY | exact uX | (refine uT fun b__ w hW hE K hK => ?_; have e63 : b__.eval (.tmp 63) = .agg #[.int .i64 R, .pointer (some ⟨q, 0, none⟩), .slice Cs ns cs, .slice (some ⟨b, o2, none⟩) rl.length cr, .slice An nl.length cn, .slice Ag gl.length cg] := hE 63; have e64 : b__.eval (.tmp 64) = .agg #[x9] := hE 64; (exact Af rfl (by kernel_rfl) (by simp only [List.map_cons, List.map_nil, e63, e64]) (Ep (HK.out _ _ (k7.out _ _ (hS.ext hW).ro).1) HP.out (HT.out _ _ (k7.out _ _ (hS.ext hW).ro).1) (k7.out _ _ (hS.ext hW).ro).2.2.2.2) fun v w' h hb => hK v w' (h.trans (by rw [HGD.out]; rfl)) hb))
    ·intro vs wz hW hT
     obtain ⟨e40, e41, e42, e43, e44, e45, e46, e47, -, -, -, -, -, -, -, -, -, -, -, -, -, e61, e62, -, -, -, -, e67, -⟩ := hT
     have bx : (fun _ : Nat => True) 0 := trivial
     simp only [Ak, Act.put, zz, ze]
     rw [e67]
     replace hS := hS.ext hW
     clear hW e67
     obtain ⟨E, hE⟩ : ∃ E : Bool, (((hb != rb) || (!rb && !ho)) || !gd) = E := ⟨_, rfl⟩
     rw [hE] at HVV ⊢
     clear hE HHB HHO HGD
     cases E
     ·go_wp2_with (first
       | ((with_reducible refine qK ?_); refine qL hS Tryz.underlying39 ?_)
       | ((with_reducible refine qm 39 ?_); refine Ej hS 2 rfl _ _ _ rfl _ _ rfl rfl _ _ rfl (by kernel_rfl) (by kernel_rfl) (by simpa using hx9) ?_; clear hS; intro w_ hS; (try simp only [Act.put, Act.eval, zz, Value.cells] at hS)))
      refine Cr Tryz.results31 rfl (hS.box 2 rfl) Tryz.underlying39 rfl (by kernel_rfl) rfl rfl ?_
      rw [show V = some M from HVV.out]
      exact ⟨_, rfl, (hS.sub (List.sublist_append_right [_, _, _, _, _] F)).mono (KS.out.and Ab) fun D w h => ⟨(k7.out _ _ h).1, (k7.out _ _ h).2.2.2.2⟩⟩
     ·go_wp2_with (first
       | ((with_reducible refine qA 68 ?_); refine Av rfl _ _ rfl #[.slice none 0 0] (by kernel_rfl) ?_; (try simp only [Act.put, List.setIfInBounds_toArray, List.set_cons_zero, List.set_cons_succ]))
       | ((with_reducible refine qM ?_); (first | refine qS hS ?_ | refine qT hS ?_); clear hS; intro w_ hS; (try simp only [Act.put, Act.eval, zz, Value.cells] at hS)))
      refine Cr Tryz.results31 rfl (hS.box 2 rfl) Tryz.underlying39 rfl (by kernel_rfl) rfl rfl ?_
      rw [show V = none from HVV.out]
      exact ⟨_, rfl, (hS.sub (List.sublist_append_right [_, _, _, _, _] F)).mono (KS.out.and Ab) fun D w h => ⟨(k7.out _ _ h).1, Aa.empty⟩⟩
   ·go_enter Tryz.func31, Tryz.ntmps31
    go_wp2_with (first | ((with_reducible refine qA 3 ?_); refine Ao hS rfl _ _ rfl (.agg #[.int .i64 R, .pointer (some ⟨q, 0, none⟩), .slice Cs ns cs, .slice (some ⟨b, o2, none⟩) rl.length cr, .slice An nl.length cn, .slice Ag gl.length cg]) _ rfl rfl ?_; clear hS; intro g3 w_ hS; (try simp only [Act.put, Act.eval, zz, Value.cells] at hS)) | ((with_reducible refine qA 4 ?_); refine Ao hS rfl _ _ rfl (.agg #[u]) _ rfl rfl ?_; clear hS; intro g4 w_ hS; (try simp only [Act.put, Act.eval, zz, Value.cells] at hS)) | ((with_reducible refine qA 6 ?_); refine qa hS #[.slice none 0 0] ?_; clear hS; intro g6 w_ hS) | ((with_reducible refine qA 12 ?_); refine BigFrame.wpList_want rfl fun _ hK => AB (v := .bool false) rfl rfl rfl rfl rfl (hK _ _ ?_)) | ((with_reducible refine qB ?_); refine qc ?_ ?_ <;> intro h_ <;> go_prune) | ((with_reducible refine qA 29 ?_); obtain ⟨b', o', y, n, e', _, _, c0, c1, c2, c3, c4, hy, hn⟩ := (kc.out _ _ hS.ro).2.2.at_ hlj; injection e' with e'; injection e' with e1 e2; subst e1 e2; rw [HZ.out] at c0 c3 c4 hy hn; dsimp only at c0 c3 c4 hy hn; obtain ⟨Ay, my, cy, rfl⟩ := hy.shape; obtain ⟨Am, mn, cm, rfl⟩ := hn.shape; replace hS := hS.add (D := DC _) (Ab.and Ab) ⟨hy, hn⟩ (fun _ h _ => h); refine BigFrame.wpList_want rfl fun _ hK => AQ (cs := [.bool true, .slice Ay my cy, .slice Am mn cm, .int .i64 rt, .int .i64 ro]) rfl rfl (rng5 c0 c1 c2 c3 c4) Tryz.underlying84 rfl (by kernel_rfl) (hK _ _ ?_)) | ((with_reducible refine qA 8 ?_); refine qa hS #[.bool false, .slice none 0 0, .slice none 0 0, .int .i64 0, .int .i64 0] ?_; clear hS; intro g8 w_ hS) | ((with_reducible refine qA 9 ?_); refine qa hS #[.slice none 0 0] ?_; clear hS; intro g9 w_ hS) | ((with_reducible refine qK ?_); refine qL hS Tryz.underlying39 ?_) | ((with_reducible refine qM ?_); (first | refine qS hS ?_ | refine qT hS ?_); clear hS; intro w_ hS; (try simp only [Act.put, Act.eval, zz, Value.cells] at hS)) | (go_at_call 75; refine (D5 _ N rt _ _ (HU.out _ _ (kc.out _ _ hS.ro.1).1)).mono ?_; rintro r_ w_ ⟨_, rfl, hM, hb_⟩; obtain ⟨A9, n9, l9, rfl, -⟩ := hM.parts; replace hS := hS.ret2 hb_ Ab hM; clear hb_ hM) | (go_at_call 69; refine (Dj _ N rt _ _ (HU.out _ _ (kc.out _ _ hS.ro.1.1).1)).mono ?_; rintro r_ w_ ⟨_, rfl, hM, hb_⟩; obtain ⟨A10, n10, l10, rfl, -⟩ := hM.parts; replace hS := hS.ret2 hb_ Ab hM; clear hb_ hM) | ((with_reducible refine qK ?_); refine qC hS ?_))
    simp only [Act.put, List.setIfInBounds_toArray, List.set_cons_zero, List.set_cons_succ, List.getElem_toArray, List.getElem_cons_zero]
    have HH := Lib.hid (HP.out.links L rfl).1
    obtain ⟨K7, x9, k7, hS2⟩ : ∃ (K7 : (Nat -> Prop) -> World -> Prop) (x9 : Value), Hid (∀ D w, K7 D w -> K D w /\ Gy w D (.pointer (some ⟨q, 0, none⟩)) (some L) /\ Aa w D (.agg #[.slice Ay my cy]) ry /\ Aa w D (.agg #[.slice Am mn cm]) rn /\ Aa w D (.agg #[x9]) (Ea N ⟨true, ry, rn, rt, ro⟩)) /\ St w0 w_ (.box g9 39 #[x9] :: .box g8 84 #[.bool true, .slice Ay my cy, .slice Am mn cm, .int .i64 rt, .int .i64 ro] :: .box g6 39 #[.slice none 0 0] :: .box g4 39 #[u] :: .box g3 43 #[.int .i64 R, .pointer (some ⟨q, 0, none⟩), .slice Cs ns cs, .slice (some ⟨b, o2, none⟩) rl.length cr, .slice An nl.length cn, .slice Ag gl.length cg] :: F) K7 := ⟨_, _, Lib.hid fun D w h => ⟨(kc.out _ _ h.1.1.1).1, (kc.out _ _ h.1.1.1).2.1, h.1.1.2.1, h.1.1.2.2, h.2⟩, hS⟩
    have hx9 : x9.oneCell' = true := by
     obtain ⟨A, c, l, e, -⟩ := (k7.out _ _ hS2.ro).2.2.2.2.parts
     injection e with e; injection e with e; injection e with e
     subst e; rfl
    clear hS
    have hS := hS2
    clear hS2
    obtain ⟨rb, hrb⟩ : ∃ rb, rb = true := ⟨_, rfl⟩
    have HRB := Lib.hid hrb
    rw [<- hrb] at k7
    clear hrb
    obtain ⟨hb, hhb⟩ : ∃ hb, BR N rt = hb := ⟨_, rfl⟩
    obtain ⟨ho, hho⟩ : ∃ ho, AW (ry, rn) (closM L N) = ho := ⟨_, rfl⟩
    obtain ⟨M, hM⟩ : ∃ M, Ea N ⟨rb, ry, rn, rt, ro⟩ = M := ⟨_, rfl⟩
    obtain ⟨gd, hgd⟩ : ∃ gd, goodB ⟨R, some L, st, rl, nl, gl⟩ M = gd := ⟨_, rfl⟩
    have HSB : Hid (stepB ⟨R, some L, st, rl, nl, gl⟩ N ⟨rb, ry, rn, rt, ro⟩ = !(((hb != rb) || (!rb && !ho)) || !gd)) := Lib.hid (by rw [<- hhb, <- hho, <- hgd, <- hM]; rfl)
    have HHB := Lib.hid hhb
    have HHO := Lib.hid hho
    have HGD := Lib.hid hgd
    have HNM := Lib.hid hM
    rw [HNM.out] at k7
    have HVV : Hid (V = if (!(((hb != rb) || (!rb && !ho)) || !gd)) = true then some M else none) := Lib.hid (by rw [HV.out, <- HRB.out, HNM.out, HSB.out])
    clear hhb hho hgd hM HV HSB HNM
    refine Bw [.i (.agg #[u]), .q g8 3, .n rt, .i (.bool hb), .q g8 0, .i (.bool rb), .i (.bool (hb != rb)), .i (.bool (hb != rb)), .g (!(hb != rb)) (.pointer (some ⟨g8, 0, none⟩)), .g (!(hb != rb)) (.bool rb), .g (!(hb != rb)) (.bool (!rb)), .g (!(hb != rb)) (.bool (!rb)), .g ((!(hb != rb)) && (!rb)) (.pointer (some ⟨g8, 1, none⟩)), .g ((!(hb != rb)) && (!rb)) (.agg #[.slice Ay my cy, .slice Am mn cm]), .g ((!(hb != rb)) && (!rb)) (.pointer (some ⟨g3, 1, none⟩)), .g ((!(hb != rb)) && (!rb)) (.pointer (some ⟨q, 0, none⟩)), .g ((!(hb != rb)) && (!rb)) (.agg #[u]), (.s (fun v w => ((!(hb != rb)) && (!rb)) = true -> Aa w (fun _ => True) v (closM L N)) fun v w w' h hb hc => by replace h := h hc; exact h.ext hb), .g ((!(hb != rb)) && (!rb)) (.bool ho), .g ((!(hb != rb)) && (!rb)) (.bool (!ho)), .g (!(hb != rb)) (.bool ((!rb) && (!ho))), .i (.bool ((hb != rb) || ((!rb) && (!ho)))), .i (.bool ((hb != rb) || ((!rb) && (!ho)))), .g (!((hb != rb) || ((!rb) && (!ho)))) (.agg #[.int .i64 R, .pointer (some ⟨q, 0, none⟩), .slice Cs ns cs, .slice (some ⟨b, o2, none⟩) rl.length cr, .slice An nl.length cn, .slice Ag gl.length cg]), .g (!((hb != rb) || ((!rb) && (!ho)))) (.agg #[x9]), .g (!((hb != rb) || ((!rb) && (!ho)))) (.bool gd), .g (!((hb != rb) || ((!rb) && (!ho)))) (.bool (!gd)), .i (.bool (((hb != rb) || ((!rb) && (!ho))) || (!gd)))] ⟨uR (h := fun w hW hN => (hS.ext hW).box 3 rfl), uF, uC (h := fun w hW hN => (hS.ext hW).shut 1 rfl 3 rfl), ?_, uF, uC (h := fun w hW hN => by rw [HRB.out]; exact (hS.ext hW).shut 1 rfl 0 rfl), uB (h := fun w hW hN => by cases hb <;> cases rb <;> rfl), uM, (by cases hb <;> cases rb <;> first | exact uY | exact uX | exact uF), (by cases hb <;> cases rb <;> first | exact uY | exact uX | exact uC (h := fun w hW hN => by first | (rw [HRB.out]; exact (hS.ext hW).shut 1 rfl 0 rfl) | (rw [<- HRB.out]; exact (hS.ext hW).shut 1 rfl 0 rfl) | exact (hS.ext hW).shut 1 rfl 0 rfl)), (by cases hb <;> cases rb <;> first | exact uY | exact uX | exact uU), (by cases hb <;> cases rb <;> first | exact uY | exact uX | exact uM), (by cases hb <;> cases rb <;> first | exact uY | exact uX | exact uF), (by cases hb <;> cases rb <;> first | exact uY | exact uX | exact uD (h := fun w hW hN => rng2 ((hS.ext hW).shut 1 rfl 1 rfl) ((hS.ext hW).shut 1 rfl 2 rfl))), (by cases hb <;> cases rb <;> first | exact uY | exact uX | exact uF), (by cases hb <;> cases rb <;> first | exact uY | exact uX | exact uC (h := fun w hW hN => (hS.ext hW).shut 4 rfl 1 rfl)), (by cases hb <;> cases rb <;> first | exact uY | exact uX | exact uR (h := fun w hW hN => (hS.ext hW).box 3 rfl)), ?_, ?_, (by cases hb <;> cases rb <;> first | exact uY | exact uX | exact uU), (by cases hb <;> cases rb <;> first | exact uY | exact uX | exact uP), (by cases hb <;> cases rb <;> exact uP), uM, (by cases hb <;> cases rb <;> cases ho <;> first | exact uY | exact uX | exact uR (h := fun w hW hN => (hS.ext hW).box 4 rfl)), (by cases hb <;> cases rb <;> cases ho <;> first | exact uY | exact uX | exact uR (h := fun w hW hN => (hS.ext hW).box 0 rfl)), ?_, (by cases hb <;> cases rb <;> cases ho <;> first | exact uY | exact uX | exact uU), (by cases hb <;> cases rb <;> cases ho <;> exact uP), trivial⟩ ?_
    ·refine uT fun b__ w hW hE K hK => ?_
     have e40 := hE 40
     have e42 := hE 42
     exact Af rfl (by kernel_rfl) (by simp only [List.map_cons, List.map_nil, e40, e42]) (CD _ N rt w _ (HU.out _ _ (k7.out _ _ (hS.ext hW).ro).1)) fun v w' h hb_ => hK v w' (h.trans (by rw [HHB.out])) hb_
    ·cases hb <;> cases rb <;> first | exact uY | exact uX | (refine uT fun b__ w hW hE K hK => ?_; have e55 : b__.eval (.tmp 55) = .pointer (some ⟨q, 0, none⟩) := hE 55; have e56 : b__.eval (.tmp 56) = .agg #[u] := hE 56; (exact Af rfl (by kernel_rfl) (by simp only [List.map_cons, List.map_nil, e55, e56]) (ER (show IsH _ _ _ L from (k7.out _ _ (hS.ext hW).ro).2.1) (HT.out _ _ (k7.out _ _ (hS.ext hW).ro).1) HH.out (HU.out _ _ (k7.out _ _ (hS.ext hW).ro).1)) fun v w' h hb => hK v w' (fun _ => h.imp fun _ _ _ => trivial) hb))
    ·cases hb <;> cases rb <;> first | exact uY | exact uX | (refine uT fun b__ w hW hE K hK => ?_; have e53 : b__.eval (.tmp 53) = .agg #[.slice Ay my cy, .slice Am mn cm] := hE 53; have e57 := hE 57; have e57 := e57 rfl; (exact Af rfl (by kernel_rfl) (by simp only [List.map_cons, List.map_nil, e53]) (Gu (z := (ry, rn)) ⟨_, _, rfl, (k7.out _ _ (hS.ext hW).ro).2.2.1, (k7.out _ _ (hS.ext hW).ro).2.2.2.1⟩ e57) fun v w' h hb => hK v w' (h.trans (by rw [HHO.out]; rfl)) hb))
    ·cases hb <;> cases rb <;> cases ho <;> first | exact uY | exact uX | (refine uT fun b__ w hW hE K hK => ?_; have e63 : b__.eval (.tmp 63) = .agg #[.int .i64 R, .pointer (some ⟨q, 0, none⟩), .slice Cs ns cs, .slice (some ⟨b, o2, none⟩) rl.length cr, .slice An nl.length cn, .slice Ag gl.length cg] := hE 63; have e64 : b__.eval (.tmp 64) = .agg #[x9] := hE 64; (exact Af rfl (by kernel_rfl) (by simp only [List.map_cons, List.map_nil, e63, e64]) (Ep (HK.out _ _ (k7.out _ _ (hS.ext hW).ro).1) HP.out (HT.out _ _ (k7.out _ _ (hS.ext hW).ro).1) (k7.out _ _ (hS.ext hW).ro).2.2.2.2) fun v w' h hb => hK v w' (h.trans (by rw [HGD.out]; rfl)) hb))
    ·intro vs wz hW hT
     obtain ⟨e40, e41, e42, e43, e44, e45, e46, e47, -, -, -, -, -, -, -, -, -, -, -, -, -, e61, e62, -, -, -, -, e67, -⟩ := hT
     have bx : (fun _ : Nat => True) 0 := trivial
     simp only [Ak, Act.put, zz, ze]
     rw [e67]
     replace hS := hS.ext hW
     clear hW e67
     obtain ⟨E, hE⟩ : ∃ E : Bool, (((hb != rb) || (!rb && !ho)) || !gd) = E := ⟨_, rfl⟩
     rw [hE] at HVV ⊢
     clear hE HHB HHO HGD
     cases E
     ·go_wp2_with (first
       | ((with_reducible refine qK ?_); refine qL hS Tryz.underlying39 ?_)
       | ((with_reducible refine qm 39 ?_); refine Ej hS 2 rfl _ _ _ rfl _ _ rfl rfl _ _ rfl (by kernel_rfl) (by kernel_rfl) (by simpa using hx9) ?_; clear hS; intro w_ hS; (try simp only [Act.put, Act.eval, zz, Value.cells] at hS)))
      refine Cr Tryz.results31 rfl (hS.box 2 rfl) Tryz.underlying39 rfl (by kernel_rfl) rfl rfl ?_
      rw [show V = some M from HVV.out]
      exact ⟨_, rfl, (hS.sub (List.sublist_append_right [_, _, _, _, _] F)).mono (KS.out.and Ab) fun D w h => ⟨(k7.out _ _ h).1, (k7.out _ _ h).2.2.2.2⟩⟩
     ·go_wp2_with (first
       | ((with_reducible refine qA 68 ?_); refine Av rfl _ _ rfl #[.slice none 0 0] (by kernel_rfl) ?_; (try simp only [Act.put, List.setIfInBounds_toArray, List.set_cons_zero, List.set_cons_succ]))
       | ((with_reducible refine qM ?_); (first | refine qS hS ?_ | refine qT hS ?_); clear hS; intro w_ hS; (try simp only [Act.put, Act.eval, zz, Value.cells] at hS)))
      refine Cr Tryz.results31 rfl (hS.box 2 rfl) Tryz.underlying39 rfl (by kernel_rfl) rfl rfl ?_
      rw [show V = none from HVV.out]
      exact ⟨_, rfl, (hS.sub (List.sublist_append_right [_, _, _, _, _] F)).mono (KS.out.and Ab) fun D w h => ⟨(k7.out _ _ h).1, Aa.empty⟩⟩
 ·rw [Fc (p := ⟨R, lk, st, rl, nl, gl⟩) hk]
  cases lk with
  | none =>
   obtain rfl : la = none := by have := (kc.out _ _ hS.ro).2.1; injection this
   go_enter Tryz.func31, Tryz.ntmps31
   go_wp2_with (first | ((with_reducible refine qA 3 ?_); refine Ao hS rfl _ _ rfl (.agg #[.int .i64 R, .pointer none, .slice Cs ns cs, .slice Ar rl.length cr, .slice An nl.length cn, .slice Ag gl.length cg]) _ rfl rfl ?_; clear hS; intro g3 w_ hS; (try simp only [Act.put, Act.eval, zz, Value.cells] at hS)) | ((with_reducible refine qA 4 ?_); refine Ao hS rfl _ _ rfl (.agg #[u]) _ rfl rfl ?_; clear hS; intro g4 w_ hS; (try simp only [Act.put, Act.eval, zz, Value.cells] at hS)) | ((with_reducible refine qA 6 ?_); refine qa hS #[.slice none 0 0] ?_; clear hS; intro g6 w_ hS) | ((with_reducible refine qA 12 ?_); refine BigFrame.wpList_want rfl fun _ hK => AB (v := .bool true) rfl rfl rfl rfl rfl (hK _ _ ?_)) | ((with_reducible refine qA 24 ?_); refine Av rfl _ _ rfl #[.slice none 0 0] (by kernel_rfl) ?_; (try simp only [Act.put, List.setIfInBounds_toArray, List.set_cons_zero, List.set_cons_succ])) | ((with_reducible refine qB ?_); refine qc ?_ ?_ <;> intro h_ <;> go_prune) | ((with_reducible refine qM ?_); (first | refine qS hS ?_ | refine qT hS ?_); clear hS; intro w_ hS; (try simp only [Act.put, Act.eval, zz, Value.cells] at hS)) | ((with_reducible refine qK ?_); refine qC hS ?_))
   refine Cr Tryz.results31 rfl (hS.box 0 rfl) Tryz.underlying39 rfl (by kernel_rfl) rfl rfl ?_; exact ⟨_, rfl, (hS.sub (List.sublist_append_right [_, _, _] F)).mono (KS.out.and Ab) fun D w h => ⟨(kc.out _ _ h).1, Aa.empty⟩⟩
  | some L =>
   obtain ⟨q, o, e, -⟩ := id (kc.out _ _ hS.ro).2.1
   injection e with e
   subst e
   have hk' : k < 0 \/ rl.length <= k := by
    rcases Int.lt_or_le k 0 with h | h
    ·exact .inl h
    ·exact .inr (by rcases Int.lt_or_le k rl.length with h2 | h2; exact absurd ⟨h, h2, rfl⟩ hk; exact h2)
   clear hk
   go_enter Tryz.func31, Tryz.ntmps31
   go_wp2_with (first | ((with_reducible refine qA 3 ?_); refine Ao hS rfl _ _ rfl (.agg #[.int .i64 R, .pointer (some ⟨q, 0, none⟩), .slice Cs ns cs, .slice Ar rl.length cr, .slice An nl.length cn, .slice Ag gl.length cg]) _ rfl rfl ?_; clear hS; intro g3 w_ hS; (try simp only [Act.put, Act.eval, zz, Value.cells] at hS)) | ((with_reducible refine qA 4 ?_); refine Ao hS rfl _ _ rfl (.agg #[u]) _ rfl rfl ?_; clear hS; intro g4 w_ hS; (try simp only [Act.put, Act.eval, zz, Value.cells] at hS)) | ((with_reducible refine qA 6 ?_); refine qa hS #[.slice none 0 0] ?_; clear hS; intro g6 w_ hS) | ((with_reducible refine qA 12 ?_); refine BigFrame.wpList_want rfl fun _ hK => AB (v := .bool false) rfl rfl rfl rfl rfl (hK _ _ ?_)) | ((with_reducible refine qA 24 ?_); refine Av rfl _ _ rfl #[.slice none 0 0] (by kernel_rfl) ?_; (try simp only [Act.put, List.setIfInBounds_toArray, List.set_cons_zero, List.set_cons_succ])) | ((with_reducible refine qB ?_); refine qc ?_ ?_ <;> intro h_ <;> go_prune) | ((with_reducible refine qM ?_); (first | refine qS hS ?_ | refine qT hS ?_); clear hS; intro w_ hS; (try simp only [Act.put, Act.eval, zz, Value.cells] at hS)) | ((with_reducible refine qK ?_); refine qC hS ?_))
   all_goals
    refine Cr Tryz.results31 rfl (hS.box 0 rfl) Tryz.underlying39 rfl (by kernel_rfl) rfl rfl ?_; exact ⟨_, rfl, (hS.sub (List.sublist_append_right [_, _, _] F)).mono (KS.out.and Ab) fun D w h => ⟨(kc.out _ _ h).1, Aa.empty⟩⟩
end
section
open Go.RowKit
attribute [local go_sem ↓] Go.wp_at_zero Go.wp_at_succ
set_option maxRecDepth 20000
set_option exponentiation.threshold 5000
set_option maxHeartbeats 4000000 in
theorem lawake31_any {w0 w : World} {F : List Ac} {K : (Nat -> Prop) -> World -> Prop} (hS : St w0 w F K) (kt : ∀ D w, K D w -> B3 w /\ D 0) : Calls Tryz.prog 12 #[] w fun e w' => e = .returned (.bool true) /\ St w0 w' F K := by
 have KS := Lib.hid hS.stable
 go_enter Tryz.func12, Tryz.ntmps12
 go_wp2_with (first
  | ((with_reducible refine qA 12 ?_); refine Av rfl _ _ rfl #[.int .i64 1, .int .i64 2] (by kernel_rfl) ?_; (try simp only [Act.put, List.setIfInBounds_toArray, List.set_cons_zero, List.set_cons_succ]))
  | ((with_reducible refine qA 13 ?_); refine EH hS rfl _ 107 1 _ rfl Tryz.underlying25 #[.int .i64 1, .int .i64 2] (by kernel_rfl) 2 rfl (by decide) ?_; clear hS; intro g13 w_ hS; (try simp only [Act.put, List.setIfInBounds_toArray, List.set_cons_zero, List.set_cons_succ]))
  | ((with_reducible refine qA 14 ?_); refine Av rfl _ _ rfl #[.bool false, .int .u64 0, .int .u64 0, .int .i64 1, .int .i64 0] (by kernel_rfl) ?_; (try simp only [Act.put, List.setIfInBounds_toArray, List.set_cons_zero, List.set_cons_succ]))
  | ((with_reducible refine qA 15 ?_); refine Av rfl _ _ rfl #[.int .u64 4, .int .u64 0] (by kernel_rfl) ?_; (try simp only [Act.put, List.setIfInBounds_toArray, List.set_cons_zero, List.set_cons_succ]))
  | ((with_reducible refine qA 16 ?_); refine Av rfl _ _ rfl #[.bool false, .int .u64 4, .int .u64 0, .int .i64 3, .int .i64 1] (by kernel_rfl) ?_; (try simp only [Act.put, List.setIfInBounds_toArray, List.set_cons_zero, List.set_cons_succ]))
  | ((with_reducible refine qA 17 ?_); refine EH hS rfl _ 109 2 _ rfl Tryz.underlying27 #[.bool false, .int .u64 0, .int .u64 0, .int .i64 1, .int .i64 0, .bool false, .int .u64 4, .int .u64 0, .int .i64 3, .int .i64 1] (by kernel_rfl) 5 rfl (by decide) ?_; clear hS; intro g17 w_ hS; (try simp only [Act.put, List.setIfInBounds_toArray, List.set_cons_zero, List.set_cons_succ]))
  | ((with_reducible refine qA 18 ?_); refine Av rfl _ _ rfl #[.int .u64 10, .int .u64 0] (by kernel_rfl) ?_; (try simp only [Act.put, List.setIfInBounds_toArray, List.set_cons_zero, List.set_cons_succ]))
  | ((with_reducible refine qA 19 ?_); refine EH hS rfl _ 50 1 _ rfl Tryz.underlying28 #[.int .u64 10, .int .u64 0] (by kernel_rfl) 2 rfl (by decide) ?_; clear hS; intro g19 w_ hS; (try simp only [Act.put, List.setIfInBounds_toArray, List.set_cons_zero, List.set_cons_succ]))
  | ((with_reducible refine qA 20 ?_); refine Av rfl _ _ rfl #[.int .i64 3, .slice (some ⟨g13, 0, none⟩) 1 1, .int .u64 0, .slice (some ⟨g17, 0, none⟩) 2 2, .slice (some ⟨g19, 0, none⟩) 1 1, .slice none 0 0] (by kernel_rfl) ?_; (try simp only [Act.put, List.setIfInBounds_toArray, List.set_cons_zero, List.set_cons_succ]))
  | ((with_reducible refine qA 1 ?_); refine qa hS #[.int .i64 0, .slice none 0 0, .int .u64 0, .slice none 0 0, .slice none 0 0, .slice none 0 0] ?_; clear hS; intro g1 w_ hS)
  | ((with_reducible refine qM ?_); (first | refine qS hS ?_ | refine qT hS ?_); clear hS; intro w_ hS; (try simp only [Act.put, Act.eval, zz, Value.cells] at hS))
  | ((with_reducible refine qA 22 ?_); replace hS := hS.freeze 1 (by decide) rfl; simp only [List.eraseIdx_cons_succ, List.eraseIdx_cons_zero] at hS; replace hS := hS.freeze 1 (by decide) rfl; simp only [List.eraseIdx_cons_succ, List.eraseIdx_cons_zero] at hS; replace hS := hS.freeze 1 (by decide) rfl; simp only [List.eraseIdx_cons_succ, List.eraseIdx_cons_zero] at hS; obtain ⟨K1, hK1, KS1, hS2⟩ := openK hS (A := fun D w => K D w /\ Be w D (.agg #[.int .i64 3, .slice (some ⟨g13, 0, none⟩) 1 1, .int .u64 0, .slice (some ⟨g17, 0, none⟩) 2 2, .slice (some ⟨g19, 0, none⟩) 1 1, .slice none 0 0]) PE) fun D w h => ⟨h.1.1.1, _, _, _, _, [(1, 2)], rfl, rfl, h.2, h.1.2, h.1.1.2, Sl.none_⟩; clear hS; have hS := hS2; clear hS2; replace hK1 := Lib.hid hK1; refine BigFrame.wpList_want rfl fun _ hK => CP rfl rfl (hS.box 0 rfl) Tryz.underlying30 rfl (by kernel_rfl) (hK _ _ ?_))
  | (go_at_call 16; refine (FR rfl e12_hok (by decide) PE_fits hS (fun D w h => (hK1.out D w h).2) (fun D w h => kt D w (hK1.out D w h).1)).mono ?_; clear hS; rintro e w_ ⟨u, rfl, hS⟩; obtain ⟨la, As, ns, cs, Ar, cr, An, cn, Ag, cg, rfl⟩ := hS.ro.2.shape6; obtain ⟨K2, hK2, KS2, hS2⟩ := openK hS (A := fun D w => K D w /\ B0 w D (.agg #[.int .i64 PE.roles, .pointer la, .slice As ns cs, .slice Ar PE.rules.length cr, .slice An PE.never.length cn, .slice Ag PE.goal.length cg]) PE) fun D w h => ⟨(hK1.out D w h.1).1, h.2⟩; clear hS; have hS := hS2; clear hS2; replace hK2 := Lib.hid hK2)
  | ((with_reducible refine qA 2 ?_); refine qa hS #[.int .i64 0, .pointer none, .slice none 0 0, .slice none 0 0, .slice none 0 0, .slice none 0 0] ?_; clear hS; intro g2 w_ hS)
  | ((with_reducible refine qk 43 ?_); refine BigFrame.wpList_want rfl fun _ hK => ?_; first | refine CP rfl rfl (hS.box 0 rfl) Tryz.underlying43 rfl (by kernel_rfl) (hK _ _ ?_) | refine CP rfl rfl (hS.box 1 rfl) Tryz.underlying43 rfl (by kernel_rfl) (hK _ _ ?_))
  | (go_at_call 17; refine (schk_any (hK2.out _ _ hS.ro).2 PE_ok (kt _ _ (hK2.out _ _ hS.ro).1).1).mono ?_; rw [PE_check]; rintro r_ w_ ⟨_, rfl, rfl, hb_⟩; replace hS := hS.ext hb_; clear hb_)
  | ((with_reducible refine qB ?_); refine qc ?_ ?_ <;> intro h_ <;> go_prune)
  | ((with_reducible refine qk 39 ?_); first | (refine At hS 0 rfl _ _ rfl _ _ rfl _ _ rfl _ (by first | rfl | assumption) Tryz.underlying39 rfl (by kernel_rfl) ?_) | (refine At hS 1 rfl _ _ rfl _ _ rfl _ _ rfl _ (by first | rfl | assumption) Tryz.underlying39 rfl (by kernel_rfl) ?_) | (refine At hS 2 rfl _ _ rfl _ _ rfl _ _ rfl _ (by first | rfl | assumption) Tryz.underlying39 rfl (by kernel_rfl) ?_) | (refine At hS 3 rfl _ _ rfl _ _ rfl _ _ rfl _ (by first | rfl | assumption) Tryz.underlying39 rfl (by kernel_rfl) ?_) | (refine At hS 4 rfl _ _ rfl _ _ rfl _ _ rfl _ (by first | rfl | assumption) Tryz.underlying39 rfl (by kernel_rfl) ?_) | (refine At hS 5 rfl _ _ rfl _ _ rfl _ _ rfl _ (by first | rfl | assumption) Tryz.underlying39 rfl (by kernel_rfl) ?_))
  | ((with_reducible show Calls _ _ #[_, .agg #[.slice As ns cs], _] _ _); go_at_call 31; refine (Gj 0 PE_ok hS (fun D w h => (hK2.out D w h).2) (N := 0) (fun D w h => by obtain ⟨_, _, _, _, _, he, _, h2, _⟩ := (hK2.out D w h).2; injection he with he; injection he with he; injection he with _ he; injection he with _ he; injection he with e3 _; rw [e3]; exact h2) (fun D w h => (kt D w (hK2.out D w h).1).1)).mono ?_; rw [PE_step0]; clear hS; rintro e w_ ⟨sv, rfl, hS⟩; obtain ⟨A4, c4, l4, rfl, -⟩ := hS.ro.2.parts; obtain ⟨n4, hn4⟩ : ∃ n, n = l4.length := ⟨_, rfl⟩; rw [<- hn4] at hS ⊢; clear hn4; obtain ⟨K3, hK3, KS3, hS2⟩ := openK hS (A := fun D w => (K D w /\ B0 w D (.agg #[.int .i64 PE.roles, .pointer la, .slice As ns cs, .slice Ar PE.rules.length cr, .slice An PE.never.length cn, .slice Ag PE.goal.length cg]) PE) /\ Aa w D (.agg #[.slice A4 n4 c4]) 2) fun D w h => ⟨hK2.out D w h.1, h.2⟩; clear hS; have hS := hS2; clear hS2; replace hK3 := Lib.hid hK3; (try simp only [Act.put, List.setIfInBounds_toArray, List.set_cons_zero, List.set_cons_succ]))
  | ((with_reducible show Calls _ _ #[_, .agg #[.slice A4 n4 c4], _] _ _); go_at_call 31; refine (Gj 1 PE_ok hS (fun D w h => (hK3.out D w h).1.2) (N := 2) (fun D w h => (hK3.out D w h).2) (fun D w h => (kt D w (hK3.out D w h).1.1).1)).mono ?_; rw [PE_step1]; clear hS; rintro e w_ ⟨sv, rfl, hS⟩; obtain ⟨A5, c5, l5, rfl, -⟩ := hS.ro.2.parts; obtain ⟨n5, hn5⟩ : ∃ n, n = l5.length := ⟨_, rfl⟩; rw [<- hn5] at hS ⊢; clear hn5; (try simp only [Act.put, List.setIfInBounds_toArray, List.set_cons_zero, List.set_cons_succ]))
  | ((with_reducible refine qA 4 ?_); refine qa hS #[.slice none 0 0] ?_; clear hS; intro g4 w_ hS)
  | ((with_reducible refine qA 6 ?_); refine qa hS #[.slice none 0 0] ?_; clear hS; intro g6 w_ hS))
 obtain ⟨K4, hK4, KS4, hS2⟩ := openK hS (A := fun D w => (K D w /\ B0 w D (.agg #[.int .i64 PE.roles, .pointer la, .slice As ns cs, .slice Ar PE.rules.length cr, .slice An PE.never.length cn, .slice Ag PE.goal.length cg]) PE) /\ Aa w D (.agg #[.slice A4 n4 c4]) 2) fun D w h => hK3.out D w h.1
 clear hS
 have hS := hS2
 clear hS2
 replace hK4 := Lib.hid hK4
 have HTT := Lib.hid (fun D w h => (kt D w (hK4.out D w h).1.1).1)
 have HHH := Lib.hid e12_hok
 refine Bw [.i (.agg #[.int .i64 PE.roles, .pointer la, .slice As ns cs, .slice Ar PE.rules.length cr, .slice An PE.never.length cn, .slice Ag PE.goal.length cg]), .i (.agg #[.int .u64 4, .int .u64 0]), .s (fun v w => AA w (fun _ => True) v (4, 0)) fun v w w' h hb => h.ext hb, .s (fun v w => ∃ s, v = .tuple #[s, .int .i64 0] /\ Aj w (fun z => w_.heap.size <= z) s [(2, 0), (4, 0)]) fun v w w' h hb => ⟨_, h.choose_spec.1, h.choose_spec.2.ext hb⟩, .s (fun v w => ∃ s, v = .tuple #[s, .int .i64 0] /\ Aj w (fun z => w_.heap.size <= z) s [(2, 0), (4, 0)]) fun v w w' h hb => ⟨_, h.choose_spec.1, h.choose_spec.2.ext hb⟩, .s (fun v w => Aj w (fun z => w_.heap.size <= z) v [(2, 0), (4, 0)]) fun v w w' h hb => h.ext hb, .n 0, .s (fun v w => Aj w (fun z => w_.heap.size <= z) v [(2, 0), (4, 0)]) fun v w w' h hb => h.ext hb, .n 0] ⟨uR (h := fun w hW hN => (hS.ext hW).box 2 rfl), ?_, ?_, ?_, ?_, ?_, ?_, ?_, uA, trivial⟩ ?_
 ·refine uT fun b__ w hW hE K hK => ?_
  exact Bu rfl (ps := [(0, .int .u64 4)]) (by simp [Act.eval]) (cells := #[.int .u64 4, .int .u64 0]) (by kernel_rfl) (hK _ _ rfl (Below.refl _ _))
 ·refine uT fun b__ w hW hE K hK => ?_
  have e48 := hE 48
  refine Af rfl (by kernel_rfl) (by simp only [List.map_cons, List.map_nil, e48]; rfl) (EQ 4 0 (by decide) (by decide) w) fun v w' h hb => ?_
  exact hK v w' (h.imp fun _ _ _ => trivial) hb
 ·refine uT fun b__ w hW hE K hK => ?_
  have e47 := hE 47
  have e49 := hE 49
  refine Af rfl (by kernel_rfl) (by simp only [List.map_cons, List.map_nil, e47]) (FW (r := 3) (hK4.out _ _ (hS.ext hW).ro).1.2 rfl rfl (by omega) HHH.out (HTT.out _ _ (hS.ext hW).ro) e49) fun v w' h hb => ?_
  obtain ⟨s, rs, e, rfl, h2, h3⟩ := h
  obtain ⟨rfl, rfl⟩ := expQ_uniq h3 expA
  exact hK _ w' ⟨s, rfl, h2.imp fun z hz _ => Nat.le_trans hW.size hz⟩ hb
 ·refine uT fun b__ w hW hE K hK => ?_
  have e50 := hE 50
  obtain ⟨s, h1, h2⟩ := e50
  exact FL rfl h1 (hK _ _ ⟨s, rfl, h2⟩ (Below.refl _ _))
 ·refine uT fun b__ w hW hE K hK => ?_
  have e46 := hE 46
  obtain ⟨s, h1, h2⟩ := e46
  exact Bb rfl h1 rfl (hK _ _ h2 (Below.refl _ _))
 ·refine uT fun b__ w hW hE K hK => ?_
  have e46 := hE 46
  obtain ⟨s, h1, h2⟩ := e46
  exact Bb rfl h1 rfl (hK _ _ rfl (Below.refl _ _))
 ·refine uT fun b__ w hW hE K hK => ?_
  have e51 := hE 51
  exact Cg rfl rfl (hK _ _ e51 (Below.refl _ _))
 ·intro vs wz hW hT
  obtain ⟨e47, e48, e49, e50, e46, e51, e52, e8, e9, -⟩ := hT
  have bx : (fun _ : Nat => True) 0 := trivial
  simp only [Ak, Act.put, zz, ze]
  replace hS := hS.ret hW AE e8
  obtain ⟨A8, c8, h8, _, _⟩ := e8.shape
  rw [h8] at hS ⊢
  rw [e9]
  clear e8 e9 h8 hW e46 e47 e48 e49 e50 e51 e52
  go_wp2_with fail
  refine Bw [.i (.agg #[.int .i64 PE.roles, .pointer la, .slice As ns cs, .slice Ar PE.rules.length cr, .slice An PE.never.length cn, .slice Ag PE.goal.length cg]), .i (.agg #[.int .u64 4, .int .u64 2]), .s (fun v w => AA w (fun _ => True) v (4, 2)) fun v w w' h hb => h.ext hb, .s (fun v w => ∃ s, v = .tuple #[s, .int .i64 0] /\ Aj w (fun z => wz.heap.size <= z) s [(4, 2)]) fun v w w' h hb => ⟨_, h.choose_spec.1, h.choose_spec.2.ext hb⟩, .s (fun v w => ∃ s, v = .tuple #[s, .int .i64 0] /\ Aj w (fun z => wz.heap.size <= z) s [(4, 2)]) fun v w w' h hb => ⟨_, h.choose_spec.1, h.choose_spec.2.ext hb⟩, .s (fun v w => Aj w (fun z => wz.heap.size <= z) v [(4, 2)]) fun v w w' h hb => h.ext hb, .n 0, .s (fun v w => Aj w (fun z => wz.heap.size <= z) v [(4, 2)]) fun v w w' h hb => h.ext hb, .n 0] ⟨uR (h := fun w hW hN => (hS.ext hW).box 2 rfl), ?_, ?_, ?_, ?_, ?_, ?_, ?_, uA, trivial⟩ ?_
  ·refine uT fun b__ w hW hE K hK => ?_
   exact Bu rfl (ps := [(0, .int .u64 4), (1, .int .u64 2)]) (by simp [Act.eval]) (cells := #[.int .u64 4, .int .u64 2]) (by kernel_rfl) (hK _ _ rfl (Below.refl _ _))
  ·refine uT fun b__ w hW hE K hK => ?_
   have e55 := hE 55
   refine Af rfl (by kernel_rfl) (by simp only [List.map_cons, List.map_nil, e55]; rfl) (EQ 4 2 (by decide) (by decide) w) fun v w' h hb => ?_
   exact hK v w' (h.imp fun _ _ _ => trivial) hb
  ·refine uT fun b__ w hW hE K hK => ?_
   have e54 := hE 54
   have e56 := hE 56
   refine Af rfl (by kernel_rfl) (by simp only [List.map_cons, List.map_nil, e54]) (FW (r := 3) (hK4.out _ _ (hS.ext hW).ro.1).1.2 rfl rfl (by omega) HHH.out (HTT.out _ _ (hS.ext hW).ro.1) e56) fun v w' h hb => ?_
   obtain ⟨s, rs, e, rfl, h2, h3⟩ := h
   obtain ⟨rfl, rfl⟩ := expQ_uniq h3 expB
   exact hK _ w' ⟨s, rfl, h2.imp fun z hz _ => Nat.le_trans hW.size hz⟩ hb
  ·refine uT fun b__ w hW hE K hK => ?_
   have e57 := hE 57
   obtain ⟨s, h1, h2⟩ := e57
   exact FL rfl h1 (hK _ _ ⟨s, rfl, h2⟩ (Below.refl _ _))
  ·refine uT fun b__ w hW hE K hK => ?_
   have e53 := hE 53
   obtain ⟨s, h1, h2⟩ := e53
   exact Bb rfl h1 rfl (hK _ _ h2 (Below.refl _ _))
  ·refine uT fun b__ w hW hE K hK => ?_
   have e53 := hE 53
   obtain ⟨s, h1, h2⟩ := e53
   exact Bb rfl h1 rfl (hK _ _ rfl (Below.refl _ _))
  ·refine uT fun b__ w hW hE K hK => ?_
   have e58 := hE 58
   exact Cg rfl rfl (hK _ _ e58 (Below.refl _ _))
  ·intro vs wz hW hT
   obtain ⟨e54, e55, e56, e57, e53, e58, e59, e10, e11, -⟩ := hT
   have bx : (fun _ : Nat => True) 0 := trivial
   simp only [Ak, Act.put, zz, ze]
   replace hS := hS.ret hW AE e10
   obtain ⟨A10, c10, h10, _, _⟩ := e10.shape
   rw [h10] at hS ⊢
   rw [e11]
   clear e10 e11 h10 hW e53 e54 e55 e56 e57 e58 e59
   obtain ⟨K6, hK6, KS6, hS2⟩ := openK hS (A := fun D w => K4 D w /\ Aj w D (.slice A8 2 c8) [(2, 0), (4, 0)] /\ Aj w D (.slice A10 1 c10) [(4, 2)]) fun D w h => ⟨h.1.1, h.1.2, h.2⟩
   clear hS
   have hS := hS2
   clear hS2
   replace hK6 := Lib.hid hK6
   go_wp2_with fail
   refine Bw [.b true, .b true, .i (.agg #[.slice A4 n4 c4]), .s (fun v w => Sl w (fun _ => True) 1 v ([1] : List Int).length (B6 [1])) fun v w w' h hb => h.ext hb, .s (fun v w => Aa w (fun _ => True) v 2) fun v w w' h hb => h.ext hb, .b true, .b true, .b true, .b false, .b true, .b true, .b true, .n 0, .b true, .b true, .b true, .i (.slice A8 2 c8), .i (.agg #[.int .u64 2, .int .u64 0]), .i (.agg #[.int .u64 4, .int .u64 0]), .s (fun v w => BB w (fun _ => True) v [(2, 0), (4, 0)]) fun v w w' h hb => h.ext hb, .b true, .b true, .b true, .n 0, .b true, .b true, .b true, .i (.slice A10 1 c10), .i (.agg #[.int .u64 4, .int .u64 2]), .s (fun v w => BB w (fun _ => True) v [(4, 2)]) fun v w w' h hb => h.ext hb, .b true, .b true, .b true] ⟨uM, uM, uR (h := fun w hW hN => (hS.ext hW).box 1 rfl), ?_, ?_, ?_, uP, uM, uM, uU, uP, uM, uM, uB (h := fun w hW hN => Hl rfl), uP, uM, uM, ?_, ?_, ?_, ?_, uP, uM, uM, uB (h := fun w hW hN => Hl rfl), uP, uM, uM, ?_, ?_, ?_, uP, uA, trivial⟩ ?_
   ·refine uT fun b__ w hW hE K hK => ?_
    refine C4 rfl Tryz.underlying74 (ps := [(0, .int .i64 1)]) (by simp [Act.eval]) (cells := #[.int .i64 1]) (by kernel_rfl) fun w' hX hb => hK _ _ ((Sl.of_box (n := 1) (size := 1) hX rfl (by omega)).imp fun _ _ _ => trivial) hb
   ·refine uT fun b__ w hW hE K hK => ?_
    have e63 := hE 63
    exact Af rfl (by kernel_rfl) (by simp only [List.map_cons, List.map_nil]) (of_any _ [1] _ _ e63) fun v w' h hb => hK v w' (by rw [show ofN [1] = 2 from by decide] at h; exact h.imp fun _ _ _ => trivial) hb
   ·refine uT fun b__ w hW hE K hK => ?_
    have e62 := hE 62
    have e64 := hE 64
    exact Af rfl (by kernel_rfl) (by simp only [List.map_cons, List.map_nil, e62]) (DO _ _ 2 2 _ _ _ (hK4.out _ _ (hK6.out _ _ (hS.ext hW).ro).1).2 e64) fun v w' h hb => hK v w' h hb
   ·refine uT fun b__ w hW hE K hK => ?_
    exact Bu rfl (ps := [(0, .int .u64 2)]) (by simp [Act.eval]) (cells := #[.int .u64 2, .int .u64 0]) (by kernel_rfl) (hK _ _ rfl (Below.refl _ _))
   ·refine uT fun b__ w hW hE K hK => ?_
    exact Bu rfl (ps := [(0, .int .u64 4)]) (by simp [Act.eval]) (cells := #[.int .u64 4, .int .u64 0]) (by kernel_rfl) (hK _ _ rfl (Below.refl _ _))
   ·refine uT fun b__ w hW hE K hK => ?_
    have e77 := hE 77
    have e78 := hE 78
    refine C4 rfl Tryz.underlying28 (ps := [(0, .agg #[.int .u64 2, .int .u64 0]), (1, .agg #[.int .u64 4, .int .u64 0])]) (by simp [e77, e78]) (cells := #[.int .u64 2, .int .u64 0, .int .u64 4, .int .u64 0]) (by kernel_rfl) fun w' hX hb => hK _ _ ((Sl.of_box (n := 2) (size := 2) hX rfl (by omega)).imp fun _ _ _ => trivial) hb
   ·refine uT fun b__ w hW hE K hK => ?_
    have e76 := hE 76
    have e79 := hE 79
    exact Af rfl (by kernel_rfl) (by simp only [List.map_cons, List.map_nil, e76]) (lsame_any _ _ [(2, 0), (4, 0)] [(2, 0), (4, 0)] _ _ _ (hK6.out _ _ (hS.ext hW).ro).2.1 e79 (by unfold Small AL; simp) (by unfold Small AL; simp) (HTT.out _ _ (hK6.out _ _ (hS.ext hW).ro).1)) fun v w' h hb => hK v w' h hb
   ·refine uT fun b__ w hW hE K hK => ?_
    exact Bu rfl (ps := [(0, .int .u64 4), (1, .int .u64 2)]) (by simp [Act.eval]) (cells := #[.int .u64 4, .int .u64 2]) (by kernel_rfl) (hK _ _ rfl (Below.refl _ _))
   ·refine uT fun b__ w hW hE K hK => ?_
    have e88 := hE 88
    refine C4 rfl Tryz.underlying28 (ps := [(0, .agg #[.int .u64 4, .int .u64 2])]) (by simp [e88]) (cells := #[.int .u64 4, .int .u64 2]) (by kernel_rfl) fun w' hX hb => hK _ _ ((Sl.of_box (n := 1) (size := 2) hX rfl (by omega)).imp fun _ _ _ => trivial) hb
   ·refine uT fun b__ w hW hE K hK => ?_
    have e87 := hE 87
    have e89 := hE 89
    exact Af rfl (by kernel_rfl) (by simp only [List.map_cons, List.map_nil, e87]) (lsame_any _ _ [(4, 2)] [(4, 2)] _ _ _ (hK6.out _ _ (hS.ext hW).ro).2.2 e89 (by unfold Small AL; simp) (by unfold Small AL; simp) (HTT.out _ _ (hK6.out _ _ (hS.ext hW).ro).1)) fun v w' h hb => hK v w' h hb
   ·intro vs wz hW hT
    obtain ⟨e60, e61, e62, e63, e64, e65, e66, e67, e68, e69, e70, e71, e72, e73, e74, e75, e76, e77, e78, e79, e80, e81, e82, e83, e84, e85, e86, e87, e88, e89, e90, e91, e0, -⟩ := hT
    have bx : (fun _ : Nat => True) 0 := trivial
    simp only [Ak, Act.put, zz, ze]
    rw [e0]
    replace hS := hS.ext hW
    clear hW
    go_wp2_with fail
    go_ret
    exact ⟨rfl, (hS.sub (List.sublist_append_right [_, _, _, _] F)).mono KS.out fun D w h => (hK4.out _ _ (hK6.out _ _ h).1).1.1⟩
end
section
open Go.RowKit
attribute [local go_sem ↓] Go.wp_at_zero Go.wp_at_succ
set_option maxRecDepth 20000
set_option exponentiation.threshold 5000
theorem Em {w0 : World} {D : Nat -> Prop} {v : Value} {R : Nat} {L : List (Nat × Nat)} {st : Nat} {rl : List Bd} {nl gl : List (Nat × Nat)} (h : Be w0 D v ⟨R, some L, st, rl, nl, gl⟩) :
  ∃ Al cl Ar cr An cn Ag cg, v = .agg #[.int .i64 (R : Nat), .slice Al L.length cl, .int .u64 (st : Nat), .slice Ar rl.length cr, .slice An nl.length cn, .slice Ag gl.length cg] := by
 obtain ⟨lv, rv, nv, gv, L', rfl, hl', h1, h2, h3, h4⟩ := h
 injection hl' with e; subst e
 obtain ⟨Al, cl, rfl, _, _⟩ := h1.shape
 obtain ⟨Ar, cr, rfl, _, _⟩ := h2.shape
 obtain ⟨An, cn, rfl, _, _⟩ := Sl.shape (h3 : Sl _ _ _ _ _ _)
 obtain ⟨Ag, cg, rfl, _, _⟩ := Sl.shape (h4 : Sl _ _ _ _ _ _)
 exact ⟨_, _, _, _, _, _, _, _, rfl⟩
theorem DM {w0 : World} {D : Nat -> Prop} {lv sv rv nv gv : Value} {R : Nat} {L : List (Nat × Nat)} {st : Nat} {rl : List Bd} {nl gl : List (Nat × Nat)} (h : Be w0 D (.agg #[.int .i64 (R : Nat), lv, sv, rv, nv, gv]) ⟨R, some L, st, rl, nl, gl⟩) :
  Sl w0 D 2 lv L.length (Ad L) /\ Sl w0 D 5 rv rl.length (AP rl) /\ Sl w0 D 2 nv nl.length (AZ nl) /\ Sl w0 D 2 gv gl.length (AZ gl) := by
 obtain ⟨lv, rv, nv, gv, L', e, hl', h1, h2, h3, h4⟩ := h
 injection hl' with e2; subst e2
 injection e with e; injection e with e; injection e with _ e; injection e with a e; injection e with _ e; injection e with b e; injection e with c e; injection e with d _
 subst a b c d
 exact ⟨h1, h2, h3, h4⟩
end
section
open Go.RowKit
attribute [local go_sem ↓] Go.wp_at_zero Go.wp_at_succ
set_option maxRecDepth 20000
set_option exponentiation.threshold 5000
theorem Ip {N t : Nat} : BR N (t : Int) = N.testBit t := by simp [BR]
end
section
open Go.RowKit
attribute [local go_sem ↓] Go.wp_at_zero Go.wp_at_succ
set_option maxRecDepth 20000
set_option exponentiation.threshold 5000
theorem FC {P : Program} {w : World} {t : TypeId} {x y : Nat} (hx : x < AL) (hy : y < AL) : (binOp .andNot t (.int .u64 (x : Nat)) (.int .u64 (y : Nat))).run P w = .ok (.int .u64 ((x &&& BZ y : Nat) : Int)) w := by
 go_simp; rw [ID hx hy]
end
section
open Go.RowKit
attribute [local go_sem ↓] Go.wp_at_zero Go.wp_at_succ
set_option maxRecDepth 20000
set_option exponentiation.threshold 5000
theorem GG {w0 : World} {D : Nat -> Prop} {v : Value} {p : AM} {L : List (Nat × Nat)} {R s : Nat} (hp : Be w0 D v p) (hM : EA p L R) :
  Calls Tryz.prog 28 #[v, .int .u64 (s : Nat)] w0 (Az (fun x _ => x = .bool (goodB p s)) w0) := by
 obtain ⟨R', lk, st, rl, nl, gl⟩ := p
 obtain rfl : lk = some L := hM.links
 obtain rfl : R' = (R : Int) := hM.roles
 obtain ⟨Al, cl, Ar, cr, An, cn, Ag, cg, rfl⟩ := Em hp
 obtain ⟨K, kp, hS⟩ : ∃ K : (Nat -> Prop) -> World -> Prop, (∀ D w, K D w -> Be w D (.agg #[.int .i64 (R : Nat), .slice Al L.length cl, .int .u64 (st : Nat), .slice Ar rl.length cr, .slice An nl.length cn, .slice Ag gl.length cg]) ⟨(R : Int), some L, st, rl, nl, gl⟩) /\ St w0 w0 [] K := ⟨_, fun _ _ h => h, St.start Cy hp⟩
 have kl : ∀ D w, K D w -> Sl w D 2 (.slice Al L.length cl) L.length (Ad L) := fun D w h => (DM (kp D w h)).1
 have HM := Lib.hid hM
 have HL := Lib.hid (show Ec 64 L from hM.hok.inr)
 have hlen := hM.len
 clear hp hM
 have kn : ∀ D w, K D w -> BB w D (.slice An nl.length cn) nl := fun D w h => (DM (kp D w h)).2.2.1
 obtain ⟨b, hb⟩ : ∃ b, nl.any (fun z => AW z (closM L s)) = b := ⟨_, rfl⟩
 have HG : Hid (goodB ⟨(R : Int), some L, st, rl, nl, gl⟩ s = !b) := Lib.hid (by rw [<- hb]; rfl)
 have HB := Lib.hid hb
 clear hb
 go_enter Tryz.func28, Tryz.ntmps28
 go_wp2_with (first | ((with_reducible refine qA 2 ?_); refine Ao hS rfl _ _ rfl (.agg #[.int .i64 (R : Nat), .slice Al L.length cl, .int .u64 (st : Nat), .slice Ar rl.length cr, .slice An nl.length cn, .slice Ag gl.length cg]) _ rfl rfl ?_; clear hS; intro g2 w_ hS; (try simp only [Act.put, Act.eval, zz, Value.cells] at hS)))
 refine Bw [.q g2 4, .i (.slice An nl.length cn), .q g2 1, .i (.slice Al L.length cl), .i (.int .u64 (s : Nat)), .i (.int .u64 (closM L s : Nat)), .i (.bool b), .i (.bool (!b)), .i (.bool (!b))] ⟨uF, uC (h := fun w hW hN => (hS.ext hW).shut 0 rfl 4 rfl), uF, uC (h := fun w hW hN => (hS.ext hW).shut 0 rfl 1 rfl), uM, ?_, ?_, uU, uA, trivial⟩ ?_
 ·refine uT fun b__ w hW hE K hK => ?_
  have e8 := hE 8
  have e9 := hE 9
  exact Af rfl (by kernel_rfl) (by simp only [List.map_cons, List.map_nil, e8, e9]) (EK (kl _ _ (hS.ext hW).ro) HL.out (by omega) s) fun v w' h hb => hK v w' h hb
 ·refine uT fun b__ w hW hE K hK => ?_
  have e6 := hE 6
  have e10 := hE 10
  exact Af rfl (by kernel_rfl) (by simp only [List.map_cons, List.map_nil, e6, e10]) (rsome_any (kn _ _ (hS.ext hW).ro) HM.out.fits.never (ET L s)) fun v w' h hb => hK v w' (h.trans (by rw [HB.out])) hb
 ·intro vs wz hW hT
  obtain ⟨e5, e6, e7, e8, e9, e10, e11, e12, e4, -⟩ := hT
  simp only [Ak, Act.put, zz, ze]
  rw [e4]
  go_wp2_with fail
  go_ret
  exact Az.mk (by rw [HG.out]; rfl) (Bp hS.below hW)
theorem rreach31_any {w0 : World} {D : Nat -> Prop} {v : Value} {p : AM} {L : List (Nat × Nat)} {R s : Nat} (hp : Be w0 D v p) (hM : EA p L R) :
  Calls Tryz.prog 30 #[v, .int .u64 (s : Nat)] w0 (Az (fun x _ => x = .bool (reachB p s)) w0) := by
 obtain ⟨R', lk, st, rl, nl, gl⟩ := p
 obtain rfl : lk = some L := hM.links
 obtain rfl : R' = (R : Int) := hM.roles
 obtain ⟨Al, cl, Ar, cr, An, cn, Ag, cg, rfl⟩ := Em hp
 obtain ⟨K, kp, hS⟩ : ∃ K : (Nat -> Prop) -> World -> Prop, (∀ D w, K D w -> Be w D (.agg #[.int .i64 (R : Nat), .slice Al L.length cl, .int .u64 (st : Nat), .slice Ar rl.length cr, .slice An nl.length cn, .slice Ag gl.length cg]) ⟨(R : Int), some L, st, rl, nl, gl⟩) /\ St w0 w0 [] K := ⟨_, fun _ _ h => h, St.start Cy hp⟩
 have kl : ∀ D w, K D w -> Sl w D 2 (.slice Al L.length cl) L.length (Ad L) := fun D w h => (DM (kp D w h)).1
 have HM := Lib.hid hM
 have HL := Lib.hid (show Ec 64 L from hM.hok.inr)
 have hlen := hM.len
 clear hp hM
 have kg : ∀ D w, K D w -> BB w D (.slice Ag gl.length cg) gl := fun D w h => (DM (kp D w h)).2.2.2
 obtain ⟨b, hb⟩ : ∃ b, gl.any (fun z => AW z (closM L s)) = b := ⟨_, rfl⟩
 have HG : Hid (reachB ⟨(R : Int), some L, st, rl, nl, gl⟩ s = b) := Lib.hid (by rw [<- hb]; rfl)
 have HB := Lib.hid hb
 clear hb
 go_enter Tryz.func30, Tryz.ntmps30
 go_wp2_with (first | ((with_reducible refine qA 2 ?_); refine Ao hS rfl _ _ rfl (.agg #[.int .i64 (R : Nat), .slice Al L.length cl, .int .u64 (st : Nat), .slice Ar rl.length cr, .slice An nl.length cn, .slice Ag gl.length cg]) _ rfl rfl ?_; clear hS; intro g2 w_ hS; (try simp only [Act.put, Act.eval, zz, Value.cells] at hS)))
 refine Bw [.q g2 5, .i (.slice Ag gl.length cg), .q g2 1, .i (.slice Al L.length cl), .i (.int .u64 (s : Nat)), .i (.int .u64 (closM L s : Nat)), .i (.bool b), .i (.bool b)] ⟨uF, uC (h := fun w hW hN => (hS.ext hW).shut 0 rfl 5 rfl), uF, uC (h := fun w hW hN => (hS.ext hW).shut 0 rfl 1 rfl), uM, ?_, ?_, uA, trivial⟩ ?_
 ·refine uT fun b__ w hW hE K hK => ?_
  have e8 := hE 8
  have e9 := hE 9
  exact Af rfl (by kernel_rfl) (by simp only [List.map_cons, List.map_nil, e8, e9]) (EK (kl _ _ (hS.ext hW).ro) HL.out (by omega) s) fun v w' h hb => hK v w' h hb
 ·refine uT fun b__ w hW hE K hK => ?_
  have e6 := hE 6
  have e10 := hE 10
  exact Af rfl (by kernel_rfl) (by simp only [List.map_cons, List.map_nil, e6, e10]) (rsome_any (kg _ _ (hS.ext hW).ro) HM.out.fits.goal (ET L s)) fun v w' h hb => hK v w' (h.trans (by rw [HB.out])) hb
 ·intro vs wz hW hT
  obtain ⟨e5, e6, e7, e8, e9, e10, e11, e4, -⟩ := hT
  simp only [Ak, Act.put, zz, ze]
  rw [e4]
  go_wp2_with fail
  go_ret
  exact Az.mk (by rw [HG.out]; rfl) (Bp hS.below hW)
theorem tb_not64 {b i : Nat} (hb : b < AL) : (BZ b).testBit i = (decide (i < 64) && !b.testBit i) := by
 by_cases hi : i < 64
 ·rw [CM hb i hi]; simp [hi]
 ·rw [Eg (not64_lt b) (Nat.not_lt.1 hi)]; simp [hi]
theorem andnot_del {N t : Nat} (hN : N < AL) (ht : t < 64) : N &&& BZ (2 ^ t) = del N (t : Int) := B9 fun i => by
 unfold del
 rw [Ip, Nat.testBit_and, tb_not64 (by rw [C8]; exact Nat.pow_lt_pow_right (by decide) ht), Int.toNat_natCast]
 by_cases hi : i < 64
 ·by_cases e : t = i
  ·subst e
   cases h : N.testBit t
   ·simp [h]
   ·simp [h, Nat.testBit_xor, Nat.testBit_two_pow_self]
  ·have h1 : (2 ^ t).testBit i = false := by rw [Nat.testBit_two_pow]; simp [e]
   simp only [h1, hi, decide_true, Bool.not_false, Bool.and_true]
   split
   ·rw [Nat.testBit_xor, h1, Bool.xor_false]
   ·rfl
 ·have h0 : N.testBit i = false := Eg hN (Nat.not_lt.1 hi)
  have h1 : (2 ^ t).testBit i = false := by rw [Nat.testBit_two_pow]; simp; omega
  simp only [h0, Bool.false_and]
  split
  ·rw [Nat.testBit_xor, h0, h1]; simp
  ·simp [h0]
theorem or_with {N t : Nat} (ht : t < 64) : N ||| 2 ^ t = BC N (t : Int) := by
 unfold BC
 rw [if_pos ⟨by omega, by omega⟩, Int.toNat_natCast]
theorem run_shlU {P : Program} {w : World} {t : TypeId} {r : Nat} (hr : r < 64) : (binOp .shl t (.int .u64 1) (.int .u64 (r : Nat))).run P w = .ok (.int .u64 ((2 ^ r : Nat) : Int)) w := by
 go_simp
 rw [shl64 r hr]
 simp
theorem run_convU {P : Program} {w : World} {n : Nat} (hn : n < AL) : (convert 3 58 (.int .i64 (n : Nat))).run Tryz.prog w = .ok (.int .u64 (n : Nat)) w := by
 go_simp
 exact Fn hn
theorem next_eq {N t : Nat} {rv : Bool} (hN : N < AL) (ht : t < 64) : ((if rv = true then del N (t : Int) else BC N (t : Int)) == N) = (BR N (t : Int) != rv) := by
 have hp : (2 ^ t).testBit t = true := Nat.testBit_two_pow_self
 cases rv
 ·rw [if_neg (by simp), <- or_with ht, Ip]
  cases h : N.testBit t
  ·have : N ||| 2 ^ t ≠ N := fun e => by
    have : (N ||| 2 ^ t).testBit t = true := by rw [Nat.testBit_or, hp, Bool.or_true]
    rw [e, h] at this; cases this
   simpa using this
  ·have : N ||| 2 ^ t = N := B9 fun i => by
    rw [Nat.testBit_or, Nat.testBit_two_pow]
    by_cases e : t = i
    ·subst e; simp [h]
    ·simp [e]
   simp [this]
 ·rw [if_pos rfl]
  unfold del
  rw [Ip, Int.toNat_natCast]
  cases h : N.testBit t
  ·simp
  ·have : N ^^^ 2 ^ t ≠ N := fun e => by
    have : (N ^^^ 2 ^ t).testBit t = false := by rw [Nat.testBit_xor, h, hp]; rfl
    rw [e, h] at this; cases this
   simpa using this
set_option maxHeartbeats 4000000 in
theorem GF {w0 : World} {D : Nat -> Prop} {v : Value} {p : AM} {L : List (Nat × Nat)} {R N : Nat} (k : Int) (hp : Be w0 D v p) (hM : EA p L R) (hN : N < AL) :
  Calls Tryz.prog 32 #[v, .int .u64 (N : Nat), .int .i64 k] w0 (Az (fun x _ => x = .tuple #[.int .u64 ((stepM p N k).getD 0 : Nat), .bool (stepM p N k).isSome]) w0) := by
 obtain ⟨R', lk, st, rl, nl, gl⟩ := p
 obtain rfl : lk = some L := hM.links
 obtain rfl : R' = (R : Int) := hM.roles
 obtain ⟨Al, cl, Ar, cr, An, cn, Ag, cg, rfl⟩ := Em hp
 obtain ⟨K, kp, hS⟩ : ∃ K : (Nat -> Prop) -> World -> Prop, (∀ D w, K D w -> Be w D (.agg #[.int .i64 (R : Nat), .slice Al L.length cl, .int .u64 (st : Nat), .slice Ar rl.length cr, .slice An nl.length cn, .slice Ag gl.length cg]) ⟨(R : Int), some L, st, rl, nl, gl⟩) /\ St w0 w0 [] K := ⟨_, fun _ _ h => h, St.start Cy hp⟩
 have kl : ∀ D w, K D w -> Sl w D 2 (.slice Al L.length cl) L.length (Ad L) := fun D w h => (DM (kp D w h)).1
 have HM := Lib.hid hM
 have HL := Lib.hid (show Ec 64 L from hM.hok.inr)
 have hlen := hM.len
 clear hp hM
 have kr : ∀ D w, K D w -> Sl w D 5 (.slice Ar rl.length cr) rl.length (AP rl) := fun D w h => (DM (kp D w h)).2.1
 have hr6 : rl.length <= 6 := HM.out.rlen
 by_cases hk : 0 <= k /\ k < rl.length
 ·obtain ⟨j, rfl⟩ : ∃ j : Nat, k = (j : Int) := ⟨k.toNat, by omega⟩
  have hlj : j < rl.length := by omega
  clear hk
  obtain ⟨b, o2, rfl, -⟩ := rr_at (kr _ _ hS.ro) hlj
  rw [Ei (p := ⟨(R : Int), some L, st, rl, nl, gl⟩) (N := N) rfl hlj]
  dsimp only
  have HG := Lib.hid (CE Bc hlj)
  have hz := HM.out.rules _ (List.mem_of_getElem? HG.out)
  clear HG
  obtain ⟨z, hz2⟩ : ∃ z, rl.getD j Bc = z := ⟨_, rfl⟩
  rw [hz2] at hz ⊢
  have HZ := Lib.hid hz2
  clear hz2
  obtain ⟨zr, y, n, rt, ro⟩ := z
  obtain ⟨t, rfl, ht⟩ : ∃ t : Nat, rt = (t : Int) /\ t < 64 := ⟨rt.toNat, by have h := hz.1; have h5 := HM.out.r5; dsimp only at h h5; omega, by have h := hz.1; have h5 := HM.out.r5; dsimp only at h h5; omega⟩
  have hy64 : y < AL := by have := hz.2.2.2.2.2.1; dsimp only at this; unfold AL; omega
  have hn64 : n < AL := by have := hz.2.2.2.2.2.2.1; dsimp only at this; unfold AL; omega
  clear hz
  obtain ⟨V, hV⟩ : ∃ V, V = if stepB ⟨(R : Int), some L, st, rl, nl, gl⟩ N ⟨zr, y, n, (t : Int), ro⟩ = true then some (Ea N ⟨zr, y, n, (t : Int), ro⟩) else none := ⟨_, rfl⟩
  rw [<- hV]
  obtain ⟨M, hM2⟩ : ∃ M, Ea N ⟨zr, y, n, (t : Int), ro⟩ = M := ⟨_, rfl⟩
  have hMN : (M == N) = (BR N (t : Int) != zr) := by rw [<- hM2]; exact next_eq hN ht
  obtain ⟨ho, hho⟩ : ∃ ho, AW (y, n) (closM L N) = ho := ⟨_, rfl⟩
  obtain ⟨gd, hgd⟩ : ∃ gd, goodB ⟨(R : Int), some L, st, rl, nl, gl⟩ M = gd := ⟨_, rfl⟩
  obtain ⟨e1, he1⟩ : ∃ e1, (M == N) = e1 := ⟨_, rfl⟩
  have HV : Hid (V = if (!((e1 || (!zr && !ho)) || !gd)) = true then some M else none) := Lib.hid (by rw [hV, hM2, <- hho, <- hgd, <- he1, hMN, <- hM2]; rfl)
  have HMf : Hid (zr = false -> N ||| 2 ^ t = M) := Lib.hid fun e => by rw [<- hM2, or_with ht, e]; rfl
  have HMt : Hid (zr = true -> N &&& BZ (2 ^ t) = M) := Lib.hid fun e => by rw [<- hM2, andnot_del hN ht, e]; rfl
  have HE1 : Hid (∀ w : World, (binOp .eql 26 (.int .u64 (M : Nat)) (.int .u64 (N : Nat))).run Tryz.prog w = .ok (.bool e1) w) := Lib.hid fun w => Hl (by rw [<- he1, Bool.eq_iff_iff]; simp only [beq_iff_eq, decide_eq_true_eq]; omega)
  have HHO := Lib.hid hho
  have HGD := Lib.hid hgd
  have h2t : 2 ^ t < AL := pow_lt_64 ht
  clear hV hM2 hMN hho hgd he1
  obtain ⟨rb, hrb⟩ : ∃ rb, rb = zr := ⟨_, rfl⟩
  have HRB := Lib.hid hrb
  clear hrb
  cases zr <;> cases e1 <;> cases gd
  all_goals
   go_enter Tryz.func32, Tryz.ntmps32
   go_wp2_with (first
    | ((with_reducible refine qA 3 ?_); refine Ao hS rfl _ _ rfl (.agg #[.int .i64 (R : Nat), .slice Al L.length cl, .int .u64 (st : Nat), .slice (some ⟨b, o2, none⟩) rl.length cr, .slice An nl.length cn, .slice Ag gl.length cg]) _ rfl rfl ?_; clear hS; intro g3 w_ hS; (try simp only [Act.put, Act.eval, zz, Value.cells] at hS))
    | ((with_reducible refine qA 24 ?_); obtain ⟨b', o', e', c0, c1, c2, c3, c4⟩ := rr_at (kr _ _ hS.ro) hlj; injection e' with e'; injection e' with e1 e2; subst e1 e2; rw [HZ.out] at c0 c1 c2 c3 c4; dsimp only at c0 c1 c2 c3 c4; refine BigFrame.wpList_want rfl fun _ hK => AQ (cs := [.bool _, .int .u64 (y : Nat), .int .u64 (n : Nat), .int .i64 (t : Nat), .int .i64 ro]) rfl rfl (rng5 c0 c1 c2 c3 c4) Tryz.underlying109 rfl (by kernel_rfl) (hK _ _ ?_))
    | ((with_reducible refine qA 8 ?_); refine qa hS #[.bool false, .int .u64 0, .int .u64 0, .int .i64 0, .int .i64 0] ?_; clear hS; intro g8 w_ hS)
    | ((with_reducible refine qA 27 ?_); refine BigFrame.wpList_want rfl fun _ hK => Ig (v := .int .u64 (t : Nat)) rfl rfl (run_convU (by omega)) (hK _ _ ?_))
    | ((with_reducible refine qA 28 ?_); refine BigFrame.wpList_want rfl fun _ hK => AB (v := .int .u64 ((2 ^ t : Nat) : Int)) rfl rfl rfl rfl (run_shlU ht) (hK _ _ ?_))
    | ((with_reducible refine qA 31 ?_); first | (refine BigFrame.wpList_want rfl fun _ hK => AB (v := .int .u64 (M : Nat)) rfl rfl rfl rfl (by rw [<- HMf.out rfl]; exact EJ hN h2t) (hK _ _ ?_)) | (refine st_orN rfl _ _ _ _ rfl _ _ rfl rfl hN h2t ?_))
    | ((with_reducible refine qA 36 ?_); refine BigFrame.wpList_want rfl fun _ hK => AB (v := .int .u64 (M : Nat)) rfl rfl rfl rfl (by rw [<- HMt.out rfl]; exact FC hN h2t) (hK _ _ ?_))
    | ((with_reducible refine qA 39 ?_); refine BigFrame.wpList_want rfl fun _ hK => AB (vx := .int .u64 (M : Nat)) (vy := .int .u64 (N : Nat)) rfl rfl rfl rfl (HE1.out _) (hK _ _ ?_))
    | ((with_reducible refine qB ?_); refine qc ?_ ?_ <;> intro h_ <;> go_prune)
    | ((with_reducible refine qA 41 ?_); refine BigFrame.wpList_want rfl fun _ hK => CP rfl rfl (hS.box 1 rfl) Tryz.underlying30 rfl (by kernel_rfl) (hK _ _ ?_))
    | (go_at_call 28; refine (GG (s := M) (kp _ _ hS.ro) HM.out).mono ?_; rw [HGD.out]; rintro r_ w_ ⟨_, rfl, rfl, hb_⟩; replace hS := hS.ext hb_; clear hb_)
    | ((with_reducible refine qM ?_); (first | refine qS hS ?_ | refine qT hS ?_); clear hS; intro w_ hS; (try simp only [Act.put, Act.eval, zz, Value.cells] at hS))
    | ((with_reducible refine qK ?_); refine qC hS ?_))
  all_goals try (go_ret2; exact Az.mk (by rw [HV.out]; cases ho <;> rfl) hS.below)
  all_goals
   refine Bw [.q g8 0, .i (.bool rb), .i (.bool (!rb)), .i (.bool (!rb)), .g ((!rb)) (.pointer (some ⟨g8, 1, none⟩)), .g ((!rb)) (.agg #[.int .u64 (y : Nat), .int .u64 (n : Nat)]), .g ((!rb)) (.pointer (some ⟨g3, 1, none⟩)), .g ((!rb)) (.slice Al L.length cl), .g ((!rb)) (.int .u64 (N : Nat)), .g ((!rb)) (.int .u64 (closM L N : Nat)), .g ((!rb)) (.bool ho), .g ((!rb)) (.bool (!ho)), .i (.bool ((!rb) && (!ho)))] ⟨uF, uC (h := fun w hW hN => by rw [HRB.out]; exact (hS.ext hW).shut 0 rfl 0 rfl), uU, uM, (by cases rb <;> first | exact uY | exact uX | exact uF), (by cases rb <;> first | exact uY | exact uX | exact uD (h := fun w hW hN => rng2 ((hS.ext hW).shut 0 rfl 1 rfl) ((hS.ext hW).shut 0 rfl 2 rfl))), (by cases rb <;> first | exact uY | exact uX | exact uF), (by cases rb <;> first | exact uY | exact uX | exact uC (h := fun w hW hN => (hS.ext hW).shut 1 rfl 1 rfl)), (by cases rb <;> first | exact uY | exact uX | exact uM), ?_, ?_, (by cases rb <;> first | exact uY | exact uX | exact uU), (by cases rb <;> exact uP), trivial⟩ ?_
   ·cases rb <;> first | exact uY | exact uX | (refine uT fun b__ w hW hE K hK => ?_; have e53 : b__.eval (.tmp 53) = .slice Al L.length cl := hE 53; have e54 : b__.eval (.tmp 54) = .int .u64 (N : Nat) := hE 54; (exact Af rfl (by kernel_rfl) (by simp only [List.map_cons, List.map_nil, e53, e54]) (EK (kl _ _ (hS.ext hW).ro) HL.out (by omega) N) fun v w' h hb => hK v w' h hb))
   ·cases rb <;> first | exact uY | exact uX | (refine uT fun b__ w hW hE K hK => ?_; have e51 : b__.eval (.tmp 51) = .agg #[.int .u64 (y : Nat), .int .u64 (n : Nat)] := hE 51; have e55 : b__.eval (.tmp 55) = .int .u64 (closM L N : Nat) := hE 55; (exact Af rfl (by kernel_rfl) (by simp only [List.map_cons, List.map_nil, e51, e55]) (Ff hy64 hn64 (ET L N) _) fun v w' h hb => hK v w' (h.trans (by rw [HHO.out]; rfl)) hb))
   ·intro vs wz hW hT
    obtain ⟨e46, e47, e48, e49, -, -, -, -, -, -, -, -, e58, -⟩ := hT
    simp only [Ak, Act.put, zz, ze]
    rw [e58, HRB.out]
    replace hS := hS.ext hW
    cases ho
    all_goals
     go_wp2_with fail
     go_ret2
     exact Az.mk (by rw [HV.out]; rfl) hS.below
 ·rw [Fc (p := ⟨(R : Int), some L, st, rl, nl, gl⟩) (fun h => hk ⟨h.1, h.2.1⟩)]
  have hk' : k < 0 \/ rl.length <= k := by omega
  clear hk
  go_enter Tryz.func32, Tryz.ntmps32
  go_wp2_with (first
   | ((with_reducible refine qA 3 ?_); refine Ao hS rfl _ _ rfl (.agg #[.int .i64 (R : Nat), .slice Al L.length cl, .int .u64 (st : Nat), .slice Ar rl.length cr, .slice An nl.length cn, .slice Ag gl.length cg]) _ rfl rfl ?_; clear hS; intro g3 w_ hS; (try simp only [Act.put, Act.eval, zz, Value.cells] at hS))
   | ((with_reducible refine qB ?_); refine qc ?_ ?_ <;> intro h_ <;> go_prune)
   | ((with_reducible refine qK ?_); refine qC hS ?_))
  all_goals
   go_ret2
   exact Az.mk rfl hS.below
end
section
open Go.RowKit
attribute [local go_sem ↓] Go.wp_at_zero Go.wp_at_succ
set_option maxRecDepth 20000
set_option exponentiation.threshold 5000
section
variable {P : Program} {w : World} {t : TypeId} {x y : Nat}
end
theorem rprob_open {w0 : World} {D : Nat -> Prop} {v : Value} {p : AM} {L : List (Nat × Nat)} (hl : p.links = some L) (h : Be w0 D v p) :
  ∃ Al cl Ar cr An cn Ag cg, v = .agg #[.int .i64 p.roles, .slice Al L.length cl, .int .u64 (p.start : Nat), .slice Ar p.rules.length cr, .slice An p.never.length cn, .slice Ag p.goal.length cg] /\ Sl w0 D 2 (.slice Al L.length cl) L.length (Ad L) /\ Sl w0 D 5 (.slice Ar p.rules.length cr) p.rules.length (AP p.rules) /\ Sl w0 D 2 (.slice An p.never.length cn) p.never.length (AZ p.never) /\ Sl w0 D 2 (.slice Ag p.goal.length cg) p.goal.length (AZ p.goal) := by
 obtain ⟨lv, rv, nv, gv, L', rfl, hl', h1, h2, h3, h4⟩ := h
 obtain rfl : L = L' := by rw [hl] at hl'; injection hl'
 obtain ⟨Al, cl, rfl, _, _⟩ := h1.shape
 obtain ⟨Ar, cr, rfl, _, _⟩ := h2.shape
 obtain ⟨An, cn, rfl, _, _⟩ := Sl.shape (h3 : Sl _ _ _ _ _ _)
 obtain ⟨Ag, cg, rfl, _, _⟩ := Sl.shape (h4 : Sl _ _ _ _ _ _)
 exact ⟨_, _, _, _, _, _, _, _, rfl, h1, h2, h3, h4⟩
end
section
open Go.RowKit
set_option exponentiation.threshold 5000
section
variable {p : AM} {L : List (Nat × Nat)} {R A k i : Nat}
end
theorem stepM_range {p : AM} {N M : Nat} {k : Int} (h : stepM p N k = some M) : ∃ j : Nat, k = (j : Int) /\ j < p.rules.length := by
 unfold stepM at h
 split at h
 ·rename_i hk
  exact ⟨k.toNat, by omega, by omega⟩
 ·cases h
section
variable {p : AM} {L : List (Nat × Nat)} {R : Nat}
end
end
section
open Go.RowKit
set_option maxRecDepth 20000
set_option exponentiation.threshold 5000
theorem start31 {W : World} {D : Nat -> Prop} {v : Value} {l : List Nat} (h : B3 W) (hv : Sl W D 1 v l.length (u8s l)) : ∃ K : (Nat -> Prop) -> World -> Prop, (∀ D w, K D w -> B3 w /\ D 0) /\ (∀ D w, K D w -> Sl w D 1 v l.length (u8s l)) /\ St W W [] K :=
 ⟨fun D w => (B3 w /\ D 0) /\ Sl w D 1 v l.length (u8s l), fun _ _ h => h.1, fun _ _ h => h.2, St.start (D := fun _ => True) (BE.and (Aw (by decide))) ⟨⟨h, trivial⟩, hv.imp fun _ _ _ => trivial⟩⟩
theorem conv8u_31 {w : World} {n : Nat} (h : n < 256) : (convert 5 26 (.int .u8 (n : Nat))).run Tryz.prog w = .ok (.int .u64 (n : Nat)) w := by
 go_simp
 exact Fn (by unfold AL; omega)
theorem andnot31 {P : Program} {w : World} {t : TypeId} {n : Nat} (h : n < 256) : (binOp .andNot t (.int .u64 (n : Nat)) (.int .u64 1)).run P w = .ok (.int .u64 ((n &&& BZ 1 : Nat) : Int)) w :=
 FC (y := 1) (by unfold AL; omega) (by decide)
theorem next_lt {R N : Nat} {r : Bd} (hN : N < 256) (h1 : 1 <= r.target) (h2 : r.target <= 5) : Ea N r < 256 := by
 have hp : 2 ^ r.target.toNat < 2 ^ 8 := Nat.pow_lt_pow_right (by decide) (by omega)
 unfold Ea del BC
 split
 ·split
  ·exact Nat.xor_lt_two_pow (n := 8) hN hp
  ·exact hN
 ·split
  ·exact Nat.or_lt_two_pow (n := 8) hN hp
  ·exact hN
theorem step_lt {p : AM} {L : List (Nat × Nat)} {R N : Nat} {k : Int} (hM : EA p L R) (hN : N < 256) : (stepM p N k).getD 0 < AL := by
 cases hs : stepM p N k with
 | none => rw [Option.getD_none]; unfold AL; omega
 | some M =>
  rw [Option.getD_some]
  obtain ⟨j, rfl, hj⟩ := stepM_range hs
  rw [Ei hM.links hj] at hs
  split at hs
  ·injection hs with hs
   have hz := hM.rules _ (List.mem_of_getElem? (List.getElem?_eq_getElem hj))
   have hg : p.rules.getD j Bc = p.rules[j] := by rw [List.getD_eq_getElem?_getD, List.getElem?_eq_getElem hj]; rfl
   rw [hg] at hs
   rw [<- hs]
   exact Nat.lt_of_lt_of_le (next_lt (R := R) hN hz.1.1 (by have := hz.1.2; have := hM.r5; omega)) (by unfold AL; omega)
  ·cases hs
end
section
open Go.RowKit
attribute [local go_sem ↓] Go.wp_at_zero Go.wp_at_succ
set_option maxRecDepth 20000
set_option exponentiation.threshold 5000
def noL (p : AM) : AM := ⟨p.roles, none, p.start, p.rules, p.never, p.goal⟩
theorem noL_ok {p : AM} (h : p.Ok) : (noL p).Ok := ⟨h.rules, h.never, h.goal, fun L e => by cases e⟩
theorem noL_good (p : AM) (N : Nat) : goodB (noL p) N = false := rfl
theorem noL_reach (p : AM) (N : Nat) : reachB (noL p) N = false := rfl
theorem noL_step (p : AM) (N : Nat) (k : Int) : stepM (noL p) N k = none := Fc fun h => by cases h.2.2
theorem B0.noL {w : World} {D : Nat -> Prop} {a lp s rv nv gv : Value} {p : AM} (h : B0 w D (.agg #[a, lp, s, rv, nv, gv]) p) : B0 w D (.agg #[a, .pointer none, s, rv, nv, gv]) (noL p) := by
 obtain ⟨_, _, _, _, _, e, _, h2, h3, h4, h5⟩ := h
 injection e with e; injection e with e; injection e with e0 e; injection e with e1 e; injection e with e2 e; injection e with e3 e; injection e with e4 e; injection e with e5 _
 subst e0 e1 e2 e3 e4 e5
 exact ⟨_, _, _, _, _, rfl, rfl, h2, h3, h4, h5⟩
def StepQ (w0 : World) (F : List Ac) (K : (Nat -> Prop) -> World -> Prop) (o : Nat) (b : Bool) (e : Ending) (w' : World) : Prop := ∃ u, e = .returned (.tuple #[.agg #[u], .bool b]) /\ u.oneCell' = true /\ St w0 w' F fun D w => K D w /\ Aa w D (.agg #[u]) o
theorem Fd {w0 w : World} {F : List Ac} {K : (Nat -> Prop) -> World -> Prop} {v z : Value} {p : AM} {N o : Nat} {b : Bool} (k : Int) (hP : p.Ok) (hS : St w0 w F K) (kp : ∀ D w, K D w -> B0 w D v p) (ku : ∀ D w, K D w -> Aa w D z N) (kt : ∀ D w, K D w -> B3 w) (ho : (stepM p N k).getD 0 = o) (hb : (stepM p N k).isSome = b) :
  Calls Tryz.prog 31 #[v, z, .int .i64 k] w (StepQ w0 F K o b) := by
 refine (Gj k hP hS kp ku kt).mono ?_
 rw [ho, hb]
 rintro e w' ⟨x, rfl, hS⟩
 obtain ⟨u, rfl, hu⟩ := CO hS.ro.2
 exact ⟨u, rfl, hu, hS⟩
set_option maxHeartbeats 4000000 in
theorem lsteps31_any (v : Value) (l : List Nat) (sb : Nat) (k : Int) (W : World) (D : Nat -> Prop) (hl : ∀ x ∈ l, x < 256) (hsb : sb < 256) (hv : Sl W D 1 v l.length (u8s l)) (hT : B3 W) : Calls Tryz.prog 5 #[v, .int .u8 (sb : Nat), .int .i64 k] W (Az (fun x _ => x = .bool true) W) := by
 obtain ⟨K, kt, k1, hS⟩ := start31 hT hv
 clear hv
 have HL := Lib.hid hl
 have HSB := Lib.hid hsb
 clear hl hT hsb
 obtain ⟨s, hs⟩ : ∃ s, sb &&& BZ 1 = s := ⟨_, rfl⟩
 have HAN : Hid (∀ (w : World) t, (binOp .andNot t (.int .u64 (sb : Nat)) (.int .u64 1)).run Tryz.prog w = .ok (.int .u64 (s : Nat)) w) := Lib.hid fun w t => by rw [<- hs]; exact andnot31 HSB.out
 have HS : Hid (s < 256) := Lib.hid (by rw [<- hs]; exact Nat.lt_of_le_of_lt Nat.and_le_left HSB.out)
 have HS64 : Hid (s < AL) := Lib.hid (by have := HS.out; unfold AL; omega)
 clear hs
 go_enter Tryz.func5, Tryz.ntmps5
 go_wp2_with (first
  | (go_at_call 12; refine (lawake31_any hS kt).mono ?_; clear hS; rintro e w_ ⟨rfl, hS⟩)
  | (go_at_call 18; refine (lmake31_any HL.out hS k1 kt).mono ?_; clear hS; rintro e w_ ⟨x, u, rfl, p, ⟨L, R, hM⟩, hS⟩; replace hM := Lib.hid hM; obtain ⟨la, As, ns, cs, Ar, cr, An, cn, Ag, cg, rfl⟩ := hS.ro.2.1.shape6; obtain ⟨Al, cl, Br, dr, Bn, dn, Bg, dg, rfl, -⟩ := rprob_open hM.out.links hS.ro.2.2; obtain ⟨n, hn⟩ : ∃ n, n = p.rules.length := ⟨_, rfl⟩)
  | ((with_reducible refine qA 7 ?_); refine qa hS #[.int .i64 0, .pointer none, .slice none 0 0, .slice none 0 0, .slice none 0 0, .slice none 0 0] ?_; clear hS; intro g7 w_ hS)
  | ((with_reducible refine qA 8 ?_); refine qa hS #[.int .i64 0, .slice none 0 0, .int .u64 0, .slice none 0 0, .slice none 0 0, .slice none 0 0] ?_; clear hS; intro g8 w_ hS)
  | ((with_reducible refine qM ?_); (first | refine qS hS ?_ | refine qT hS ?_); clear hS; intro w_ hS; (try simp only [Act.put, Act.eval, zz, Value.cells] at hS))
  | ((with_reducible refine qA 34 ?_); refine BigFrame.wpList_want rfl fun _ hK => Ig rfl rfl (conv8u_31 HSB.out) (hK _ _ ?_))
  | ((with_reducible refine qA 35 ?_); refine BigFrame.wpList_want rfl fun _ hK => AB rfl rfl rfl rfl (HAN.out _ _) (hK _ _ ?_)))
 obtain ⟨K3, k3, kp, kr, KS3, hS2⟩ : ∃ K3 : (Nat -> Prop) -> World -> Prop, (∀ D w, K3 D w -> K D w) /\ (∀ D w, K3 D w -> B0 w D (.agg #[.int .i64 p.roles, .pointer la, .slice As ns cs, .slice Ar p.rules.length cr, .slice An p.never.length cn, .slice Ag p.goal.length cg]) p) /\ (∀ D w, K3 D w -> Be w D (.agg #[.int .i64 p.roles, .slice Al L.length cl, .int .u64 (p.start : Nat), .slice Br p.rules.length dr, .slice Bn p.never.length dn, .slice Bg p.goal.length dg]) p) /\ Hid (Ax K3) /\ St W w_ (.box g8 30 #[.int .i64 p.roles, .slice Al L.length cl, .int .u64 (p.start : Nat), .slice Br p.rules.length dr, .slice Bn p.never.length dn, .slice Bg p.goal.length dg] :: .box g7 43 #[.int .i64 p.roles, .pointer la, .slice As ns cs, .slice Ar p.rules.length cr, .slice An p.never.length cn, .slice Ag p.goal.length cg] :: []) K3 := ⟨_, fun _ _ h => h.1, fun _ _ h => h.2.1, fun _ _ h => h.2.2, Lib.hid hS.stable, hS⟩
 clear hS
 have hS := hS2
 clear hS2
 rw [<- hn] at hS kp kr
 have hnr : n <= 6 := by rw [hn]; exact hM.out.rlen
 have HNR := Lib.hid hn
 clear hn
 obtain ⟨b1, hb1⟩ : ∃ b, goodB p s = b := ⟨_, rfl⟩
 obtain ⟨b2, hb2⟩ : ∃ b, reachB p s = b := ⟨_, rfl⟩
 have HG1 : Hid (∀ (w : World) (D E : Nat -> Prop) (v u : Value), B0 w D v p -> B3 w -> Aa w E u s -> Calls Tryz.prog 27 #[v, u] w (Az (fun r _ => r = .bool b1) w)) := Lib.hid fun w D E v u h1 h2 h3 => by rw [<- hb1]; exact Ep h1 hM.out.ok h2 h3
 have HG2 : Hid (∀ (w : World) (D : Nat -> Prop) (v : Value), Be w D v p -> Calls Tryz.prog 28 #[v, .int .u64 (s : Nat)] w (Az (fun r _ => r = .bool b1) w)) := Lib.hid fun w D v h1 => by rw [<- hb1]; exact GG h1 hM.out
 have HG3 : Hid (∀ (w : World) (D E : Nat -> Prop) (v u : Value), B0 w D v p -> B3 w -> Aa w E u s -> Calls Tryz.prog 29 #[v, u] w (Az (fun r _ => r = .bool b2) w)) := Lib.hid fun w D E v u h1 h2 h3 => by rw [<- hb2]; exact GH h1 hM.out.ok h2 h3
 have HG4 : Hid (∀ (w : World) (D : Nat -> Prop) (v : Value), Be w D v p -> Calls Tryz.prog 30 #[v, .int .u64 (s : Nat)] w (Az (fun r _ => r = .bool b2) w)) := Lib.hid fun w D v h1 => by rw [<- hb2]; exact rreach31_any h1 hM.out
 have HT := Lib.hid fun D w (h : K3 D w) => (kt _ _ (k3 _ _ h)).1
 clear hb1 hb2
 refine Bw [.i (.agg #[.int .i64 p.roles, .pointer la, .slice As ns cs, .slice Ar n cr, .slice An p.never.length cn, .slice Ag p.goal.length cg]), .i (.int .u64 (s : Nat)), .s (fun v w => Aa w (fun _ => True) v s) fun v w w' h hb => h.ext hb, .i (.bool b1), .i (.agg #[.int .i64 p.roles, .slice Al L.length cl, .int .u64 (p.start : Nat), .slice Br n dr, .slice Bn p.never.length dn, .slice Bg p.goal.length dg]), .i (.int .u64 (s : Nat)), .i (.bool b1), .b false, .b false, .i (.agg #[.int .i64 p.roles, .pointer la, .slice As ns cs, .slice Ar n cr, .slice An p.never.length cn, .slice Ag p.goal.length cg]), .i (.int .u64 (s : Nat)), .s (fun v w => Aa w (fun _ => True) v s) fun v w w' h hb => h.ext hb, .i (.bool b2), .i (.agg #[.int .i64 p.roles, .slice Al L.length cl, .int .u64 (p.start : Nat), .slice Br n dr, .slice Bn p.never.length dn, .slice Bg p.goal.length dg]), .i (.int .u64 (s : Nat)), .i (.bool b2), .b false, .b false] ⟨uR (h := fun w hW hN => (hS.ext hW).box 1 rfl), uM, ?_, ?_, uR (h := fun w hW hN => (hS.ext hW).box 0 rfl), uM, ?_, uB (h := fun w hW hN => by cases b1 <;> rfl), uM, uR (h := fun w hW hN => (hS.ext hW).box 1 rfl), uM, ?_, ?_, uR (h := fun w hW hN => (hS.ext hW).box 0 rfl), uM, ?_, uB (h := fun w hW hN => by cases b2 <;> rfl), uP, trivial⟩ ?_
 ·refine uT fun b__ w hW hE K hK => ?_
  have e37 := hE 37
  exact Af rfl (by kernel_rfl) (by simp only [List.map_cons, List.map_nil, e37]) (C0 s HS64.out _) fun v w' h hb => hK v w' (h.imp fun _ _ _ => trivial) hb
 ·refine uT fun b__ w hW hE K hK => ?_
  have e36 := hE 36
  have e38 := hE 38
  exact Af rfl (by kernel_rfl) (by simp only [List.map_cons, List.map_nil, e36]) (HG1.out _ _ _ _ _ (kp _ _ (hS.ext hW).ro) (HT.out _ _ (hS.ext hW).ro) e38) fun v w' h hb => hK v w' h hb
 ·refine uT fun b__ w hW hE K hK => ?_
  have e40 := hE 40
  have e41 := hE 41
  exact Af rfl (by kernel_rfl) (by simp only [List.map_cons, List.map_nil, e40, e41]) (HG2.out _ _ _ (kr _ _ (hS.ext hW).ro)) fun v w' h hb => hK v w' h hb
 ·refine uT fun b__ w hW hE K hK => ?_
  have e46 := hE 46
  exact Af rfl (by kernel_rfl) (by simp only [List.map_cons, List.map_nil, e46]) (C0 s HS64.out _) fun v w' h hb => hK v w' (h.imp fun _ _ _ => trivial) hb
 ·refine uT fun b__ w hW hE K hK => ?_
  have e45 := hE 45
  have e47 := hE 47
  exact Af rfl (by kernel_rfl) (by simp only [List.map_cons, List.map_nil, e45]) (HG3.out _ _ _ _ _ (kp _ _ (hS.ext hW).ro) (HT.out _ _ (hS.ext hW).ro) e47) fun v w' h hb => hK v w' h hb
 ·refine uT fun b__ w hW hE K hK => ?_
  have e49 := hE 49
  have e50 := hE 50
  exact Af rfl (by kernel_rfl) (by simp only [List.map_cons, List.map_nil, e49, e50]) (HG4.out _ _ _ (kr _ _ (hS.ext hW).ro)) fun v w' h hb => hK v w' h hb
 ·intro vs wz hW hT
  obtain ⟨e36, e37, e38, e39, e40, e41, e42, e43, e44, e45, e46, e47, e48, e49, e50, e51, e52, e53, -⟩ := hT
  have bx : (fun _ : Nat => True) 0 := trivial
  simp only [Ak, Act.put, zz, ze]
  rw [e53]
  replace hS := hS.ext hW
  clear hW e36 e37 e38 e39 e40 e41 e42 e43 e44 e45 e46 e47 e48 e49 e50 e51 e52 e53 HG1 HG2 HG3 HG4
  generalize vs 36 = s36, vs 37 = s37, vs 38 = s38, vs 39 = s39, vs 40 = s40, vs 41 = s41, vs 42 = s42, vs 43 = s43, vs 44 = s44, vs 45 = s45, vs 46 = s46, vs 47 = s47, vs 48 = s48, vs 49 = s49, vs 50 = s50, vs 51 = s51, vs 52 = s52
  go_wp2_with fail
  go_loopw [11] (fun iv wr => ∃ j : Nat, iv = .int .i64 ((j : Nat) - 1 : Int) /\ j <= n + 2 /\ St W wr (.box g8 30 #[.int .i64 p.roles, .slice Al L.length cl, .int .u64 (p.start : Nat), .slice Br n dr, .slice Bn p.never.length dn, .slice Bg p.goal.length dg] :: .box g7 43 #[.int .i64 p.roles, .pointer la, .slice As ns cs, .slice Ar n cr, .slice An p.never.length cn, .slice Ag p.goal.length cg] :: []) K3) (fun iv _ => (n + 1 - intOf iv).toNat)
  case atStart => exact ⟨0, rfl, by omega, hS⟩
  case round =>
   clear hS
   obtain ⟨j, rfl, hj, hS⟩ := hrel
   by_cases hjl : (j : Int) - 1 <= (n : Int)
   ·obtain ⟨i, hi⟩ : ∃ i : Int, i = (j : Int) - 1 := ⟨_, rfl⟩
    rw [<- hi] at hjl ⊢
    obtain ⟨o, ho⟩ : ∃ o, (stepM p s i).getD 0 = o := ⟨_, rfl⟩
    obtain ⟨b, hb⟩ : ∃ b, (stepM p s i).isSome = b := ⟨_, rfl⟩
    have HO : Hid (o < AL) := Lib.hid (by rw [<- ho]; exact step_lt hM.out HS.out)
    have HST : Hid (∀ (w : World) (F : List Ac) (K : (Nat -> Prop) -> World -> Prop) (v z : Value), St W w F K -> (∀ D w, K D w -> B0 w D v p) -> (∀ D w, K D w -> Aa w D z s) -> (∀ D w, K D w -> B3 w) -> Calls Tryz.prog 31 #[v, z, .int .i64 i] w (StepQ W F K o b)) := Lib.hid fun w F K v z h1 h2 h3 h4 => Fd i hM.out.ok h1 h2 h3 h4 ho hb
    have HRS : Hid (∀ (w : World) (D : Nat -> Prop) (v : Value), Be w D v p -> Calls Tryz.prog 32 #[v, .int .u64 (s : Nat), .int .i64 i] w (Az (fun x _ => x = .tuple #[.int .u64 (o : Nat), .bool b]) w)) := Lib.hid fun w D v h => by rw [<- ho, <- hb]; exact GF i h hM.out HS64.out
    have HI := Lib.hid hi
    clear ho hb hi
    go_wp2_with (first
     | ((with_reducible refine qB ?_); refine qc ?_ ?_ <;> intro h_ <;> go_prune)
     | ((with_reducible refine qK ?_); refine qC hS ?_))
    have hJ0 : GJ W (.box g8 30 #[.int .i64 p.roles, .slice Al L.length cl, .int .u64 (p.start : Nat), .slice Br n dr, .slice Bn p.never.length dn, .slice Bg p.goal.length dg] :: .box g7 43 #[.int .i64 p.roles, .pointer la, .slice As ns cs, .slice Ar n cr, .slice An p.never.length cn, .slice Ag p.goal.length cg] :: []) 39 #[.slice none 0 0] (wr.drew, ⟨none, K3⟩) := hS.drew
    have hRr := @GR.refl W (.box g8 30 #[.int .i64 p.roles, .slice Al L.length cl, .int .u64 (p.start : Nat), .slice Br n dr, .slice Bn p.never.length dn, .slice Bg p.goal.length dg] :: .box g7 43 #[.int .i64 p.roles, .pointer la, .slice As ns cs, .slice Ar n cr, .slice An p.never.length cn, .slice Ag p.goal.length cg] :: []) 39 #[.slice none 0 0]
    have hRt := @GR.trans W (.box g8 30 #[.int .i64 p.roles, .slice Al L.length cl, .int .u64 (p.start : Nat), .slice Br n dr, .slice Bn p.never.length dn, .slice Bg p.goal.length dg] :: .box g7 43 #[.int .i64 p.roles, .pointer la, .slice As ns cs, .slice Ar n cr, .slice An p.never.length cn, .slice Ag p.goal.length cg] :: []) 39 #[.slice none 0 0]
    have hN0 := @GN.start 8 9 wr.drew K3
    clear hS
    refine Di (GR W (.box g8 30 #[.int .i64 p.roles, .slice Al L.length cl, .int .u64 (p.start : Nat), .slice Br n dr, .slice Bn p.never.length dn, .slice Bg p.goal.length dg] :: .box g7 43 #[.int .i64 p.roles, .pointer la, .slice As ns cs, .slice Ar n cr, .slice An p.never.length cn, .slice Ag p.goal.length cg] :: []) 39 #[.slice none 0 0]) (GN 8 9) (⟨none, K3⟩) hRr hRt [.i (.agg #[.int .i64 p.roles, .pointer la, .slice As ns cs, .slice Ar n cr, .slice An p.never.length cn, .slice Ag p.goal.length cg]), .i (.int .u64 (s : Nat)), .s (fun v w => ∃ u, v = .agg #[u] /\ u.oneCell' = true /\ ∀ D w1, w.2.K D w1 -> Aa w1 D (.agg #[u]) (s)) fun v w w' h hb => by obtain ⟨u, e, e2, h⟩ := h; exact ⟨u, e, e2, fun D w1 h1 => h D w1 (hb.2.1 D w1 h1)⟩, .n i, .s (fun v w => ∃ u, v = .tuple #[.agg #[u], .bool b] /\ u.oneCell' = true /\ ∀ D w1, w.2.K D w1 -> Aa w1 D (.agg #[u]) o) fun v w w' h hb => by obtain ⟨u, e, e2, h⟩ := h; exact ⟨u, e, e2, fun D w1 h1 => h D w1 (hb.2.1 D w1 h1)⟩, .s (fun v w => ∃ u, v = .tuple #[.agg #[u], .bool b] /\ u.oneCell' = true /\ ∀ D w1, w.2.K D w1 -> Aa w1 D (.agg #[u]) o) fun v w w' h hb => by obtain ⟨u, e, e2, h⟩ := h; exact ⟨u, e, e2, fun D w1 h1 => h D w1 (hb.2.1 D w1 h1)⟩, .s (fun v w => ∃ u, v = .agg #[u] /\ u.oneCell' = true /\ ∀ D w1, w.2.K D w1 -> Aa w1 D (.agg #[u]) (o)) fun v w w' h hb => by obtain ⟨u, e, e2, h⟩ := h; exact ⟨u, e, e2, fun D w1 h1 => h D w1 (hb.2.1 D w1 h1)⟩, .i (.bool b), .s (fun v w => ∃ g o, v = .pointer (some ⟨g, 0, none⟩) /\ w.2.b = some (g, o)) fun v w w' h hb => hb.var h, .s (fun v w => ∃ g u, w.2.b = some (g, some #[u]) /\ u.oneCell' = true /\ ∀ D w1, w.2.K D w1 -> Aa w1 D (.agg #[u]) (o)) fun v w w' h hb => by obtain ⟨g, u, e, e2, h⟩ := h; exact ⟨g, u, hb.2.2.2 _ _ e, e2, fun D w1 h1 => h D w1 (hb.2.1 D w1 h1)⟩, .i (.bool b)] ?_ ⟨uR (h := fun w hW hN => (hW.1 hJ0).box 1 rfl), uM, ?_, uM, ?_, uM, ?_, ?_, ?_, ?_, uA, trivial⟩ ?_
    ·first | assumption | (intro i; (try dsimp only); split <;> first | trivial | assumption | (left; assumption))
    ·refine uG fun b__ w hW hN hE K hK => ?_
     have e63 := hE 63
     refine AY rfl (by kernel_rfl) (by simp only [List.map_cons, List.map_nil, e63]) (C0 s HS64.out w.1) fun e w' ⟨z, he, hz, hb⟩ => ⟨z, he, ?_⟩
     obtain ⟨u, rfl, h1⟩ := CO hz
     exact hK _ (w', { w.2 with K := _ }) ⟨u, rfl, h1, fun D w1 h => h.2⟩ (GK.more ((hW.1 hJ0).ret hb Ab hz) fun D w1 h => h.1)
    ·refine uG fun b__ w hW hN hE K hK => ?_
     have e62 := hE 62
     have e64 := hE 64
     have e65 := hE 65
     obtain ⟨ua, hua, _, h2⟩ := e64
     refine AY rfl (by kernel_rfl) (by simp only [List.map_cons, List.map_nil, e62, hua, e65]) (HST.out _ _ _ _ _ (hW.1 hJ0) (fun D w1 h => kp D w1 (hW.2.1 D w1 h)) h2 (fun D w1 h => HT.out _ _ (hW.2.1 D w1 h))) fun e w' ⟨u', he, hu', hs⟩ => ⟨_, he, ?_⟩
     exact hK _ (w', { w.2 with K := _ }) ⟨u', rfl, hu', fun D w1 h => h.2⟩ (GK.more hs fun D w1 h => h.1)
    ·refine uG fun b__ w hW hN hE K hK => ?_
     have e61 := hE 61
     obtain ⟨u, hu, hu1, h1⟩ := e61
     exact Bb rfl hu rfl (hK _ _ ⟨u, rfl, hu1, h1⟩ ⟨hRr _, fun _ _ h => h⟩)
    ·refine uG fun b__ w hW hN hE K hK => ?_
     have e61 := hE 61
     obtain ⟨u, hu, hu1, h1⟩ := e61
     exact Bb rfl hu rfl (hK _ _ rfl ⟨hRr _, fun _ _ h => h⟩)
    ·refine uG fun b__ w hW hN hE K hK => ?_
     exact FU rfl (by kernel_rfl) (by kernel_rfl) (hW.1 hJ0) (hN.1 rfl) fun g w' hs => hK _ (w', { w.2 with b := some (g, none) }) ⟨g, none, rfl, rfl⟩ (GK.made (hN.1 rfl) hs)
    ·refine uG fun b__ w hW hN hE K hK => ?_
     have e12 := hE 12
     have e67 := hE 67
     obtain ⟨g, o, hg, hgb⟩ := e12
     obtain ⟨u, hv, hu1, h1⟩ := e67
     obtain rfl : o = none := (by cases o with | none => rfl | some cs => exact absurd hgb (hN.2 rfl g cs))
     exact FT rfl hg hv (hW.1 hJ0) hgb (by kernel_rfl) rfl (by simpa [Value.oneCell'] using hu1) fun w' hs => hK undef (w', { w.2 with b := some (g, some #[u]) }) ⟨g, u, rfl, hu1, h1⟩ (GK.put hgb hs)
    ·intro vs wz hW hT
     obtain ⟨e62, e63, e64, e65, e66, e61, e67, e68, e12, z9, e13, -⟩ := hT
     have bx : (fun _ : Nat => True) 0 := trivial
     simp only [Ak, Act.put, zz, ze]
     obtain ⟨_, hst⟩ := z9
     obtain ⟨g12, o12, hg12, hgb⟩ := e12
     obtain ⟨gz, us2, hgb2, hus2, hset⟩ := hst
     obtain rfl : g12 = gz := by rw [hgb] at hgb2; injection hgb2 with h; injection h with h1 h2
     have hS : St W wz.1 (.box g12 39 #[us2] :: .box g8 30 #[.int .i64 p.roles, .slice Al L.length cl, .int .u64 (p.start : Nat), .slice Br n dr, .slice Bn p.never.length dn, .slice Bg p.goal.length dg] :: .box g7 43 #[.int .i64 p.roles, .pointer la, .slice As ns cs, .slice Ar n cr, .slice An p.never.length cn, .slice Ag p.goal.length cg] :: []) (fun D w => K3 D w /\ Aa w D (.agg #[us2]) o) := ((hW.1 hJ0).some hgb2).mono (KS3.out.and Ab) fun D w h => ⟨hW.2.1 D w h, hset D w h⟩
     clear hW hJ0 hRr hRt hN0 hgb hgb2 hset e61 e62 e63 e64 e65 e66 e67 e68
     generalize wz.1 = wf at *
     simp only [show vs (12 : Nat) = _ from hg12]
     rw [e13]
     clear e13 hg12
     generalize vs 61 = s61, vs 62 = s62, vs 63 = s63, vs 64 = s64, vs 65 = s65, vs 66 = s66, vs 67 = s67, vs 68 = s68
     go_wp2_with (first
      | ((with_reducible refine qk 30 ?_); refine qL hS Tryz.underlying30 ?_)
      | (go_at_call 32; refine (HRS.out _ _ _ (kr _ _ hS.ro.1)).mono ?_; rintro r_ w_ ⟨_, rfl, rfl, hb_⟩; replace hS := hS.ext hb_; clear hb_))
     refine Bw [.i (.bool b), .i (.bool b), .b false, .b false, .i (.agg #[us2]), .i (.int .u64 (o : Nat)), .s (fun v w => Aa w (fun _ => True) v o) fun v w w' h hb => h.ext hb, .b true, .b false, .b false] ⟨uM, uM, uB (h := fun w hW hN => by cases b <;> rfl), uM, uR (h := fun w hW hN => (hS.ext hW).box 0 rfl), uM, ?_, ?_, uU, uP, trivial⟩ ?_
     ·refine uT fun b__ w hW hE K hK => ?_
      have e81 := hE 81
      exact Af rfl (by kernel_rfl) (by simp only [List.map_cons, List.map_nil, e81]) (C0 o HO.out _) fun v w' h hb => hK v w' (h.imp fun _ _ _ => trivial) hb
     ·refine uT fun b__ w hW hE K hK => ?_
      have e80 := hE 80
      have e82 := hE 82
      exact Af rfl (by kernel_rfl) (by simp only [List.map_cons, List.map_nil, e80]) (DO _ _ o o _ _ _ (hS.ext hW).ro.2 e82) fun v w' h hb => hK v w' (h.trans (by simp)) hb
     ·intro vs wz hW hT
      obtain ⟨e76, e77, e78, e79, e80, e81, e82, e83, e84, e85, -⟩ := hT
      have bx : (fun _ : Nat => True) 0 := trivial
      simp only [Ak, Act.put, zz, ze]
      rw [e85]
      replace hS := hS.ext hW
      clear hW e76 e77 e78 e79 e80 e81 e82 e83 e84 e85
      go_wp2_with fail
      obtain rfl := HI.out
      have hj9 : j < 100 := by omega
      have hw : wrap64 ((j : Nat) : Int) = (j : Int) := (by unfold wrap64; omega)
      refine ⟨⟨j + 1, by simp [hw], by omega, (hS.sub (List.sublist_cons_self _ _)).mono KS3.out fun D w h => h.1⟩, by simp [intOf, hw]; omega⟩
   ·clear hj
    obtain ⟨o, ho⟩ : ∃ o, (stepM p s k).getD 0 = o := ⟨_, rfl⟩
    obtain ⟨b, hb⟩ : ∃ b, (stepM p s k).isSome = b := ⟨_, rfl⟩
    have HO : Hid (o < AL) := Lib.hid (by rw [<- ho]; exact step_lt hM.out HS.out)
    have HST : Hid (∀ (w : World) (F : List Ac) (K : (Nat -> Prop) -> World -> Prop) (v z : Value), St W w F K -> (∀ D w, K D w -> B0 w D v p) -> (∀ D w, K D w -> Aa w D z s) -> (∀ D w, K D w -> B3 w) -> Calls Tryz.prog 31 #[v, z, .int .i64 k] w (StepQ W F K o b)) := Lib.hid fun w F K v z h1 h2 h3 h4 => Fd k hM.out.ok h1 h2 h3 h4 ho hb
    have HRS : Hid (∀ (w : World) (D : Nat -> Prop) (v : Value), Be w D v p -> Calls Tryz.prog 32 #[v, .int .u64 (s : Nat), .int .i64 k] w (Az (fun x _ => x = .tuple #[.int .u64 (o : Nat), .bool b]) w)) := Lib.hid fun w D v h => by rw [<- ho, <- hb]; exact GF k h hM.out HS64.out
    clear ho hb
    go_wp2_with (first
     | ((with_reducible refine qB ?_); refine qc ?_ ?_ <;> intro h_ <;> go_prune)
     | ((with_reducible refine qK ?_); refine qC hS ?_))
    have hJ0 : GJ W (.box g8 30 #[.int .i64 p.roles, .slice Al L.length cl, .int .u64 (p.start : Nat), .slice Br n dr, .slice Bn p.never.length dn, .slice Bg p.goal.length dg] :: .box g7 43 #[.int .i64 p.roles, .pointer la, .slice As ns cs, .slice Ar n cr, .slice An p.never.length cn, .slice Ag p.goal.length cg] :: []) 39 #[.slice none 0 0] (wr.drew, ⟨none, K3⟩) := hS.drew
    have hRr := @GR.refl W (.box g8 30 #[.int .i64 p.roles, .slice Al L.length cl, .int .u64 (p.start : Nat), .slice Br n dr, .slice Bn p.never.length dn, .slice Bg p.goal.length dg] :: .box g7 43 #[.int .i64 p.roles, .pointer la, .slice As ns cs, .slice Ar n cr, .slice An p.never.length cn, .slice Ag p.goal.length cg] :: []) 39 #[.slice none 0 0]
    have hRt := @GR.trans W (.box g8 30 #[.int .i64 p.roles, .slice Al L.length cl, .int .u64 (p.start : Nat), .slice Br n dr, .slice Bn p.never.length dn, .slice Bg p.goal.length dg] :: .box g7 43 #[.int .i64 p.roles, .pointer la, .slice As ns cs, .slice Ar n cr, .slice An p.never.length cn, .slice Ag p.goal.length cg] :: []) 39 #[.slice none 0 0]
    have hN0 := @GN.start 8 9 wr.drew K3
    clear hS
    refine Di (GR W (.box g8 30 #[.int .i64 p.roles, .slice Al L.length cl, .int .u64 (p.start : Nat), .slice Br n dr, .slice Bn p.never.length dn, .slice Bg p.goal.length dg] :: .box g7 43 #[.int .i64 p.roles, .pointer la, .slice As ns cs, .slice Ar n cr, .slice An p.never.length cn, .slice Ag p.goal.length cg] :: []) 39 #[.slice none 0 0]) (GN 8 9) (⟨none, K3⟩) hRr hRt [.i (.agg #[.int .i64 p.roles, .pointer la, .slice As ns cs, .slice Ar n cr, .slice An p.never.length cn, .slice Ag p.goal.length cg]), .i (.int .u64 (s : Nat)), .s (fun v w => ∃ u, v = .agg #[u] /\ u.oneCell' = true /\ ∀ D w1, w.2.K D w1 -> Aa w1 D (.agg #[u]) (s)) fun v w w' h hb => by obtain ⟨u, e, e2, h⟩ := h; exact ⟨u, e, e2, fun D w1 h1 => h D w1 (hb.2.1 D w1 h1)⟩, .n k, .s (fun v w => ∃ u, v = .tuple #[.agg #[u], .bool b] /\ u.oneCell' = true /\ ∀ D w1, w.2.K D w1 -> Aa w1 D (.agg #[u]) o) fun v w w' h hb => by obtain ⟨u, e, e2, h⟩ := h; exact ⟨u, e, e2, fun D w1 h1 => h D w1 (hb.2.1 D w1 h1)⟩, .s (fun v w => ∃ u, v = .tuple #[.agg #[u], .bool b] /\ u.oneCell' = true /\ ∀ D w1, w.2.K D w1 -> Aa w1 D (.agg #[u]) o) fun v w w' h hb => by obtain ⟨u, e, e2, h⟩ := h; exact ⟨u, e, e2, fun D w1 h1 => h D w1 (hb.2.1 D w1 h1)⟩, .s (fun v w => ∃ u, v = .agg #[u] /\ u.oneCell' = true /\ ∀ D w1, w.2.K D w1 -> Aa w1 D (.agg #[u]) (o)) fun v w w' h hb => by obtain ⟨u, e, e2, h⟩ := h; exact ⟨u, e, e2, fun D w1 h1 => h D w1 (hb.2.1 D w1 h1)⟩, .i (.bool b), .s (fun v w => ∃ g o, v = .pointer (some ⟨g, 0, none⟩) /\ w.2.b = some (g, o)) fun v w w' h hb => hb.var h, .s (fun v w => ∃ g u, w.2.b = some (g, some #[u]) /\ u.oneCell' = true /\ ∀ D w1, w.2.K D w1 -> Aa w1 D (.agg #[u]) (o)) fun v w w' h hb => by obtain ⟨g, u, e, e2, h⟩ := h; exact ⟨g, u, hb.2.2.2 _ _ e, e2, fun D w1 h1 => h D w1 (hb.2.1 D w1 h1)⟩, .i (.bool b)] ?_ ⟨uR (h := fun w hW hN => (hW.1 hJ0).box 1 rfl), uM, ?_, uM, ?_, uM, ?_, ?_, ?_, ?_, uA, trivial⟩ ?_
    ·first | assumption | (intro i; (try dsimp only); split <;> first | trivial | assumption | (left; assumption))
    ·refine uG fun b__ w hW hN hE K hK => ?_
     have e88 := hE 88
     refine AY rfl (by kernel_rfl) (by simp only [List.map_cons, List.map_nil, e88]) (C0 s HS64.out w.1) fun e w' ⟨z, he, hz, hb⟩ => ⟨z, he, ?_⟩
     obtain ⟨u, rfl, h1⟩ := CO hz
     exact hK _ (w', { w.2 with K := _ }) ⟨u, rfl, h1, fun D w1 h => h.2⟩ (GK.more ((hW.1 hJ0).ret hb Ab hz) fun D w1 h => h.1)
    ·refine uG fun b__ w hW hN hE K hK => ?_
     have e87 := hE 87
     have e89 := hE 89
     have e90 := hE 90
     obtain ⟨ua, hua, _, h2⟩ := e89
     refine AY rfl (by kernel_rfl) (by simp only [List.map_cons, List.map_nil, e87, hua, e90]) (HST.out _ _ _ _ _ (hW.1 hJ0) (fun D w1 h => kp D w1 (hW.2.1 D w1 h)) h2 (fun D w1 h => HT.out _ _ (hW.2.1 D w1 h))) fun e w' ⟨u', he, hu', hs⟩ => ⟨_, he, ?_⟩
     exact hK _ (w', { w.2 with K := _ }) ⟨u', rfl, hu', fun D w1 h => h.2⟩ (GK.more hs fun D w1 h => h.1)
    ·refine uG fun b__ w hW hN hE K hK => ?_
     have e86 := hE 86
     obtain ⟨u, hu, hu1, h1⟩ := e86
     exact Bb rfl hu rfl (hK _ _ ⟨u, rfl, hu1, h1⟩ ⟨hRr _, fun _ _ h => h⟩)
    ·refine uG fun b__ w hW hN hE K hK => ?_
     have e86 := hE 86
     obtain ⟨u, hu, hu1, h1⟩ := e86
     exact Bb rfl hu rfl (hK _ _ rfl ⟨hRr _, fun _ _ h => h⟩)
    ·refine uG fun b__ w hW hN hE K hK => ?_
     exact FU rfl (by kernel_rfl) (by kernel_rfl) (hW.1 hJ0) (hN.1 rfl) fun g w' hs => hK _ (w', { w.2 with b := some (g, none) }) ⟨g, none, rfl, rfl⟩ (GK.made (hN.1 rfl) hs)
    ·refine uG fun b__ w hW hN hE K hK => ?_
     have e16 := hE 16
     have e92 := hE 92
     obtain ⟨g, o, hg, hgb⟩ := e16
     obtain ⟨u, hv, hu1, h1⟩ := e92
     obtain rfl : o = none := (by cases o with | none => rfl | some cs => exact absurd hgb (hN.2 rfl g cs))
     exact FT rfl hg hv (hW.1 hJ0) hgb (by kernel_rfl) rfl (by simpa [Value.oneCell'] using hu1) fun w' hs => hK undef (w', { w.2 with b := some (g, some #[u]) }) ⟨g, u, rfl, hu1, h1⟩ (GK.put hgb hs)
    ·intro vs wz hW hT
     obtain ⟨e87, e88, e89, e90, e91, e86, e92, e93, e16, z9, e17, -⟩ := hT
     have bx : (fun _ : Nat => True) 0 := trivial
     simp only [Ak, Act.put, zz, ze]
     obtain ⟨_, hst⟩ := z9
     obtain ⟨g16, o16, hg16, hgb⟩ := e16
     obtain ⟨gz, us2, hgb2, hus2, hset⟩ := hst
     obtain rfl : g16 = gz := by rw [hgb] at hgb2; injection hgb2 with h; injection h with h1 h2
     obtain ⟨KB, kb, KSB, hS⟩ : ∃ KB : (Nat -> Prop) -> World -> Prop, Hid (∀ D w, KB D w -> K3 D w /\ Aa w D (.agg #[us2]) o) /\ Hid (Ax KB) /\ St W wz.1 (.box g16 39 #[us2] :: .box g8 30 #[.int .i64 p.roles, .slice Al L.length cl, .int .u64 (p.start : Nat), .slice Br n dr, .slice Bn p.never.length dn, .slice Bg p.goal.length dg] :: .box g7 43 #[.int .i64 p.roles, .pointer la, .slice As ns cs, .slice Ar n cr, .slice An p.never.length cn, .slice Ag p.goal.length cg] :: []) KB := ⟨fun D w => K3 D w /\ Aa w D (.agg #[us2]) o, Lib.hid fun _ _ h => h, Lib.hid (KS3.out.and Ab), ((hW.1 hJ0).some hgb2).mono (KS3.out.and Ab) fun D w h => ⟨hW.2.1 D w h, hset D w h⟩⟩
     clear hW hJ0 hRr hRt hN0 hgb hgb2 hset e86 e87 e88 e89 e90 e91 e92 e93
     generalize wz.1 = wf at *
     simp only [show vs (16 : Nat) = _ from hg16]
     rw [e17]
     clear e17 hg16
     generalize vs 86 = s86, vs 87 = s87, vs 88 = s88, vs 89 = s89, vs 90 = s90, vs 91 = s91, vs 92 = s92, vs 93 = s93
     go_wp2_with (first
      | ((with_reducible refine qk 30 ?_); refine qL hS Tryz.underlying30 ?_)
      | ((with_reducible refine qk 43 ?_); refine qL hS Tryz.underlying43 ?_)
      | (go_at_call 32; refine (HRS.out _ _ _ (kr _ _ (kb.out _ _ hS.ro).1)).mono ?_; rintro r_ w_ ⟨_, rfl, rfl, hb_⟩; replace hS := hS.ext hb_; clear hb_)
      | ((with_reducible refine qA 20 ?_); refine qa hS #[.int .i64 0, .pointer none, .slice none 0 0, .slice none 0 0, .slice none 0 0, .slice none 0 0] ?_; clear hS; intro g20 w_ hS)
      | ((with_reducible refine qM ?_); (first | refine qS hS ?_ | refine qT hS ?_); clear hS; intro w_ hS; (try simp only [Act.put, Act.eval, zz, Value.cells] at hS)))
     have kp2 : ∀ D w, KB D w -> B0 w D (.agg #[.int .i64 p.roles, .pointer none, .slice As ns cs, .slice Ar n cr, .slice An p.never.length cn, .slice Ag p.goal.length cg]) (noL p) := fun D w h => (kp _ _ (kb.out _ _ h).1).noL
     have hJ0 : GJ W (.box g20 43 #[.int .i64 p.roles, .pointer none, .slice As ns cs, .slice Ar n cr, .slice An p.never.length cn, .slice Ag p.goal.length cg] :: .box g16 39 #[us2] :: .box g8 30 #[.int .i64 p.roles, .slice Al L.length cl, .int .u64 (p.start : Nat), .slice Br n dr, .slice Bn p.never.length dn, .slice Bg p.goal.length dg] :: .box g7 43 #[.int .i64 p.roles, .pointer la, .slice As ns cs, .slice Ar n cr, .slice An p.never.length cn, .slice Ag p.goal.length cg] :: []) 39 #[.slice none 0 0] (w_.drew, ⟨none, KB⟩) := hS.drew
     have hRr := @GR.refl W (.box g20 43 #[.int .i64 p.roles, .pointer none, .slice As ns cs, .slice Ar n cr, .slice An p.never.length cn, .slice Ag p.goal.length cg] :: .box g16 39 #[us2] :: .box g8 30 #[.int .i64 p.roles, .slice Al L.length cl, .int .u64 (p.start : Nat), .slice Br n dr, .slice Bn p.never.length dn, .slice Bg p.goal.length dg] :: .box g7 43 #[.int .i64 p.roles, .pointer la, .slice As ns cs, .slice Ar n cr, .slice An p.never.length cn, .slice Ag p.goal.length cg] :: []) 39 #[.slice none 0 0]
     have hRt := @GR.trans W (.box g20 43 #[.int .i64 p.roles, .pointer none, .slice As ns cs, .slice Ar n cr, .slice An p.never.length cn, .slice Ag p.goal.length cg] :: .box g16 39 #[us2] :: .box g8 30 #[.int .i64 p.roles, .slice Al L.length cl, .int .u64 (p.start : Nat), .slice Br n dr, .slice Bn p.never.length dn, .slice Bg p.goal.length dg] :: .box g7 43 #[.int .i64 p.roles, .pointer la, .slice As ns cs, .slice Ar n cr, .slice An p.never.length cn, .slice Ag p.goal.length cg] :: []) 39 #[.slice none 0 0]
     have hN0 := @GN.start 7 8 w_.drew KB
     have HNS : Hid (∀ (w : World) (F : List Ac) (K : (Nat -> Prop) -> World -> Prop) (v z : Value), St W w F K -> (∀ D w, K D w -> B0 w D v (noL p)) -> (∀ D w, K D w -> Aa w D z s) -> (∀ D w, K D w -> B3 w) -> Calls Tryz.prog 31 #[v, z, .int .i64 0] w (StepQ W F K 0 false)) := Lib.hid fun w F K v z h1 h2 h3 h4 => Fd 0 (noL_ok hM.out.ok) h1 h2 h3 h4 (by rw [noL_step]; rfl) (by rw [noL_step]; rfl)
     clear hS
     refine Di (GR W (.box g20 43 #[.int .i64 p.roles, .pointer none, .slice As ns cs, .slice Ar n cr, .slice An p.never.length cn, .slice Ag p.goal.length cg] :: .box g16 39 #[us2] :: .box g8 30 #[.int .i64 p.roles, .slice Al L.length cl, .int .u64 (p.start : Nat), .slice Br n dr, .slice Bn p.never.length dn, .slice Bg p.goal.length dg] :: .box g7 43 #[.int .i64 p.roles, .pointer la, .slice As ns cs, .slice Ar n cr, .slice An p.never.length cn, .slice Ag p.goal.length cg] :: []) 39 #[.slice none 0 0]) (GN 7 8) (⟨none, KB⟩) hRr hRt [.i (.agg #[.int .i64 p.roles, .pointer none, .slice As ns cs, .slice Ar n cr, .slice An p.never.length cn, .slice Ag p.goal.length cg]), .i (.int .u64 (s : Nat)), .s (fun v w => ∃ u, v = .agg #[u] /\ u.oneCell' = true /\ ∀ D w1, w.2.K D w1 -> Aa w1 D (.agg #[u]) (s)) fun v w w' h hb => by obtain ⟨u, e, e2, h⟩ := h; exact ⟨u, e, e2, fun D w1 h1 => h D w1 (hb.2.1 D w1 h1)⟩, .s (fun v w => ∃ u, v = .tuple #[.agg #[u], .bool false] /\ u.oneCell' = true /\ ∀ D w1, w.2.K D w1 -> Aa w1 D (.agg #[u]) 0) fun v w w' h hb => by obtain ⟨u, e, e2, h⟩ := h; exact ⟨u, e, e2, fun D w1 h1 => h D w1 (hb.2.1 D w1 h1)⟩, .s (fun v w => ∃ u, v = .tuple #[.agg #[u], .bool false] /\ u.oneCell' = true /\ ∀ D w1, w.2.K D w1 -> Aa w1 D (.agg #[u]) 0) fun v w w' h hb => by obtain ⟨u, e, e2, h⟩ := h; exact ⟨u, e, e2, fun D w1 h1 => h D w1 (hb.2.1 D w1 h1)⟩, .s (fun v w => ∃ u, v = .agg #[u] /\ u.oneCell' = true /\ ∀ D w1, w.2.K D w1 -> Aa w1 D (.agg #[u]) (0)) fun v w w' h hb => by obtain ⟨u, e, e2, h⟩ := h; exact ⟨u, e, e2, fun D w1 h1 => h D w1 (hb.2.1 D w1 h1)⟩, .b false, .s (fun v w => ∃ g o, v = .pointer (some ⟨g, 0, none⟩) /\ w.2.b = some (g, o)) fun v w w' h hb => hb.var h, .s (fun v w => ∃ g u, w.2.b = some (g, some #[u]) /\ u.oneCell' = true /\ ∀ D w1, w.2.K D w1 -> Aa w1 D (.agg #[u]) (0)) fun v w w' h hb => by obtain ⟨g, u, e, e2, h⟩ := h; exact ⟨g, u, hb.2.2.2 _ _ e, e2, fun D w1 h1 => h D w1 (hb.2.1 D w1 h1)⟩, .b false] ?_ ⟨uR (h := fun w hW hN => (hW.1 hJ0).box 0 rfl), uM, ?_, ?_, uM, ?_, ?_, ?_, ?_, uA, trivial⟩ ?_
     ·first | assumption | (intro i; (try dsimp only); split <;> first | trivial | assumption | (left; assumption))
     ·refine uG fun b__ w hW hN hE K hK => ?_
      have e105 := hE 105
      refine AY rfl (by kernel_rfl) (by simp only [List.map_cons, List.map_nil, e105]) (C0 s HS64.out w.1) fun e w' ⟨z, he, hz, hb⟩ => ⟨z, he, ?_⟩
      obtain ⟨u, rfl, h1⟩ := CO hz
      exact hK _ (w', { w.2 with K := _ }) ⟨u, rfl, h1, fun D w1 h => h.2⟩ (GK.more ((hW.1 hJ0).ret hb Ab hz) fun D w1 h => h.1)
     ·refine uG fun b__ w hW hN hE K hK => ?_
      have e104 := hE 104
      have e106 := hE 106
      obtain ⟨ua, hua, _, h2⟩ := e106
      refine AY rfl (by kernel_rfl) (by simp only [List.map_cons, List.map_nil, e104, hua]; rfl) (HNS.out _ _ _ _ _ (hW.1 hJ0) (fun D w1 h => kp2 D w1 (hW.2.1 D w1 h)) h2 (fun D w1 h => HT.out _ _ (kb.out _ _ (hW.2.1 D w1 h)).1)) fun e w' ⟨u', he, hu', hs⟩ => ⟨_, he, ?_⟩
      exact hK _ (w', { w.2 with K := _ }) ⟨u', rfl, hu', fun D w1 h => h.2⟩ (GK.more hs fun D w1 h => h.1)
     ·refine uG fun b__ w hW hN hE K hK => ?_
      have e103 := hE 103
      obtain ⟨u, hu, hu1, h1⟩ := e103
      exact Bb rfl hu rfl (hK _ _ ⟨u, rfl, hu1, h1⟩ ⟨hRr _, fun _ _ h => h⟩)
     ·refine uG fun b__ w hW hN hE K hK => ?_
      have e103 := hE 103
      obtain ⟨u, hu, hu1, h1⟩ := e103
      exact Bb rfl hu rfl (hK _ _ rfl ⟨hRr _, fun _ _ h => h⟩)
     ·refine uG fun b__ w hW hN hE K hK => ?_
      exact FU rfl (by kernel_rfl) (by kernel_rfl) (hW.1 hJ0) (hN.1 rfl) fun g w' hs => hK _ (w', { w.2 with b := some (g, none) }) ⟨g, none, rfl, rfl⟩ (GK.made (hN.1 rfl) hs)
     ·refine uG fun b__ w hW hN hE K hK => ?_
      have e21 := hE 21
      have e108 := hE 108
      obtain ⟨g, o, hg, hgb⟩ := e21
      obtain ⟨u, hv, hu1, h1⟩ := e108
      obtain rfl : o = none := (by cases o with | none => rfl | some cs => exact absurd hgb (hN.2 rfl g cs))
      exact FT rfl hg hv (hW.1 hJ0) hgb (by kernel_rfl) rfl (by simpa [Value.oneCell'] using hu1) fun w' hs => hK undef (w', { w.2 with b := some (g, some #[u]) }) ⟨g, u, rfl, hu1, h1⟩ (GK.put hgb hs)
     ·intro vs wz hW hT
      obtain ⟨e104, e105, e106, e107, e103, e108, e109, e21, z8, e22, -⟩ := hT
      have bx : (fun _ : Nat => True) 0 := trivial
      simp only [Ak, Act.put, zz, ze]
      obtain ⟨_, hst⟩ := z8
      obtain ⟨g21, o21, hg21, hgb⟩ := e21
      obtain ⟨gz, us3, hgb2, hus3, hset⟩ := hst
      obtain rfl : g21 = gz := by rw [hgb] at hgb2; injection hgb2 with h; injection h with h1 h2
      have hS : St W wz.1 (.box g21 39 #[us3] :: .box g20 43 #[.int .i64 p.roles, .pointer none, .slice As ns cs, .slice Ar n cr, .slice An p.never.length cn, .slice Ag p.goal.length cg] :: .box g16 39 #[us2] :: .box g8 30 #[.int .i64 p.roles, .slice Al L.length cl, .int .u64 (p.start : Nat), .slice Br n dr, .slice Bn p.never.length dn, .slice Bg p.goal.length dg] :: .box g7 43 #[.int .i64 p.roles, .pointer la, .slice As ns cs, .slice Ar n cr, .slice An p.never.length cn, .slice Ag p.goal.length cg] :: []) KB := ((hW.1 hJ0).some hgb2).mono KSB.out fun D w h => hW.2.1 D w h
      clear hW hJ0 hRr hRt hN0 hgb hgb2 hset e103 e104 e105 e106 e107 e108 e109
      generalize wz.1 = wf2 at *
      simp only [show vs (21 : Nat) = _ from hg21]
      rw [e22]
      clear e22 hg21
      generalize vs 103 = s103, vs 104 = s104, vs 105 = s105, vs 106 = s106, vs 107 = s107, vs 108 = s108, vs 109 = s109
      have HNG : Hid (∀ (w : World) (D E : Nat -> Prop) (v u : Value), B0 w D v (noL p) -> B3 w -> Aa w E u s -> Calls Tryz.prog 27 #[v, u] w (Az (fun r _ => r = .bool false) w)) := Lib.hid fun w D E v u h1 h2 h3 => by have := Ep h1 (noL_ok hM.out.ok) h2 h3; rwa [noL_good] at this
      have HNR2 : Hid (∀ (w : World) (D E : Nat -> Prop) (v u : Value), B0 w D v (noL p) -> B3 w -> Aa w E u s -> Calls Tryz.prog 29 #[v, u] w (Az (fun r _ => r = .bool false) w)) := Lib.hid fun w D E v u h1 h2 h3 => by have := GH h1 (noL_ok hM.out.ok) h2 h3; rwa [noL_reach] at this
      go_wp2_with fail
      refine Bw [.i (.bool b), .i (.bool b), .b true, .b true, .i (.agg #[us2]), .i (.int .u64 (o : Nat)), .s (fun v w => Aa w (fun _ => True) v o) fun v w w' h hb => h.ext hb, .b true, .b true, .b true, .b false, .b true, .b true, .b true, .i (.agg #[.int .i64 p.roles, .pointer none, .slice As ns cs, .slice Ar n cr, .slice An p.never.length cn, .slice Ag p.goal.length cg]), .i (.int .u64 (s : Nat)), .s (fun v w => Aa w (fun _ => True) v s) fun v w w' h hb => h.ext hb, .b false, .b true, .b true, .b true, .i (.agg #[.int .i64 p.roles, .pointer none, .slice As ns cs, .slice Ar n cr, .slice An p.never.length cn, .slice Ag p.goal.length cg]), .i (.int .u64 (s : Nat)), .s (fun v w => Aa w (fun _ => True) v s) fun v w w' h hb => h.ext hb, .b false, .b true, .b true, .b true] ⟨uM, uM, uB (h := fun w hW hN => by cases b <;> rfl), uM, uR (h := fun w hW hN => (hS.ext hW).box 2 rfl), uM, ?_, ?_, uP, uM, uM, uU, uP, uM, uR (h := fun w hW hN => (hS.ext hW).box 1 rfl), uM, ?_, ?_, uU, uP, uM, uR (h := fun w hW hN => (hS.ext hW).box 1 rfl), uM, ?_, ?_, uU, uP, uA, trivial⟩ ?_
      ·refine uT fun b__ w hW hE K hK => ?_
       have e115 := hE 115
       exact Af rfl (by kernel_rfl) (by simp only [List.map_cons, List.map_nil, e115]) (C0 o HO.out _) fun v w' h hb => hK v w' (h.imp fun _ _ _ => trivial) hb
      ·refine uT fun b__ w hW hE K hK => ?_
       have e114 := hE 114
       have e116 := hE 116
       exact Af rfl (by kernel_rfl) (by simp only [List.map_cons, List.map_nil, e114]) (DO _ _ o o _ _ _ (kb.out _ _ (hS.ext hW).ro).2 e116) fun v w' h hb => hK v w' (h.trans (by simp)) hb
      ·refine uT fun b__ w hW hE K hK => ?_
       have e125 := hE 125
       exact Af rfl (by kernel_rfl) (by simp only [List.map_cons, List.map_nil, e125]) (C0 s HS64.out _) fun v w' h hb => hK v w' (h.imp fun _ _ _ => trivial) hb
      ·refine uT fun b__ w hW hE K hK => ?_
       have e124 := hE 124
       have e126 := hE 126
       exact Af rfl (by kernel_rfl) (by simp only [List.map_cons, List.map_nil, e124]) (HNG.out _ _ _ _ _ (kp2 _ _ (hS.ext hW).ro) (HT.out _ _ (kb.out _ _ (hS.ext hW).ro).1) e126) fun v w' h hb => hK v w' h hb
      ·refine uT fun b__ w hW hE K hK => ?_
       have e132 := hE 132
       exact Af rfl (by kernel_rfl) (by simp only [List.map_cons, List.map_nil, e132]) (C0 s HS64.out _) fun v w' h hb => hK v w' (h.imp fun _ _ _ => trivial) hb
      ·refine uT fun b__ w hW hE K hK => ?_
       have e131 := hE 131
       have e133 := hE 133
       exact Af rfl (by kernel_rfl) (by simp only [List.map_cons, List.map_nil, e131]) (HNR2.out _ _ _ _ _ (kp2 _ _ (hS.ext hW).ro) (HT.out _ _ (kb.out _ _ (hS.ext hW).ro).1) e133) fun v w' h hb => hK v w' h hb
      ·intro vs wz hW hT
       obtain ⟨e110, e111, e112, e113, e114, e115, e116, e117, e118, e119, e120, e121, e122, e123, e124, e125, e126, e127, e128, e129, e130, e131, e132, e133, e134, e135, e136, e6, -⟩ := hT
       have bx : (fun _ : Nat => True) 0 := trivial
       simp only [Ak, Act.put, zz, ze]
       replace hS := hS.ext hW
       go_wp2_with fail
       go_ret
       first | exact Az.mk rfl hS.below | exact Az.mk e6 hS.below
end
section
open Go.RowKit Go.ChangeShapes Go.WideShapes
section
variable {H : Type} {enc : TypeId × Value -> H} {P : Program} {w : World} {base : Nat} {sp : Nat -> Bool} {held : Bool}
theorem sl_of_trod {t e : TypeId} {size fuel : Nat} {cs : List Value} {x : DataW H × List MemPlace} (ht : P.underlying t = some (.slice e)) (hc : P.cellsOf e = size) (hsz : 0 < size) (h : DataW.trod enc P w base sp held fuel t cs = some x) :
  ∃ v n xs, cs = [v] /\ Sl w (fun _ => True) size v n xs /\ ∀ k, k < n -> ∃ f' y, DataW.trod enc P w base sp held f' e ((xs.drop (k * size)).take size) = some y := by
 rcases DataW.trod_slice ht h with ⟨rfl, _⟩ | ⟨a, len, cap, elems, rest, n, _, rfl, _, hb, hl, hm, hlen, hel, _⟩
 ·exact ⟨_, 0, [], rfl, ⟨by simp, none, 0, rfl, Nat.le_refl _, Nat.zero_le _, fun h => by omega⟩, fun k hk => by omega⟩
 ·rw [hc] at hel
  have each : ∀ k, k < len -> ∃ ck y, w.cells? base (a.add (k * size)) size = some ck /\ DataW.trod enc P w base sp held n e ck = some y := by
   intro k hk
   have h1 := hel k hk
   rw [List.getElem?_eq_getElem (by omega)] at h1
   obtain ⟨ck, h2, h3⟩ := Option.bind_eq_some_iff.1 h1
   exact ⟨ck, _, h2, h3⟩
  have hadd : ∀ i j, (a.add i).add j = a.add (i + j) := by
   intro i j
   unfold Addr.add
   by_cases h1 : i = 0 <;> by_cases h2 : j = 0 <;> simp [h1, h2, Nat.add_assoc]
  have cell : ∀ j, j < len * size -> ∃ x, w.cell? (a.add j) = some x := by
   intro j hj
   have hk : j / size < len := (Nat.div_lt_iff_lt_mul hsz).2 hj
   obtain ⟨ck, y, h1, h2⟩ := each _ hk
   obtain ⟨_, h3, h4⟩ := World.cells?_some h1
   have h5 := h4 (j % size) (Nat.mod_lt _ hsz)
   rw [hadd, Nat.mul_comm, Nat.div_add_mod] at h5
   rw [h5, List.getElem?_eq_getElem (by rw [h3]; exact Nat.mod_lt _ hsz)]
   exact ⟨_, rfl⟩
  refine ⟨.slice (some a) len cap, len, (List.range (len * size)).map fun j => (w.cell? (a.add j)).getD undef, rfl, ⟨by simp, some a, cap, rfl, hl, hm, fun h0 => ?_⟩, fun k hk => ?_⟩
  ·obtain ⟨x0, hx0⟩ := cell 0 (Nat.mul_pos h0 hsz)
   obtain ⟨b, o, s⟩ := a
   have hs : s = none := cell_spot hx0
   subst hs
   refine ⟨b, o, rfl, trivial, ?_, fun j x hx => ?_⟩
   ·have := hx0
    unfold World.cell? at this
    simp only [Addr.add] at this
    rcases Nat.lt_or_ge b w.heap.size with hlt | hge
    ·exact hlt
    ·simp [Array.getElem?_eq_none hge] at this
   ·simp only [List.getElem?_map, Option.map_eq_some_iff] at hx
    obtain ⟨j', hj', rfl⟩ := hx
    have hjl := (List.getElem?_eq_some_iff.1 hj').1
    rw [List.getElem?_range (by simpa using hjl)] at hj'
    obtain rfl := Option.some.inj hj'
    obtain ⟨y, hy⟩ := cell j (by simpa using hjl)
    rw [hy]
    have e : (⟨b, o, none⟩ : Addr).add j = ⟨b, o + j, none⟩ := by
     unfold Addr.add; split <;> simp [*]
    rw [e] at hy
    exact hy
  ·obtain ⟨ck, y, h1, h2⟩ := each k hk
   obtain ⟨_, h3, h4⟩ := World.cells?_some h1
   refine ⟨n, y, ?_⟩
   rw [<- h2]
   congr 1
   have hle : k * size + size <= len * size := by
    rw [<- Nat.succ_mul]; exact Nat.mul_le_mul_right _ hk
   apply List.ext_getElem?
   intro i
   rcases Nat.lt_or_ge i size with hi | hi
   ·rw [List.getElem?_take_of_lt hi, List.getElem?_drop, List.getElem?_map, List.getElem?_range (by omega)]
    have h5 := h4 i hi
    rw [hadd] at h5
    simp only [Option.map_some]
    rw [h5, List.getElem?_eq_getElem (by omega)]
    simp
   ·rw [List.getElem?_eq_none (by simp; omega), List.getElem?_eq_none (by omega)]
end
theorem u8_nat {n : Int} (h : (Lit.int .u8 n).wf = true) : ∃ m : Nat, n = (m : Int) /\ m < 256 := by
 have := bounds_u8 h
 exact ⟨n.toNat, by omega, by omega⟩
end
section
open Go.ChangeShapes Go.WideShapes Go.ChangeAt Go.RowKit
set_option maxRecDepth 20000 in
theorem bytes_open {H : Type} {enc : TypeId × Value -> H} {W : World} {r : Reach} {b0 base : Nat} {sp : Nat -> Bool} {held : Bool} {v : Value} {d : DataW H} {p : List MemPlace} (hv : Value.okWide Tryz.prog W r b0 22 v) (h : DataW.Trod enc Tryz.prog W base sp held 22 v d p) :
  ∃ l : List Nat, (∀ x ∈ l, x < 256) /\ Sl W (fun _ => True) 1 v l.length (u8s l) := by
 obtain ⟨a0, len0, cap0, rfl⟩ := okWide_slice Tryz.underlying22 hv
 obtain ⟨fuel, hf⟩ := h
 obtain ⟨v, n, xs, e, hs, he⟩ := sl_of_trod Tryz.underlying22 (size := 1) (by kernel_rfl) (by decide) hf
 have hl := hs.1
 have : ∃ zs : List Nat, (∀ x ∈ zs, x < 256) /\ xs = u8s zs := by
  have : ∀ v ∈ xs, ∃ z : Nat, z < 256 /\ v = .int .u8 (z : Nat) := by
   intro v hv
   obtain ⟨k, hk, hkv⟩ := List.mem_iff_getElem.1 hv
   obtain ⟨f', y, hy⟩ := he k (by omega)
   obtain ⟨z, hz, _, hw⟩ := DataW.trod_int Tryz.underlying5 hy
   obtain ⟨m, rfl, hm⟩ := u8_nat hw
   have h0 := congrArg (·[0]?) hz
   simp only [Nat.mul_one, List.getElem?_take_of_lt Nat.zero_lt_one, List.getElem?_drop, Nat.add_zero] at h0
   rw [List.getElem?_eq_getElem hk, hkv] at h0
   exact ⟨m, hm, by simpa using h0⟩
  clear hs he hl
  induction xs with
  | nil => exact ⟨[], fun x hx => by simp at hx, rfl⟩
  | cons a r ih =>
   obtain ⟨zs, hzs, rfl⟩ := ih fun v hv => this v (List.mem_cons_of_mem _ hv)
   obtain ⟨z, hz, rfl⟩ := this a List.mem_cons_self
   exact ⟨z :: zs, fun x hx => by rcases List.mem_cons.1 hx with rfl | hx; exact hz; exact hzs x hx, rfl⟩
 obtain ⟨zs, hzs, rfl⟩ := this
 have hz : zs.length = n := by simpa [u8s] using hl
 obtain rfl : v = .slice a0 len0 cap0 := by simpa [Value.cells] using e.symm
 exact ⟨zs, hzs, hz ▸ hs⟩
end
section
open Go.RowKit Go.ChangeShapes Go.WideShapes
theorem boxF_of_reads {w : World} {n : String} {g : Nat} {t e : TypeId} {m : Nat} {k : IntKind} {zs : List Int} (hg : Tryz.prog.globalNamed n = some g) (hty : (Tryz.prog.globals[g]?).map (·.type) = some t)
  (ht : Tryz.prog.underlying t = some (.array m e)) (he : Tryz.prog.underlying e = some (.int k)) (hce : Tryz.prog.cellsOf e = 1) (hct : Tryz.prog.cellsOf t = m) (h : Lib.VarReads Tryz.prog w n (Lib.tabData k zs)) :
  ∃ t, BoxF w g t (zs.map fun z => Value.int k z).toArray := by
 obtain ⟨g', t', cs, fuel, p, hg', hty', hvar, hd⟩ := h
 obtain rfl := Option.some.inj (hg.symm.trans hg')
 obtain rfl := Option.some.inj (hty.symm.trans hty')
 have hcs := Lib.cells_of_tab ht he hce hct hd
 simp only [World.var?, hg, Option.bind_some] at hvar
 split at hvar
 ·rename_i cs' t'' f heq
  obtain rfl := Option.some.inj hvar
  refine ⟨(t'', f), ?_⟩
  rw [<- hcs]
  exact heq
 ·cases hvar
end
section
open Go.RowKit Go.ChangeShapes Go.WideShapes
theorem dtab_of_reads {w : World} (h1 : Lib.VarReads Tryz.prog w "math/bits.deBruijn64tab" Rows.laid_math_bits_deBruijn64tab) : B3 w := by
 have e1 : (Rows.laid_math_bits_deBruijn64tab : DataW Unit) = Lib.tabData .u8 (dbL.map fun x : Nat => (x : Int)) := by kernel_rfl
 rw [e1] at h1
 obtain ⟨t, b1⟩ := boxF_of_reads (g := 0) (by kernel_rfl) (t := 225) (by kernel_rfl) Tryz.underlying225 Tryz.underlying5 (by kernel_rfl) (by kernel_rfl) h1
 have e : (List.map (fun z => Value.int .u8 z) (dbL.map fun x : Nat => (x : Int))) = u8s dbL := by simp [u8s]
 rw [e] at b1
 intro q hq
 rw [b1.cell, List.getElem?_toArray]
 exact u8s_at _ _ hq
end
section
open Go.ChangeShapes Go.WideShapes Go.ChangeAt Go.RowKit
section
variable {P : Program} {H : Type} {enc : TypeId × Value -> H} {W : World} {r : Reach} {b0 base : Nat} {sp : Nat -> Bool} {held : Bool} {v : Value} {d : DataW H} {p : List MemPlace} {t : TypeId}
theorem int_open {k : IntKind} (ht : P.underlying t = some (.int k)) (hv : Value.okWide P W r b0 t v) (h : DataW.Trod enc P W base sp held t v d p) : ∃ n, v = .int k n /\ (Lit.int k n).wf = true := by
 obtain ⟨n, rfl⟩ := okWide_int ht hv
 obtain ⟨fuel, hf⟩ := h
 obtain ⟨m, e, _, w⟩ := DataW.trod_int ht hf
 simp [Value.cells] at e
 subst e
 exact ⟨_, rfl, w⟩
theorem u8_open (ht : P.underlying t = some (.int .u8)) (hv : Value.okWide P W r b0 t v) (h : DataW.Trod enc P W base sp held t v d p) : ∃ n : Nat, v = .int .u8 n /\ n < 256 := by
 obtain ⟨n, rfl, w⟩ := int_open ht hv h
 have := bounds_u8 w
 obtain ⟨m, rfl⟩ := Int.eq_ofNat_of_zero_le (by omega : 0 <= n)
 exact ⟨m, rfl, by omega⟩
theorem i64_open (ht : P.underlying t = some (.int .i64)) (hv : Value.okWide P W r b0 t v) (h : DataW.Trod enc P W base sp held t v d p) : ∃ n : Int, v = .int .i64 n /\ -9223372036854775808 <= n /\ n < 9223372036854775808 := by
 obtain ⟨n, rfl, w⟩ := int_open ht hv h
 have := bounds_i64 w
 exact ⟨n, rfl, by omega, by omega⟩
end
end
section
open Go.ChangeShapes Go.WideShapes Go.ChangeAt Go.RowKit
theorem Hc (W : World) (h : laidMetH Tryz.prog Rows.schemeStepsRow.laid W) : B3 W := by
 have h' : laidMetH Tryz.prog [("math/bits.deBruijn64tab", Rows.laid_math_bits_deBruijn64tab)] W := h
 rw [MakeChecks.laidMetH_plain _ _ _ (by kernel_rfl)] at h'
 exact dtab_of_reads (Lib.laidMet.reads h' (.head _))
noncomputable def schsStart (os : Os) : World := World.laidAll Tryz.prog os Rows.schemeStepsRow.laid
theorem I1 (os : Os) (args : Array Value) : laidMetH Tryz.prog Rows.schemeStepsRow.laid ((schsStart os).forCall (fun _ _ => 0) ⟨#[], args, []⟩).memory := by
 rw [MakeChecks.laidMetH_plain _ _ _ (by kernel_rfl)]
 exact laidMet_laidAll _ (by kernel_rfl) (by kernel_rfl)
theorem schs_own : ownKnob Tryz.prog.godebug = none := by kernel_rfl
theorem DT : laidOutB Tryz.prog = true := by kernel_rfl
set_option maxRecDepth 100000 in
theorem schs_lifted (os : Os) (started : os.Started) (H : Type) (enc : TypeId × Value -> H) :
  ReturnsInHanded {} Tryz.checked os 5 .any (fun w args => (Rows.schemeStepsSpec.pre enc Tryz.prog Tryz.f5 [] false w args /\ laidMetH Tryz.prog Rows.schemeStepsRow.laid w) /\ sizedMet enc Tryz.prog Tryz.f5 (OpenSpec.ofChange Rows.schemeStepsSpec) false w args)
   (Rows.schemeStepsSpec.post enc Tryz.prog Tryz.f5 false true false false) := by
 refine returnsInHanded_of_change_and (C := Tryz.checked) (X := fun w _ => laidMetH Tryz.prog Rows.schemeStepsRow.laid w) (fun _ _ _ hh h => h.of_heap hh) schs_own started (by kernel_rfl) Tryz.func5
  (ChangeSpec.witness_shaped (enc := enc) (C := Tryz.checked) (os := os) (X := fun w _ => laidMetH Tryz.prog Rows.schemeStepsRow.laid w) false (schsStart os) #[.slice none 0 0, .int .u8 0, .int .i64 0] 8 (World.laidAll_os _ _ _) (World.shaped_of_ZipB (by kernel_rfl) (by kernel_rfl)) (by kernel_rfl) (by kernel_rfl) (by kernel_rfl) (I1 os _)) ?_
 intro W base args ds gs before hval0 hW _ _ hL _
 have hval : ∀ (j : Nat) t v, Tryz.f5.params[j]? = some t -> args[j]? = some v -> Value.okWide Tryz.prog W .any base t v := hval0
 have hW' := hW
 obtain ⟨p, q, hA0, hV, rfl, hfz, hnd⟩ := hW
 have hA : DataW.TrodAll enc Tryz.prog W 0 (fun _ => true) true Tryz.f5.params.toList args.toList ds p := hA0
 rw [Tryz.params5] at hA hval
 obtain ⟨v0, v1, v2, d0, d1, d2, p0, p1, p2, rfl, rfl, rfl, h0, h1, h2⟩ := trodAll_three hA
 obtain ⟨rfl, rfl⟩ := trodVars_none hV
 obtain ⟨l, hl, hs⟩ := bytes_open (hval 0 _ v0 rfl rfl) h0
 obtain ⟨a1, rfl, ha1⟩ := u8_open Tryz.underlying5 (hval 1 _ v1 rfl rfl) h1
 obtain ⟨y, rfl, hy, hy2⟩ := i64_open Tryz.underlying3 (hval 2 _ v2 rfl rfl) h2
 have hT := Hc W hL
 have lt : ∀ z ∈ p0 ++ p1 ++ p2, z.block < W.heap.size := fun z hz => by simpa using hW'.lt z (by simpa using hz)
 refine (lsteps31_any v0 l a1 y W _ hl ha1 hs hT).mono fun E W' he => ?_
 obtain ⟨r, rfl, rfl, hb⟩ := he
 refine ⟨_, rfl, _, _, _, [], p0 ++ p1 ++ p2, [], hW', ?_, ?_, ?_, hb.frame _, fun h => by cases h⟩
 ·exact trodAll_mk1 (shut_bool Tryz.underlying4 true)
 ·rw [Tryz.params5]
  rw [List.append_assoc]
  exact trodAll_mk3 (Below.trod DT (by kernel_rfl) (of_decide_eq_true (by kernel_rfl)) h0 hb fun z hz => lt z (List.mem_append_left _ (List.mem_append_left _ hz))) (Below.trod DT (by kernel_rfl) (of_decide_eq_true (by kernel_rfl)) h1 hb fun z hz => lt z (List.mem_append_left _ (List.mem_append_right _ hz))) (Below.trod DT (by kernel_rfl) (of_decide_eq_true (by kernel_rfl)) h2 hb fun z hz => lt z (List.mem_append_right _ hz))
 ·rfl
theorem schs_holds : Rows.SchemeStepsSaid :=
 OpenClaim.holds_of_wide 5 Tryz.f5 rfl rfl rfl rfl rfl rfl rfl ⟨rfl, rfl, rfl, rfl, rfl⟩ rfl rfl rfl rfl rfl (by kernel_rfl) Tryz.func5 (by kernel_rfl)
  (of_decide_eq_true (by kernel_rfl)) (by unfold Func.isWrapper; rw [if_neg (by decide +kernel)]; exact ⟨rfl, rfl⟩)
  (fun os started H enc _ => schs_lifted os started H enc)
end
section
open Go
theorem schs_card : Rows.SchemeStepsCardSaid :=
 Claim7.holds_tied_plain_at .later [] [.data] true (true, "2f541ff0f2b150b94377df4c904e54df060b1cc989d168e7cdafb17d6c9b7b94") false
  schs_holds (fun _ h => by cases h) (by kernel_rfl) (fun _ h => by cases h) schemeSteps_row_tie rfl ⟨rfl, rfl⟩ (by kernel_rfl) rfl
  (fun f fn hf hfn => by
   obtain rfl : f = 5 := Option.some.inj ((show Tryz.prog.funcNamed "arbac/arbaclaw31.SchemeSteps" = some 5 by kernel_rfl).symm.trans hf) |>.symm
   obtain rfl : fn = Tryz.f5 := (Option.some.inj (Tryz.func5.symm.trans hfn)).symm
   exact ⟨by kernel_rfl, fun j t ht => by
    rw [Tryz.params5] at ht
    have h3 : t = 22 \/ t = 5 \/ t = 3 := by
     rcases j with _ | _ | _ | j
     ·simp at ht; simp [<- ht]
     ·simp at ht; simp [<- ht]
     ·simp at ht; simp [<- ht]
     ·simp at ht
    rcases h3 with rfl | rfl | rfl
    ·exact (show Tryz.prog.wantsStandIn 22 = false by kernel_rfl)
    ·exact (show Tryz.prog.wantsStandIn 5 = false by kernel_rfl)
    ·exact (show Tryz.prog.wantsStandIn 3 = false by kernel_rfl)⟩)
  (by kernel_rfl)
end
end Go.Proofs.YtchjigffejhmfaaGreatDoor
namespace Go.Proofs.YtchjigffejhmfaaGreatDoor
#print axioms schs_card
end Go.Proofs.YtchjigffejhmfaaGreatDoor
