/-
  The card of SchemeChecks.
-/
import Derived.Test.YtchjigffejhmfaaGreatDoorRows
import Derived.ProofKit
import Derived.OpenShut
import Derived.Lib.LaidU8
import Derived.Lay
import Derived.MakeChecks
import Derived.LaidLaws
import Derived.Stop.Joined
import Derived.Test.YtchjigffejhmfaaGreatDoorCards
import Derived.Test.YtchjigffejhmfaaGreatDoorTie
import Derived.SevenTiedAt
import Derived.Test.YtchjigffejhmfaaGreatDoorScc4
namespace Go.Proofs.YtchjigffejhmfaaGreatDoor
section
open Go.RowKit
attribute [local go_sem ↓] Go.wp_at_zero Go.wp_at_succ
set_option maxRecDepth 20000
set_option exponentiation.threshold 5000
set_option maxHeartbeats 4000000 in
theorem sstep_any {w0 w : World} {F : List Ac} {K : (Nat -> Prop) -> World -> Prop} {v z : Value} {p : AK} {N : Nat} (k : Int) (hP : p.Ok) (hS : St w0 w F K) (kp : ∀ D w, K D w -> BQ w D v p) (ku : ∀ D w, K D w -> Aa w D z N) (kt : ∀ D w, K D w -> Bl w) :
  Calls Tryz.prog 31 #[v, z, .int .i64 k] w fun e w' => ∃ x, e = .returned (.tuple #[x, .bool (stepM p N k).isSome]) /\ St w0 w' F fun D w => K D w /\ Aa w D x ((stepM p N k).getD 0) := by
 obtain ⟨R, lk, st, rl, nl, gl⟩ := p
 obtain ⟨lp, s, rv, nv, gv, rfl, h1, h2, h3, h4, h5⟩ := kp _ _ hS.ro
 dsimp only at h1 h2 h3 h4 h5
 obtain ⟨la, rfl⟩ : ∃ la, lp = .pointer la := by
  cases lk with
  | none => exact ⟨none, h1⟩
  | some L => obtain ⟨q, o, rfl, -⟩ := h1; exact ⟨_, rfl⟩
 obtain ⟨Cs, ns, cs, rfl⟩ := h2.shape
 obtain ⟨Ar, cr, rfl, _, _⟩ := h3.shape
 obtain ⟨An, cn, rfl, _, _⟩ := h4.shape
 obtain ⟨Ag, cg, rfl, _, _⟩ := h5.shape
 obtain ⟨u, rfl⟩ : ∃ u, z = .agg #[u] := by
  obtain ⟨A, c, l, rfl, -⟩ := (ku _ _ hS.ro).parts
  exact ⟨_, rfl⟩
 obtain ⟨KC, kc, hS2⟩ : ∃ KC : (Nat -> Prop) -> World -> Prop, Hid (∀ D w, KC D w -> K D w /\ IsHo w D (.pointer la) lk /\ BL w D (.slice Ar rl.length cr) rl) /\ St w0 w F KC := ⟨_, Lib.hid fun D w h => ⟨h.1, h.2.1, h.2.2⟩, hS.add (D := DW F) (CK.and Bx) ⟨h1, h3⟩ fun _ h _ => h⟩
 have KS := Lib.hid hS.stable
 clear hS h1 h2 h3 h4 h5
 have hS := hS2
 clear hS2
 have HP := Lib.hid hP
 have hrl : rl.length <= 100000 := hP.rules
 clear hP
 have HK := Lib.hid kp
 have HU := Lib.hid ku
 have HT := Lib.hid kt
 clear kp ku kt
 by_cases hk : 0 <= k /\ k < rl.length /\ lk.isSome = true
 ·obtain ⟨hk0, hk1, hk2⟩ := hk
  cases lk with
  | none => cases hk2
  | some L =>
   clear hk2
   obtain ⟨j, rfl⟩ : ∃ j : Nat, k = (j : Int) := ⟨k.toNat, by omega⟩
   have hlj : j < rl.length := by omega
   clear hk0 hk1
   obtain ⟨q, o, e, -⟩ := id (kc.out _ _ hS.ro).2.1
   injection e with e
   subst e
   obtain ⟨b, o2, _, _, rfl, -⟩ := (kc.out _ _ hS.ro).2.2.at_ hlj
   rw [I7 (p := ⟨R, some L, st, rl, nl, gl⟩) (N := N) rfl hlj]
   dsimp only
   obtain ⟨z, hz⟩ : ∃ z, rl.getD j Bb = z := ⟨_, rfl⟩
   rw [hz]
   have HZ := Lib.hid hz
   clear hz
   obtain ⟨zr, ry, rn, rt, ro⟩ := z
   obtain ⟨V, hV⟩ : ∃ V, V = if stepB ⟨R, some L, st, rl, nl, gl⟩ N ⟨zr, ry, rn, rt, ro⟩ = true then some (H3 N ⟨zr, ry, rn, rt, ro⟩) else none := ⟨_, rfl⟩
   rw [<- hV]
   have HV := Lib.hid hV
   clear hV
   cases zr
   ·go_enter Tryz.func31, Tryz.ntmps31
    go_wp2_with (first | ((with_reducible refine qA 3 ?_); refine Aw hS rfl _ _ rfl (.agg #[.int .i64 R, .pointer (some ⟨q, 0, none⟩), .slice Cs ns cs, .slice (some ⟨b, o2, none⟩) rl.length cr, .slice An nl.length cn, .slice Ag gl.length cg]) _ rfl rfl ?_; clear hS; intro g3 w_ hS; (try simp only [Act.put, Act.eval, zz, Value.cells] at hS)) | ((with_reducible refine qA 4 ?_); refine Aw hS rfl _ _ rfl (.agg #[u]) _ rfl rfl ?_; clear hS; intro g4 w_ hS; (try simp only [Act.put, Act.eval, zz, Value.cells] at hS)) | ((with_reducible refine qA 6 ?_); refine qa hS #[.slice none 0 0] ?_; clear hS; intro g6 w_ hS) | ((with_reducible refine qA 12 ?_); refine BigFrame.wpList_want rfl fun _ hK => AE (v := .bool false) rfl rfl rfl rfl rfl (hK _ _ ?_)) | ((with_reducible refine qB ?_); refine qc ?_ ?_ <;> intro h_ <;> go_prune) | ((with_reducible refine qA 29 ?_); obtain ⟨b', o', y, n, e', _, _, c0, c1, c2, c3, c4, hy, hn⟩ := (kc.out _ _ hS.ro).2.2.at_ hlj; injection e' with e'; injection e' with e1 e2; subst e1 e2; rw [HZ.out] at c0 c3 c4 hy hn; dsimp only at c0 c3 c4 hy hn; obtain ⟨Ay, my, cy, rfl⟩ := hy.shape; obtain ⟨Am, mn, cm, rfl⟩ := hn.shape; replace hS := hS.add (D := DW _) (Ab.and Ab) ⟨hy, hn⟩ (fun _ h _ => h); refine BigFrame.wpList_want rfl fun _ hK => AU (cs := [.bool false, .slice Ay my cy, .slice Am mn cm, .int .i64 rt, .int .i64 ro]) rfl rfl (Ho c0 c1 c2 c3 c4) Tryz.underlying84 rfl (by kernel_rfl) (hK _ _ ?_)) | ((with_reducible refine qA 8 ?_); refine qa hS #[.bool false, .slice none 0 0, .slice none 0 0, .int .i64 0, .int .i64 0] ?_; clear hS; intro g8 w_ hS) | ((with_reducible refine qA 9 ?_); refine qa hS #[.slice none 0 0] ?_; clear hS; intro g9 w_ hS) | ((with_reducible refine qK ?_); refine qL hS Tryz.underlying39 ?_) | ((with_reducible refine qM ?_); (first | refine qS hS ?_ | refine qT hS ?_); clear hS; intro w_ hS; (try simp only [Act.put, Act.eval, zz, Value.cells] at hS)) | (go_at_call 75; refine (Di _ N rt _ _ (HU.out _ _ (kc.out _ _ hS.ro.1).1)).mono ?_; rintro r_ w_ ⟨_, rfl, hM, hb_⟩; obtain ⟨A9, n9, l9, rfl, -⟩ := hM.parts; replace hS := hS.ret2 hb_ Ab hM; clear hb_ hM) | (go_at_call 69; refine (Dx _ N rt _ _ (HU.out _ _ (kc.out _ _ hS.ro.1.1).1)).mono ?_; rintro r_ w_ ⟨_, rfl, hM, hb_⟩; obtain ⟨A10, n10, l10, rfl, -⟩ := hM.parts; replace hS := hS.ret2 hb_ Ab hM; clear hb_ hM) | ((with_reducible refine qK ?_); refine qC hS ?_))
    simp only [Act.put, List.setIfInBounds_toArray, List.set_cons_zero, List.set_cons_succ, List.getElem_toArray, List.getElem_cons_zero]
    have HH := Lib.hid (HP.out.links L rfl).1
    obtain ⟨K7, x9, k7, hS2⟩ : ∃ (K7 : (Nat -> Prop) -> World -> Prop) (x9 : Value), Hid (∀ D w, K7 D w -> K D w /\ IsHo w D (.pointer (some ⟨q, 0, none⟩)) (some L) /\ Aa w D (.agg #[.slice Ay my cy]) ry /\ Aa w D (.agg #[.slice Am mn cm]) rn /\ Aa w D (.agg #[x9]) (H3 N ⟨false, ry, rn, rt, ro⟩)) /\ St w0 w_ (.box g9 39 #[x9] :: .box g8 84 #[.bool false, .slice Ay my cy, .slice Am mn cm, .int .i64 rt, .int .i64 ro] :: .box g6 39 #[.slice none 0 0] :: .box g4 39 #[u] :: .box g3 43 #[.int .i64 R, .pointer (some ⟨q, 0, none⟩), .slice Cs ns cs, .slice (some ⟨b, o2, none⟩) rl.length cr, .slice An nl.length cn, .slice Ag gl.length cg] :: F) K7 := ⟨_, _, Lib.hid fun D w h => ⟨(kc.out _ _ h.1.1).1, (kc.out _ _ h.1.1).2.1, h.1.2.1, h.1.2.2, h.2⟩, hS⟩
    have hx9 : x9.oneCell' = true := by
     obtain ⟨A, c, l, e, -⟩ := (k7.out _ _ hS2.ro).2.2.2.2.parts
     injection e with e; injection e with e; injection e with e
     subst e; rfl
    clear hS
    have hS := hS2
    clear hS2
    obtain ⟨rb, hrb⟩ : ∃ rb, rb = false := ⟨_, rfl⟩
    have HRB := Lib.hid hrb
    rw [<- hrb] at k7
    clear hrb
    obtain ⟨hb, hhb⟩ : ∃ hb, Bv N rt = hb := ⟨_, rfl⟩
    obtain ⟨ho, hho⟩ : ∃ ho, Bg (ry, rn) (closM L N) = ho := ⟨_, rfl⟩
    obtain ⟨M, hM⟩ : ∃ M, H3 N ⟨rb, ry, rn, rt, ro⟩ = M := ⟨_, rfl⟩
    obtain ⟨gd, hgd⟩ : ∃ gd, goodB ⟨R, some L, st, rl, nl, gl⟩ M = gd := ⟨_, rfl⟩
    have HSB : Hid (stepB ⟨R, some L, st, rl, nl, gl⟩ N ⟨rb, ry, rn, rt, ro⟩ = !(((hb != rb) || (!rb && !ho)) || !gd)) := Lib.hid (by rw [<- hhb, <- hho, <- hgd, <- hM]; rfl)
    have HHB := Lib.hid hhb
    have HHO := Lib.hid hho
    have HGD := Lib.hid hgd
    have HNM := Lib.hid hM
    rw [HNM.out] at k7
    have HVV : Hid (V = if (!(((hb != rb) || (!rb && !ho)) || !gd)) = true then some M else none) := Lib.hid (by rw [HV.out, <- HRB.out, HNM.out, HSB.out])
    clear hhb hho hgd hM HV HSB HNM
    refine C5 [.i (.agg #[u]), .q g8 3, .n rt, .i (.bool hb), .q g8 0, .i (.bool rb), .i (.bool (hb != rb)), .i (.bool (hb != rb)), .g (!(hb != rb)) (.pointer (some ⟨g8, 0, none⟩)), .g (!(hb != rb)) (.bool rb), .g (!(hb != rb)) (.bool (!rb)), .g (!(hb != rb)) (.bool (!rb)), .g ((!(hb != rb)) && (!rb)) (.pointer (some ⟨g8, 1, none⟩)), .g ((!(hb != rb)) && (!rb)) (.agg #[.slice Ay my cy, .slice Am mn cm]), .g ((!(hb != rb)) && (!rb)) (.pointer (some ⟨g3, 1, none⟩)), .g ((!(hb != rb)) && (!rb)) (.pointer (some ⟨q, 0, none⟩)), .g ((!(hb != rb)) && (!rb)) (.agg #[u]), (.s (fun v w => ((!(hb != rb)) && (!rb)) = true -> Aa w (fun _ => True) v (closM L N)) fun v w w' h hb hc => by replace h := h hc; exact h.ext hb), .g ((!(hb != rb)) && (!rb)) (.bool ho), .g ((!(hb != rb)) && (!rb)) (.bool (!ho)), .g (!(hb != rb)) (.bool ((!rb) && (!ho))), .i (.bool ((hb != rb) || ((!rb) && (!ho)))), .i (.bool ((hb != rb) || ((!rb) && (!ho)))), .g (!((hb != rb) || ((!rb) && (!ho)))) (.agg #[.int .i64 R, .pointer (some ⟨q, 0, none⟩), .slice Cs ns cs, .slice (some ⟨b, o2, none⟩) rl.length cr, .slice An nl.length cn, .slice Ag gl.length cg]), .g (!((hb != rb) || ((!rb) && (!ho)))) (.agg #[x9]), .g (!((hb != rb) || ((!rb) && (!ho)))) (.bool gd), .g (!((hb != rb) || ((!rb) && (!ho)))) (.bool (!gd)), .i (.bool (((hb != rb) || ((!rb) && (!ho))) || (!gd)))] ⟨uR (h := fun w hW hN => (hS.ext hW).box 3 rfl), uF, uC (h := fun w hW hN => (hS.ext hW).shut 1 rfl 3 rfl), ?_, uF, uC (h := fun w hW hN => by rw [HRB.out]; exact (hS.ext hW).shut 1 rfl 0 rfl), uB (h := fun w hW hN => by cases hb <;> cases rb <;> rfl), uM, (by cases hb <;> cases rb <;> first | exact uY | exact uX | exact uF), (by cases hb <;> cases rb <;> first | exact uY | exact uX | exact uC (h := fun w hW hN => by first | (rw [HRB.out]; exact (hS.ext hW).shut 1 rfl 0 rfl) | (rw [<- HRB.out]; exact (hS.ext hW).shut 1 rfl 0 rfl) | exact (hS.ext hW).shut 1 rfl 0 rfl)), (by cases hb <;> cases rb <;> first | exact uY | exact uX | exact uU), (by cases hb <;> cases rb <;> first | exact uY | exact uX | exact uM), (by cases hb <;> cases rb <;> first | exact uY | exact uX | exact uF), (by cases hb <;> cases rb <;> first | exact uY | exact uX | exact uD (h := fun w hW hN => rng2 ((hS.ext hW).shut 1 rfl 1 rfl) ((hS.ext hW).shut 1 rfl 2 rfl))), (by cases hb <;> cases rb <;> first | exact uY | exact uX | exact uF), (by cases hb <;> cases rb <;> first | exact uY | exact uX | exact uC (h := fun w hW hN => (hS.ext hW).shut 4 rfl 1 rfl)), (by cases hb <;> cases rb <;> first | exact uY | exact uX | exact uR (h := fun w hW hN => (hS.ext hW).box 3 rfl)), ?_, ?_, (by cases hb <;> cases rb <;> first | exact uY | exact uX | exact uU), (by cases hb <;> cases rb <;> first | exact uY | exact uX | exact uP), (by cases hb <;> cases rb <;> exact uP), uM, (by cases hb <;> cases rb <;> cases ho <;> first | exact uY | exact uX | exact uR (h := fun w hW hN => (hS.ext hW).box 4 rfl)), (by cases hb <;> cases rb <;> cases ho <;> first | exact uY | exact uX | exact uR (h := fun w hW hN => (hS.ext hW).box 0 rfl)), ?_, (by cases hb <;> cases rb <;> cases ho <;> first | exact uY | exact uX | exact uU), (by cases hb <;> cases rb <;> cases ho <;> exact uP), trivial⟩ ?_
    ·refine uT fun b__ w hW hE K hK => ?_
     have e40 := hE 40
     have e42 := hE 42
     exact Ai rfl (by kernel_rfl) (by simp only [List.map_cons, List.map_nil, e40, e42]) (CT _ N rt w _ (HU.out _ _ (k7.out _ _ (hS.ext hW).ro).1)) fun v w' h hb_ => hK v w' (h.trans (by rw [HHB.out])) hb_
    ·cases hb <;> cases rb <;> first | exact uY | exact uX | (refine uT fun b__ w hW hE K hK => ?_; have e55 : b__.eval (.tmp 55) = .pointer (some ⟨q, 0, none⟩) := hE 55; have e56 : b__.eval (.tmp 56) = .agg #[u] := hE 56; (exact Ai rfl (by kernel_rfl) (by simp only [List.map_cons, List.map_nil, e55, e56]) (GL (show IsH _ _ _ L from (k7.out _ _ (hS.ext hW).ro).2.1) (HT.out _ _ (k7.out _ _ (hS.ext hW).ro).1) HH.out (HU.out _ _ (k7.out _ _ (hS.ext hW).ro).1)) fun v w' h hb => hK v w' (fun _ => h.imp fun _ _ _ => trivial) hb))
    ·cases hb <;> cases rb <;> first | exact uY | exact uX | (refine uT fun b__ w hW hE K hK => ?_; have e53 : b__.eval (.tmp 53) = .agg #[.slice Ay my cy, .slice Am mn cm] := hE 53; have e57 := hE 57; have e57 := e57 rfl; (exact Ai rfl (by kernel_rfl) (by simp only [List.map_cons, List.map_nil, e53]) (GI (z := (ry, rn)) ⟨_, _, rfl, (k7.out _ _ (hS.ext hW).ro).2.2.1, (k7.out _ _ (hS.ext hW).ro).2.2.2.1⟩ e57) fun v w' h hb => hK v w' (h.trans (by rw [HHO.out]; rfl)) hb))
    ·cases hb <;> cases rb <;> cases ho <;> first | exact uY | exact uX | (refine uT fun b__ w hW hE K hK => ?_; have e63 : b__.eval (.tmp 63) = .agg #[.int .i64 R, .pointer (some ⟨q, 0, none⟩), .slice Cs ns cs, .slice (some ⟨b, o2, none⟩) rl.length cr, .slice An nl.length cn, .slice Ag gl.length cg] := hE 63; have e64 : b__.eval (.tmp 64) = .agg #[x9] := hE 64; (exact Ai rfl (by kernel_rfl) (by simp only [List.map_cons, List.map_nil, e63, e64]) (IH (HK.out _ _ (k7.out _ _ (hS.ext hW).ro).1) HP.out (HT.out _ _ (k7.out _ _ (hS.ext hW).ro).1) (k7.out _ _ (hS.ext hW).ro).2.2.2.2) fun v w' h hb => hK v w' (h.trans (by rw [HGD.out]; rfl)) hb))
    ·intro vs wz hW hT
     obtain ⟨e40, e41, e42, e43, e44, e45, e46, e47, -, -, -, -, -, -, -, -, -, -, -, -, -, e61, e62, -, -, -, -, e67, -⟩ := hT
     have bx : (fun _ : Nat => True) 0 := trivial
     simp only [Ak, Act.put, zz, ze]
     rw [e67]
     replace hS := hS.ext hW
     clear hW e67
     obtain ⟨E, hE⟩ : ∃ E : Bool, (((hb != rb) || (!rb && !ho)) || !gd) = E := ⟨_, rfl⟩
     rw [hE] at HVV ⊢
     clear hE HHB HHO HGD
     cases E
     ·go_wp2_with (first
       | ((with_reducible refine qK ?_); refine qL hS Tryz.underlying39 ?_)
       | ((with_reducible refine qm 39 ?_); refine Bm hS 2 rfl _ _ _ rfl _ _ rfl rfl _ _ rfl (by kernel_rfl) (by kernel_rfl) (by simpa using hx9) ?_; clear hS; intro w_ hS; (try simp only [Act.put, Act.eval, zz, Value.cells] at hS)))
      refine CH Tryz.results31 rfl (hS.box 2 rfl) Tryz.underlying39 rfl (by kernel_rfl) rfl rfl ?_
      rw [show V = some M from HVV.out]
      exact ⟨_, rfl, (hS.sub (List.sublist_append_right [_, _, _, _, _] F)).mono (KS.out.and Ab) fun D w h => ⟨(k7.out _ _ h).1, (k7.out _ _ h).2.2.2.2⟩⟩
     ·go_wp2_with (first
       | ((with_reducible refine qA 68 ?_); refine Ax rfl _ _ rfl #[.slice none 0 0] (by kernel_rfl) ?_; (try simp only [Act.put, List.setIfInBounds_toArray, List.set_cons_zero, List.set_cons_succ]))
       | ((with_reducible refine qM ?_); (first | refine qS hS ?_ | refine qT hS ?_); clear hS; intro w_ hS; (try simp only [Act.put, Act.eval, zz, Value.cells] at hS)))
      refine CH Tryz.results31 rfl (hS.box 2 rfl) Tryz.underlying39 rfl (by kernel_rfl) rfl rfl ?_
      rw [show V = none from HVV.out]
      exact ⟨_, rfl, (hS.sub (List.sublist_append_right [_, _, _, _, _] F)).mono (KS.out.and Ab) fun D w h => ⟨(k7.out _ _ h).1, Aa.empty⟩⟩
   ·go_enter Tryz.func31, Tryz.ntmps31
    go_wp2_with (first | ((with_reducible refine qA 3 ?_); refine Aw hS rfl _ _ rfl (.agg #[.int .i64 R, .pointer (some ⟨q, 0, none⟩), .slice Cs ns cs, .slice (some ⟨b, o2, none⟩) rl.length cr, .slice An nl.length cn, .slice Ag gl.length cg]) _ rfl rfl ?_; clear hS; intro g3 w_ hS; (try simp only [Act.put, Act.eval, zz, Value.cells] at hS)) | ((with_reducible refine qA 4 ?_); refine Aw hS rfl _ _ rfl (.agg #[u]) _ rfl rfl ?_; clear hS; intro g4 w_ hS; (try simp only [Act.put, Act.eval, zz, Value.cells] at hS)) | ((with_reducible refine qA 6 ?_); refine qa hS #[.slice none 0 0] ?_; clear hS; intro g6 w_ hS) | ((with_reducible refine qA 12 ?_); refine BigFrame.wpList_want rfl fun _ hK => AE (v := .bool false) rfl rfl rfl rfl rfl (hK _ _ ?_)) | ((with_reducible refine qB ?_); refine qc ?_ ?_ <;> intro h_ <;> go_prune) | ((with_reducible refine qA 29 ?_); obtain ⟨b', o', y, n, e', _, _, c0, c1, c2, c3, c4, hy, hn⟩ := (kc.out _ _ hS.ro).2.2.at_ hlj; injection e' with e'; injection e' with e1 e2; subst e1 e2; rw [HZ.out] at c0 c3 c4 hy hn; dsimp only at c0 c3 c4 hy hn; obtain ⟨Ay, my, cy, rfl⟩ := hy.shape; obtain ⟨Am, mn, cm, rfl⟩ := hn.shape; replace hS := hS.add (D := DW _) (Ab.and Ab) ⟨hy, hn⟩ (fun _ h _ => h); refine BigFrame.wpList_want rfl fun _ hK => AU (cs := [.bool true, .slice Ay my cy, .slice Am mn cm, .int .i64 rt, .int .i64 ro]) rfl rfl (Ho c0 c1 c2 c3 c4) Tryz.underlying84 rfl (by kernel_rfl) (hK _ _ ?_)) | ((with_reducible refine qA 8 ?_); refine qa hS #[.bool false, .slice none 0 0, .slice none 0 0, .int .i64 0, .int .i64 0] ?_; clear hS; intro g8 w_ hS) | ((with_reducible refine qA 9 ?_); refine qa hS #[.slice none 0 0] ?_; clear hS; intro g9 w_ hS) | ((with_reducible refine qK ?_); refine qL hS Tryz.underlying39 ?_) | ((with_reducible refine qM ?_); (first | refine qS hS ?_ | refine qT hS ?_); clear hS; intro w_ hS; (try simp only [Act.put, Act.eval, zz, Value.cells] at hS)) | (go_at_call 75; refine (Di _ N rt _ _ (HU.out _ _ (kc.out _ _ hS.ro.1).1)).mono ?_; rintro r_ w_ ⟨_, rfl, hM, hb_⟩; obtain ⟨A9, n9, l9, rfl, -⟩ := hM.parts; replace hS := hS.ret2 hb_ Ab hM; clear hb_ hM) | (go_at_call 69; refine (Dx _ N rt _ _ (HU.out _ _ (kc.out _ _ hS.ro.1.1).1)).mono ?_; rintro r_ w_ ⟨_, rfl, hM, hb_⟩; obtain ⟨A10, n10, l10, rfl, -⟩ := hM.parts; replace hS := hS.ret2 hb_ Ab hM; clear hb_ hM) | ((with_reducible refine qK ?_); refine qC hS ?_))
    simp only [Act.put, List.setIfInBounds_toArray, List.set_cons_zero, List.set_cons_succ, List.getElem_toArray, List.getElem_cons_zero]
    have HH := Lib.hid (HP.out.links L rfl).1
    obtain ⟨K7, x9, k7, hS2⟩ : ∃ (K7 : (Nat -> Prop) -> World -> Prop) (x9 : Value), Hid (∀ D w, K7 D w -> K D w /\ IsHo w D (.pointer (some ⟨q, 0, none⟩)) (some L) /\ Aa w D (.agg #[.slice Ay my cy]) ry /\ Aa w D (.agg #[.slice Am mn cm]) rn /\ Aa w D (.agg #[x9]) (H3 N ⟨true, ry, rn, rt, ro⟩)) /\ St w0 w_ (.box g9 39 #[x9] :: .box g8 84 #[.bool true, .slice Ay my cy, .slice Am mn cm, .int .i64 rt, .int .i64 ro] :: .box g6 39 #[.slice none 0 0] :: .box g4 39 #[u] :: .box g3 43 #[.int .i64 R, .pointer (some ⟨q, 0, none⟩), .slice Cs ns cs, .slice (some ⟨b, o2, none⟩) rl.length cr, .slice An nl.length cn, .slice Ag gl.length cg] :: F) K7 := ⟨_, _, Lib.hid fun D w h => ⟨(kc.out _ _ h.1.1.1).1, (kc.out _ _ h.1.1.1).2.1, h.1.1.2.1, h.1.1.2.2, h.2⟩, hS⟩
    have hx9 : x9.oneCell' = true := by
     obtain ⟨A, c, l, e, -⟩ := (k7.out _ _ hS2.ro).2.2.2.2.parts
     injection e with e; injection e with e; injection e with e
     subst e; rfl
    clear hS
    have hS := hS2
    clear hS2
    obtain ⟨rb, hrb⟩ : ∃ rb, rb = true := ⟨_, rfl⟩
    have HRB := Lib.hid hrb
    rw [<- hrb] at k7
    clear hrb
    obtain ⟨hb, hhb⟩ : ∃ hb, Bv N rt = hb := ⟨_, rfl⟩
    obtain ⟨ho, hho⟩ : ∃ ho, Bg (ry, rn) (closM L N) = ho := ⟨_, rfl⟩
    obtain ⟨M, hM⟩ : ∃ M, H3 N ⟨rb, ry, rn, rt, ro⟩ = M := ⟨_, rfl⟩
    obtain ⟨gd, hgd⟩ : ∃ gd, goodB ⟨R, some L, st, rl, nl, gl⟩ M = gd := ⟨_, rfl⟩
    have HSB : Hid (stepB ⟨R, some L, st, rl, nl, gl⟩ N ⟨rb, ry, rn, rt, ro⟩ = !(((hb != rb) || (!rb && !ho)) || !gd)) := Lib.hid (by rw [<- hhb, <- hho, <- hgd, <- hM]; rfl)
    have HHB := Lib.hid hhb
    have HHO := Lib.hid hho
    have HGD := Lib.hid hgd
    have HNM := Lib.hid hM
    rw [HNM.out] at k7
    have HVV : Hid (V = if (!(((hb != rb) || (!rb && !ho)) || !gd)) = true then some M else none) := Lib.hid (by rw [HV.out, <- HRB.out, HNM.out, HSB.out])
    clear hhb hho hgd hM HV HSB HNM
    refine C5 [.i (.agg #[u]), .q g8 3, .n rt, .i (.bool hb), .q g8 0, .i (.bool rb), .i (.bool (hb != rb)), .i (.bool (hb != rb)), .g (!(hb != rb)) (.pointer (some ⟨g8, 0, none⟩)), .g (!(hb != rb)) (.bool rb), .g (!(hb != rb)) (.bool (!rb)), .g (!(hb != rb)) (.bool (!rb)), .g ((!(hb != rb)) && (!rb)) (.pointer (some ⟨g8, 1, none⟩)), .g ((!(hb != rb)) && (!rb)) (.agg #[.slice Ay my cy, .slice Am mn cm]), .g ((!(hb != rb)) && (!rb)) (.pointer (some ⟨g3, 1, none⟩)), .g ((!(hb != rb)) && (!rb)) (.pointer (some ⟨q, 0, none⟩)), .g ((!(hb != rb)) && (!rb)) (.agg #[u]), (.s (fun v w => ((!(hb != rb)) && (!rb)) = true -> Aa w (fun _ => True) v (closM L N)) fun v w w' h hb hc => by replace h := h hc; exact h.ext hb), .g ((!(hb != rb)) && (!rb)) (.bool ho), .g ((!(hb != rb)) && (!rb)) (.bool (!ho)), .g (!(hb != rb)) (.bool ((!rb) && (!ho))), .i (.bool ((hb != rb) || ((!rb) && (!ho)))), .i (.bool ((hb != rb) || ((!rb) && (!ho)))), .g (!((hb != rb) || ((!rb) && (!ho)))) (.agg #[.int .i64 R, .pointer (some ⟨q, 0, none⟩), .slice Cs ns cs, .slice (some ⟨b, o2, none⟩) rl.length cr, .slice An nl.length cn, .slice Ag gl.length cg]), .g (!((hb != rb) || ((!rb) && (!ho)))) (.agg #[x9]), .g (!((hb != rb) || ((!rb) && (!ho)))) (.bool gd), .g (!((hb != rb) || ((!rb) && (!ho)))) (.bool (!gd)), .i (.bool (((hb != rb) || ((!rb) && (!ho))) || (!gd)))] ⟨uR (h := fun w hW hN => (hS.ext hW).box 3 rfl), uF, uC (h := fun w hW hN => (hS.ext hW).shut 1 rfl 3 rfl), ?_, uF, uC (h := fun w hW hN => by rw [HRB.out]; exact (hS.ext hW).shut 1 rfl 0 rfl), uB (h := fun w hW hN => by cases hb <;> cases rb <;> rfl), uM, (by cases hb <;> cases rb <;> first | exact uY | exact uX | exact uF), (by cases hb <;> cases rb <;> first | exact uY | exact uX | exact uC (h := fun w hW hN => by first | (rw [HRB.out]; exact (hS.ext hW).shut 1 rfl 0 rfl) | (rw [<- HRB.out]; exact (hS.ext hW).shut 1 rfl 0 rfl) | exact (hS.ext hW).shut 1 rfl 0 rfl)), (by cases hb <;> cases rb <;> first | exact uY | exact uX | exact uU), (by cases hb <;> cases rb <;> first | exact uY | exact uX | exact uM), (by cases hb <;> cases rb <;> first | exact uY | exact uX | exact uF), (by cases hb <;> cases rb <;> first | exact uY | exact uX | exact uD (h := fun w hW hN => rng2 ((hS.ext hW).shut 1 rfl 1 rfl) ((hS.ext hW).shut 1 rfl 2 rfl))), (by cases hb <;> cases rb <;> first | exact uY | exact uX | exact uF), (by cases hb <;> cases rb <;> first | exact uY | exact uX | exact uC (h := fun w hW hN => (hS.ext hW).shut 4 rfl 1 rfl)), (by cases hb <;> cases rb <;> first | exact uY | exact uX | exact uR (h := fun w hW hN => (hS.ext hW).box 3 rfl)), ?_, ?_, (by cases hb <;> cases rb <;> first | exact uY | exact uX | exact uU), (by cases hb <;> cases rb <;> first | exact uY | exact uX | exact uP), (by cases hb <;> cases rb <;> exact uP), uM, (by cases hb <;> cases rb <;> cases ho <;> first | exact uY | exact uX | exact uR (h := fun w hW hN => (hS.ext hW).box 4 rfl)), (by cases hb <;> cases rb <;> cases ho <;> first | exact uY | exact uX | exact uR (h := fun w hW hN => (hS.ext hW).box 0 rfl)), ?_, (by cases hb <;> cases rb <;> cases ho <;> first | exact uY | exact uX | exact uU), (by cases hb <;> cases rb <;> cases ho <;> exact uP), trivial⟩ ?_
    ·refine uT fun b__ w hW hE K hK => ?_
     have e40 := hE 40
     have e42 := hE 42
     exact Ai rfl (by kernel_rfl) (by simp only [List.map_cons, List.map_nil, e40, e42]) (CT _ N rt w _ (HU.out _ _ (k7.out _ _ (hS.ext hW).ro).1)) fun v w' h hb_ => hK v w' (h.trans (by rw [HHB.out])) hb_
    ·cases hb <;> cases rb <;> first | exact uY | exact uX | (refine uT fun b__ w hW hE K hK => ?_; have e55 : b__.eval (.tmp 55) = .pointer (some ⟨q, 0, none⟩) := hE 55; have e56 : b__.eval (.tmp 56) = .agg #[u] := hE 56; (exact Ai rfl (by kernel_rfl) (by simp only [List.map_cons, List.map_nil, e55, e56]) (GL (show IsH _ _ _ L from (k7.out _ _ (hS.ext hW).ro).2.1) (HT.out _ _ (k7.out _ _ (hS.ext hW).ro).1) HH.out (HU.out _ _ (k7.out _ _ (hS.ext hW).ro).1)) fun v w' h hb => hK v w' (fun _ => h.imp fun _ _ _ => trivial) hb))
    ·cases hb <;> cases rb <;> first | exact uY | exact uX | (refine uT fun b__ w hW hE K hK => ?_; have e53 : b__.eval (.tmp 53) = .agg #[.slice Ay my cy, .slice Am mn cm] := hE 53; have e57 := hE 57; have e57 := e57 rfl; (exact Ai rfl (by kernel_rfl) (by simp only [List.map_cons, List.map_nil, e53]) (GI (z := (ry, rn)) ⟨_, _, rfl, (k7.out _ _ (hS.ext hW).ro).2.2.1, (k7.out _ _ (hS.ext hW).ro).2.2.2.1⟩ e57) fun v w' h hb => hK v w' (h.trans (by rw [HHO.out]; rfl)) hb))
    ·cases hb <;> cases rb <;> cases ho <;> first | exact uY | exact uX | (refine uT fun b__ w hW hE K hK => ?_; have e63 : b__.eval (.tmp 63) = .agg #[.int .i64 R, .pointer (some ⟨q, 0, none⟩), .slice Cs ns cs, .slice (some ⟨b, o2, none⟩) rl.length cr, .slice An nl.length cn, .slice Ag gl.length cg] := hE 63; have e64 : b__.eval (.tmp 64) = .agg #[x9] := hE 64; (exact Ai rfl (by kernel_rfl) (by simp only [List.map_cons, List.map_nil, e63, e64]) (IH (HK.out _ _ (k7.out _ _ (hS.ext hW).ro).1) HP.out (HT.out _ _ (k7.out _ _ (hS.ext hW).ro).1) (k7.out _ _ (hS.ext hW).ro).2.2.2.2) fun v w' h hb => hK v w' (h.trans (by rw [HGD.out]; rfl)) hb))
    ·intro vs wz hW hT
     obtain ⟨e40, e41, e42, e43, e44, e45, e46, e47, -, -, -, -, -, -, -, -, -, -, -, -, -, e61, e62, -, -, -, -, e67, -⟩ := hT
     have bx : (fun _ : Nat => True) 0 := trivial
     simp only [Ak, Act.put, zz, ze]
     rw [e67]
     replace hS := hS.ext hW
     clear hW e67
     obtain ⟨E, hE⟩ : ∃ E : Bool, (((hb != rb) || (!rb && !ho)) || !gd) = E := ⟨_, rfl⟩
     rw [hE] at HVV ⊢
     clear hE HHB HHO HGD
     cases E
     ·go_wp2_with (first
       | ((with_reducible refine qK ?_); refine qL hS Tryz.underlying39 ?_)
       | ((with_reducible refine qm 39 ?_); refine Bm hS 2 rfl _ _ _ rfl _ _ rfl rfl _ _ rfl (by kernel_rfl) (by kernel_rfl) (by simpa using hx9) ?_; clear hS; intro w_ hS; (try simp only [Act.put, Act.eval, zz, Value.cells] at hS)))
      refine CH Tryz.results31 rfl (hS.box 2 rfl) Tryz.underlying39 rfl (by kernel_rfl) rfl rfl ?_
      rw [show V = some M from HVV.out]
      exact ⟨_, rfl, (hS.sub (List.sublist_append_right [_, _, _, _, _] F)).mono (KS.out.and Ab) fun D w h => ⟨(k7.out _ _ h).1, (k7.out _ _ h).2.2.2.2⟩⟩
     ·go_wp2_with (first
       | ((with_reducible refine qA 68 ?_); refine Ax rfl _ _ rfl #[.slice none 0 0] (by kernel_rfl) ?_; (try simp only [Act.put, List.setIfInBounds_toArray, List.set_cons_zero, List.set_cons_succ]))
       | ((with_reducible refine qM ?_); (first | refine qS hS ?_ | refine qT hS ?_); clear hS; intro w_ hS; (try simp only [Act.put, Act.eval, zz, Value.cells] at hS)))
      refine CH Tryz.results31 rfl (hS.box 2 rfl) Tryz.underlying39 rfl (by kernel_rfl) rfl rfl ?_
      rw [show V = none from HVV.out]
      exact ⟨_, rfl, (hS.sub (List.sublist_append_right [_, _, _, _, _] F)).mono (KS.out.and Ab) fun D w h => ⟨(k7.out _ _ h).1, Aa.empty⟩⟩
 ·rw [stepM_none (p := ⟨R, lk, st, rl, nl, gl⟩) hk]
  cases lk with
  | none =>
   obtain rfl : la = none := by have := (kc.out _ _ hS.ro).2.1; injection this
   go_enter Tryz.func31, Tryz.ntmps31
   go_wp2_with (first | ((with_reducible refine qA 3 ?_); refine Aw hS rfl _ _ rfl (.agg #[.int .i64 R, .pointer none, .slice Cs ns cs, .slice Ar rl.length cr, .slice An nl.length cn, .slice Ag gl.length cg]) _ rfl rfl ?_; clear hS; intro g3 w_ hS; (try simp only [Act.put, Act.eval, zz, Value.cells] at hS)) | ((with_reducible refine qA 4 ?_); refine Aw hS rfl _ _ rfl (.agg #[u]) _ rfl rfl ?_; clear hS; intro g4 w_ hS; (try simp only [Act.put, Act.eval, zz, Value.cells] at hS)) | ((with_reducible refine qA 6 ?_); refine qa hS #[.slice none 0 0] ?_; clear hS; intro g6 w_ hS) | ((with_reducible refine qA 12 ?_); refine BigFrame.wpList_want rfl fun _ hK => AE (v := .bool true) rfl rfl rfl rfl rfl (hK _ _ ?_)) | ((with_reducible refine qA 24 ?_); refine Ax rfl _ _ rfl #[.slice none 0 0] (by kernel_rfl) ?_; (try simp only [Act.put, List.setIfInBounds_toArray, List.set_cons_zero, List.set_cons_succ])) | ((with_reducible refine qB ?_); refine qc ?_ ?_ <;> intro h_ <;> go_prune) | ((with_reducible refine qM ?_); (first | refine qS hS ?_ | refine qT hS ?_); clear hS; intro w_ hS; (try simp only [Act.put, Act.eval, zz, Value.cells] at hS)) | ((with_reducible refine qK ?_); refine qC hS ?_))
   refine CH Tryz.results31 rfl (hS.box 0 rfl) Tryz.underlying39 rfl (by kernel_rfl) rfl rfl ?_; exact ⟨_, rfl, (hS.sub (List.sublist_append_right [_, _, _] F)).mono (KS.out.and Ab) fun D w h => ⟨(kc.out _ _ h).1, Aa.empty⟩⟩
  | some L =>
   obtain ⟨q, o, e, -⟩ := id (kc.out _ _ hS.ro).2.1
   injection e with e
   subst e
   have hk' : k < 0 \/ rl.length <= k := by
    rcases Int.lt_or_le k 0 with h | h
    ·exact .inl h
    ·exact .inr (by rcases Int.lt_or_le k rl.length with h2 | h2; exact absurd ⟨h, h2, rfl⟩ hk; exact h2)
   clear hk
   go_enter Tryz.func31, Tryz.ntmps31
   go_wp2_with (first | ((with_reducible refine qA 3 ?_); refine Aw hS rfl _ _ rfl (.agg #[.int .i64 R, .pointer (some ⟨q, 0, none⟩), .slice Cs ns cs, .slice Ar rl.length cr, .slice An nl.length cn, .slice Ag gl.length cg]) _ rfl rfl ?_; clear hS; intro g3 w_ hS; (try simp only [Act.put, Act.eval, zz, Value.cells] at hS)) | ((with_reducible refine qA 4 ?_); refine Aw hS rfl _ _ rfl (.agg #[u]) _ rfl rfl ?_; clear hS; intro g4 w_ hS; (try simp only [Act.put, Act.eval, zz, Value.cells] at hS)) | ((with_reducible refine qA 6 ?_); refine qa hS #[.slice none 0 0] ?_; clear hS; intro g6 w_ hS) | ((with_reducible refine qA 12 ?_); refine BigFrame.wpList_want rfl fun _ hK => AE (v := .bool false) rfl rfl rfl rfl rfl (hK _ _ ?_)) | ((with_reducible refine qA 24 ?_); refine Ax rfl _ _ rfl #[.slice none 0 0] (by kernel_rfl) ?_; (try simp only [Act.put, List.setIfInBounds_toArray, List.set_cons_zero, List.set_cons_succ])) | ((with_reducible refine qB ?_); refine qc ?_ ?_ <;> intro h_ <;> go_prune) | ((with_reducible refine qM ?_); (first | refine qS hS ?_ | refine qT hS ?_); clear hS; intro w_ hS; (try simp only [Act.put, Act.eval, zz, Value.cells] at hS)) | ((with_reducible refine qK ?_); refine qC hS ?_))
   all_goals
    refine CH Tryz.results31 rfl (hS.box 0 rfl) Tryz.underlying39 rfl (by kernel_rfl) rfl rfl ?_; exact ⟨_, rfl, (hS.sub (List.sublist_append_right [_, _, _] F)).mono (KS.out.and Ab) fun D w h => ⟨(kc.out _ _ h).1, Aa.empty⟩⟩
end
section
open Go.RowKit
attribute [local go_sem ↓] Go.wp_at_zero Go.wp_at_succ
set_option maxRecDepth 20000
set_option exponentiation.threshold 5000
set_option maxHeartbeats 4000000 in
theorem lawake31_any {w0 w : World} {F : List Ac} {K : (Nat -> Prop) -> World -> Prop} (hS : St w0 w F K) (kt : ∀ D w, K D w -> Bl w /\ D 0) : Calls Tryz.prog 12 #[] w fun e w' => e = .returned (.bool true) /\ St w0 w' F K := by
 have KS := Lib.hid hS.stable
 go_enter Tryz.func12, Tryz.ntmps12
 go_wp2_with (first
  | ((with_reducible refine qA 12 ?_); refine Ax rfl _ _ rfl #[.int .i64 1, .int .i64 2] (by kernel_rfl) ?_; (try simp only [Act.put, List.setIfInBounds_toArray, List.set_cons_zero, List.set_cons_succ]))
  | ((with_reducible refine qA 13 ?_); refine E0 hS rfl _ 107 1 _ rfl Tryz.underlying25 #[.int .i64 1, .int .i64 2] (by kernel_rfl) 2 rfl (by decide) ?_; clear hS; intro g13 w_ hS; (try simp only [Act.put, List.setIfInBounds_toArray, List.set_cons_zero, List.set_cons_succ]))
  | ((with_reducible refine qA 14 ?_); refine Ax rfl _ _ rfl #[.bool false, .int .u64 0, .int .u64 0, .int .i64 1, .int .i64 0] (by kernel_rfl) ?_; (try simp only [Act.put, List.setIfInBounds_toArray, List.set_cons_zero, List.set_cons_succ]))
  | ((with_reducible refine qA 15 ?_); refine Ax rfl _ _ rfl #[.int .u64 4, .int .u64 0] (by kernel_rfl) ?_; (try simp only [Act.put, List.setIfInBounds_toArray, List.set_cons_zero, List.set_cons_succ]))
  | ((with_reducible refine qA 16 ?_); refine Ax rfl _ _ rfl #[.bool false, .int .u64 4, .int .u64 0, .int .i64 3, .int .i64 1] (by kernel_rfl) ?_; (try simp only [Act.put, List.setIfInBounds_toArray, List.set_cons_zero, List.set_cons_succ]))
  | ((with_reducible refine qA 17 ?_); refine E0 hS rfl _ 109 2 _ rfl Tryz.underlying27 #[.bool false, .int .u64 0, .int .u64 0, .int .i64 1, .int .i64 0, .bool false, .int .u64 4, .int .u64 0, .int .i64 3, .int .i64 1] (by kernel_rfl) 5 rfl (by decide) ?_; clear hS; intro g17 w_ hS; (try simp only [Act.put, List.setIfInBounds_toArray, List.set_cons_zero, List.set_cons_succ]))
  | ((with_reducible refine qA 18 ?_); refine Ax rfl _ _ rfl #[.int .u64 10, .int .u64 0] (by kernel_rfl) ?_; (try simp only [Act.put, List.setIfInBounds_toArray, List.set_cons_zero, List.set_cons_succ]))
  | ((with_reducible refine qA 19 ?_); refine E0 hS rfl _ 50 1 _ rfl Tryz.underlying28 #[.int .u64 10, .int .u64 0] (by kernel_rfl) 2 rfl (by decide) ?_; clear hS; intro g19 w_ hS; (try simp only [Act.put, List.setIfInBounds_toArray, List.set_cons_zero, List.set_cons_succ]))
  | ((with_reducible refine qA 20 ?_); refine Ax rfl _ _ rfl #[.int .i64 3, .slice (some ⟨g13, 0, none⟩) 1 1, .int .u64 0, .slice (some ⟨g17, 0, none⟩) 2 2, .slice (some ⟨g19, 0, none⟩) 1 1, .slice none 0 0] (by kernel_rfl) ?_; (try simp only [Act.put, List.setIfInBounds_toArray, List.set_cons_zero, List.set_cons_succ]))
  | ((with_reducible refine qA 1 ?_); refine qa hS #[.int .i64 0, .slice none 0 0, .int .u64 0, .slice none 0 0, .slice none 0 0, .slice none 0 0] ?_; clear hS; intro g1 w_ hS)
  | ((with_reducible refine qM ?_); (first | refine qS hS ?_ | refine qT hS ?_); clear hS; intro w_ hS; (try simp only [Act.put, Act.eval, zz, Value.cells] at hS))
  | ((with_reducible refine qA 22 ?_); replace hS := hS.freeze 1 (by decide) rfl; simp only [List.eraseIdx_cons_succ, List.eraseIdx_cons_zero] at hS; replace hS := hS.freeze 1 (by decide) rfl; simp only [List.eraseIdx_cons_succ, List.eraseIdx_cons_zero] at hS; replace hS := hS.freeze 1 (by decide) rfl; simp only [List.eraseIdx_cons_succ, List.eraseIdx_cons_zero] at hS; obtain ⟨K1, hK1, KS1, hS2⟩ := openK hS (A := fun D w => K D w /\ B0 w D (.agg #[.int .i64 3, .slice (some ⟨g13, 0, none⟩) 1 1, .int .u64 0, .slice (some ⟨g17, 0, none⟩) 2 2, .slice (some ⟨g19, 0, none⟩) 1 1, .slice none 0 0]) PE) fun D w h => ⟨h.1.1.1, _, _, _, _, [(1, 2)], rfl, rfl, h.2, h.1.2, h.1.1.2, Sl.none_⟩; clear hS; have hS := hS2; clear hS2; replace hK1 := Lib.hid hK1; refine BigFrame.wpList_want rfl fun _ hK => DK rfl rfl (hS.box 0 rfl) Tryz.underlying30 rfl (by kernel_rfl) (hK _ _ ?_))
  | (go_at_call 16; refine (G5 rfl e12_hok (by decide) PE_fits hS (fun D w h => (hK1.out D w h).2) (fun D w h => kt D w (hK1.out D w h).1)).mono ?_; clear hS; rintro e w_ ⟨u, rfl, hS⟩; obtain ⟨la, As, ns, cs, Ar, cr, An, cn, Ag, cg, rfl⟩ := hS.ro.2.shape6; obtain ⟨K2, hK2, KS2, hS2⟩ := openK hS (A := fun D w => K D w /\ BQ w D (.agg #[.int .i64 PE.roles, .pointer la, .slice As ns cs, .slice Ar PE.rules.length cr, .slice An PE.never.length cn, .slice Ag PE.goal.length cg]) PE) fun D w h => ⟨(hK1.out D w h.1).1, h.2⟩; clear hS; have hS := hS2; clear hS2; replace hK2 := Lib.hid hK2)
  | ((with_reducible refine qA 2 ?_); refine qa hS #[.int .i64 0, .pointer none, .slice none 0 0, .slice none 0 0, .slice none 0 0, .slice none 0 0] ?_; clear hS; intro g2 w_ hS)
  | ((with_reducible refine qk 43 ?_); refine BigFrame.wpList_want rfl fun _ hK => ?_; first | refine DK rfl rfl (hS.box 0 rfl) Tryz.underlying43 rfl (by kernel_rfl) (hK _ _ ?_) | refine DK rfl rfl (hS.box 1 rfl) Tryz.underlying43 rfl (by kernel_rfl) (hK _ _ ?_))
  | (go_at_call 17; refine (Ie (hK2.out _ _ hS.ro).2 PE_ok (kt _ _ (hK2.out _ _ hS.ro).1).1).mono ?_; rw [PE_check]; rintro r_ w_ ⟨_, rfl, rfl, hb_⟩; replace hS := hS.ext hb_; clear hb_)
  | ((with_reducible refine qB ?_); refine qc ?_ ?_ <;> intro h_ <;> go_prune)
  | ((with_reducible refine qk 39 ?_); first | (refine AA hS 0 rfl _ _ rfl _ _ rfl _ _ rfl _ (by first | rfl | assumption) Tryz.underlying39 rfl (by kernel_rfl) ?_) | (refine AA hS 1 rfl _ _ rfl _ _ rfl _ _ rfl _ (by first | rfl | assumption) Tryz.underlying39 rfl (by kernel_rfl) ?_) | (refine AA hS 2 rfl _ _ rfl _ _ rfl _ _ rfl _ (by first | rfl | assumption) Tryz.underlying39 rfl (by kernel_rfl) ?_) | (refine AA hS 3 rfl _ _ rfl _ _ rfl _ _ rfl _ (by first | rfl | assumption) Tryz.underlying39 rfl (by kernel_rfl) ?_) | (refine AA hS 4 rfl _ _ rfl _ _ rfl _ _ rfl _ (by first | rfl | assumption) Tryz.underlying39 rfl (by kernel_rfl) ?_) | (refine AA hS 5 rfl _ _ rfl _ _ rfl _ _ rfl _ (by first | rfl | assumption) Tryz.underlying39 rfl (by kernel_rfl) ?_))
  | ((with_reducible show Calls _ _ #[_, .agg #[.slice As ns cs], _] _ _); go_at_call 31; refine (sstep_any 0 PE_ok hS (fun D w h => (hK2.out D w h).2) (N := 0) (fun D w h => by obtain ⟨_, _, _, _, _, he, _, h2, _⟩ := (hK2.out D w h).2; injection he with he; injection he with he; injection he with _ he; injection he with _ he; injection he with e3 _; rw [e3]; exact h2) (fun D w h => (kt D w (hK2.out D w h).1).1)).mono ?_; rw [PE_step0]; clear hS; rintro e w_ ⟨sv, rfl, hS⟩; obtain ⟨A4, c4, l4, rfl, -⟩ := hS.ro.2.parts; obtain ⟨n4, hn4⟩ : ∃ n, n = l4.length := ⟨_, rfl⟩; rw [<- hn4] at hS ⊢; clear hn4; obtain ⟨K3, hK3, KS3, hS2⟩ := openK hS (A := fun D w => (K D w /\ BQ w D (.agg #[.int .i64 PE.roles, .pointer la, .slice As ns cs, .slice Ar PE.rules.length cr, .slice An PE.never.length cn, .slice Ag PE.goal.length cg]) PE) /\ Aa w D (.agg #[.slice A4 n4 c4]) 2) fun D w h => ⟨hK2.out D w h.1, h.2⟩; clear hS; have hS := hS2; clear hS2; replace hK3 := Lib.hid hK3; (try simp only [Act.put, List.setIfInBounds_toArray, List.set_cons_zero, List.set_cons_succ]))
  | ((with_reducible show Calls _ _ #[_, .agg #[.slice A4 n4 c4], _] _ _); go_at_call 31; refine (sstep_any 1 PE_ok hS (fun D w h => (hK3.out D w h).1.2) (N := 2) (fun D w h => (hK3.out D w h).2) (fun D w h => (kt D w (hK3.out D w h).1.1).1)).mono ?_; rw [PE_step1]; clear hS; rintro e w_ ⟨sv, rfl, hS⟩; obtain ⟨A5, c5, l5, rfl, -⟩ := hS.ro.2.parts; obtain ⟨n5, hn5⟩ : ∃ n, n = l5.length := ⟨_, rfl⟩; rw [<- hn5] at hS ⊢; clear hn5; (try simp only [Act.put, List.setIfInBounds_toArray, List.set_cons_zero, List.set_cons_succ]))
  | ((with_reducible refine qA 4 ?_); refine qa hS #[.slice none 0 0] ?_; clear hS; intro g4 w_ hS)
  | ((with_reducible refine qA 6 ?_); refine qa hS #[.slice none 0 0] ?_; clear hS; intro g6 w_ hS))
 obtain ⟨K4, hK4, KS4, hS2⟩ := openK hS (A := fun D w => (K D w /\ BQ w D (.agg #[.int .i64 PE.roles, .pointer la, .slice As ns cs, .slice Ar PE.rules.length cr, .slice An PE.never.length cn, .slice Ag PE.goal.length cg]) PE) /\ Aa w D (.agg #[.slice A4 n4 c4]) 2) fun D w h => hK3.out D w h.1
 clear hS
 have hS := hS2
 clear hS2
 replace hK4 := Lib.hid hK4
 have HTT := Lib.hid (fun D w h => (kt D w (hK4.out D w h).1.1).1)
 have HHH := Lib.hid e12_hok
 refine C5 [.i (.agg #[.int .i64 PE.roles, .pointer la, .slice As ns cs, .slice Ar PE.rules.length cr, .slice An PE.never.length cn, .slice Ag PE.goal.length cg]), .i (.agg #[.int .u64 4, .int .u64 0]), .s (fun v w => AH w (fun _ => True) v (4, 0)) fun v w w' h hb => h.ext hb, .s (fun v w => ∃ s, v = .tuple #[s, .int .i64 0] /\ Aj w (fun z => w_.heap.size <= z) s [(2, 0), (4, 0)]) fun v w w' h hb => ⟨_, h.choose_spec.1, h.choose_spec.2.ext hb⟩, .s (fun v w => ∃ s, v = .tuple #[s, .int .i64 0] /\ Aj w (fun z => w_.heap.size <= z) s [(2, 0), (4, 0)]) fun v w w' h hb => ⟨_, h.choose_spec.1, h.choose_spec.2.ext hb⟩, .s (fun v w => Aj w (fun z => w_.heap.size <= z) v [(2, 0), (4, 0)]) fun v w w' h hb => h.ext hb, .n 0, .s (fun v w => Aj w (fun z => w_.heap.size <= z) v [(2, 0), (4, 0)]) fun v w w' h hb => h.ext hb, .n 0] ⟨uR (h := fun w hW hN => (hS.ext hW).box 2 rfl), ?_, ?_, ?_, ?_, ?_, ?_, ?_, uA, trivial⟩ ?_
 ·refine uT fun b__ w hW hE K hK => ?_
  exact B9 rfl (ps := [(0, .int .u64 4)]) (by simp [Act.eval]) (cells := #[.int .u64 4, .int .u64 0]) (by kernel_rfl) (hK _ _ rfl (Below.refl _ _))
 ·refine uT fun b__ w hW hE K hK => ?_
  have e48 := hE 48
  refine Ai rfl (by kernel_rfl) (by simp only [List.map_cons, List.map_nil, e48]; rfl) (F3 4 0 (by decide) (by decide) w) fun v w' h hb => ?_
  exact hK v w' (h.imp fun _ _ _ => trivial) hb
 ·refine uT fun b__ w hW hE K hK => ?_
  have e47 := hE 47
  have e49 := hE 49
  refine Ai rfl (by kernel_rfl) (by simp only [List.map_cons, List.map_nil, e47]) (G8 (r := 3) (hK4.out _ _ (hS.ext hW).ro).1.2 rfl rfl (by omega) HHH.out (HTT.out _ _ (hS.ext hW).ro) e49) fun v w' h hb => ?_
  obtain ⟨s, rs, e, rfl, h2, h3⟩ := h
  obtain ⟨rfl, rfl⟩ := expQ_uniq h3 expA
  exact hK _ w' ⟨s, rfl, h2.imp fun z hz _ => Nat.le_trans hW.size hz⟩ hb
 ·refine uT fun b__ w hW hE K hK => ?_
  have e50 := hE 50
  obtain ⟨s, h1, h2⟩ := e50
  exact G0 rfl h1 (hK _ _ ⟨s, rfl, h2⟩ (Below.refl _ _))
 ·refine uT fun b__ w hW hE K hK => ?_
  have e46 := hE 46
  obtain ⟨s, h1, h2⟩ := e46
  exact CM rfl h1 rfl (hK _ _ h2 (Below.refl _ _))
 ·refine uT fun b__ w hW hE K hK => ?_
  have e46 := hE 46
  obtain ⟨s, h1, h2⟩ := e46
  exact CM rfl h1 rfl (hK _ _ rfl (Below.refl _ _))
 ·refine uT fun b__ w hW hE K hK => ?_
  have e51 := hE 51
  exact Cn rfl rfl (hK _ _ e51 (Below.refl _ _))
 ·intro vs wz hW hT
  obtain ⟨e47, e48, e49, e50, e46, e51, e52, e8, e9, -⟩ := hT
  have bx : (fun _ : Nat => True) 0 := trivial
  simp only [Ak, Act.put, zz, ze]
  replace hS := hS.ret hW AY e8
  obtain ⟨A8, c8, h8, _, _⟩ := e8.shape
  rw [h8] at hS ⊢
  rw [e9]
  clear e8 e9 h8 hW e46 e47 e48 e49 e50 e51 e52
  go_wp2_with fail
  refine C5 [.i (.agg #[.int .i64 PE.roles, .pointer la, .slice As ns cs, .slice Ar PE.rules.length cr, .slice An PE.never.length cn, .slice Ag PE.goal.length cg]), .i (.agg #[.int .u64 4, .int .u64 2]), .s (fun v w => AH w (fun _ => True) v (4, 2)) fun v w w' h hb => h.ext hb, .s (fun v w => ∃ s, v = .tuple #[s, .int .i64 0] /\ Aj w (fun z => wz.heap.size <= z) s [(4, 2)]) fun v w w' h hb => ⟨_, h.choose_spec.1, h.choose_spec.2.ext hb⟩, .s (fun v w => ∃ s, v = .tuple #[s, .int .i64 0] /\ Aj w (fun z => wz.heap.size <= z) s [(4, 2)]) fun v w w' h hb => ⟨_, h.choose_spec.1, h.choose_spec.2.ext hb⟩, .s (fun v w => Aj w (fun z => wz.heap.size <= z) v [(4, 2)]) fun v w w' h hb => h.ext hb, .n 0, .s (fun v w => Aj w (fun z => wz.heap.size <= z) v [(4, 2)]) fun v w w' h hb => h.ext hb, .n 0] ⟨uR (h := fun w hW hN => (hS.ext hW).box 2 rfl), ?_, ?_, ?_, ?_, ?_, ?_, ?_, uA, trivial⟩ ?_
  ·refine uT fun b__ w hW hE K hK => ?_
   exact B9 rfl (ps := [(0, .int .u64 4), (1, .int .u64 2)]) (by simp [Act.eval]) (cells := #[.int .u64 4, .int .u64 2]) (by kernel_rfl) (hK _ _ rfl (Below.refl _ _))
  ·refine uT fun b__ w hW hE K hK => ?_
   have e55 := hE 55
   refine Ai rfl (by kernel_rfl) (by simp only [List.map_cons, List.map_nil, e55]; rfl) (F3 4 2 (by decide) (by decide) w) fun v w' h hb => ?_
   exact hK v w' (h.imp fun _ _ _ => trivial) hb
  ·refine uT fun b__ w hW hE K hK => ?_
   have e54 := hE 54
   have e56 := hE 56
   refine Ai rfl (by kernel_rfl) (by simp only [List.map_cons, List.map_nil, e54]) (G8 (r := 3) (hK4.out _ _ (hS.ext hW).ro.1).1.2 rfl rfl (by omega) HHH.out (HTT.out _ _ (hS.ext hW).ro.1) e56) fun v w' h hb => ?_
   obtain ⟨s, rs, e, rfl, h2, h3⟩ := h
   obtain ⟨rfl, rfl⟩ := expQ_uniq h3 expB
   exact hK _ w' ⟨s, rfl, h2.imp fun z hz _ => Nat.le_trans hW.size hz⟩ hb
  ·refine uT fun b__ w hW hE K hK => ?_
   have e57 := hE 57
   obtain ⟨s, h1, h2⟩ := e57
   exact G0 rfl h1 (hK _ _ ⟨s, rfl, h2⟩ (Below.refl _ _))
  ·refine uT fun b__ w hW hE K hK => ?_
   have e53 := hE 53
   obtain ⟨s, h1, h2⟩ := e53
   exact CM rfl h1 rfl (hK _ _ h2 (Below.refl _ _))
  ·refine uT fun b__ w hW hE K hK => ?_
   have e53 := hE 53
   obtain ⟨s, h1, h2⟩ := e53
   exact CM rfl h1 rfl (hK _ _ rfl (Below.refl _ _))
  ·refine uT fun b__ w hW hE K hK => ?_
   have e58 := hE 58
   exact Cn rfl rfl (hK _ _ e58 (Below.refl _ _))
  ·intro vs wz hW hT
   obtain ⟨e54, e55, e56, e57, e53, e58, e59, e10, e11, -⟩ := hT
   have bx : (fun _ : Nat => True) 0 := trivial
   simp only [Ak, Act.put, zz, ze]
   replace hS := hS.ret hW AY e10
   obtain ⟨A10, c10, h10, _, _⟩ := e10.shape
   rw [h10] at hS ⊢
   rw [e11]
   clear e10 e11 h10 hW e53 e54 e55 e56 e57 e58 e59
   obtain ⟨K6, hK6, KS6, hS2⟩ := openK hS (A := fun D w => K4 D w /\ Aj w D (.slice A8 2 c8) [(2, 0), (4, 0)] /\ Aj w D (.slice A10 1 c10) [(4, 2)]) fun D w h => ⟨h.1.1, h.1.2, h.2⟩
   clear hS
   have hS := hS2
   clear hS2
   replace hK6 := Lib.hid hK6
   go_wp2_with fail
   refine C5 [.b true, .b true, .i (.agg #[.slice A4 n4 c4]), .s (fun v w => Sl w (fun _ => True) 1 v ([1] : List Int).length (Be [1])) fun v w w' h hb => h.ext hb, .s (fun v w => Aa w (fun _ => True) v 2) fun v w w' h hb => h.ext hb, .b true, .b true, .b true, .b false, .b true, .b true, .b true, .n 0, .b true, .b true, .b true, .i (.slice A8 2 c8), .i (.agg #[.int .u64 2, .int .u64 0]), .i (.agg #[.int .u64 4, .int .u64 0]), .s (fun v w => Bq w (fun _ => True) v [(2, 0), (4, 0)]) fun v w w' h hb => h.ext hb, .b true, .b true, .b true, .n 0, .b true, .b true, .b true, .i (.slice A10 1 c10), .i (.agg #[.int .u64 4, .int .u64 2]), .s (fun v w => Bq w (fun _ => True) v [(4, 2)]) fun v w w' h hb => h.ext hb, .b true, .b true, .b true] ⟨uM, uM, uR (h := fun w hW hN => (hS.ext hW).box 1 rfl), ?_, ?_, ?_, uP, uM, uM, uU, uP, uM, uM, uB (h := fun w hW hN => EV rfl), uP, uM, uM, ?_, ?_, ?_, ?_, uP, uM, uM, uB (h := fun w hW hN => EV rfl), uP, uM, uM, ?_, ?_, ?_, uP, uA, trivial⟩ ?_
   ·refine uT fun b__ w hW hE K hK => ?_
    refine AX rfl Tryz.underlying74 (ps := [(0, .int .i64 1)]) (by simp [Act.eval]) (cells := #[.int .i64 1]) (by kernel_rfl) fun w' hX hb => hK _ _ ((Sl.of_box (n := 1) (size := 1) hX rfl (by omega)).imp fun _ _ _ => trivial) hb
   ·refine uT fun b__ w hW hE K hK => ?_
    have e63 := hE 63
    exact Ai rfl (by kernel_rfl) (by simp only [List.map_cons, List.map_nil]) (of_any _ [1] _ _ e63) fun v w' h hb => hK v w' (by rw [show ofN [1] = 2 from by decide] at h; exact h.imp fun _ _ _ => trivial) hb
   ·refine uT fun b__ w hW hE K hK => ?_
    have e62 := hE 62
    have e64 := hE 64
    exact Ai rfl (by kernel_rfl) (by simp only [List.map_cons, List.map_nil, e62]) (GP _ _ 2 2 _ _ _ (hK4.out _ _ (hK6.out _ _ (hS.ext hW).ro).1).2 e64) fun v w' h hb => hK v w' h hb
   ·refine uT fun b__ w hW hE K hK => ?_
    exact B9 rfl (ps := [(0, .int .u64 2)]) (by simp [Act.eval]) (cells := #[.int .u64 2, .int .u64 0]) (by kernel_rfl) (hK _ _ rfl (Below.refl _ _))
   ·refine uT fun b__ w hW hE K hK => ?_
    exact B9 rfl (ps := [(0, .int .u64 4)]) (by simp [Act.eval]) (cells := #[.int .u64 4, .int .u64 0]) (by kernel_rfl) (hK _ _ rfl (Below.refl _ _))
   ·refine uT fun b__ w hW hE K hK => ?_
    have e77 := hE 77
    have e78 := hE 78
    refine AX rfl Tryz.underlying28 (ps := [(0, .agg #[.int .u64 2, .int .u64 0]), (1, .agg #[.int .u64 4, .int .u64 0])]) (by simp [e77, e78]) (cells := #[.int .u64 2, .int .u64 0, .int .u64 4, .int .u64 0]) (by kernel_rfl) fun w' hX hb => hK _ _ ((Sl.of_box (n := 2) (size := 2) hX rfl (by omega)).imp fun _ _ _ => trivial) hb
   ·refine uT fun b__ w hW hE K hK => ?_
    have e76 := hE 76
    have e79 := hE 79
    exact Ai rfl (by kernel_rfl) (by simp only [List.map_cons, List.map_nil, e76]) (lsame_any _ _ [(2, 0), (4, 0)] [(2, 0), (4, 0)] _ _ _ (hK6.out _ _ (hS.ext hW).ro).2.1 e79 (by unfold Small AM; simp) (by unfold Small AM; simp) (HTT.out _ _ (hK6.out _ _ (hS.ext hW).ro).1)) fun v w' h hb => hK v w' h hb
   ·refine uT fun b__ w hW hE K hK => ?_
    exact B9 rfl (ps := [(0, .int .u64 4), (1, .int .u64 2)]) (by simp [Act.eval]) (cells := #[.int .u64 4, .int .u64 2]) (by kernel_rfl) (hK _ _ rfl (Below.refl _ _))
   ·refine uT fun b__ w hW hE K hK => ?_
    have e88 := hE 88
    refine AX rfl Tryz.underlying28 (ps := [(0, .agg #[.int .u64 4, .int .u64 2])]) (by simp [e88]) (cells := #[.int .u64 4, .int .u64 2]) (by kernel_rfl) fun w' hX hb => hK _ _ ((Sl.of_box (n := 1) (size := 2) hX rfl (by omega)).imp fun _ _ _ => trivial) hb
   ·refine uT fun b__ w hW hE K hK => ?_
    have e87 := hE 87
    have e89 := hE 89
    exact Ai rfl (by kernel_rfl) (by simp only [List.map_cons, List.map_nil, e87]) (lsame_any _ _ [(4, 2)] [(4, 2)] _ _ _ (hK6.out _ _ (hS.ext hW).ro).2.2 e89 (by unfold Small AM; simp) (by unfold Small AM; simp) (HTT.out _ _ (hK6.out _ _ (hS.ext hW).ro).1)) fun v w' h hb => hK v w' h hb
   ·intro vs wz hW hT
    obtain ⟨e60, e61, e62, e63, e64, e65, e66, e67, e68, e69, e70, e71, e72, e73, e74, e75, e76, e77, e78, e79, e80, e81, e82, e83, e84, e85, e86, e87, e88, e89, e90, e91, e0, -⟩ := hT
    have bx : (fun _ : Nat => True) 0 := trivial
    simp only [Ak, Act.put, zz, ze]
    rw [e0]
    replace hS := hS.ext hW
    clear hW
    go_wp2_with fail
    go_ret
    exact ⟨rfl, (hS.sub (List.sublist_append_right [_, _, _, _] F)).mono KS.out fun D w h => (hK4.out _ _ (hK6.out _ _ h).1).1.1⟩
end
section
open Go.RowKit
attribute [local go_sem ↓] Go.wp_at_zero Go.wp_at_succ
set_option maxRecDepth 20000
set_option exponentiation.threshold 5000
theorem hasB_nat {N t : Nat} : Bv N (t : Int) = N.testBit t := by simp [Bv]
end
section
open Go.RowKit
attribute [local go_sem ↓] Go.wp_at_zero Go.wp_at_succ
set_option maxRecDepth 20000
set_option exponentiation.threshold 5000
theorem FN {P : Program} {w : World} {t : TypeId} {x y : Nat} (hx : x < AM) (hy : y < AM) : (binOp .andNot t (.int .u64 (x : Nat)) (.int .u64 (y : Nat))).run P w = .ok (.int .u64 ((x &&& BH y : Nat) : Int)) w := by
 go_simp; rw [IX hx hy]
end
section
open Go.RowKit
attribute [local go_sem ↓] Go.wp_at_zero Go.wp_at_succ
set_option maxRecDepth 20000
set_option exponentiation.threshold 5000
theorem run_shlU {P : Program} {w : World} {t : TypeId} {r : Nat} (hr : r < 64) : (binOp .shl t (.int .u64 1) (.int .u64 (r : Nat))).run P w = .ok (.int .u64 ((2 ^ r : Nat) : Int)) w := by
 go_simp
 rw [shl64 r hr]
 simp
theorem run_convU {P : Program} {w : World} {n : Nat} (hn : n < AM) : (convert 3 58 (.int .i64 (n : Nat))).run Tryz.prog w = .ok (.int .u64 (n : Nat)) w := by
 go_simp
 exact Fu hn
end
section
open Go.RowKit
set_option exponentiation.threshold 5000
theorem rolesN_mask : ∀ R, R < 6 -> AP R = Da R := by decide
theorem role_in : ∀ R, R < 6 -> ∀ z, z < 6 -> 1 <= z -> z <= R -> (Da R).testBit z = true := by decide
theorem GE {R : Nat} (hR : R <= 5) {i : Int} (h1 : 1 <= i) (h2 : i <= R) : Bv (Da R) i = true := by
 obtain ⟨z, rfl⟩ : ∃ z : Nat, i = (z : Int) := ⟨i.toNat, by omega⟩
 rw [hasB_nat]
 exact role_in R (by omega) z (by omega) (by omega) (by omega)
theorem over_of {m : Nat} {z : Nat × Nat} (h1 : z.1 &&& m = z.1) (h2 : z.2 &&& m = z.2) : Et m z = true := by
 unfold Et
 rw [beq_iff_eq]
 exact Bi fun i => by
  have a : (z.1 &&& m).testBit i = z.1.testBit i := by rw [h1]
  have b : (z.2 &&& m).testBit i = z.2.testBit i := by rw [h2]
  rw [Nat.testBit_and] at a b
  rw [Nat.testBit_and, Nat.testBit_or]
  cases h3 : z.1.testBit i <;> cases h4 : z.2.testBit i <;> cases h5 : m.testBit i <;> simp_all
theorem Gl.check {p : AK} {L : List (Nat × Nat)} {R : Nat} (h : Gl p L R) : checkE p = 0 := by
 have hR := h.r5
 have hm := rolesN_mask R (by omega)
 have hc : ∀ z ∈ p.cubes, z.1 &&& Da R = z.1 /\ z.2 &&& Da R = z.2 /\ z.1 &&& z.2 = 0 := fun z hz => by
  unfold AK.cubes at hz
  rcases List.mem_append.1 hz with hz | hz
  ·rcases List.mem_append.1 hz with hz | hz
   ·obtain ⟨r, hr, rfl⟩ := List.mem_map.1 hz
    have := h.rules r hr
    exact ⟨this.2.2.1, this.2.2.2.1, this.2.2.2.2.1⟩
   ·have := (h.never z hz).1; exact ⟨this.1, this.2.1, this.2.2.1⟩
  ·have := h.goal z hz; exact ⟨this.1, this.2.1, this.2.2.1⟩
 unfold checkE
 rw [h.links]
 dsimp only
 rw [h.roles, Int.toNat_natCast, hm, if_neg (by have := h.r2; omega), if_neg (by have := h.rlen; have := h.nlen; have := h.glen; omega), if_neg, if_neg, if_neg]
 ·unfold goodB
  rw [h.links]
  dsimp only
  intro e
  rw [Bool.not_eq_false', List.any_eq_true] at e
  obtain ⟨z, hz, e⟩ := e
  rw [(h.never z hz).2] at e; cases e
 ·rintro (e | e)
  ·obtain ⟨z, hz, e⟩ := List.any_eq_true.1 e
   rw [(hc z hz).2.2] at e; cases e
  ·have : p.rules.all FQ = true := List.all_eq_true.2 fun r hr => by
    unfold FQ
    cases hr' : r.revoke with
    | false => rfl
    | true =>
     have := (h.rules r hr).2.2.2.2.2.2.2 hr'
     simp [this]
   rw [this] at e; cases e
 ·have : Co p L (Da R) = true := by
   unfold Co
   rw [Bool.and_eq_true, Bool.and_eq_true, Bool.and_eq_true]
   refine ⟨by rw [h.start]; simp, List.all_eq_true.2 fun z hz => ?_, List.all_eq_true.2 fun r hr => ?_, List.all_eq_true.2 fun z hz => over_of (hc z hz).1 (hc z hz).2.1⟩
   ·have := h.inr z hz
    rw [Bool.and_eq_true]
    exact ⟨GE hR (by omega) (by omega), GE hR (by omega) (by omega)⟩
   ·have := (h.rules r hr).1
    exact GE hR (by omega) (by omega)
  rw [this]; exact nofun
end
section
open Go.RowKit
attribute [local go_sem ↓] Go.wp_at_zero Go.wp_at_succ
set_option maxRecDepth 20000
set_option exponentiation.threshold 5000
structure Gj (p : AK) (L : List (Nat × Nat)) : Prop where
 links : p.links = some L
 hok : Gm L
 len : L.length <= 1000
 fits : Fits p
theorem rolesN_pow : ∀ r, r < 64 -> AP r = 2 ^ (r + 1) - 2 := by decide
theorem GD : ∀ r, r < 64 -> AP r < AM := by decide
theorem roles_step : ∀ j, j < 64 -> 1 <= j -> (2 ^ j - 2) ||| 2 ^ j = 2 ^ (j + 1) - 2 := by decide
theorem pow_both : ∀ j, j < 64 -> 2 ^ j < AM /\ 2 ^ j - 2 < AM := by decide
theorem roles_bit : ∀ r, r < 64 -> ∀ i, i < 64 -> (AP r).testBit i = decide (1 <= i /\ i <= r) := by decide +kernel
theorem EW {r : Nat} (h : r <= 63) (z : Int) : Bv (AP r) z = decide (1 <= z /\ z <= (r : Int)) := by
 unfold Bv
 by_cases h0 : 0 <= z
 ·obtain ⟨n, rfl⟩ := Int.eq_ofNat_of_zero_le h0
  rw [Int.toNat_natCast]
  rcases Nat.lt_or_ge n 64 with h1 | h1
  ·rw [roles_bit r (by omega) n h1, decide_eq_true h0, Bool.true_and]
   exact decide_eq_decide.2 (by omega)
  ·rw [Ee (GD r (by omega)) h1, Bool.and_false, eq_comm, decide_eq_false_iff_not]; omega
 ·rw [decide_eq_false h0, Bool.false_and, eq_comm, decide_eq_false_iff_not]; omega
theorem Hh {x N : Nat} (hx : x < AM) (hN : N < AM) : (x &&& BH N = 0) ↔ x &&& N = x := by
 constructor
 ·intro h
  refine Bi fun i => ?_
  rw [Nat.testBit_and]
  cases h1 : x.testBit i with
  | false => simp
  | true =>
   have h2 : (x &&& BH N).testBit i = false := by rw [h]; exact Nat.zero_testBit i
   have h3 : i < 64 := by
    rcases Nat.lt_or_ge i 64 with h3 | h3
    ·exact h3
    ·rw [Ee hx h3] at h1; cases h1
   rw [Nat.testBit_and, h1, CB hN i h3] at h2
   simpa using h2
 ·intro h
  refine Nat.eq_of_testBit_eq fun i => ?_
  rw [Nat.zero_testBit, Nat.testBit_and]
  cases h1 : x.testBit i with
  | false => rfl
  | true =>
   have h3 : i < 64 := by
    rcases Nat.lt_or_ge i 64 with h3 | h3
    ·exact h3
    ·rw [Ee hx h3] at h1; cases h1
   rw [CB hN i h3]
   rw [<- h, Nat.testBit_and, Bool.and_eq_true] at h1
   rw [h1.2]; rfl
theorem beqD (a b : Nat) : (a == b) = decide (a = b) := by rw [Bool.eq_iff_iff]; simp
theorem Gj.small {p : AK} {L : List (Nat × Nat)} (h : Gj p L) : Small p.cubes := fun z hz => by
 unfold AK.cubes at hz
 rcases List.mem_append.1 hz with hz | hz
 ·rcases List.mem_append.1 hz with hz | hz
  ·obtain ⟨r, hr, rfl⟩ := List.mem_map.1 hz
   exact h.fits.rules r hr
  ·exact h.fits.never z hz
 ·exact h.fits.goal z hz
theorem cubes_len (p : AK) : p.cubes.length = p.rules.length + p.never.length + p.goal.length := by unfold AK.cubes; simp; omega
theorem known_parts {p : AK} {L : List (Nat × Nat)} {r : Nat} (h : Gj p L) (hr : r <= 63) :
  (∀ z ∈ L, (r < z.1 \/ r < z.2) -> Co p L (AP r) = false) /\ (∀ z ∈ p.rules, (z.target < 1 \/ (r : Int) < z.target) -> Co p L (AP r) = false) /\ (∀ z ∈ p.cubes, (z.1 ||| z.2) &&& BH (AP r) ≠ 0 -> Co p L (AP r) = false) /\
  ((∀ z ∈ L, z.1 <= r /\ z.2 <= r) -> (∀ z ∈ p.rules, 1 <= z.target /\ z.target <= (r : Int)) -> (∀ z ∈ p.cubes, (z.1 ||| z.2) &&& BH (AP r) = 0) -> Co p L (AP r) = decide (p.start &&& BH (AP r) = 0)) := by
 have hN := GD r (by omega)
 have e1 : ∀ z ∈ L, (Bv (AP r) z.1 && Bv (AP r) z.2) = decide (z.1 <= r /\ z.2 <= r) := fun z hz => by
  have := h.hok.role z hz
  rw [EW hr, EW hr, <- Bool.decide_and]
  exact decide_eq_decide.2 (by omega)
 have e2 : ∀ z ∈ p.cubes, Et (AP r) z = decide ((z.1 ||| z.2) &&& BH (AP r) = 0) := fun z hz => by
  have := h.small z hz
  unfold Et
  rw [<- decide_eq_decide.2 (Hh (or_lt this.1 this.2) hN).symm, beqD]
 unfold Co
 refine ⟨fun z hz hh => ?_, fun z hz hh => ?_, fun z hz hh => ?_, fun h1 h2 h3 => ?_⟩
 ·have : (L.all fun z => Bv (AP r) z.1 && Bv (AP r) z.2) = false := by
   rw [List.all_eq_false]
   exact ⟨z, hz, by rw [e1 z hz, decide_eq_true_eq]; omega⟩
  rw [this]; simp
 ·have : (p.rules.all fun z => Bv (AP r) z.target) = false := by
   rw [List.all_eq_false]
   exact ⟨z, hz, by rw [EW hr, decide_eq_true_eq]; omega⟩
  rw [this]; simp
 ·have : p.cubes.all (Et (AP r)) = false := by
   rw [List.all_eq_false]
   exact ⟨z, hz, by rw [e2 z hz, decide_eq_true_eq]; exact hh⟩
  rw [this]; simp
 ·have a1 : (L.all fun z => Bv (AP r) z.1 && Bv (AP r) z.2) = true := List.all_eq_true.2 fun z hz => by rw [e1 z hz]; exact decide_eq_true (h1 z hz)
  have a2 : (p.rules.all fun z => Bv (AP r) z.target) = true := List.all_eq_true.2 fun z hz => by rw [EW hr]; exact decide_eq_true (h2 z hz)
  have a3 : p.cubes.all (Et (AP r)) = true := List.all_eq_true.2 fun z hz => by rw [e2 z hz]; exact decide_eq_true (h3 z hz)
  rw [a1, a2, a3, Bool.and_self, Bool.and_self, Bool.and_true, <- decide_eq_decide.2 (Hh h.fits.start hN).symm, beqD]
section
variable {P : Program} {w : World} {t : TypeId} {x y : Nat}
theorem run_orW (hx : x < AM) (hy : y < AM) : (binOp .or t (.int .u64 (x : Nat)) (.int .u64 (y : Nat))).run P w = .ok (.int .u64 ((x ||| y : Nat) : Int)) w := by
 go_simp
 rw [or64 hx hy]
end
theorem Dn {w0 : World} {D : Nat -> Prop} {v : Value} {p : AK} {L : List (Nat × Nat)} (hl : p.links = some L) (h : B0 w0 D v p) :
  ∃ Al cl Ar cr An cn Ag cg, v = .agg #[.int .i64 p.roles, .slice Al L.length cl, .int .u64 (p.start : Nat), .slice Ar p.rules.length cr, .slice An p.never.length cn, .slice Ag p.goal.length cg] /\ Sl w0 D 2 (.slice Al L.length cl) L.length (Ad L) /\ Sl w0 D 5 (.slice Ar p.rules.length cr) p.rules.length (At p.rules) /\ Sl w0 D 2 (.slice An p.never.length cn) p.never.length (AB p.never) /\ Sl w0 D 2 (.slice Ag p.goal.length cg) p.goal.length (AB p.goal) := by
 obtain ⟨lv, rv, nv, gv, L', rfl, hl', h1, h2, h3, h4⟩ := h
 obtain rfl : L = L' := by rw [hl] at hl'; injection hl'
 obtain ⟨Al, cl, rfl, _, _⟩ := h1.shape
 obtain ⟨Ar, cr, rfl, _, _⟩ := h2.shape
 obtain ⟨An, cn, rfl, _, _⟩ := Sl.shape (h3 : Sl _ _ _ _ _ _)
 obtain ⟨Ag, cg, rfl, _, _⟩ := Sl.shape (h4 : Sl _ _ _ _ _ _)
 exact ⟨_, _, _, _, _, _, _, _, rfl, h1, h2, h3, h4⟩
theorem Cw {w0 : World} {D : Nat -> Prop} {av lv sv rv nv gv : Value} {p : AK} {L : List (Nat × Nat)} (hl : p.links = some L) (h : B0 w0 D (.agg #[av, lv, sv, rv, nv, gv]) p) :
  Sl w0 D 2 lv L.length (Ad L) /\ Sl w0 D 5 rv p.rules.length (At p.rules) /\ Sl w0 D 2 nv p.never.length (AB p.never) /\ Sl w0 D 2 gv p.goal.length (AB p.goal) := by
 obtain ⟨lv, rv, nv, gv, L', e, hl', h1, h2, h3, h4⟩ := h
 obtain rfl : L = L' := by rw [hl] at hl'; injection hl'
 injection e with e; injection e with e; injection e with _ e; injection e with a e; injection e with _ e; injection e with b e; injection e with c e; injection e with d _
 subst a b c d
 exact ⟨h1, h2, h3, h4⟩
theorem rroles31_any {w0 : World} {D : Nat -> Prop} {v : Value} {p : AK} {r : Nat} (hp : B0 w0 D v p) (hr : p.roles = (r : Int)) (h1 : 1 <= r) (h63 : r <= 63) :
  Calls Tryz.prog 129 #[v] w0 (AF (fun x _ => x = .int .u64 (AP r : Nat)) w0) := by
 obtain ⟨lv, rv, nv, gv, L, rfl, -⟩ := hp
 rw [hr]
 have HP := Lib.hid (rolesN_pow r (by omega))
 have hS : St w0 w0 [] fun _ _ => True := St.start0
 clear hr
 go_enter Tryz.func129, Tryz.ntmps129
 go_wp2_with (first | ((with_reducible refine qA 1 ?_); refine Aw hS rfl _ _ rfl (.agg #[.int .i64 (r : Nat), lv, .int .u64 (p.start : Nat), rv, nv, gv]) _ rfl rfl ?_; clear hS; intro g1 w_ hS; (try simp only [Act.put, Act.eval, zz, Value.cells] at hS)))
 go_loopw [3, 4] (fun ov iv wr => ∃ j : Nat, iv = .int .i64 (j : Nat) /\ ov = .int .u64 ((2 ^ j - 2 : Nat) : Int) /\ 1 <= j /\ j <= r + 1 /\ St w0 wr [.box g1 30 #[.int .i64 (r : Nat), lv, .int .u64 (p.start : Nat), rv, nv, gv]] fun _ _ => True) (fun _ i _ => r + 1 - (intOf i).toNat)
 case atStart => exact ⟨1, rfl, rfl, by omega, by omega, hS⟩
 case round =>
  clear hS
  obtain ⟨j, rfl, rfl, hj1, hj2, hS⟩ := hrel
  by_cases hj : j <= r
  ·have h64 : j < 64 := by omega
   have HST := Lib.hid (roles_step j h64 hj1)
   have HPW := Lib.hid (pow_both j h64)
   obtain ⟨m, hm⟩ : ∃ m, m = 2 ^ j - 2 := ⟨_, rfl⟩
   have HPS : Hid (2 ^ j < AM) := Lib.hid HPW.out.1
   have HMM : Hid (m < AM) := Lib.hid (by rw [hm]; exact HPW.out.2)
   rw [<- hm] at HST ⊢
   clear hm HPW
   have hjT : Hid (j < AM) := Lib.hid (by unfold AM; omega)
   go_wp2_with (first
    | ((with_reducible refine qB ?_); refine qc ?_ ?_ <;> intro h_ <;> go_prune)
    | ((with_reducible refine qA 17 ?_); refine BigFrame.wpList_want rfl fun _ hK => Dp (vx := .int .i64 (j : Nat)) (v := .int .u64 (j : Nat)) rfl rfl (run_convU hjT.out) (hK _ _ ?_))
    | ((with_reducible refine qA 18 ?_); refine BigFrame.wpList_want rfl fun _ hK => AE rfl rfl rfl rfl (run_shlU h64) (hK _ _ ?_))
    | ((with_reducible refine qA 19 ?_); refine BigFrame.wpList_want rfl fun _ hK => AE rfl rfl rfl rfl (run_orW HMM.out HPS.out) (hK _ _ ?_))
    | ((with_reducible refine qK ?_); refine qC hS ?_))
   refine ⟨⟨j + 1, by go_num, by rw [HST.out], by omega, by omega, hS⟩, by simp [intOf]; omega⟩
  ·obtain rfl : j = r + 1 := by omega
   rw [<- HP.out]
   go_wp2_with (first | ((with_reducible refine qB ?_); refine qc ?_ ?_ <;> intro h_ <;> go_prune) | ((with_reducible refine qK ?_); refine qC hS ?_))
   go_ret
   exact AF.mk rfl hS.below
def rcD (n m k : Nat) (a b c : List (Nat × Nat)) : AD := ⟨50, 2, 3, fun s => match s with | 0 => n | 1 => n + m | _ => n + m + k, fun s => match s with | 0 => AB a | 1 => AB a ++ AB b | _ => AB a ++ AB b ++ AB c, fun _ v => .own v 50 2 0 []⟩
set_option maxHeartbeats 1000000 in
theorem FS {w0 w : World} {F : List Ac} {K : (Nat -> Prop) -> World -> Prop} {v : Value} {p : AK} {L : List (Nat × Nat)} (hR : Gj p L) (hS : St w0 w F K) (kp : ∀ D w, K D w -> B0 w D v p) :
  Calls Tryz.prog 57 #[v] w fun e w' => ∃ u, e = .returned u /\ St w0 w' F fun D w => K D w /\ Bq w D u p.cubes := by
 obtain ⟨Al, cl, Ar, cr, An, cn, Ag, cg, rfl, -⟩ := Dn hR.links (kp _ _ hS.ro)
 have KS := Lib.hid hS.stable
 have kr : ∀ D w, K D w -> Sl w D 5 (.slice Ar p.rules.length cr) p.rules.length (At p.rules) := fun D w h => (Cw hR.links (kp D w h)).2.1
 have kn : ∀ D w, K D w -> Sl w D 2 (.slice An p.never.length cn) p.never.length (AB p.never) := fun D w h => (Cw hR.links (kp D w h)).2.2.1
 have kg : ∀ D w, K D w -> Sl w D 2 (.slice Ag p.goal.length cg) p.goal.length (AB p.goal) := fun D w h => (Cw hR.links (kp D w h)).2.2.2
 have hl1 := hR.fits.rlen
 have hl2 := hR.fits.nlen
 have hl3 := hR.fits.glen
 clear kp
 have HCU := Lib.hid (show p.cubes = (p.rules.map fun r => (r.yes, r.no)) ++ p.never ++ p.goal from rfl)
 obtain ⟨rl, hrl⟩ : ∃ rl, p.rules = rl := ⟨_, rfl⟩
 obtain ⟨nl, hnl⟩ : ∃ nl, p.never = nl := ⟨_, rfl⟩
 obtain ⟨gl, hgl⟩ : ∃ gl, p.goal = gl := ⟨_, rfl⟩
 obtain ⟨cu, hcu⟩ : ∃ cu, p.cubes = cu := ⟨_, rfl⟩
 obtain ⟨st, hst⟩ : ∃ st, p.start = st := ⟨_, rfl⟩
 obtain ⟨R, hro⟩ : ∃ R, p.roles = R := ⟨_, rfl⟩
 rw [hrl, hnl, hgl, hcu] at HCU
 rw [hrl] at kr hl1
 rw [hnl] at kn hl2
 rw [hgl] at kg hl3
 rw [hrl, hnl, hgl, hst, hcu, hro]
 clear hrl hnl hgl hcu hst hro hR
 obtain ⟨CS, hCS⟩ : ∃ CS : List (Nat × Nat), CS = rl.map fun r => (r.yes, r.no) := ⟨_, rfl⟩
 rw [<- hCS] at HCU
 have HCS := Lib.hid hCS
 have hlC : CS.length = rl.length := by rw [hCS]; simp
 have HLC := Lib.hid hlC
 clear hCS hlC
 go_enter Tryz.func57, Tryz.ntmps57
 go_wp2_with (first
  | ((with_reducible refine qA 1 ?_); refine Aw hS rfl _ _ rfl (.agg #[.int .i64 R, .slice Al L.length cl, .int .u64 (st : Nat), .slice Ar rl.length cr, .slice An nl.length cn, .slice Ag gl.length cg]) _ rfl rfl ?_; clear hS; intro g1 w_ hS; (try simp only [Act.put, Act.eval, zz, Value.cells] at hS))
  | ((with_reducible refine qK ?_); refine qC hS ?_))
 replace hS := hS.nil 50 2
 go_loopw [3, 9] (fun ov i wr => ∃ (j : Nat) (sv : Value), i = .int .i64 (j : Nat) /\ sv = ov /\ j <= rl.length /\ St w0 wr (.own sv 50 2 j (AB (CS.take j)) :: .box g1 30 #[.int .i64 R, .slice Al L.length cl, .int .u64 (st : Nat), .slice Ar rl.length cr, .slice An nl.length cn, .slice Ag gl.length cg] :: F) K) (fun _ i _ => rl.length - (intOf i).toNat)
 case atStart => exact ⟨0, _, rfl, rfl, by omega, hS⟩
 case round =>
  clear hS
  obtain ⟨j, sv, rfl, rfl, hj, hS⟩ := hrel
  by_cases hlj : j < rl.length
  ·obtain ⟨b, o, rfl, c0, c1, c2, c3, c4⟩ := rr_at (kr _ _ hS.ro) hlj
   have HT : Hid (AB (CS.take (j + 1)) = AB (CS.take j) ++ [.int .u64 ((rl.getD j Bb).yes : Nat), .int .u64 ((rl.getD j Bb).no : Nat)]) := Lib.hid (by
    rw [HCS.out, List.take_add_one, List.getElem?_map, List.getElem?_eq_getElem hlj, List.getD_eq_getElem?_getD, List.getElem?_eq_getElem hlj, D4]; rfl)
   generalize rl.getD j Bb = z at *
   obtain ⟨zr, zy, zn, zt, zo⟩ := z
   dsimp only at c0 c1 c2 c3 c4 HT
   have hj1 : j <= 100000 := by omega
   go_wp2_with (first
    | ((with_reducible refine qB ?_); refine qc ?_ ?_ <;> intro h_ <;> go_prune)
    | ((with_reducible refine qA 12 ?_); refine BigFrame.wpList_want rfl fun _ hK => AU (cs := [.bool zr, .int .u64 (zy : Nat), .int .u64 (zn : Nat), .int .i64 zt, .int .i64 zo]) rfl rfl (Ho c0 c1 c2 c3 c4) Tryz.underlying109 rfl (by kernel_rfl) (hK _ _ ?_))
    | ((with_reducible refine qA 5 ?_); refine qa hS #[.bool false, .int .u64 0, .int .u64 0, .int .i64 0, .int .i64 0] ?_; clear hS; intro g5 w_ hS)
    | ((with_reducible refine qM ?_); (first | refine qS hS ?_ | refine qT hS ?_); clear hS; intro w_ hS; (try simp only [Act.put, Act.eval, zz, Value.cells] at hS))
    | ((with_reducible refine qk 50 ?_); refine BU hS 0 rfl _ _ rfl _ _ rfl _ _ rfl _ _ rfl rfl Tryz.underlying50 rfl (by kernel_rfl) ?_)
    | ((with_reducible show wpList _ _ _ (⟨_, .buildSlice _ 1 _, _, _, _, _⟩ :: _) _ _); refine DC hS 1 rfl rfl _ _ _ _ rfl rfl I3 _ _ _ (.agg #[.int .u64 (zy : Nat), .int .u64 (zn : Nat)]) #[.int .u64 (zy : Nat), .int .u64 (zn : Nat)] rfl (by kernel_rfl) rfl rfl rfl rfl (by intro u hu; simp at hu; first | (subst hu; rfl) | (rcases hu with rfl | rfl <;> rfl)) (by omega) (by omega) ?_; clear hS; intro z_ v_ w_ hS; (try simp only [Act.put, Act.eval, zz, Value.cells] at hS)))
   refine ⟨⟨j + 1, _, by go_num, rfl, hlj, ?_⟩, by simp [intOf]; omega⟩
   rw [HT.out]
   exact hS.sub (F' := _ :: _ :: F) (List.sublist_cons_self _ _)
  ·obtain rfl : rl.length = j := by omega
   have hCT : CS.take rl.length = CS := by rw [<- HLC.out, List.take_length]
   rw [hCT] at hS
   clear hCT
   go_wp2_with (first | ((with_reducible refine qB ?_); refine qc ?_ ?_ <;> intro h_ <;> go_prune))
   have hA0 : Fj ⟨[sv], []⟩ 0 sv := ⟨[], [], rfl, rfl⟩
   have hJ0 : AJ w0 (.box g1 30 #[.int .i64 R, .slice Al L.length cl, .int .u64 (st : Nat), .slice Ar rl.length cr, .slice An nl.length cn, .slice Ag gl.length cg] :: F) K (rcD rl.length nl.length gl.length CS nl gl) (wr.drew, ⟨[sv], []⟩) := ⟨hS.drew, show 1 <= 3 by decide⟩
   have hN0 := AN_one1 (kd := cbK) (by decide) wr.drew sv
   have hRr := @AR.refl w0 (.box g1 30 #[.int .i64 R, .slice Al L.length cl, .int .u64 (st : Nat), .slice Ar rl.length cr, .slice An nl.length cn, .slice Ag gl.length cg] :: F) K (rcD rl.length nl.length gl.length CS nl gl)
   have hRt := @AR.trans w0 (.box g1 30 #[.int .i64 R, .slice Al L.length cl, .int .u64 (st : Nat), .slice Ar rl.length cr, .slice An nl.length cn, .slice Ag gl.length cg] :: F) K (rcD rl.length nl.length gl.length CS nl gl)
   have hb0 : Hid (rl.length + nl.length <= 1000000000000 /\ (rl.length + nl.length) * 16 <= 140737488355328 /\ rl.length + nl.length + gl.length <= 1000000000000 /\ (rl.length + nl.length + gl.length) * 16 <= 140737488355328) := Lib.hid (by omega)
   clear hS
   refine Ex (AR w0 (.box g1 30 #[.int .i64 R, .slice Al L.length cl, .int .u64 (st : Nat), .slice Ar rl.length cr, .slice An nl.length cn, .slice Ag gl.length cg] :: F) K (rcD rl.length nl.length gl.length CS nl gl)) (AN cbK) (⟨[sv], []⟩) hRr hRt [.i sv, .q g1 4, .i (.slice An nl.length cn), .s (fun v w => Fj w.2 1 v) fun v w w' h hb => h.mono hb.2.1, .q g1 5, .i (.slice Ag gl.length cg), .s (fun v w => Fj w.2 2 v) fun v w w' h hb => h.mono hb.2.1, .s (fun v w => Fj w.2 2 v) fun v w w' h hb => h.mono hb.2.1] ?_ ⟨uM, uF, uC (h := fun w hW hN => ((hW.1 hJ0).1.holds (.box g1 30 #[.int .i64 R, .slice Al L.length cl, .int .u64 (st : Nat), .slice Ar rl.length cr, .slice An nl.length cn, .slice Ag gl.length cg]) (List.mem_append_right _ (List.mem_cons_self ..))).2.cell 4), ?_, uF, uC (h := fun w hW hN => ((hW.1 hJ0).1.holds (.box g1 30 #[.int .i64 R, .slice Al L.length cl, .int .u64 (st : Nat), .slice Ar rl.length cr, .slice An nl.length cn, .slice Ag gl.length cg]) (List.mem_append_right _ (List.mem_cons_self ..))).2.cell 5), ?_, uA, trivial⟩ ?_
   ·first | assumption | (intro i; (try dsimp only); split <;> first | trivial | assumption | (left; assumption))
   ·refine uG fun b__ w hW hN hE K hK => ?_
    have e19 := hE 19
    have e21 := hE 21
    exact BB (kd := cbK) (by decide) rfl rfl I3 hN (by rw [e19]; exact hA0.mono hW.2.1) (hW.1 hJ0) (by rw [e21]; exact kn _ _ (hW.1 hJ0).1.ro) (Iq _) rfl rfl (by exact hb0.out.1) (by exact hb0.out.2.1) (show 0 + 1 < 3 by decide) hK
   ·refine uG fun b__ w hW hN hE K hK => ?_
    have e22 := hE 22
    have e24 := hE 24
    exact BB (kd := cbK) (by decide) rfl rfl I3 hN e22 (hW.1 hJ0) (by rw [e24]; exact kg _ _ (hW.1 hJ0).1.ro) (Iq _) rfl rfl (by exact hb0.out.2.2.1) (by exact hb0.out.2.2.2) (show 1 + 1 < 3 by decide) hK
   ·intro vs wz hW hT
    obtain ⟨e19, e20, e21, e22, e23, e24, e25, e2, -⟩ := hT
    have bx : (fun _ : Nat => True) 0 := trivial
    simp only [Ak, Act.put, zz, ze]
    have hJ := (hW.1 hJ0).last e2 rfl
    simp only [rcD] at hJ
    have hS := (hJ.freeze 0 (by decide) rfl).sub (F' := F) (List.sublist_cons_self _ _)
    generalize vs 2 = v2 at *
    generalize wz.1 = wf at *
    clear hW hJ0 hRr hRt hN0 hA0 hJ e2
    go_wp2_with fail
    go_ret
    refine ⟨_, rfl, hS.mono (KS.out.and DQ) fun D w h => ⟨h.1, ?_⟩⟩
    have el : (CS ++ nl ++ gl).length = rl.length + nl.length + gl.length := by rw [List.length_append, List.length_append, HLC.out]
    rw [HCU.out]
    unfold Bq
    rw [el, D4, D4]
    exact h.2
end
section
open Go.RowKit
attribute [local go_sem ↓] Go.wp_at_zero Go.wp_at_succ
set_option maxRecDepth 20000
set_option exponentiation.threshold 5000
set_option maxHeartbeats 4000000 in
theorem runknown_any {w0 w : World} {F : List Ac} {K : (Nat -> Prop) -> World -> Prop} {v : Value} {p : AK} {L : List (Nat × Nat)} {r : Nat} (hR : Gj p L) (hr : p.roles = (r : Int)) (h1 : 1 <= r) (h63 : r <= 63) (hS : St w0 w F K) (kp : ∀ D w, K D w -> B0 w D v p) :
  Calls Tryz.prog 56 #[v] w fun e w' => e = .returned (.bool (!Co p L (AP r))) /\ St w0 w' F K := by
 obtain ⟨Al, cl, Ar, cr, An, cn, Ag, cg, rfl, -⟩ := Dn hR.links (kp _ _ hS.ro)
 have KS := Lib.hid hS.stable
 have HR := Lib.hid hR
 have kl : ∀ D w, K D w -> Sl w D 2 (.slice Al L.length cl) L.length (Ad L) := fun D w h => (Cw hR.links (kp D w h)).1
 have kr : ∀ D w, K D w -> Sl w D 5 (.slice Ar p.rules.length cr) p.rules.length (At p.rules) := fun D w h => (Cw hR.links (kp D w h)).2.1
 have HRo : Hid (∀ (w : World) (D : Nat -> Prop) (v : Value), B0 w D v p -> Calls Tryz.prog 129 #[v] w (AF (fun x _ => x = .int .u64 (AP r : Nat)) w)) := Lib.hid fun w D v h => rroles31_any h hr h1 h63
 have HCu : Hid (∀ (w0 w : World) (F : List Ac) (K : (Nat -> Prop) -> World -> Prop) (v : Value), St w0 w F K -> (∀ D w, K D w -> B0 w D v p) -> Calls Tryz.prog 57 #[v] w fun e w' => ∃ u, e = .returned u /\ St w0 w' F fun D w => K D w /\ Bq w D u p.cubes) := Lib.hid fun w0 w F K v h k => FS hR h k
 have hlen := hR.len
 have hl1 := hR.fits.rlen
 have hcl := cubes_len p
 have hl2 := hR.fits.nlen
 have hl3 := hR.fits.glen
 obtain ⟨q1, q2, q3, q4⟩ := known_parts hR h63
 have HQ1 := Lib.hid q1
 have HQ2 := Lib.hid q2
 have HQ3 := Lib.hid q3
 have HQ4 := Lib.hid q4
 have HSM := Lib.hid hR.small
 have HST : Hid (p.start < AM) := Lib.hid hR.fits.start
 have HN : Hid (AP r < AM) := Lib.hid (GD r (by omega))
 have HKP := Lib.hid kp
 clear q1 q2 q3 q4 kp hR
 have hcl2 : p.cubes.length <= 3000 := by omega
 clear hcl hl2 hl3
 obtain ⟨kb, hkb⟩ : ∃ kb, Co p L (AP r) = kb := ⟨_, rfl⟩
 rw [hkb] at HQ1 HQ2 HQ3 HQ4 ⊢
 clear hkb
 obtain ⟨N, hN⟩ : ∃ N, AP r = N := ⟨_, rfl⟩
 rw [hN] at HQ3 HQ4 HN HRo
 clear hN
 obtain ⟨rl, hrl⟩ : ∃ rl, p.rules = rl := ⟨_, rfl⟩
 obtain ⟨cu, hcu⟩ : ∃ cu, p.cubes = cu := ⟨_, rfl⟩
 obtain ⟨st, hst⟩ : ∃ st, p.start = st := ⟨_, rfl⟩
 obtain ⟨nn, hnn⟩ : ∃ nn, p.never.length = nn := ⟨_, rfl⟩
 obtain ⟨ng, hng⟩ : ∃ ng, p.goal.length = ng := ⟨_, rfl⟩
 rw [hrl] at HQ2 HQ4 kr hl1
 rw [hcu] at HQ3 HQ4 HCu HSM hcl2
 rw [hst] at HQ4 HST
 rw [hrl, hst, hr, hnn, hng] at HKP
 rw [hrl, hst, hr, hnn, hng]
 clear hr hrl hcu hst hnn hng
 go_enter Tryz.func56, Tryz.ntmps56
 go_wp2_with (first
  | ((with_reducible refine qA 1 ?_); refine Aw hS rfl _ _ rfl (.agg #[.int .i64 (r : Nat), .slice Al L.length cl, .int .u64 (st : Nat), .slice Ar rl.length cr, .slice An nn cn, .slice Ag ng cg]) _ rfl rfl ?_; clear hS; intro g1 w_ hS; (try simp only [Act.put, Act.eval, zz, Value.cells] at hS))
  | ((with_reducible refine qK ?_); refine qL hS Tryz.underlying30 ?_)
  | (go_at_call 129; refine (HRo.out _ _ _ (HKP.out _ _ hS.ro)).mono ?_; rintro r_ w_ ⟨_, rfl, rfl, hb_⟩; replace hS := hS.ext hb_; clear hb_)
  | ((with_reducible refine qK ?_); refine qC hS ?_))
 go_loopw [15] (fun i wr => ∃ j : Nat, i = .int .i64 (j : Nat) /\ j <= L.length /\ Hid (∀ i, i < j -> ∀ z, L[i]? = some z -> z.1 <= r /\ z.2 <= r) /\ St w0 wr (.box g1 30 #[.int .i64 (r : Nat), .slice Al L.length cl, .int .u64 (st : Nat), .slice Ar rl.length cr, .slice An nn cn, .slice Ag ng cg] :: F) K) (fun i _ => L.length - (intOf i).toNat)
 case atStart => exact ⟨0, rfl, by omega, Lib.hid fun i h => by omega, hS⟩
 case round =>
  clear hS
  obtain ⟨j, rfl, hj, HZ, hS⟩ := hrel
  by_cases hlj : j < L.length
  ·obtain ⟨f1, f2⟩ := Bj L j hlj
   have hz : L[j]? = some (L.getD j (0, 0)) := C4 (0, 0) hlj
   generalize L.getD j (0, 0) = z at *
   have HZJ := Lib.hid hz
   have HB : Hid ((r < z.1 \/ r < z.2) -> kb = false) := Lib.hid (HQ1.out z (List.mem_of_getElem? hz))
   clear hz
   obtain ⟨za, zb⟩ := z
   dsimp only at f1 f2 HB
   by_cases hza : r < za \/ r < zb
   ·obtain rfl : kb = false := HB.out hza
    by_cases hz1 : r < za
    all_goals
     go_wp2_with (first
      | ((with_reducible refine qB ?_); refine qc ?_ ?_ <;> intro h_ <;> go_prune)
      | ((with_reducible refine qI ?_); refine qj hS Tryz.underlying25 ?_; intro b_ j_ hc0_ hc1_)
      | ((with_reducible refine qA 5 ?_); refine AO hS rfl _ rfl (by kernel_rfl) ?_; clear hS; intro g5 w_ hS; (try simp only [Act.put, Act.eval, zz, Value.cells] at hS))
      | ((with_reducible refine qM ?_); (first | refine qS hS ?_ | refine qT hS ?_); clear hS; intro w_ hS; (try simp only [Act.put, Act.eval, zz, Value.cells] at hS))
      | ((with_reducible refine qK ?_); refine qC hS ?_))
     go_ret
     exact ⟨rfl, hS.sub ((List.sublist_cons_self _ _).trans (List.sublist_cons_self _ _))⟩
   ·have hz1 : za <= r := by omega
    have hz2 : zb <= r := by omega
    clear hza
    go_wp2_with (first
     | ((with_reducible refine qB ?_); refine qc ?_ ?_ <;> intro h_ <;> go_prune)
     | ((with_reducible refine qI ?_); refine qj hS Tryz.underlying25 ?_; intro b_ j_ hc0_ hc1_)
     | ((with_reducible refine qA 5 ?_); refine AO hS rfl _ rfl (by kernel_rfl) ?_; clear hS; intro g5 w_ hS; (try simp only [Act.put, Act.eval, zz, Value.cells] at hS))
     | ((with_reducible refine qM ?_); (first | refine qS hS ?_ | refine qT hS ?_); clear hS; intro w_ hS; (try simp only [Act.put, Act.eval, zz, Value.cells] at hS))
     | ((with_reducible refine qK ?_); refine qC hS ?_))
    refine ⟨⟨j + 1, by go_num, hlj, Lib.hid fun i hi z hz => ?_, hS.sub (List.sublist_cons_self _ _)⟩, by simp [intOf]; omega⟩
    rcases Nat.lt_or_ge i j with h3 | h3
    ·exact HZ.out i h3 z hz
    ·obtain rfl : i = j := by omega
     rw [HZJ.out] at hz
     obtain rfl := Option.some.inj hz
     exact ⟨hz1, hz2⟩
  ·obtain rfl : j = L.length := by omega
   have HZ1 : Hid (∀ z ∈ L, z.1 <= r /\ z.2 <= r) := Lib.hid fun z hz => by
    obtain ⟨i, hi⟩ := List.mem_iff_getElem?.1 hz
    exact HZ.out i (List.getElem?_eq_some_iff.1 hi).1 z hi
   clear HZ HQ1
   go_wp2_with (first | ((with_reducible refine qB ?_); refine qc ?_ ?_ <;> intro h_ <;> go_prune) | ((with_reducible refine qK ?_); refine qC hS ?_))
   go_loopw [35] (fun i wr => ∃ j : Nat, i = .int .i64 (j : Nat) /\ j <= rl.length /\ Hid (∀ i, i < j -> ∀ z, rl[i]? = some z -> 1 <= z.target /\ z.target <= (r : Int)) /\ St w0 wr (.box g1 30 #[.int .i64 (r : Nat), .slice Al L.length cl, .int .u64 (st : Nat), .slice Ar rl.length cr, .slice An nn cn, .slice Ag ng cg] :: F) K) (fun i _ => rl.length - (intOf i).toNat)
   case atStart => exact ⟨0, rfl, by omega, Lib.hid fun i h => by omega, hS⟩
   case round =>
    clear hS
    obtain ⟨j, rfl, hj, HZ, hS⟩ := hrel
    by_cases hlj : j < rl.length
    ·obtain ⟨b, o, rfl, c0, c1, c2, c3, c4⟩ := rr_at (kr _ _ hS.ro) hlj
     have hz : rl[j]? = some (rl.getD j Bb) := C4 Bb hlj
     generalize rl.getD j Bb = z at *
     have HZJ := Lib.hid hz
     have HB : Hid ((z.target < 1 \/ (r : Int) < z.target) -> kb = false) := Lib.hid (HQ2.out z (List.mem_of_getElem? hz))
     clear hz
     obtain ⟨zr, zy, zn, zt, zo⟩ := z
     dsimp only at c0 c1 c2 c3 c4 HB
     by_cases hza : zt < 1 \/ (r : Int) < zt
     ·obtain rfl : kb = false := HB.out hza
      by_cases hz1 : zt < 1
      all_goals
       go_wp2_with (first
        | ((with_reducible refine qB ?_); refine qc ?_ ?_ <;> intro h_ <;> go_prune)
        | ((with_reducible refine qA 38 ?_); refine BigFrame.wpList_want rfl fun _ hK => AU (cs := [.bool zr, .int .u64 (zy : Nat), .int .u64 (zn : Nat), .int .i64 zt, .int .i64 zo]) rfl rfl (Ho c0 c1 c2 c3 c4) Tryz.underlying109 rfl (by kernel_rfl) (hK _ _ ?_))
        | ((with_reducible refine qA 7 ?_); refine qa hS #[.bool false, .int .u64 0, .int .u64 0, .int .i64 0, .int .i64 0] ?_; clear hS; intro g7 w_ hS)
        | ((with_reducible refine qM ?_); (first | refine qS hS ?_ | refine qT hS ?_); clear hS; intro w_ hS; (try simp only [Act.put, Act.eval, zz, Value.cells] at hS))
        | ((with_reducible refine qK ?_); refine qC hS ?_))
       go_ret
       exact ⟨rfl, hS.sub ((List.sublist_cons_self _ _).trans (List.sublist_cons_self _ _))⟩
     ·have hz1 : 1 <= zt := by omega
      have hz2 : zt <= (r : Int) := by omega
      clear hza
      go_wp2_with (first
       | ((with_reducible refine qB ?_); refine qc ?_ ?_ <;> intro h_ <;> go_prune)
       | ((with_reducible refine qA 38 ?_); refine BigFrame.wpList_want rfl fun _ hK => AU (cs := [.bool zr, .int .u64 (zy : Nat), .int .u64 (zn : Nat), .int .i64 zt, .int .i64 zo]) rfl rfl (Ho c0 c1 c2 c3 c4) Tryz.underlying109 rfl (by kernel_rfl) (hK _ _ ?_))
       | ((with_reducible refine qA 7 ?_); refine qa hS #[.bool false, .int .u64 0, .int .u64 0, .int .i64 0, .int .i64 0] ?_; clear hS; intro g7 w_ hS)
       | ((with_reducible refine qM ?_); (first | refine qS hS ?_ | refine qT hS ?_); clear hS; intro w_ hS; (try simp only [Act.put, Act.eval, zz, Value.cells] at hS))
       | ((with_reducible refine qK ?_); refine qC hS ?_))
      refine ⟨⟨j + 1, by go_num, hlj, Lib.hid fun i hi z hz => ?_, hS.sub (List.sublist_cons_self _ _)⟩, by simp [intOf]; omega⟩
      rcases Nat.lt_or_ge i j with h3 | h3
      ·exact HZ.out i h3 z hz
      ·obtain rfl : i = j := by omega
       rw [HZJ.out] at hz
       obtain rfl := Option.some.inj hz
       exact ⟨hz1, hz2⟩
    ·obtain rfl : j = rl.length := by omega
     have HZ2 : Hid (∀ z ∈ rl, 1 <= z.target /\ z.target <= (r : Int)) := Lib.hid fun z hz => by
      obtain ⟨i, hi⟩ := List.mem_iff_getElem?.1 hz
      exact HZ.out i (List.getElem?_eq_some_iff.1 hi).1 z hi
     clear HZ HQ2
     go_wp2_with (first
      | ((with_reducible refine qB ?_); refine qc ?_ ?_ <;> intro h_ <;> go_prune)
      | ((with_reducible refine qK ?_); refine qL hS Tryz.underlying30 ?_)
      | (go_at_call 57; refine (HCu.out _ _ _ _ _ hS HKP.out).mono ?_; clear hS; rintro r_ w_ ⟨u, rfl, hS⟩; obtain ⟨Au, cuc, rfl, _, _⟩ := Sl.shape hS.ro.2)
      | ((with_reducible refine qK ?_); refine qC hS ?_))
     obtain ⟨K2, k2, kc, hS2⟩ : ∃ K2 : (Nat -> Prop) -> World -> Prop, (∀ D w, K2 D w -> K D w) /\ (∀ D w, K2 D w -> Sl w D 2 (.slice Au cu.length cuc) cu.length (AB cu)) /\ St w0 w_ (.box g1 30 #[.int .i64 (r : Nat), .slice Al L.length cl, .int .u64 (st : Nat), .slice Ar rl.length cr, .slice An nn cn, .slice Ag ng cg] :: F) K2 := ⟨_, fun _ _ h => h.1, fun _ _ h => h.2, hS⟩
     clear hS
     have hS := hS2
     clear hS2
     go_loopw [53] (fun i wr => ∃ j : Nat, i = .int .i64 (j : Nat) /\ j <= cu.length /\ Hid (∀ i, i < j -> ∀ z, cu[i]? = some z -> (z.1 ||| z.2) &&& BH N = 0) /\ St w0 wr (.box g1 30 #[.int .i64 (r : Nat), .slice Al L.length cl, .int .u64 (st : Nat), .slice Ar rl.length cr, .slice An nn cn, .slice Ag ng cg] :: F) K2) (fun i _ => cu.length - (intOf i).toNat)
     case atStart => exact ⟨0, rfl, by omega, Lib.hid fun i h => by omega, hS⟩
     case round =>
      clear hS
      obtain ⟨j, rfl, hj, HZ, hS⟩ := hrel
      by_cases hlj : j < cu.length
      ·obtain ⟨f1, f2⟩ := E8 cu j hlj
       have hz : cu[j]? = some (cu.getD j (0, 0)) := C4 (0, 0) hlj
       generalize cu.getD j (0, 0) = z at *
       have HZJ := Lib.hid hz
       have hzs := HSM.out z (List.mem_of_getElem? hz)
       have HB : Hid ((z.1 ||| z.2) &&& BH N ≠ 0 -> kb = false) := Lib.hid (HQ3.out z (List.mem_of_getElem? hz))
       clear hz
       obtain ⟨za, zb⟩ := z
       dsimp only at f1 f2 HB hzs
       have HY : Hid (za < AM) := Lib.hid hzs.1
       have HM : Hid (zb < AM) := Lib.hid hzs.2
       have HYM : Hid (za ||| zb < AM) := Lib.hid (or_lt hzs.1 hzs.2)
       clear hzs
       obtain ⟨x, hx⟩ : ∃ x, (za ||| zb) &&& BH N = x := ⟨_, rfl⟩
       rw [hx] at HB
       have HX := Lib.hid hx
       clear hx
       have HRun : Hid (∀ (w : World) t, (binOp .andNot t (.int .u64 ((za ||| zb : Nat) : Int)) (.int .u64 (N : Nat))).run Tryz.prog w = .ok (.int .u64 (x : Nat)) w) := Lib.hid fun w t => by rw [<- HX.out]; exact FN HYM.out HN.out
       by_cases hx0 : x = 0
       ·subst hx0
        go_wp2_with (first
         | ((with_reducible refine qB ?_); refine qc ?_ ?_ <;> intro h_ <;> go_prune)
         | ((with_reducible refine qI ?_); refine qj hS Tryz.underlying28 ?_; intro b_ j_ hc0_ hc1_)
         | ((with_reducible refine qA 9 ?_); refine AO hS rfl _ rfl (by kernel_rfl) ?_; clear hS; intro g9 w_ hS; (try simp only [Act.put, Act.eval, zz, Value.cells] at hS))
         | ((with_reducible refine qM ?_); (first | refine qS hS ?_ | refine qT hS ?_); clear hS; intro w_ hS; (try simp only [Act.put, Act.eval, zz, Value.cells] at hS))
         | ((with_reducible refine qA 61 ?_); refine BigFrame.wpList_want rfl fun _ hK => AE rfl rfl rfl rfl (run_orW HY.out HM.out) (hK _ _ ?_))
         | ((with_reducible refine qA 63 ?_); refine BigFrame.wpList_want rfl fun _ hK => AE rfl rfl rfl rfl (HRun.out _ _) (hK _ _ ?_))
         | ((with_reducible refine qK ?_); refine qC hS ?_))
        refine ⟨⟨j + 1, by go_num, hlj, Lib.hid fun i hi z hz => ?_, hS.sub (List.sublist_cons_self _ _)⟩, by simp [intOf]; omega⟩
        rcases Nat.lt_or_ge i j with h3 | h3
        ·exact HZ.out i h3 z hz
        ·obtain rfl : i = j := by omega
         rw [HZJ.out] at hz
         obtain rfl := Option.some.inj hz
         exact HX.out
       ·obtain rfl : kb = false := HB.out hx0
        go_wp2_with (first
         | ((with_reducible refine qB ?_); refine qc ?_ ?_ <;> intro h_ <;> go_prune)
         | ((with_reducible refine qI ?_); refine qj hS Tryz.underlying28 ?_; intro b_ j_ hc0_ hc1_)
         | ((with_reducible refine qA 9 ?_); refine AO hS rfl _ rfl (by kernel_rfl) ?_; clear hS; intro g9 w_ hS; (try simp only [Act.put, Act.eval, zz, Value.cells] at hS))
         | ((with_reducible refine qM ?_); (first | refine qS hS ?_ | refine qT hS ?_); clear hS; intro w_ hS; (try simp only [Act.put, Act.eval, zz, Value.cells] at hS))
         | ((with_reducible refine qA 61 ?_); refine BigFrame.wpList_want rfl fun _ hK => AE rfl rfl rfl rfl (run_orW HY.out HM.out) (hK _ _ ?_))
         | ((with_reducible refine qA 63 ?_); refine BigFrame.wpList_want rfl fun _ hK => AE rfl rfl rfl rfl (HRun.out _ _) (hK _ _ ?_))
         | ((with_reducible refine qK ?_); refine qC hS ?_))
        go_ret
        exact ⟨rfl, (hS.sub ((List.sublist_cons_self _ _).trans (List.sublist_cons_self _ _))).mono KS.out fun D w h => k2 _ _ h⟩
      ·obtain rfl : j = cu.length := by omega
       have HZ3 : Hid (∀ z ∈ cu, (z.1 ||| z.2) &&& BH N = 0) := Lib.hid fun z hz => by
        obtain ⟨i, hi⟩ := List.mem_iff_getElem?.1 hz
        exact HZ.out i (List.getElem?_eq_some_iff.1 hi).1 z hi
       have HKB : Hid (kb = decide (st &&& BH N = 0)) := Lib.hid (HQ4.out HZ1.out HZ2.out HZ3.out)
       clear HZ HQ3 HQ4
       obtain ⟨x, hx⟩ : ∃ x, st &&& BH N = x := ⟨_, rfl⟩
       rw [hx] at HKB
       have HX := Lib.hid hx
       clear hx
       have HRun : Hid (∀ (w : World) t, (binOp .andNot t (.int .u64 (st : Nat)) (.int .u64 (N : Nat))).run Tryz.prog w = .ok (.int .u64 (x : Nat)) w) := Lib.hid fun w t => by rw [<- HX.out]; exact FN HST.out HN.out
       by_cases hx0 : x = 0
       ·subst hx0
        obtain rfl : kb = true := HKB.out
        go_wp2_with (first
         | ((with_reducible refine qB ?_); refine qc ?_ ?_ <;> intro h_ <;> go_prune)
         | ((with_reducible refine qA 69 ?_); refine BigFrame.wpList_want rfl fun _ hK => AE rfl rfl rfl rfl (HRun.out _ _) (hK _ _ ?_))
         | ((with_reducible refine qK ?_); refine qC hS ?_))
        go_ret
        exact ⟨rfl, (hS.sub (List.sublist_cons_self _ _)).mono KS.out fun D w h => k2 _ _ h⟩
       ·obtain rfl : kb = false := HKB.out.trans (decide_eq_false hx0)
        go_wp2_with (first
         | ((with_reducible refine qB ?_); refine qc ?_ ?_ <;> intro h_ <;> go_prune)
         | ((with_reducible refine qA 69 ?_); refine BigFrame.wpList_want rfl fun _ hK => AE rfl rfl rfl rfl (HRun.out _ _) (hK _ _ ?_))
         | ((with_reducible refine qK ?_); refine qC hS ?_))
        go_ret
        exact ⟨rfl, (hS.sub (List.sublist_cons_self _ _)).mono KS.out fun D w h => k2 _ _ h⟩
end
section
open Go.RowKit
attribute [local go_sem ↓] Go.wp_at_zero Go.wp_at_succ
set_option maxRecDepth 20000
set_option exponentiation.threshold 5000
theorem rgood31g_any {w0 : World} {D : Nat -> Prop} {v : Value} {p : AK} {L : List (Nat × Nat)} {s : Nat} (hp : B0 w0 D v p) (hR : Gj p L) :
  Calls Tryz.prog 28 #[v, .int .u64 (s : Nat)] w0 (AF (fun x _ => x = .bool (goodB p s)) w0) := by
 obtain ⟨R, lk, st, rl, nl, gl⟩ := p
 obtain rfl : lk = some L := hR.links
 obtain ⟨Al, cl, Ar, cr, An, cn, Ag, cg, rfl, -⟩ := Dn hR.links hp
 dsimp only at hp ⊢
 obtain ⟨K, kp, hS⟩ : ∃ K : (Nat -> Prop) -> World -> Prop, (∀ D w, K D w -> B0 w D (.agg #[.int .i64 R, .slice Al L.length cl, .int .u64 (st : Nat), .slice Ar rl.length cr, .slice An nl.length cn, .slice Ag gl.length cg]) ⟨R, some L, st, rl, nl, gl⟩) /\ St w0 w0 [] K := ⟨_, fun _ _ h => h, St.start B6 hp⟩
 have kl : ∀ D w, K D w -> Sl w D 2 (.slice Al L.length cl) L.length (Ad L) := fun D w h => (Cw rfl (kp D w h)).1
 have kn : ∀ D w, K D w -> Bq w D (.slice An nl.length cn) nl := fun D w h => (Cw rfl (kp D w h)).2.2.1
 have HL := Lib.hid (show Ew 64 L from hR.hok.inr)
 have hlen := hR.len
 have HSM : Hid (Small nl) := Lib.hid hR.fits.never
 clear hp hR kp
 obtain ⟨b, hb⟩ : ∃ b, nl.any (fun z => Bg z (closM L s)) = b := ⟨_, rfl⟩
 have HG : Hid (goodB ⟨R, some L, st, rl, nl, gl⟩ s = !b) := Lib.hid (by rw [<- hb]; rfl)
 have HB := Lib.hid hb
 clear hb
 go_enter Tryz.func28, Tryz.ntmps28
 go_wp2_with (first | ((with_reducible refine qA 2 ?_); refine Aw hS rfl _ _ rfl (.agg #[.int .i64 R, .slice Al L.length cl, .int .u64 (st : Nat), .slice Ar rl.length cr, .slice An nl.length cn, .slice Ag gl.length cg]) _ rfl rfl ?_; clear hS; intro g2 w_ hS; (try simp only [Act.put, Act.eval, zz, Value.cells] at hS)))
 refine C5 [.q g2 4, .i (.slice An nl.length cn), .q g2 1, .i (.slice Al L.length cl), .i (.int .u64 (s : Nat)), .i (.int .u64 (closM L s : Nat)), .i (.bool b), .i (.bool (!b)), .i (.bool (!b))] ⟨uF, uC (h := fun w hW hN => (hS.ext hW).shut 0 rfl 4 rfl), uF, uC (h := fun w hW hN => (hS.ext hW).shut 0 rfl 1 rfl), uM, ?_, ?_, uU, uA, trivial⟩ ?_
 ·refine uT fun b__ w hW hE K hK => ?_
  have e8 := hE 8
  have e9 := hE 9
  exact Ai rfl (by kernel_rfl) (by simp only [List.map_cons, List.map_nil, e8, e9]) (rclos_any (kl _ _ (hS.ext hW).ro) HL.out (by omega) s) fun v w' h hb => hK v w' h hb
 ·refine uT fun b__ w hW hE K hK => ?_
  have e6 := hE 6
  have e10 := hE 10
  exact Ai rfl (by kernel_rfl) (by simp only [List.map_cons, List.map_nil, e6, e10]) (rsome_any (kn _ _ (hS.ext hW).ro) HSM.out (closM_ltT L s)) fun v w' h hb => hK v w' (h.trans (by rw [HB.out])) hb
 ·intro vs wz hW hT
  obtain ⟨e5, e6, e7, e8, e9, e10, e11, e12, e4, -⟩ := hT
  simp only [Ak, Act.put, zz, ze]
  rw [e4]
  go_wp2_with fail
  go_ret
  exact AF.mk (by rw [HG.out]; rfl) (BP hS.below hW)
theorem IF {w : World} {x y : Operand} {a b : Array Value} : (eqGuard .neq 50 x y (.agg a) (.agg b)).run Tryz.prog w = .ok () w := by kernel_rfl
theorem run_ncube {w : World} {y n : Nat} {b : Bool} (h : (decide (y = 0) && decide (n = 0)) = b) : (binOp .neq 50 (.agg #[.int .u64 (y : Nat), .int .u64 (n : Nat)]) (.agg #[.int .u64 0, .int .u64 0])).run Tryz.prog w = .ok (.bool (!b)) w := by
 subst h
 by_cases h1 : y = 0 <;> by_cases h2 : n = 0 <;> go_simp <;> simp [h1, h2] <;> omega
set_option maxHeartbeats 4000000 in
theorem FT {w0 : World} {D : Nat -> Prop} {v : Value} {p : AK} {L : List (Nat × Nat)} (hp : B0 w0 D v p) (hR : Gj p L) :
  Calls Tryz.prog 14 #[v] w0 (AF (fun x _ => x = .int .i64 (checkE p)) w0) := by
 obtain ⟨R, lk, st, rl, nl, gl⟩ := p
 obtain rfl : lk = some L := hR.links
 obtain ⟨Al, cl, Ar, cr, An, cn, Ag, cg, rfl, -⟩ := Dn hR.links hp
 dsimp only at hp ⊢
 obtain ⟨K, kp, hS⟩ : ∃ K : (Nat -> Prop) -> World -> Prop, (∀ D w, K D w -> B0 w D (.agg #[.int .i64 R, .slice Al L.length cl, .int .u64 (st : Nat), .slice Ar rl.length cr, .slice An nl.length cn, .slice Ag gl.length cg]) ⟨R, some L, st, rl, nl, gl⟩) /\ St w0 w0 [] K := ⟨_, fun _ _ h => h, St.start B6 hp⟩
 have kr : ∀ D w, K D w -> Sl w D 5 (.slice Ar rl.length cr) rl.length (At rl) := fun D w h => (Cw rfl (kp D w h)).2.1
 have HKP := Lib.hid kp
 have HRF := Lib.hid hR
 have hl1 := hR.fits.rlen
 have hl2 := hR.fits.nlen
 have hl3 := hR.fits.glen
 dsimp only at hl1 hl2 hl3
 clear hp kp hR
 have HE := Lib.hid (show checkE ⟨R, some L, st, rl, nl, gl⟩ = if R < 1 \/ 63 < R then 1 else if 64 < rl.length \/ 2000 < nl.length \/ 2000 < gl.length then 3
  else if Co ⟨R, some L, st, rl, nl, gl⟩ L (AP R.toNat) = false then 4 else if ((AK.cubes ⟨R, some L, st, rl, nl, gl⟩).any fun z => z.1 &&& z.2 != 0) = true \/ rl.all FQ = false then 6
  else if goodB ⟨R, some L, st, rl, nl, gl⟩ st = false then 7 else 0 from rfl)
 generalize checkE ⟨R, some L, st, rl, nl, gl⟩ = RES at *
 by_cases hRr : R < 1 \/ 63 < R
 ·have hE : RES = 1 := by rw [HE.out, if_pos hRr]
  subst hE
  by_cases hR1 : R < 1
  all_goals
   go_enter Tryz.func14, Tryz.ntmps14
   go_wp2_with (first
    | ((with_reducible refine qA 1 ?_); refine Aw hS rfl _ _ rfl (.agg #[.int .i64 R, .slice Al L.length cl, .int .u64 (st : Nat), .slice Ar rl.length cr, .slice An nl.length cn, .slice Ag gl.length cg]) _ rfl rfl ?_; clear hS; intro g1 w_ hS; (try simp only [Act.put, Act.eval, zz, Value.cells] at hS))
    | ((with_reducible refine qK ?_); refine qC hS ?_)
    | ((with_reducible refine qB ?_); refine qc ?_ ?_ <;> intro h_ <;> go_prune)
    )
   go_ret
   exact AF.mk rfl hS.below
 obtain ⟨r, rfl⟩ : ∃ r : Nat, R = (r : Int) := ⟨R.toNat, by omega⟩
 have hr63 : 1 <= r /\ r <= 63 := by omega
 replace HE := Lib.hid (HE.out.trans (if_neg hRr))
 clear hRr
 rw [Int.toNat_natCast] at HE
 by_cases hN : 64 < rl.length \/ 2000 < nl.length \/ 2000 < gl.length
 ·have hE : RES = 3 := by rw [HE.out, if_pos hN]
  subst hE
  have hN1 : 64 < rl.length := by omega
  clear hN
  go_enter Tryz.func14, Tryz.ntmps14
  go_wp2_with (first
   | ((with_reducible refine qA 1 ?_); refine Aw hS rfl _ _ rfl (.agg #[.int .i64 (r : Nat), .slice Al L.length cl, .int .u64 (st : Nat), .slice Ar rl.length cr, .slice An nl.length cn, .slice Ag gl.length cg]) _ rfl rfl ?_; clear hS; intro g1 w_ hS; (try simp only [Act.put, Act.eval, zz, Value.cells] at hS))
   | ((with_reducible refine qK ?_); refine qC hS ?_)
   | ((with_reducible refine qB ?_); refine qc ?_ ?_ <;> intro h_ <;> go_prune)
   )
  go_ret
  exact AF.mk rfl hS.below
 have hN1 : rl.length <= 64 /\ nl.length <= 2000 /\ gl.length <= 2000 := by omega
 obtain ⟨hN1, hN2, hN3⟩ := hN1
 replace HE := Lib.hid (HE.out.trans (if_neg hN))
 clear hN
 obtain ⟨kb, hkb⟩ : ∃ kb, Co ⟨(r : Int), some L, st, rl, nl, gl⟩ L (AP r) = kb := ⟨_, rfl⟩
 have HUN : Hid (∀ (w : World) (F : List Ac), St w0 w F K -> Calls Tryz.prog 56 #[.agg #[.int .i64 (r : Nat), .slice Al L.length cl, .int .u64 (st : Nat), .slice Ar rl.length cr, .slice An nl.length cn, .slice Ag gl.length cg]] w fun e w' => e = .returned (.bool (!kb)) /\ St w0 w' F K) := Lib.hid fun w F h => by
  rw [<- hkb]
  exact runknown_any HRF.out rfl hr63.1 hr63.2 h HKP.out
 rw [hkb] at HE
 clear hkb
 have HCU : Hid (∀ (w : World) (F : List Ac), St w0 w F K -> Calls Tryz.prog 57 #[.agg #[.int .i64 (r : Nat), .slice Al L.length cl, .int .u64 (st : Nat), .slice Ar rl.length cr, .slice An nl.length cn, .slice Ag gl.length cg]] w fun e w' => ∃ u, e = .returned u /\ St w0 w' F fun D w => K D w /\ Bq w D u (AK.cubes ⟨(r : Int), some L, st, rl, nl, gl⟩)) := Lib.hid fun w F h => FS HRF.out h HKP.out
 have HSM := Lib.hid HRF.out.small
 have hcl := cubes_len ⟨(r : Int), some L, st, rl, nl, gl⟩
 dsimp only at hcl
 obtain ⟨cu, hcu⟩ : ∃ cu, AK.cubes ⟨(r : Int), some L, st, rl, nl, gl⟩ = cu := ⟨_, rfl⟩
 rw [hcu] at HE HCU HSM hcl
 clear hcu
 have hcl2 : cu.length <= 5000 := by omega
 clear hcl
 obtain ⟨gb, hgb⟩ : ∃ gb, goodB ⟨(r : Int), some L, st, rl, nl, gl⟩ st = gb := ⟨_, rfl⟩
 have HGB : Hid (∀ (w : World) (D : Nat -> Prop) (v : Value), B0 w D v ⟨(r : Int), some L, st, rl, nl, gl⟩ -> Calls Tryz.prog 28 #[v, .int .u64 (st : Nat)] w (AF (fun x _ => x = .bool gb) w)) := Lib.hid fun w D v h => by
  rw [<- hgb]
  exact rgood31g_any h HRF.out
 rw [hgb] at HE
 clear hgb HRF
 go_enter Tryz.func14, Tryz.ntmps14
 cases kb
 ·have hE : RES = 4 := HE.out.trans (if_pos rfl)
  subst hE
  go_wp2_with (first
   | ((with_reducible refine qA 1 ?_); refine Aw hS rfl _ _ rfl (.agg #[.int .i64 (r : Nat), .slice Al L.length cl, .int .u64 (st : Nat), .slice Ar rl.length cr, .slice An nl.length cn, .slice Ag gl.length cg]) _ rfl rfl ?_; clear hS; intro g1 w_ hS; (try simp only [Act.put, Act.eval, zz, Value.cells] at hS))
   | ((with_reducible refine qK ?_); refine qL hS Tryz.underlying30 ?_)
   | (go_at_call 56; refine (HUN.out _ _ hS).mono ?_; clear hS; rintro r_ w_ ⟨rfl, hS⟩)
   | ((with_reducible refine qK ?_); refine qC hS ?_)
   | ((with_reducible refine qB ?_); refine qc ?_ ?_ <;> intro h_ <;> go_prune))
  go_ret
  exact AF.mk rfl hS.below
 replace HE := Lib.hid (HE.out.trans (if_neg (by decide)))
 go_wp2_with (first
  | ((with_reducible refine qA 1 ?_); refine Aw hS rfl _ _ rfl (.agg #[.int .i64 (r : Nat), .slice Al L.length cl, .int .u64 (st : Nat), .slice Ar rl.length cr, .slice An nl.length cn, .slice Ag gl.length cg]) _ rfl rfl ?_; clear hS; intro g1 w_ hS; (try simp only [Act.put, Act.eval, zz, Value.cells] at hS))
  | ((with_reducible refine qK ?_); refine qL hS Tryz.underlying30 ?_)
  | (go_at_call 56; refine (HUN.out _ _ hS).mono ?_; clear hS; rintro r_ w_ ⟨rfl, hS⟩)
  | (go_at_call 57; refine (HCU.out _ _ hS).mono ?_; clear hS; rintro r_ w_ ⟨u, rfl, hS⟩; obtain ⟨Au, cuc, rfl, _, _⟩ := Sl.shape hS.ro.2)
  | ((with_reducible refine qK ?_); refine qC hS ?_)
  | ((with_reducible refine qB ?_); refine qc ?_ ?_ <;> intro h_ <;> go_prune))
 obtain ⟨K2, k2, kc, hS2⟩ : ∃ K2 : (Nat -> Prop) -> World -> Prop, (∀ D w, K2 D w -> K D w) /\ (∀ D w, K2 D w -> Sl w D 2 (.slice Au cu.length cuc) cu.length (AB cu)) /\ St w0 w_ [.box g1 30 #[.int .i64 (r : Nat), .slice Al L.length cl, .int .u64 (st : Nat), .slice Ar rl.length cr, .slice An nl.length cn, .slice Ag gl.length cg]] K2 := ⟨_, fun _ _ h => h.1, fun _ _ h => h.2, hS⟩
 clear hS
 have hS := hS2
 clear hS2
 go_loopw [36] (fun i wr => ∃ j : Nat, i = .int .i64 (j : Nat) /\ j <= cu.length /\ Hid (∀ i, i < j -> ∀ z, cu[i]? = some z -> (z.1 &&& z.2 != 0) = false) /\ St w0 wr [.box g1 30 #[.int .i64 (r : Nat), .slice Al L.length cl, .int .u64 (st : Nat), .slice Ar rl.length cr, .slice An nl.length cn, .slice Ag gl.length cg]] K2) (fun i _ => cu.length - (intOf i).toNat)
 case atStart => exact ⟨0, rfl, by omega, Lib.hid fun i h => by omega, hS⟩
 case round =>
  clear hS
  obtain ⟨j, rfl, hj, HZ, hS⟩ := hrel
  by_cases hlj : j < cu.length
  ·obtain ⟨f1, f2⟩ := E8 cu j hlj
   have hz : cu[j]? = some (cu.getD j (0, 0)) := C4 (0, 0) hlj
   generalize cu.getD j (0, 0) = z at *
   have HZJ := Lib.hid hz
   have hzs := HSM.out z (List.mem_of_getElem? hz)
   clear hz
   obtain ⟨za, zb⟩ := z
   dsimp only at f1 f2 hzs
   obtain ⟨eb, heb⟩ : ∃ eb, (za &&& zb != 0) = eb := ⟨_, rfl⟩
   have HEM : Hid (∀ w : World, Calls Tryz.prog 58 #[.agg #[.int .u64 (za : Nat), .int .u64 (zb : Nat)]] w (AF (fun x _ => x = .bool eb) w)) := Lib.hid fun w => by rw [<- heb]; exact rempty_any za zb w hzs.1 hzs.2
   have HEB := Lib.hid heb
   clear heb hzs
   cases eb
   ·go_wp2_with (first
     | ((with_reducible refine qB ?_); refine qc ?_ ?_ <;> intro h_ <;> go_prune)
     | ((with_reducible refine qI ?_); refine qj hS Tryz.underlying28 ?_; intro b_ j_ hc0_ hc1_)
     | ((with_reducible refine qA 4 ?_); refine AO hS rfl _ rfl (by kernel_rfl) ?_; clear hS; intro g4 w_ hS; (try simp only [Act.put, Act.eval, zz, Value.cells] at hS))
     | ((with_reducible refine qM ?_); (first | refine qS hS ?_ | refine qT hS ?_); clear hS; intro w_ hS; (try simp only [Act.put, Act.eval, zz, Value.cells] at hS))
     | ((with_reducible refine qK ?_); refine qL hS Tryz.underlying50 ?_)
     | (go_at_call 58; refine (HEM.out _).mono ?_; rintro r_ w_ ⟨_, rfl, rfl, hb_⟩; replace hS := hS.ext hb_; clear hb_)
     | ((with_reducible refine qK ?_); refine qC hS ?_))
    refine ⟨⟨j + 1, by go_num, hlj, Lib.hid fun i hi z hz => ?_, hS.sub (List.sublist_cons_self _ _)⟩, by simp [intOf]; omega⟩
    rcases Nat.lt_or_ge i j with h3 | h3
    ·exact HZ.out i h3 z hz
    ·obtain rfl : i = j := by omega
     rw [HZJ.out] at hz
     obtain rfl := Option.some.inj hz
     exact HEB.out
   ·obtain rfl : RES = 6 := HE.out.trans (if_pos (.inl (List.any_eq_true.2 ⟨_, List.mem_of_getElem? HZJ.out, HEB.out⟩)))
    go_wp2_with (first
     | ((with_reducible refine qB ?_); refine qc ?_ ?_ <;> intro h_ <;> go_prune)
     | ((with_reducible refine qI ?_); refine qj hS Tryz.underlying28 ?_; intro b_ j_ hc0_ hc1_)
     | ((with_reducible refine qA 4 ?_); refine AO hS rfl _ rfl (by kernel_rfl) ?_; clear hS; intro g4 w_ hS; (try simp only [Act.put, Act.eval, zz, Value.cells] at hS))
     | ((with_reducible refine qM ?_); (first | refine qS hS ?_ | refine qT hS ?_); clear hS; intro w_ hS; (try simp only [Act.put, Act.eval, zz, Value.cells] at hS))
     | ((with_reducible refine qK ?_); refine qL hS Tryz.underlying50 ?_)
     | (go_at_call 58; refine (HEM.out _).mono ?_; rintro r_ w_ ⟨_, rfl, rfl, hb_⟩; replace hS := hS.ext hb_; clear hb_)
     | ((with_reducible refine qK ?_); refine qC hS ?_))
    go_ret
    exact AF.mk rfl hS.below
  ·obtain rfl : j = cu.length := by omega
   have HZ1 : Hid ((cu.any fun z => z.1 &&& z.2 != 0) = false) := Lib.hid (by
    rw [List.any_eq_false]
    intro z hz
    obtain ⟨i, hi⟩ := List.mem_iff_getElem?.1 hz
    rw [HZ.out i (List.getElem?_eq_some_iff.1 hi).1 z hi]; decide)
   clear HZ
   go_wp2_with (first | ((with_reducible refine qB ?_); refine qc ?_ ?_ <;> intro h_ <;> go_prune) | ((with_reducible refine qK ?_); refine qC hS ?_))
   go_loopw [46] (fun i wr => ∃ j : Nat, i = .int .i64 (j : Nat) /\ j <= rl.length /\ Hid (∀ i, i < j -> ∀ z, rl[i]? = some z -> FQ z = true) /\ St w0 wr [.box g1 30 #[.int .i64 (r : Nat), .slice Al L.length cl, .int .u64 (st : Nat), .slice Ar rl.length cr, .slice An nl.length cn, .slice Ag gl.length cg]] K2) (fun i _ => rl.length - (intOf i).toNat)
   case atStart => exact ⟨0, rfl, by omega, Lib.hid fun i h => by omega, hS⟩
   case round =>
    clear hS
    obtain ⟨j, rfl, hj, HZ, hS⟩ := hrel
    by_cases hlj : j < rl.length
    ·obtain ⟨b, o, rfl, c0, c1, c2, c3, c4⟩ := rr_at (kr _ _ (k2 _ _ hS.ro)) hlj
     have hz : rl[j]? = some (rl.getD j Bb) := C4 Bb hlj
     generalize rl.getD j Bb = z at *
     have HZJ := Lib.hid hz
     clear hz
     obtain ⟨zr, zy, zn, zt, zo⟩ := z
     dsimp only at c0 c1 c2 c3 c4
     obtain ⟨zz, hzz⟩ : ∃ zz, (!(decide (zy = 0) && decide (zn = 0))) = zz := ⟨_, rfl⟩
     have HRV : Hid (FQ ⟨zr, zy, zn, zt, zo⟩ = (!zr || !zz)) := Lib.hid (by unfold FQ; rw [<- hzz, Bool.not_not]; rfl)
     have HNC : Hid (∀ w : World, (binOp .neq 50 (.agg #[.int .u64 (zy : Nat), .int .u64 (zn : Nat)]) (.agg #[.int .u64 0, .int .u64 0])).run Tryz.prog w = .ok (.bool zz) w) := Lib.hid fun w => by rw [<- hzz]; exact run_ncube rfl
     clear hzz
     cases zr
     ·go_wp2_with (first
       | ((with_reducible refine qB ?_); refine qc ?_ ?_ <;> intro h_ <;> go_prune)
       | ((with_reducible refine qA 49 ?_); refine BigFrame.wpList_want rfl fun _ hK => AU (cs := [.bool false, .int .u64 (zy : Nat), .int .u64 (zn : Nat), .int .i64 zt, .int .i64 zo]) rfl rfl (Ho c0 c1 c2 c3 c4) Tryz.underlying109 rfl (by kernel_rfl) (hK _ _ ?_))
       | ((with_reducible refine qA 6 ?_); refine qa hS #[.bool false, .int .u64 0, .int .u64 0, .int .i64 0, .int .i64 0] ?_; clear hS; intro g6 w_ hS)
       | ((with_reducible refine qM ?_); (first | refine qS hS ?_ | refine qT hS ?_); clear hS; intro w_ hS; (try simp only [Act.put, Act.eval, zz, Value.cells] at hS))
       | ((with_reducible refine qK ?_); refine qC hS ?_))
      refine ⟨⟨j + 1, by go_num, hlj, Lib.hid fun i hi z hz => ?_, hS.sub (List.sublist_cons_self _ _)⟩, by simp [intOf]; omega⟩
      rcases Nat.lt_or_ge i j with h3 | h3
      ·exact HZ.out i h3 z hz
      ·obtain rfl : i = j := by omega
       rw [HZJ.out] at hz
       obtain rfl := Option.some.inj hz
       rfl
     ·cases zz
      ·go_wp2_with (first
        | ((with_reducible refine qA 49 ?_); refine BigFrame.wpList_want rfl fun _ hK => AU (cs := [.bool true, .int .u64 (zy : Nat), .int .u64 (zn : Nat), .int .i64 zt, .int .i64 zo]) rfl rfl (Ho c0 c1 c2 c3 c4) Tryz.underlying109 rfl (by kernel_rfl) (hK _ _ ?_))
        | ((with_reducible refine qA 6 ?_); refine qa hS #[.bool false, .int .u64 0, .int .u64 0, .int .i64 0, .int .i64 0] ?_; clear hS; intro g6 w_ hS)
        | ((with_reducible refine qM ?_); (first | refine qS hS ?_ | refine qT hS ?_); clear hS; intro w_ hS; (try simp only [Act.put, Act.eval, zz, Value.cells] at hS))
        | ((with_reducible refine qk 50 ?_); refine BU hS 0 rfl _ _ rfl _ _ rfl _ _ rfl _ _ rfl rfl Tryz.underlying50 rfl (by kernel_rfl) ?_)
        | ((with_reducible refine qA 55 ?_); refine BigFrame.wpList_want rfl fun _ hK => B9 rfl (ps := []) (by simp) (cells := #[.int .u64 0, .int .u64 0]) (by kernel_rfl) (hK _ _ ?_))
        | ((with_reducible refine qA 56 ?_); refine BigFrame.wpList_want rfl fun _ hK => AE rfl rfl rfl IF (HNC.out _) (hK _ _ ?_))
        | ((with_reducible refine qB ?_); refine qc ?_ ?_ <;> intro h_ <;> go_prune)
        | ((with_reducible refine qK ?_); refine qC hS ?_))
       refine ⟨⟨j + 1, by go_num, hlj, Lib.hid fun i hi z hz => ?_, hS.sub (List.sublist_cons_self _ _)⟩, by simp [intOf]; omega⟩
       rcases Nat.lt_or_ge i j with h3 | h3
       ·exact HZ.out i h3 z hz
       ·obtain rfl : i = j := by omega
        rw [HZJ.out] at hz
        obtain rfl := Option.some.inj hz
        exact HRV.out
      ·obtain rfl : RES = 6 := HE.out.trans (if_pos (.inr (List.all_eq_false.2 ⟨_, List.mem_of_getElem? HZJ.out, by rw [HRV.out]; decide⟩)))
       go_wp2_with (first
        | ((with_reducible refine qA 49 ?_); refine BigFrame.wpList_want rfl fun _ hK => AU (cs := [.bool true, .int .u64 (zy : Nat), .int .u64 (zn : Nat), .int .i64 zt, .int .i64 zo]) rfl rfl (Ho c0 c1 c2 c3 c4) Tryz.underlying109 rfl (by kernel_rfl) (hK _ _ ?_))
        | ((with_reducible refine qA 6 ?_); refine qa hS #[.bool false, .int .u64 0, .int .u64 0, .int .i64 0, .int .i64 0] ?_; clear hS; intro g6 w_ hS)
        | ((with_reducible refine qM ?_); (first | refine qS hS ?_ | refine qT hS ?_); clear hS; intro w_ hS; (try simp only [Act.put, Act.eval, zz, Value.cells] at hS))
        | ((with_reducible refine qk 50 ?_); refine BU hS 0 rfl _ _ rfl _ _ rfl _ _ rfl _ _ rfl rfl Tryz.underlying50 rfl (by kernel_rfl) ?_)
        | ((with_reducible refine qA 55 ?_); refine BigFrame.wpList_want rfl fun _ hK => B9 rfl (ps := []) (by simp) (cells := #[.int .u64 0, .int .u64 0]) (by kernel_rfl) (hK _ _ ?_))
        | ((with_reducible refine qA 56 ?_); refine BigFrame.wpList_want rfl fun _ hK => AE rfl rfl rfl IF (HNC.out _) (hK _ _ ?_))
        | ((with_reducible refine qB ?_); refine qc ?_ ?_ <;> intro h_ <;> go_prune)
        | ((with_reducible refine qK ?_); refine qC hS ?_))
       go_ret
       exact AF.mk rfl hS.below
    ·obtain rfl : j = rl.length := by omega
     have HZ2 : Hid (rl.all FQ = true) := Lib.hid (List.all_eq_true.2 fun z hz => by
      obtain ⟨i, hi⟩ := List.mem_iff_getElem?.1 hz
      exact HZ.out i (List.getElem?_eq_some_iff.1 hi).1 z hi)
     replace HE := Lib.hid (HE.out.trans (if_neg (by rw [HZ1.out, HZ2.out]; simp)))
     clear HZ
     cases gb
     ·obtain rfl : RES = 7 := HE.out
      go_wp2_with (first
       | ((with_reducible refine qB ?_); refine qc ?_ ?_ <;> intro h_ <;> go_prune)
       | ((with_reducible refine qK ?_); refine qL hS Tryz.underlying30 ?_)
       | (go_at_call 28; refine (HGB.out _ _ _ (HKP.out _ _ (k2 _ _ hS.ro))).mono ?_; rintro r_ w_ ⟨_, rfl, rfl, hb_⟩; replace hS := hS.ext hb_; clear hb_)
       | ((with_reducible refine qK ?_); refine qC hS ?_))
      go_ret
      exact AF.mk rfl hS.below
     ·obtain rfl : RES = 0 := HE.out
      go_wp2_with (first
       | ((with_reducible refine qB ?_); refine qc ?_ ?_ <;> intro h_ <;> go_prune)
       | ((with_reducible refine qK ?_); refine qL hS Tryz.underlying30 ?_)
       | (go_at_call 28; refine (HGB.out _ _ _ (HKP.out _ _ (k2 _ _ hS.ro))).mono ?_; rintro r_ w_ ⟨_, rfl, rfl, hb_⟩; replace hS := hS.ext hb_; clear hb_)
       | ((with_reducible refine qK ?_); refine qC hS ?_))
      go_ret
      exact AF.mk rfl hS.below
end
section
open Go.RowKit
set_option maxRecDepth 20000
set_option exponentiation.threshold 5000
theorem Ga {w : World} {n : Nat} (h : n < 256) : (convert 5 3 (.int .u8 (n : Nat))).run Tryz.prog w = .ok (.int .i64 (n : Nat)) w := by
 go_simp
 exact Fv (by omega)
theorem GQ {w : World} {n : Nat} (h : n < 256) : (convert 5 26 (.int .u8 (n : Nat))).run Tryz.prog w = .ok (.int .u64 (n : Nat)) w := by
 go_simp
 exact Fu (by unfold AM; omega)
theorem DE {P : Program} {w : World} {t : TypeId} {n m : Nat} (hm : 0 < m) : (binOp .rem t (.int .u8 (n : Nat)) (.int .u8 (m : Nat))).run P w = .ok (.int .u8 ((n % m : Nat) : Int)) w := by
 go_simp
 rw [if_neg (by omega), tmod_nat n m]
 first
  | rfl
  | simp
theorem made_rfit {p : AK} {L : List (Nat × Nat)} {R : Nat} (h : Gl p L R) : Gj p L := ⟨h.links, h.hok, by have := h.len; omega, h.fits⟩
end
section
open Go.RowKit
attribute [local go_sem ↓] Go.wp_at_zero Go.wp_at_succ
set_option maxRecDepth 20000
set_option exponentiation.threshold 5000
section
variable {P : Program} {o : Oper} {a : Act} {w : World} {K : Act -> World -> Prop} {Q : Exit -> Act -> World -> Prop}
theorem E9 {w : World} {g base size : Nat} {t : TypeId} (h : BS w g t #[]) (hb : base <= g) : w.ownsRow base t size (.slice (some ⟨g, 0, none⟩) 0 0) 0 [] :=
 ⟨by simp, .inr ⟨g, 0, #[], rfl, hb, h, Nat.le_refl _, by unfold maxLen; omega, by simp, by simp⟩⟩
theorem Ea {s x : Operand} {t e : TypeId} {size bytes base m g : Nat} {y : Value} {news : List Value} {D : Nat -> Prop} (ho : o.op = .call { callee := .builtin .append, args := #[s, x], argTypes := #[t, t] }) (hT : Bd P t e size bytes)
  (hs : a.eval s = .slice (some ⟨g, 0, none⟩) 0 0) (hown : w.ownsRow base e size (.slice (some ⟨g, 0, none⟩) 0 0) 0 []) (hx : a.eval x = y) (hr : Sl w D size y m news) (hm : m <= 1000000) (hbytes : m * bytes <= 140737488355328) (hbase : base <= w.heap.size)
  (hk : ∀ A c w', w'.ownsRow base e size (.slice A m c) m news -> Below w.heap.size w w' -> K (a.put o.dst (.slice A m c)) w') : o.wp P a w K Q := by
 obtain ⟨i, z, hi, hz, h2, h3, h4, h5⟩ := hT.get
 obtain ⟨hl, A2, c, rfl, _, _, hc⟩ := hr
 rcases Nat.eq_zero_or_pos m with h0 | h0
 ·subst h0
  have hn : news = [] := List.eq_nil_of_length_eq_zero (by simpa using hl)
  subst hn
  have hrun : (Builtin.append_ #[t, t] o.type #[.slice (some ⟨g, 0, none⟩) 0 0, .slice A2 0 c]).run P w = .ok (.slice (some ⟨g, 0, none⟩) 0 0) w := by
   cases A2 with
   | none => simp [Builtin.append_, run_underlying hT.under, sizeOf, typeInfo, hi, Builtin.lenOf, Builtin.firstCells, storeCells]
   | some ad => simp [Builtin.append_, run_underlying hT.under, sizeOf, typeInfo, hi, Builtin.lenOf, Builtin.firstCells, storeCells, loadCells, loadCellsFrom]
  unfold Oper.wp execOp
  simp only [ho, resolve, invoke, builtin, Sem.run_bind, Sem.run_pure, Result.andThen_ok, List.map_toArray, List.map_cons, List.map_nil, hs, hx, hrun]
  exact hk _ _ _ hown (Below.refl _ _)
 ·obtain ⟨b, o2, rfl, _, hb, hcc⟩ := hc h0
  obtain ⟨v', w', hrun, ho', hgr⟩ := run_append_arg_grows (P := P) w t o.type e i z size bytes hT.under hi hz h2 h3 h4 h5 ⟨g, 0, none⟩ 0 0 [] (by simp) (fun j u hj => by simp at hj) ⟨b, o2, none⟩ m c news hl (fun j u hj => by rw [Addr.add_lit]; exact hcc j u hj) (by omega) (by unfold maxLen; omega) (by simpa using hbytes)
  rw [Nat.zero_add, List.nil_append] at ho'
  obtain ⟨A, cc, rfl, _, _⟩ := B7 ho'
  unfold Oper.wp execOp
  simp only [ho, resolve, invoke, builtin, Sem.run_bind, Sem.run_pure, Result.andThen_ok, List.map_toArray, List.map_cons, List.map_nil, hs, hx, hrun]
  exact hk _ _ _ (Ac.down (f := .own (.slice A m cc) e size m news) ho' hbase) ((Below.refl _ _).grown hgr (Nat.le_refl _) (by simp))
end
theorem shl8_31 {w : World} {t : TypeId} {n : Nat} (h : n < 9) : (binOp .shl t (.int .u64 1) (.int .u8 (n : Nat))).run Tryz.prog w = .ok (.int .u64 ((2 ^ n : Nat) : Int)) w := by
 match n, h with
 | 0, _ => go_simp; rfl
 | 1, _ => go_simp; rfl
 | 2, _ => go_simp; rfl
 | 3, _ => go_simp; rfl
 | 4, _ => go_simp; rfl
 | 5, _ => go_simp; rfl
 | 6, _ => go_simp; rfl
 | 7, _ => go_simp; rfl
 | 8, _ => go_simp; rfl
theorem xor_31 {w : World} {t : TypeId} {x y : Nat} (hx : x < AM) (hy : y < AM) : (binOp .xor t (.int .u64 (x : Nat)) (.int .u64 (y : Nat))).run Tryz.prog w = .ok (.int .u64 ((x ^^^ y : Nat) : Int)) w := by
 go_simp; rw [xor64 hx hy]
theorem sub_31 {w : World} {t : TypeId} {x y : Int} : (binOp .sub t (.int .i64 x) (.int .i64 y)).run Tryz.prog w = .ok (.int .i64 (IntKind.i64.wrap (x - y))) w := by
 go_simp
theorem tryR_31 (z : Nat) (h : z < 6) : ∃ y : Int, ([.int .i64 0, .int .i64 63, .int .i64 64, .int .i64 1, .int .i64 (-1), .int .i64 6] : List Value)[z]? = some (.int .i64 y) := by
 match z, h with
 | 0, _ => exact ⟨_, rfl⟩
 | 1, _ => exact ⟨_, rfl⟩
 | 2, _ => exact ⟨_, rfl⟩
 | 3, _ => exact ⟨_, rfl⟩
 | 4, _ => exact ⟨_, rfl⟩
 | 5, _ => exact ⟨_, rfl⟩
def Bnd (p : AK) (a : Nat) : Prop := p.rules.length <= 100 + a /\ p.never.length <= 100 + a /\ p.goal.length <= 100 + a
theorem Gl.bnd {p : AK} {L : List (Nat × Nat)} {R : Nat} (h : Gl p L R) : Bnd p 0 := ⟨by have := h.rlen; omega, by have := h.nlen; omega, by have := h.glen; omega⟩
def SpoR (w0 : World) (F : List Ac) (K : (Nat -> Prop) -> World -> Prop) (L : List (Nat × Nat)) (a : Nat) (e : Ending) (w' : World) : Prop :=
 ∃ u p', e = .returned u /\ Gj p' L /\ Bnd p' (a + 1) /\ St w0 w' F fun D w => K D w /\ B0 w D u p'
theorem Dy : Bd Tryz.prog 27 109 5 40 := ⟨Tryz.underlying27, by kernel_rfl⟩
theorem Hw : Bd Tryz.prog 28 50 2 16 := ⟨Tryz.underlying28, by kernel_rfl⟩
theorem rgd_at {l : List Bk} {w : World} {D : Nat -> Prop} {b o c : Nat} (h : Sl w D 5 (.slice (some ⟨b, o, none⟩) l.length c) l.length (At l)) {z : Bk} (hz : l[0]? = some z) : w.rangeAt b (o + 0 * 5) [.bool z.revoke, .int .u64 (z.yes : Nat), .int .u64 (z.no : Nat), .int .i64 z.target, .int .i64 z.origin] := by
 obtain ⟨q0, q1, q2, q3, q4⟩ := Il l 0 z hz
 exact Ho (D3 h q0) (by rw [Nat.add_assoc]; exact D3 h q1) (by rw [Nat.add_assoc]; exact D3 h q2) (by rw [Nat.add_assoc]; exact D3 h q3) (by rw [Nat.add_assoc]; exact D3 h q4)
set_option maxHeartbeats 4000000 in
theorem rspoilt_any {w0 w : World} {F : List Ac} {K : (Nat -> Prop) -> World -> Prop} {v : Value} {p : AK} {L : List (Nat × Nat)} {d A B a : Nat} (hA : A < 256) (hB : B < 256) (ha : a <= 10) (hR : Gj p L) (hN : Bnd p a) (hS : St w0 w F K) (kp : ∀ D w, K D w -> B0 w D v p) :
  Calls Tryz.prog 15 #[v, .agg #[.int .u8 (d : Nat), .int .u8 (A : Nat), .int .u8 (B : Nat)]] w (SpoR w0 F K L a) := by
 obtain ⟨R, lk, st, rl, nl, gl⟩ := p
 obtain rfl : lk = some L := hR.links
 obtain ⟨Al, cl, Ar, cr, An, cn, Ag, cg, rfl, -⟩ := Dn hR.links (kp _ _ hS.ro)
 dsimp only at kp
 have kall : ∀ D w, K D w -> Sl w D 2 (.slice Al L.length cl) L.length (Ad L) /\ Sl w D 5 (.slice Ar rl.length cr) rl.length (At rl) /\ Sl w D 2 (.slice An nl.length cn) nl.length (AB nl) /\ Sl w D 2 (.slice Ag gl.length cg) gl.length (AB gl) := fun D w h => Cw rfl (kp D w h)
 have kr : ∀ D w, K D w -> Sl w D 5 (.slice Ar rl.length cr) rl.length (At rl) := fun D w h => (kall D w h).2.1
 have kn : ∀ D w, K D w -> Sl w D 2 (.slice An nl.length cn) nl.length (AB nl) := fun D w h => (kall D w h).2.2.1
 have kg : ∀ D w, K D w -> Sl w D 2 (.slice Ag gl.length cg) gl.length (AB gl) := fun D w h => (kall D w h).2.2.2
 obtain ⟨hb1, hb2, hb3⟩ := hN
 dsimp only at hb1 hb2 hb3
 have HF := Lib.hid hR.fits
 have HH := Lib.hid (show Gm L /\ L.length <= 1000 from ⟨hR.hok, hR.len⟩)
 have KS := Lib.hid hS.stable
 have HST : Hid (st < AM) := Lib.hid HF.out.start
 have HA64 : Hid (A < AM /\ B < AM) := Lib.hid (by unfold AM; omega)
 clear hR kp
 dsimp only
 go_enter Tryz.func15, Tryz.ntmps15
 go_wp2_with (first
  | ((with_reducible refine qA 2 ?_); refine Aw hS rfl _ _ rfl (.agg #[.int .i64 R, .slice Al L.length cl, .int .u64 (st : Nat), .slice Ar rl.length cr, .slice An nl.length cn, .slice Ag gl.length cg]) _ rfl rfl ?_; clear hS; intro g2 w_ hS; (try simp only [Act.put, Act.eval, zz, Value.cells] at hS))
  | ((with_reducible refine qA 3 ?_); refine Aw hS rfl _ _ rfl (.agg #[.int .u8 (d : Nat), .int .u8 (A : Nat), .int .u8 (B : Nat)]) _ rfl rfl ?_; clear hS; intro g3 w_ hS; (try simp only [Act.put, Act.eval, zz, Value.cells] at hS))
  | ((with_reducible refine qA 4 ?_); refine qa hS #[.int .i64 0, .slice none 0 0, .int .u64 0, .slice none 0 0, .slice none 0 0, .slice none 0 0] ?_; clear hS; intro g4 w_ hS)
  | ((with_reducible refine qA 5 ?_); refine qa hS #[.int .u64 0, .int .u64 0] ?_; clear hS; intro g5 w_ hS)
  | ((with_reducible refine qA 8 ?_); refine BigFrame.wpList_want rfl fun _ hK => Dp rfl rfl (GQ hA) (hK _ _ ?_))
  | ((with_reducible refine qA 11 ?_); refine BigFrame.wpList_want rfl fun _ hK => Dp rfl rfl (GQ hB) (hK _ _ ?_))
  | ((with_reducible refine qA 12 ?_); refine Ax rfl _ _ rfl #[.int .u64 (A : Nat), .int .u64 (B : Nat)] (by kernel_rfl) ?_; (try simp only [Act.put, List.setIfInBounds_toArray, List.set_cons_zero, List.set_cons_succ]))
  | ((with_reducible refine qA 15 ?_); refine C8 (k := .u8) rfl _ _ _ _ _ rfl rfl rfl (fun z => z < 9) (z := d % 9) rfl (DE (m := 9) (by decide)) (by omega) ?_; intro z15 h15)
  | ((with_reducible refine qB ?_); refine qc ?_ ?_ <;> intro h_ <;> go_prune)
  | ((with_reducible refine qA 44 ?_); refine E0 hS rfl _ 3 6 _ rfl Tryz.underlying74 #[.int .i64 0, .int .i64 63, .int .i64 64, .int .i64 1, .int .i64 (-1), .int .i64 6] (by kernel_rfl) 1 rfl (by decide) ?_; clear hS; intro g44 w_ hS; (try simp only [Act.put, List.setIfInBounds_toArray, List.set_cons_zero, List.set_cons_succ]))
  | ((with_reducible refine qA 47 ?_); refine C8 (k := .u8) rfl _ _ _ _ _ rfl rfl rfl (fun z => z < 6) (z := A % 6) rfl (DE (m := 6) (by decide)) (by omega) ?_; intro z47 h47; obtain ⟨y49, hy49⟩ := tryR_31 z47 h47; replace hy49 := Lib.hid hy49)
  | ((with_reducible refine qA 49 ?_); refine BigFrame.wpList_want rfl fun _ hK => Az rfl rfl (by kernel_rfl) (BJ (hS.own 0 rfl) _ _ hy49.out) (hK _ _ ?_))
  | ((with_reducible refine qA 57 ?_); refine C8 (k := .u8) rfl _ _ _ _ _ rfl rfl rfl (fun z => z < 9) (z := A % 9) rfl (DE (m := 9) (by decide)) (by omega) ?_; intro z57 h57)
  | ((with_reducible refine qA 58 ?_); refine C8 (k := .u64) rfl _ _ _ _ _ rfl rfl rfl (fun z => z < 512) (z := 2 ^ z57) rfl (shl8_31 h57) (Nat.lt_of_lt_of_le (Nat.pow_lt_pow_right (by decide) h57) (by decide)) ?_; intro z58 h58)
  | ((with_reducible refine qA 59 ?_); refine C8 (k := .u64) rfl _ _ _ _ _ rfl rfl rfl (fun z => z < AM) (z := st ^^^ z58) rfl (xor_31 HST.out (by unfold AM; omega)) (by have h := HST.out; unfold AM at h ⊢; exact Nat.xor_lt_two_pow (n := 64) h (Nat.lt_trans h58 (by decide))) ?_; intro z59 h59; replace h59 := Lib.hid h59)
  | ((with_reducible refine qA 132 ?_); refine C8 (k := .u8) rfl _ _ _ _ _ rfl rfl rfl (fun z => z < 3) (z := A % 3) rfl (DE (m := 3) (by decide)) (by omega) ?_; intro z132 h132)
  | ((with_reducible refine qA 133 ?_); refine BigFrame.wpList_want rfl fun _ hK => Dp rfl rfl (Ga (by omega)) (hK _ _ ?_))
  | ((with_reducible refine qA 134 ?_); refine BigFrame.wpList_want rfl fun _ hK => AE rfl rfl rfl rfl sub_31 (hK _ _ ?_))
  | ((with_reducible refine qk 30 ?_); first | refine Bz hS 3 rfl _ _ rfl g2 rfl _ _ rfl _ Tryz.underlying30 rfl (by kernel_rfl) ?_ | refine Bz hS 4 rfl _ _ rfl g2 rfl _ _ rfl _ Tryz.underlying30 rfl (by kernel_rfl) ?_)
  | ((with_reducible refine qm 30 ?_); (first | (refine Bm hS 1 rfl _ _ _ rfl g4 _ rfl rfl _ _ rfl (by kernel_rfl) rfl (by kernel_rfl) ?_) | (refine Bm hS 2 rfl _ _ _ rfl g4 _ rfl rfl _ _ rfl (by kernel_rfl) rfl (by kernel_rfl) ?_)); clear hS; intro w_ hS; (try simp only [Act.put, Act.eval, zz, Value.cells] at hS))
  | ((with_reducible refine qm 3 ?_); refine E1 hS 4 rfl _ _ _ rfl g2 _ _ rfl rfl rfl (by simp) rfl rfl (by kernel_rfl) ?_; clear hS; intro w_ hS; (try simp only [Act.put, Act.eval, zz, Value.cells] at hS))
  | ((with_reducible refine qM ?_); (first | refine qS hS ?_ | refine qT hS ?_); clear hS; intro w_ hS; (try simp only [Act.put, Act.eval, zz, Value.cells] at hS))
  | ((with_reducible refine qK ?_); refine qC hS ?_))
 ·-- 0: roles
  have hS1 := hS
  refine Ba Tryz.results15 rfl (hS.box 2 rfl) Tryz.underlying30 rfl (by kernel_rfl) rfl ?_
  refine ⟨_, ⟨y49, some L, st, rl, nl, gl⟩, rfl, ⟨rfl, HH.out.1, HH.out.2, ⟨HF.out.start, HF.out.rules, (by simp; omega), HF.out.never, (by simp; omega), HF.out.goal, (by simp; omega)⟩⟩, ⟨by simp; omega, by simp; omega, by simp; omega⟩, (hS1.sub (F' := F) (by repeat (first | exact List.Sublist.refl _ | apply List.Sublist.cons))).mono (KS.out.and (B6)) fun D w h => ?_⟩
  exact ⟨h, _, _, _, _, _, rfl, rfl, (kall _ _ h).1, kr _ _ h, kn _ _ h, kg _ _ h⟩
 ·-- 1: start
  have hS1 := hS
  refine Ba Tryz.results15 rfl (hS.box 1 rfl) Tryz.underlying30 rfl (by kernel_rfl) rfl ?_
  refine ⟨_, ⟨R, some L, z59, rl, nl, gl⟩, rfl, ⟨rfl, HH.out.1, HH.out.2, ⟨h59.out, HF.out.rules, (by simp; omega), HF.out.never, (by simp; omega), HF.out.goal, (by simp; omega)⟩⟩, ⟨by simp; omega, by simp; omega, by simp; omega⟩, (hS1.sub (F' := F) (by repeat (first | exact List.Sublist.refl _ | apply List.Sublist.cons))).mono (KS.out.and (B6)) fun D w h => ?_⟩
  exact ⟨h, _, _, _, _, _, rfl, rfl, (kall _ _ h).1, kr _ _ h, kn _ _ h, kg _ _ h⟩
 ·-- 2: a rule
  refine Fa 15 [16, 17] [.s (fun v w => ∃ g, v = .slice (some ⟨g, 0, none⟩) 0 0 /\ w.ownsRow w_.heap.size 109 5 (.slice (some ⟨g, 0, none⟩) 0 0) 0 []) fun v w w' h hb => by obtain ⟨g, e, h⟩ := h; exact ⟨g, e, Ac.kept (f := .own (.slice (some ⟨g, 0, none⟩) 0 0) 109 5 0 []) (row := none) h (Bc hb none) (by simp)⟩, .q g2 3, .i (.slice Ar rl.length cr), .s (fun v w => ∃ A c, v = .slice A rl.length c /\ w.ownsRow w_.heap.size 109 5 (.slice A rl.length c) rl.length (At rl)) fun v w w' h hb => by obtain ⟨A, c, e, h⟩ := h; exact ⟨A, c, e, Ac.kept (f := .own (.slice A rl.length c) 109 5 rl.length (At rl)) (row := none) h (Bc hb none) (by simp)⟩, .q g3 2, .i (.int .u8 (B : Nat)), .i (.int .u8 ((B % 2 : Nat) : Int)), .i (.bool (decide (B % 2 = 1))), .q g3 1, .i (.int .u8 (A : Nat)), .i (.int .u8 ((A % 9 : Nat) : Int)), .n ((A % 9 : Nat) : Int), .n (((A % 9 : Nat) : Int) - 1), .i (.agg #[Value.bool (decide (B % 2 = 1)), Value.int .u64 (0 : Nat), Value.int .u64 (0 : Nat), Value.int .i64 (((A % 9 : Nat) : Int) - 1), Value.int .i64 0]), .s (fun v w => Sl w (fun _ => True) 5 v 1 [Value.bool (decide (B % 2 = 1)), Value.int .u64 (0 : Nat), Value.int .u64 (0 : Nat), Value.int .i64 (((A % 9 : Nat) : Int) - 1), Value.int .i64 0]) fun v w w' h hb => h.ext hb, .t, .t, .t] ⟨?_, uF, uC (h := fun w hW hN => (hS.ext hW).shut 3 rfl 3 rfl), ?_, uF, uC (h := fun w hW hN => (hS.ext hW).shut 2 rfl 2 rfl), uB (h := fun w hW hN => DE (m := 2) (by decide)), uB (h := fun w hW hN => EV (by congr 1; apply propext; omega)), uF, uC (h := fun w hW hN => (hS.ext hW).shut 2 rfl 1 rfl), uB (h := fun w hW hN => DE (m := 9) (by decide)), uE (h := fun w hW hN => Ga (by omega)), uB (h := fun w hW hN => by rw [sub_31]; congr 2; rw [IntKind.wrap_i64]; omega), ?_, ?_, trivial⟩ ?_
  ·refine uT fun b__ w hW hE K hK => ?_
   refine AX rfl Tryz.underlying27 (ps := []) (by simp) (cells := #[]) (by kernel_rfl) fun w' hX hb => hK _ _ ⟨_, rfl, E9 hX hW.size⟩ hb
  ·refine uT fun b__ w hW hE K hK => ?_
   have e63 := hE 63
   have e65 := hE 65
   obtain ⟨g, hg, hown⟩ := e63
   exact Ea rfl Dy hg hown e65 (kr _ _ (hS.ext hW).ro) (by omega) (by omega) hW.size fun A c w' ho hb => hK _ _ ⟨A, c, rfl, ho⟩ hb
  ·refine uT fun b__ w hW hE K hK => ?_
   have e70 := hE 70
   have e75 := hE 75
   exact B9 rfl (ps := [(0, .bool (decide (B % 2 = 1))), (2, .int .i64 (((A % 9 : Nat) : Int) - 1))]) (by simp [e70, e75]) (cells := #[Value.bool (decide (B % 2 = 1)), Value.int .u64 (0 : Nat), Value.int .u64 (0 : Nat), Value.int .i64 (((A % 9 : Nat) : Int) - 1), Value.int .i64 0]) (by kernel_rfl) (hK _ _ rfl (Below.refl _ _))
  ·refine uT fun b__ w hW hE K hK => ?_
   have e76 := hE 76
   refine AX rfl Tryz.underlying27 (ps := [(0, .agg #[Value.bool (decide (B % 2 = 1)), Value.int .u64 (0 : Nat), Value.int .u64 (0 : Nat), Value.int .i64 (((A % 9 : Nat) : Int) - 1), Value.int .i64 0])]) (by simp [e76]) (cells := #[Value.bool (decide (B % 2 = 1)), Value.int .u64 (0 : Nat), Value.int .u64 (0 : Nat), Value.int .i64 (((A % 9 : Nat) : Int) - 1), Value.int .i64 0]) (by kernel_rfl) fun w' hX hb => hK _ _ ((Sl.of_box (n := 1) (size := 5) hX rfl (by omega)).imp fun _ _ _ => trivial) hb
  ·intro vs wz hW hT
   obtain ⟨e63, e64, e65, e66, e67, e68, e69, e70, e71, e72, e73, e74, e75, e76, e77, -⟩ := hT
   have bx : (fun _ : Nat => True) 0 := trivial
   simp only [Ak, Act.put, zz, ze]
   obtain ⟨Ao, co, e66, hown⟩ := e66
   have hS1 := hS.new hW (.own (.slice Ao rl.length co) 109 5 rl.length (At rl)) hown
   (intro o_ ho_; simp only [List.getElem?_toArray, List.getElem?_cons_succ, List.getElem?_cons_zero, Option.some.injEq] at ho_; subst ho_)
   refine CF rfl Dy e66 (hS1.own 0 rfl) rfl e77 (by intro u hu; simp at hu; rcases hu with rfl | rfl | rfl | rfl | rfl <;> rfl) (by omega) (by omega) hS1.size fun v9 w9 ho9 hg9 hat9 => ?_
   replace hS1 := hS1.upd 0 rfl (.own v9 109 5 (rl.length + 1) (At rl ++ [Value.bool (decide (B % 2 = 1)), Value.int .u64 (0 : Nat), Value.int .u64 (0 : Nat), Value.int .i64 (((A % 9 : Nat) : Int) - 1), Value.int .i64 0])) hg9 ho9 hat9
   obtain ⟨Ap, cp, rfl, _, _⟩ := B7 (hS1.own 0 rfl)
   (intro o_ ho_; simp only [List.getElem?_toArray, List.getElem?_cons_succ, List.getElem?_cons_zero, Option.some.injEq] at ho_; subst ho_)
   simp only [Act.put, List.setIfInBounds_toArray, List.set_cons_zero, List.set_cons_succ]
   refine Cb rfl rfl (v := .pointer (some ⟨g2, 3, none⟩)) (by kernel_rfl) ?_
   (intro o_ ho_; simp only [List.getElem?_toArray, List.getElem?_cons_succ, List.getElem?_cons_zero, Option.some.injEq] at ho_; subst ho_)
   simp only [Act.put, List.setIfInBounds_toArray, List.set_cons_zero, List.set_cons_succ]
   refine BE (v := .slice Ap (rl.length + 1) cp) rfl rfl rfl (hS1.box 4 rfl) (by simp) rfl rfl (by kernel_rfl) fun w10 h10 hU10 => ?_
   replace hS1 := hS1.upd 4 rfl (.box g2 30 #[.int .i64 R, .slice Al L.length cl, .int .u64 (st : Nat), .slice Ap (rl.length + 1) cp, .slice An nl.length cn, .slice Ag gl.length cg]) (Bh hU10) ⟨(hS1.holds (.box g2 30 #[.int .i64 R, .slice Al L.length cl, .int .u64 (st : Nat), .slice Ar rl.length cr, .slice An nl.length cn, .slice Ag gl.length cg]) (by simp)).1, h10⟩ fun _ e => .inl e
   simp only [Cz]
   simp only [Act.put, List.setIfInBounds_toArray, List.set_cons_zero, List.set_cons_succ]
   clear hS hW
   have hS := hS1
   clear hS1
   go_wp2_with (first
    | ((with_reducible refine qk 30 ?_); first | refine Bz hS 3 rfl _ _ rfl g2 rfl _ _ rfl _ Tryz.underlying30 rfl (by kernel_rfl) ?_ | refine Bz hS 4 rfl _ _ rfl g2 rfl _ _ rfl _ Tryz.underlying30 rfl (by kernel_rfl) ?_)
    | ((with_reducible refine qm 30 ?_); (first | (refine Bm hS 1 rfl _ _ _ rfl g4 _ rfl rfl _ _ rfl (by kernel_rfl) rfl (by kernel_rfl) ?_) | (refine Bm hS 2 rfl _ _ _ rfl g4 _ rfl rfl _ _ rfl (by kernel_rfl) rfl (by kernel_rfl) ?_)); clear hS; intro w_ hS; (try simp only [Act.put, Act.eval, zz, Value.cells] at hS)))
   have hS1 := hS.freeze 0 (by decide) rfl
   refine Ba Tryz.results15 rfl (hS.box 2 rfl) Tryz.underlying30 rfl (by kernel_rfl) rfl ?_
   refine ⟨_, ⟨R, some L, st, rl ++ [⟨(decide (B % 2 = 1)), 0, 0, ((A % 9 : Nat) : Int) - 1, 0⟩], nl, gl⟩, rfl, ⟨rfl, HH.out.1, HH.out.2, ⟨HF.out.start, CD HF.out.rules ⟨by first | exact HA64.out.1 | (dsimp only; unfold AM; omega), by first | exact HA64.out.2 | (dsimp only; unfold AM; omega)⟩, (by simp; omega), HF.out.never, (by simp; omega), HF.out.goal, (by simp; omega)⟩⟩, ⟨by simp; omega, by simp; omega, by simp; omega⟩, (hS1.sub (F' := F) (by repeat (first | exact List.Sublist.refl _ | apply List.Sublist.cons))).mono (KS.out.and (B6)) fun D w h => ?_⟩
   exact ⟨h.1, _, _, _, _, _, rfl, rfl, (kall _ _ h.1).1, by rw [Cv, List.length_append]; exact h.2, kn _ _ h.1, kg _ _ h.1⟩
 ·-- 3: a rule with the cube
  refine Fa 7 [8, 9] [.s (fun v w => ∃ g, v = .slice (some ⟨g, 0, none⟩) 0 0 /\ w.ownsRow w_.heap.size 109 5 (.slice (some ⟨g, 0, none⟩) 0 0) 0 []) fun v w w' h hb => by obtain ⟨g, e, h⟩ := h; exact ⟨g, e, Ac.kept (f := .own (.slice (some ⟨g, 0, none⟩) 0 0) 109 5 0 []) (row := none) h (Bc hb none) (by simp)⟩, .q g2 3, .i (.slice Ar rl.length cr), .s (fun v w => ∃ A c, v = .slice A rl.length c /\ w.ownsRow w_.heap.size 109 5 (.slice A rl.length c) rl.length (At rl)) fun v w w' h hb => by obtain ⟨A, c, e, h⟩ := h; exact ⟨A, c, e, Ac.kept (f := .own (.slice A rl.length c) 109 5 rl.length (At rl)) (row := none) h (Bc hb none) (by simp)⟩, .i (.agg #[.int .u64 (A : Nat), .int .u64 (B : Nat)]), .i (.agg #[Value.bool false, Value.int .u64 (A : Nat), Value.int .u64 (B : Nat), Value.int .i64 (1), Value.int .i64 0]), .s (fun v w => Sl w (fun _ => True) 5 v 1 [Value.bool false, Value.int .u64 (A : Nat), Value.int .u64 (B : Nat), Value.int .i64 (1), Value.int .i64 0]) fun v w w' h hb => h.ext hb, .t, .t, .t] ⟨?_, uF, uC (h := fun w hW hN => (hS.ext hW).shut 3 rfl 3 rfl), ?_, uR (h := fun w hW hN => (hS.ext hW).box 0 rfl), ?_, ?_, trivial⟩ ?_
  ·refine uT fun b__ w hW hE K hK => ?_
   refine AX rfl Tryz.underlying27 (ps := []) (by simp) (cells := #[]) (by kernel_rfl) fun w' hX hb => hK _ _ ⟨_, rfl, E9 hX hW.size⟩ hb
  ·refine uT fun b__ w hW hE K hK => ?_
   have e82 := hE 82
   have e84 := hE 84
   obtain ⟨g, hg, hown⟩ := e82
   exact Ea rfl Dy hg hown e84 (kr _ _ (hS.ext hW).ro) (by omega) (by omega) hW.size fun A c w' ho hb => hK _ _ ⟨A, c, rfl, ho⟩ hb
  ·refine uT fun b__ w hW hE K hK => ?_
   have e86 := hE 86
   exact B9 rfl (ps := [(2, .int .i64 1), (1, .agg #[.int .u64 (A : Nat), .int .u64 (B : Nat)])]) (by simp [e86] <;> rfl) (cells := #[Value.bool false, Value.int .u64 (A : Nat), Value.int .u64 (B : Nat), Value.int .i64 (1), Value.int .i64 0]) (by kernel_rfl) (hK _ _ rfl (Below.refl _ _))
  ·refine uT fun b__ w hW hE K hK => ?_
   have e87 := hE 87
   refine AX rfl Tryz.underlying27 (ps := [(0, .agg #[Value.bool false, Value.int .u64 (A : Nat), Value.int .u64 (B : Nat), Value.int .i64 (1), Value.int .i64 0])]) (by simp [e87]) (cells := #[Value.bool false, Value.int .u64 (A : Nat), Value.int .u64 (B : Nat), Value.int .i64 (1), Value.int .i64 0]) (by kernel_rfl) fun w' hX hb => hK _ _ ((Sl.of_box (n := 1) (size := 5) hX rfl (by omega)).imp fun _ _ _ => trivial) hb
  ·intro vs wz hW hT
   obtain ⟨e82, e83, e84, e85, e86, e87, e88, -⟩ := hT
   have bx : (fun _ : Nat => True) 0 := trivial
   simp only [Ak, Act.put, zz, ze]
   obtain ⟨Ao, co, e85, hown⟩ := e85
   have hS1 := hS.new hW (.own (.slice Ao rl.length co) 109 5 rl.length (At rl)) hown
   (intro o_ ho_; simp only [List.getElem?_toArray, List.getElem?_cons_succ, List.getElem?_cons_zero, Option.some.injEq] at ho_; subst ho_)
   refine CF rfl Dy e85 (hS1.own 0 rfl) rfl e88 (by intro u hu; simp at hu; rcases hu with rfl | rfl | rfl | rfl | rfl <;> rfl) (by omega) (by omega) hS1.size fun v9 w9 ho9 hg9 hat9 => ?_
   replace hS1 := hS1.upd 0 rfl (.own v9 109 5 (rl.length + 1) (At rl ++ [Value.bool false, Value.int .u64 (A : Nat), Value.int .u64 (B : Nat), Value.int .i64 (1), Value.int .i64 0])) hg9 ho9 hat9
   obtain ⟨Ap, cp, rfl, _, _⟩ := B7 (hS1.own 0 rfl)
   (intro o_ ho_; simp only [List.getElem?_toArray, List.getElem?_cons_succ, List.getElem?_cons_zero, Option.some.injEq] at ho_; subst ho_)
   simp only [Act.put, List.setIfInBounds_toArray, List.set_cons_zero, List.set_cons_succ]
   refine Cb rfl rfl (v := .pointer (some ⟨g2, 3, none⟩)) (by kernel_rfl) ?_
   (intro o_ ho_; simp only [List.getElem?_toArray, List.getElem?_cons_succ, List.getElem?_cons_zero, Option.some.injEq] at ho_; subst ho_)
   simp only [Act.put, List.setIfInBounds_toArray, List.set_cons_zero, List.set_cons_succ]
   refine BE (v := .slice Ap (rl.length + 1) cp) rfl rfl rfl (hS1.box 4 rfl) (by simp) rfl rfl (by kernel_rfl) fun w10 h10 hU10 => ?_
   replace hS1 := hS1.upd 4 rfl (.box g2 30 #[.int .i64 R, .slice Al L.length cl, .int .u64 (st : Nat), .slice Ap (rl.length + 1) cp, .slice An nl.length cn, .slice Ag gl.length cg]) (Bh hU10) ⟨(hS1.holds (.box g2 30 #[.int .i64 R, .slice Al L.length cl, .int .u64 (st : Nat), .slice Ar rl.length cr, .slice An nl.length cn, .slice Ag gl.length cg]) (by simp)).1, h10⟩ fun _ e => .inl e
   simp only [Cz]
   simp only [Act.put, List.setIfInBounds_toArray, List.set_cons_zero, List.set_cons_succ]
   clear hS hW
   have hS := hS1
   clear hS1
   go_wp2_with (first
    | ((with_reducible refine qk 30 ?_); first | refine Bz hS 3 rfl _ _ rfl g2 rfl _ _ rfl _ Tryz.underlying30 rfl (by kernel_rfl) ?_ | refine Bz hS 4 rfl _ _ rfl g2 rfl _ _ rfl _ Tryz.underlying30 rfl (by kernel_rfl) ?_)
    | ((with_reducible refine qm 30 ?_); (first | (refine Bm hS 1 rfl _ _ _ rfl g4 _ rfl rfl _ _ rfl (by kernel_rfl) rfl (by kernel_rfl) ?_) | (refine Bm hS 2 rfl _ _ _ rfl g4 _ rfl rfl _ _ rfl (by kernel_rfl) rfl (by kernel_rfl) ?_)); clear hS; intro w_ hS; (try simp only [Act.put, Act.eval, zz, Value.cells] at hS)))
   have hS1 := hS.freeze 0 (by decide) rfl
   refine Ba Tryz.results15 rfl (hS.box 2 rfl) Tryz.underlying30 rfl (by kernel_rfl) rfl ?_
   refine ⟨_, ⟨R, some L, st, rl ++ [⟨false, A, B, 1, 0⟩], nl, gl⟩, rfl, ⟨rfl, HH.out.1, HH.out.2, ⟨HF.out.start, CD HF.out.rules ⟨by first | exact HA64.out.1 | (dsimp only; unfold AM; omega), by first | exact HA64.out.2 | (dsimp only; unfold AM; omega)⟩, (by simp; omega), HF.out.never, (by simp; omega), HF.out.goal, (by simp; omega)⟩⟩, ⟨by simp; omega, by simp; omega, by simp; omega⟩, (hS1.sub (F' := F) (by repeat (first | exact List.Sublist.refl _ | apply List.Sublist.cons))).mono (KS.out.and (B6)) fun D w h => ?_⟩
   exact ⟨h.1, _, _, _, _, _, rfl, rfl, (kall _ _ h.1).1, by rw [Cv, List.length_append]; exact h.2, kn _ _ h.1, kg _ _ h.1⟩
 ·-- 4: a revoking rule
  refine Fa 11 [12, 13] [.s (fun v w => ∃ g, v = .slice (some ⟨g, 0, none⟩) 0 0 /\ w.ownsRow w_.heap.size 109 5 (.slice (some ⟨g, 0, none⟩) 0 0) 0 []) fun v w w' h hb => by obtain ⟨g, e, h⟩ := h; exact ⟨g, e, Ac.kept (f := .own (.slice (some ⟨g, 0, none⟩) 0 0) 109 5 0 []) (row := none) h (Bc hb none) (by simp)⟩, .q g2 3, .i (.slice Ar rl.length cr), .s (fun v w => ∃ A c, v = .slice A rl.length c /\ w.ownsRow w_.heap.size 109 5 (.slice A rl.length c) rl.length (At rl)) fun v w w' h hb => by obtain ⟨A, c, e, h⟩ := h; exact ⟨A, c, e, Ac.kept (f := .own (.slice A rl.length c) 109 5 rl.length (At rl)) (row := none) h (Bc hb none) (by simp)⟩, .q g3 1, .i (.int .u8 (A : Nat)), .i (.int .u8 ((A % 4 : Nat) : Int)), .i (.int .u64 ((A % 4 : Nat) : Int)), .i (.agg #[.int .u64 ((A % 4 : Nat) : Int), .int .u64 ((0 : Nat) : Int)]), .i (.agg #[Value.bool true, Value.int .u64 (A % 4 : Nat), Value.int .u64 (0 : Nat), Value.int .i64 (1), Value.int .i64 0]), .s (fun v w => Sl w (fun _ => True) 5 v 1 [Value.bool true, Value.int .u64 (A % 4 : Nat), Value.int .u64 (0 : Nat), Value.int .i64 (1), Value.int .i64 0]) fun v w w' h hb => h.ext hb, .t, .t, .t] ⟨?_, uF, uC (h := fun w hW hN => (hS.ext hW).shut 3 rfl 3 rfl), ?_, uF, uC (h := fun w hW hN => (hS.ext hW).shut 2 rfl 1 rfl), uB (h := fun w hW hN => DE (m := 4) (by decide)), uE (h := fun w hW hN => GQ (by omega)), ?_, ?_, ?_, trivial⟩ ?_
  ·refine uT fun b__ w hW hE K hK => ?_
   refine AX rfl Tryz.underlying27 (ps := []) (by simp) (cells := #[]) (by kernel_rfl) fun w' hX hb => hK _ _ ⟨_, rfl, E9 hX hW.size⟩ hb
  ·refine uT fun b__ w hW hE K hK => ?_
   have e93 := hE 93
   have e95 := hE 95
   obtain ⟨g, hg, hown⟩ := e93
   exact Ea rfl Dy hg hown e95 (kr _ _ (hS.ext hW).ro) (by omega) (by omega) hW.size fun A c w' ho hb => hK _ _ ⟨A, c, rfl, ho⟩ hb
  ·refine uT fun b__ w hW hE K hK => ?_
   have e100 := hE 100
   exact B9 rfl (ps := [(0, .int .u64 ((A % 4 : Nat) : Int))]) (by simp [e100]) (cells := #[.int .u64 ((A % 4 : Nat) : Int), .int .u64 ((0 : Nat) : Int)]) (by kernel_rfl) (hK _ _ rfl (Below.refl _ _))
  ·refine uT fun b__ w hW hE K hK => ?_
   have e101 := hE 101
   exact B9 rfl (ps := [(0, .bool true), (2, .int .i64 1), (1, .agg #[.int .u64 ((A % 4 : Nat) : Int), .int .u64 ((0 : Nat) : Int)])]) (by simp [e101]; exact ⟨rfl, rfl⟩) (cells := #[Value.bool true, Value.int .u64 (A % 4 : Nat), Value.int .u64 (0 : Nat), Value.int .i64 (1), Value.int .i64 0]) (by kernel_rfl) (hK _ _ rfl (Below.refl _ _))
  ·refine uT fun b__ w hW hE K hK => ?_
   have e102 := hE 102
   refine AX rfl Tryz.underlying27 (ps := [(0, .agg #[Value.bool true, Value.int .u64 (A % 4 : Nat), Value.int .u64 (0 : Nat), Value.int .i64 (1), Value.int .i64 0])]) (by simp [e102]) (cells := #[Value.bool true, Value.int .u64 (A % 4 : Nat), Value.int .u64 (0 : Nat), Value.int .i64 (1), Value.int .i64 0]) (by kernel_rfl) fun w' hX hb => hK _ _ ((Sl.of_box (n := 1) (size := 5) hX rfl (by omega)).imp fun _ _ _ => trivial) hb
  ·intro vs wz hW hT
   obtain ⟨e93, e94, e95, e96, e97, e98, e99, e100, e101, e102, e103, -⟩ := hT
   have bx : (fun _ : Nat => True) 0 := trivial
   simp only [Ak, Act.put, zz, ze]
   obtain ⟨Ao, co, e96, hown⟩ := e96
   have hS1 := hS.new hW (.own (.slice Ao rl.length co) 109 5 rl.length (At rl)) hown
   (intro o_ ho_; simp only [List.getElem?_toArray, List.getElem?_cons_succ, List.getElem?_cons_zero, Option.some.injEq] at ho_; subst ho_)
   refine CF rfl Dy e96 (hS1.own 0 rfl) rfl e103 (by intro u hu; simp at hu; rcases hu with rfl | rfl | rfl | rfl | rfl <;> rfl) (by omega) (by omega) hS1.size fun v9 w9 ho9 hg9 hat9 => ?_
   replace hS1 := hS1.upd 0 rfl (.own v9 109 5 (rl.length + 1) (At rl ++ [Value.bool true, Value.int .u64 (A % 4 : Nat), Value.int .u64 (0 : Nat), Value.int .i64 (1), Value.int .i64 0])) hg9 ho9 hat9
   obtain ⟨Ap, cp, rfl, _, _⟩ := B7 (hS1.own 0 rfl)
   (intro o_ ho_; simp only [List.getElem?_toArray, List.getElem?_cons_succ, List.getElem?_cons_zero, Option.some.injEq] at ho_; subst ho_)
   simp only [Act.put, List.setIfInBounds_toArray, List.set_cons_zero, List.set_cons_succ]
   refine Cb rfl rfl (v := .pointer (some ⟨g2, 3, none⟩)) (by kernel_rfl) ?_
   (intro o_ ho_; simp only [List.getElem?_toArray, List.getElem?_cons_succ, List.getElem?_cons_zero, Option.some.injEq] at ho_; subst ho_)
   simp only [Act.put, List.setIfInBounds_toArray, List.set_cons_zero, List.set_cons_succ]
   refine BE (v := .slice Ap (rl.length + 1) cp) rfl rfl rfl (hS1.box 4 rfl) (by simp) rfl rfl (by kernel_rfl) fun w10 h10 hU10 => ?_
   replace hS1 := hS1.upd 4 rfl (.box g2 30 #[.int .i64 R, .slice Al L.length cl, .int .u64 (st : Nat), .slice Ap (rl.length + 1) cp, .slice An nl.length cn, .slice Ag gl.length cg]) (Bh hU10) ⟨(hS1.holds (.box g2 30 #[.int .i64 R, .slice Al L.length cl, .int .u64 (st : Nat), .slice Ar rl.length cr, .slice An nl.length cn, .slice Ag gl.length cg]) (by simp)).1, h10⟩ fun _ e => .inl e
   simp only [Cz]
   simp only [Act.put, List.setIfInBounds_toArray, List.set_cons_zero, List.set_cons_succ]
   clear hS hW
   have hS := hS1
   clear hS1
   go_wp2_with (first
    | ((with_reducible refine qk 30 ?_); first | refine Bz hS 3 rfl _ _ rfl g2 rfl _ _ rfl _ Tryz.underlying30 rfl (by kernel_rfl) ?_ | refine Bz hS 4 rfl _ _ rfl g2 rfl _ _ rfl _ Tryz.underlying30 rfl (by kernel_rfl) ?_)
    | ((with_reducible refine qm 30 ?_); (first | (refine Bm hS 1 rfl _ _ _ rfl g4 _ rfl rfl _ _ rfl (by kernel_rfl) rfl (by kernel_rfl) ?_) | (refine Bm hS 2 rfl _ _ _ rfl g4 _ rfl rfl _ _ rfl (by kernel_rfl) rfl (by kernel_rfl) ?_)); clear hS; intro w_ hS; (try simp only [Act.put, Act.eval, zz, Value.cells] at hS)))
   have hS1 := hS.freeze 0 (by decide) rfl
   refine Ba Tryz.results15 rfl (hS.box 2 rfl) Tryz.underlying30 rfl (by kernel_rfl) rfl ?_
   refine ⟨_, ⟨R, some L, st, rl ++ [⟨true, A % 4, 0, 1, 0⟩], nl, gl⟩, rfl, ⟨rfl, HH.out.1, HH.out.2, ⟨HF.out.start, CD HF.out.rules ⟨by first | exact HA64.out.1 | (dsimp only; unfold AM; omega), by first | exact HA64.out.2 | (dsimp only; unfold AM; omega)⟩, (by simp; omega), HF.out.never, (by simp; omega), HF.out.goal, (by simp; omega)⟩⟩, ⟨by simp; omega, by simp; omega, by simp; omega⟩, (hS1.sub (F' := F) (by repeat (first | exact List.Sublist.refl _ | apply List.Sublist.cons))).mono (KS.out.and (B6)) fun D w h => ?_⟩
   exact ⟨h.1, _, _, _, _, _, rfl, rfl, (kall _ _ h.1).1, by rw [Cv, List.length_append]; exact h.2, kn _ _ h.1, kg _ _ h.1⟩
 ·-- 5: a cube
  refine Fa 6 [7, 8] [.s (fun v w => ∃ g, v = .slice (some ⟨g, 0, none⟩) 0 0 /\ w.ownsRow w_.heap.size 50 2 (.slice (some ⟨g, 0, none⟩) 0 0) 0 []) fun v w w' h hb => by obtain ⟨g, e, h⟩ := h; exact ⟨g, e, Ac.kept (f := .own (.slice (some ⟨g, 0, none⟩) 0 0) 50 2 0 []) (row := none) h (Bc hb none) (by simp)⟩, .q g2 4, .i (.slice An nl.length cn), .s (fun v w => ∃ A c, v = .slice A nl.length c /\ w.ownsRow w_.heap.size 50 2 (.slice A nl.length c) nl.length (AB nl)) fun v w w' h hb => by obtain ⟨A, c, e, h⟩ := h; exact ⟨A, c, e, Ac.kept (f := .own (.slice A nl.length c) 50 2 nl.length (AB nl)) (row := none) h (Bc hb none) (by simp)⟩, .i (.agg #[Value.int .u64 (A : Nat), Value.int .u64 (B : Nat)]), .s (fun v w => Sl w (fun _ => True) 2 v 1 [Value.int .u64 (A : Nat), Value.int .u64 (B : Nat)]) fun v w w' h hb => h.ext hb, .t, .t, .t] ⟨?_, uF, uC (h := fun w hW hN => (hS.ext hW).shut 3 rfl 4 rfl), ?_, uR (h := fun w hW hN => (hS.ext hW).box 0 rfl), ?_, trivial⟩ ?_
  ·refine uT fun b__ w hW hE K hK => ?_
   refine AX rfl Tryz.underlying28 (ps := []) (by simp) (cells := #[]) (by kernel_rfl) fun w' hX hb => hK _ _ ⟨_, rfl, E9 hX hW.size⟩ hb
  ·refine uT fun b__ w hW hE K hK => ?_
   have e108 := hE 108
   have e110 := hE 110
   obtain ⟨g, hg, hown⟩ := e108
   exact Ea rfl Hw hg hown e110 (kn _ _ (hS.ext hW).ro) (by omega) (by omega) hW.size fun A c w' ho hb => hK _ _ ⟨A, c, rfl, ho⟩ hb
  ·refine uT fun b__ w hW hE K hK => ?_
   have e112 := hE 112
   refine AX rfl Tryz.underlying28 (ps := [(0, .agg #[Value.int .u64 (A : Nat), Value.int .u64 (B : Nat)])]) (by simp [e112]) (cells := #[Value.int .u64 (A : Nat), Value.int .u64 (B : Nat)]) (by kernel_rfl) fun w' hX hb => hK _ _ ((Sl.of_box (n := 1) (size := 2) hX rfl (by omega)).imp fun _ _ _ => trivial) hb
  ·intro vs wz hW hT
   obtain ⟨e108, e109, e110, e111, e112, e113, -⟩ := hT
   have bx : (fun _ : Nat => True) 0 := trivial
   simp only [Ak, Act.put, zz, ze]
   obtain ⟨Ao, co, e111, hown⟩ := e111
   have hS1 := hS.new hW (.own (.slice Ao nl.length co) 50 2 nl.length (AB nl)) hown
   (intro o_ ho_; simp only [List.getElem?_toArray, List.getElem?_cons_succ, List.getElem?_cons_zero, Option.some.injEq] at ho_; subst ho_)
   refine CF rfl Hw e111 (hS1.own 0 rfl) rfl e113 (by intro u hu; simp at hu; rcases hu with rfl | rfl <;> rfl) (by omega) (by omega) hS1.size fun v9 w9 ho9 hg9 hat9 => ?_
   replace hS1 := hS1.upd 0 rfl (.own v9 50 2 (nl.length + 1) (AB nl ++ [Value.int .u64 (A : Nat), Value.int .u64 (B : Nat)])) hg9 ho9 hat9
   obtain ⟨Ap, cp, rfl, _, _⟩ := B7 (hS1.own 0 rfl)
   (intro o_ ho_; simp only [List.getElem?_toArray, List.getElem?_cons_succ, List.getElem?_cons_zero, Option.some.injEq] at ho_; subst ho_)
   simp only [Act.put, List.setIfInBounds_toArray, List.set_cons_zero, List.set_cons_succ]
   refine Cb rfl rfl (v := .pointer (some ⟨g2, 4, none⟩)) (by kernel_rfl) ?_
   (intro o_ ho_; simp only [List.getElem?_toArray, List.getElem?_cons_succ, List.getElem?_cons_zero, Option.some.injEq] at ho_; subst ho_)
   simp only [Act.put, List.setIfInBounds_toArray, List.set_cons_zero, List.set_cons_succ]
   refine BE (v := .slice Ap (nl.length + 1) cp) rfl rfl rfl (hS1.box 4 rfl) (by simp) rfl rfl (by kernel_rfl) fun w10 h10 hU10 => ?_
   replace hS1 := hS1.upd 4 rfl (.box g2 30 #[.int .i64 R, .slice Al L.length cl, .int .u64 (st : Nat), .slice Ar rl.length cr, .slice Ap (nl.length + 1) cp, .slice Ag gl.length cg]) (Bh hU10) ⟨(hS1.holds (.box g2 30 #[.int .i64 R, .slice Al L.length cl, .int .u64 (st : Nat), .slice Ar rl.length cr, .slice An nl.length cn, .slice Ag gl.length cg]) (by simp)).1, h10⟩ fun _ e => .inl e
   simp only [Cz]
   simp only [Act.put, List.setIfInBounds_toArray, List.set_cons_zero, List.set_cons_succ]
   clear hS hW
   have hS := hS1
   clear hS1
   go_wp2_with (first
    | ((with_reducible refine qk 30 ?_); first | refine Bz hS 3 rfl _ _ rfl g2 rfl _ _ rfl _ Tryz.underlying30 rfl (by kernel_rfl) ?_ | refine Bz hS 4 rfl _ _ rfl g2 rfl _ _ rfl _ Tryz.underlying30 rfl (by kernel_rfl) ?_)
    | ((with_reducible refine qm 30 ?_); (first | (refine Bm hS 1 rfl _ _ _ rfl g4 _ rfl rfl _ _ rfl (by kernel_rfl) rfl (by kernel_rfl) ?_) | (refine Bm hS 2 rfl _ _ _ rfl g4 _ rfl rfl _ _ rfl (by kernel_rfl) rfl (by kernel_rfl) ?_)); clear hS; intro w_ hS; (try simp only [Act.put, Act.eval, zz, Value.cells] at hS)))
   have hS1 := hS.freeze 0 (by decide) rfl
   refine Ba Tryz.results15 rfl (hS.box 2 rfl) Tryz.underlying30 rfl (by kernel_rfl) rfl ?_
   refine ⟨_, ⟨R, some L, st, rl, nl ++ [(A, B)], gl⟩, rfl, ⟨rfl, HH.out.1, HH.out.2, ⟨HF.out.start, HF.out.rules, (by simp; omega), CD HF.out.never HA64.out, (by simp; omega), HF.out.goal, (by simp; omega)⟩⟩, ⟨by simp; omega, by simp; omega, by simp; omega⟩, (hS1.sub (F' := F) (by repeat (first | exact List.Sublist.refl _ | apply List.Sublist.cons))).mono (KS.out.and (B6)) fun D w h => ?_⟩
   exact ⟨h.1, _, _, _, _, _, rfl, rfl, (kall _ _ h.1).1, kr _ _ h.1, by show Sl _ _ _ _ _ _; rw [DF, List.length_append]; exact h.2, kg _ _ h.1⟩
 ·-- 6: a cube
  refine Fa 6 [7, 8] [.s (fun v w => ∃ g, v = .slice (some ⟨g, 0, none⟩) 0 0 /\ w.ownsRow w_.heap.size 50 2 (.slice (some ⟨g, 0, none⟩) 0 0) 0 []) fun v w w' h hb => by obtain ⟨g, e, h⟩ := h; exact ⟨g, e, Ac.kept (f := .own (.slice (some ⟨g, 0, none⟩) 0 0) 50 2 0 []) (row := none) h (Bc hb none) (by simp)⟩, .q g2 5, .i (.slice Ag gl.length cg), .s (fun v w => ∃ A c, v = .slice A gl.length c /\ w.ownsRow w_.heap.size 50 2 (.slice A gl.length c) gl.length (AB gl)) fun v w w' h hb => by obtain ⟨A, c, e, h⟩ := h; exact ⟨A, c, e, Ac.kept (f := .own (.slice A gl.length c) 50 2 gl.length (AB gl)) (row := none) h (Bc hb none) (by simp)⟩, .i (.agg #[Value.int .u64 (A : Nat), Value.int .u64 (B : Nat)]), .s (fun v w => Sl w (fun _ => True) 2 v 1 [Value.int .u64 (A : Nat), Value.int .u64 (B : Nat)]) fun v w w' h hb => h.ext hb, .t, .t, .t] ⟨?_, uF, uC (h := fun w hW hN => (hS.ext hW).shut 3 rfl 5 rfl), ?_, uR (h := fun w hW hN => (hS.ext hW).box 0 rfl), ?_, trivial⟩ ?_
  ·refine uT fun b__ w hW hE K hK => ?_
   refine AX rfl Tryz.underlying28 (ps := []) (by simp) (cells := #[]) (by kernel_rfl) fun w' hX hb => hK _ _ ⟨_, rfl, E9 hX hW.size⟩ hb
  ·refine uT fun b__ w hW hE K hK => ?_
   have e118 := hE 118
   have e120 := hE 120
   obtain ⟨g, hg, hown⟩ := e118
   exact Ea rfl Hw hg hown e120 (kg _ _ (hS.ext hW).ro) (by omega) (by omega) hW.size fun A c w' ho hb => hK _ _ ⟨A, c, rfl, ho⟩ hb
  ·refine uT fun b__ w hW hE K hK => ?_
   have e122 := hE 122
   refine AX rfl Tryz.underlying28 (ps := [(0, .agg #[Value.int .u64 (A : Nat), Value.int .u64 (B : Nat)])]) (by simp [e122]) (cells := #[Value.int .u64 (A : Nat), Value.int .u64 (B : Nat)]) (by kernel_rfl) fun w' hX hb => hK _ _ ((Sl.of_box (n := 1) (size := 2) hX rfl (by omega)).imp fun _ _ _ => trivial) hb
  ·intro vs wz hW hT
   obtain ⟨e118, e119, e120, e121, e122, e123, -⟩ := hT
   have bx : (fun _ : Nat => True) 0 := trivial
   simp only [Ak, Act.put, zz, ze]
   obtain ⟨Ao, co, e121, hown⟩ := e121
   have hS1 := hS.new hW (.own (.slice Ao gl.length co) 50 2 gl.length (AB gl)) hown
   (intro o_ ho_; simp only [List.getElem?_toArray, List.getElem?_cons_succ, List.getElem?_cons_zero, Option.some.injEq] at ho_; subst ho_)
   refine CF rfl Hw e121 (hS1.own 0 rfl) rfl e123 (by intro u hu; simp at hu; rcases hu with rfl | rfl <;> rfl) (by omega) (by omega) hS1.size fun v9 w9 ho9 hg9 hat9 => ?_
   replace hS1 := hS1.upd 0 rfl (.own v9 50 2 (gl.length + 1) (AB gl ++ [Value.int .u64 (A : Nat), Value.int .u64 (B : Nat)])) hg9 ho9 hat9
   obtain ⟨Ap, cp, rfl, _, _⟩ := B7 (hS1.own 0 rfl)
   (intro o_ ho_; simp only [List.getElem?_toArray, List.getElem?_cons_succ, List.getElem?_cons_zero, Option.some.injEq] at ho_; subst ho_)
   simp only [Act.put, List.setIfInBounds_toArray, List.set_cons_zero, List.set_cons_succ]
   refine Cb rfl rfl (v := .pointer (some ⟨g2, 5, none⟩)) (by kernel_rfl) ?_
   (intro o_ ho_; simp only [List.getElem?_toArray, List.getElem?_cons_succ, List.getElem?_cons_zero, Option.some.injEq] at ho_; subst ho_)
   simp only [Act.put, List.setIfInBounds_toArray, List.set_cons_zero, List.set_cons_succ]
   refine BE (v := .slice Ap (gl.length + 1) cp) rfl rfl rfl (hS1.box 4 rfl) (by simp) rfl rfl (by kernel_rfl) fun w10 h10 hU10 => ?_
   replace hS1 := hS1.upd 4 rfl (.box g2 30 #[.int .i64 R, .slice Al L.length cl, .int .u64 (st : Nat), .slice Ar rl.length cr, .slice An nl.length cn, .slice Ap (gl.length + 1) cp]) (Bh hU10) ⟨(hS1.holds (.box g2 30 #[.int .i64 R, .slice Al L.length cl, .int .u64 (st : Nat), .slice Ar rl.length cr, .slice An nl.length cn, .slice Ag gl.length cg]) (by simp)).1, h10⟩ fun _ e => .inl e
   simp only [Cz]
   simp only [Act.put, List.setIfInBounds_toArray, List.set_cons_zero, List.set_cons_succ]
   clear hS hW
   have hS := hS1
   clear hS1
   go_wp2_with (first
    | ((with_reducible refine qk 30 ?_); first | refine Bz hS 3 rfl _ _ rfl g2 rfl _ _ rfl _ Tryz.underlying30 rfl (by kernel_rfl) ?_ | refine Bz hS 4 rfl _ _ rfl g2 rfl _ _ rfl _ Tryz.underlying30 rfl (by kernel_rfl) ?_)
    | ((with_reducible refine qm 30 ?_); (first | (refine Bm hS 1 rfl _ _ _ rfl g4 _ rfl rfl _ _ rfl (by kernel_rfl) rfl (by kernel_rfl) ?_) | (refine Bm hS 2 rfl _ _ _ rfl g4 _ rfl rfl _ _ rfl (by kernel_rfl) rfl (by kernel_rfl) ?_)); clear hS; intro w_ hS; (try simp only [Act.put, Act.eval, zz, Value.cells] at hS)))
   have hS1 := hS.freeze 0 (by decide) rfl
   refine Ba Tryz.results15 rfl (hS.box 2 rfl) Tryz.underlying30 rfl (by kernel_rfl) rfl ?_
   refine ⟨_, ⟨R, some L, st, rl, nl, gl ++ [(A, B)]⟩, rfl, ⟨rfl, HH.out.1, HH.out.2, ⟨HF.out.start, HF.out.rules, (by simp; omega), HF.out.never, (by simp; omega), CD HF.out.goal HA64.out, (by simp; omega)⟩⟩, ⟨by simp; omega, by simp; omega, by simp; omega⟩, (hS1.sub (F' := F) (by repeat (first | exact List.Sublist.refl _ | apply List.Sublist.cons))).mono (KS.out.and (B6)) fun D w h => ?_⟩
   exact ⟨h.1, _, _, _, _, _, rfl, rfl, (kall _ _ h.1).1, kr _ _ h.1, kn _ _ h.1, by show Sl _ _ _ _ _ _; rw [DF, List.length_append]; exact h.2⟩
 ·-- 7: fewer roles
  have hS1 := hS
  refine Ba Tryz.results15 rfl (hS.box 1 rfl) Tryz.underlying30 rfl (by kernel_rfl) rfl ?_
  refine ⟨_, ⟨wrap64 (R - (z132 : Nat)), some L, st, rl, nl, gl⟩, rfl, ⟨rfl, HH.out.1, HH.out.2, ⟨HF.out.start, HF.out.rules, (by simp; omega), HF.out.never, (by simp; omega), HF.out.goal, (by simp; omega)⟩⟩, ⟨by simp; omega, by simp; omega, by simp; omega⟩, (hS1.sub (F' := F) (by repeat (first | exact List.Sublist.refl _ | apply List.Sublist.cons))).mono (KS.out.and (B6)) fun D w h => ?_⟩
  exact ⟨h, _, _, _, _, _, rfl, rfl, (kall _ _ h).1, kr _ _ h, kn _ _ h, kg _ _ h⟩
 ·-- default: many rules
  obtain ⟨z8, hz8⟩ : ∃ z8, z8 = A % 8 := ⟨_, rfl⟩
  have h8 : z8 < 8 := by omega
  have HR8 : Hid (∀ w : World, (binOp .rem 5 (.int .u8 (A : Nat)) (.int .u8 8)).run Tryz.prog w = .ok (.int .u8 (z8 : Nat)) w) := Lib.hid fun w => by rw [hz8]; exact DE (m := 8) (by decide)
  clear hz8
  go_loopg [] (200 - rl.length) (fun k wr => ∃ (rq : List Bk) (Aq : Option Addr) (cq : Nat), 200 - rq.length <= k /\ rq.length <= 100 + a /\ Hid (∀ z ∈ rq, z.yes < AM /\ z.no < AM) /\ St w0 wr ([.box g5 50 #[.int .u64 (A : Nat), .int .u64 (B : Nat)], .box g4 30 #[.int .i64 0, .slice none 0 0, .int .u64 0, .slice none 0 0, .slice none 0 0, .slice none 0 0], .box g3 35 #[.int .u8 (d : Nat), .int .u8 (A : Nat), .int .u8 (B : Nat)], .box g2 30 #[.int .i64 R, .slice Al L.length cl, .int .u64 (st : Nat), .slice Aq rq.length cq, .slice An nl.length cn, .slice Ag gl.length cg]] ++ F) (fun D w => K D w /\ Sl w D 5 (.slice Aq rq.length cq) rq.length (At rq)))
  case atStart => exact ⟨rl, Ar, cr, by omega, hb1, Lib.hid HF.out.rules, hS.mono (KS.out.and (Av (by decide))) fun D w h => ⟨h, kr _ _ h⟩⟩
  case round =>
   clear hS
   obtain ⟨rq, Aq, cq, hgk, hlq, HQ, hS⟩ := hrel
   have hS : St w0 wr (.box g5 50 #[.int .u64 (A : Nat), .int .u64 (B : Nat)] :: .box g4 30 #[.int .i64 0, .slice none 0 0, .int .u64 0, .slice none 0 0, .slice none 0 0, .slice none 0 0] :: .box g3 35 #[.int .u8 (d : Nat), .int .u8 (A : Nat), .int .u8 (B : Nat)] :: .box g2 30 #[.int .i64 R, .slice Al L.length cl, .int .u64 (st : Nat), .slice Aq rq.length cq, .slice An nl.length cn, .slice Ag gl.length cg] :: F) (fun D w => K D w /\ Sl w D 5 (.slice Aq rq.length cq) rq.length (At rq)) := hS
   have HGK := Lib.hid hgk
   clear hgk
   by_cases hlen : 0 < rq.length /\ rq.length < 60 + z8
   ·obtain ⟨hq0, hq1⟩ := hlen
    obtain ⟨b, o, rfl⟩ := sl_pos hS.ro.2 (by omega)
    obtain ⟨z, hz⟩ : ∃ z, rq[0]? = some z := ⟨_, List.getElem?_eq_getElem hq0⟩
    have HZ : Hid (∀ D w, K D w /\ Sl w D 5 (.slice (some ⟨b, o, none⟩) rq.length cq) rq.length (At rq) -> w.rangeAt b (o + 0 * 5) [.bool z.revoke, .int .u64 (z.yes : Nat), .int .u64 (z.no : Nat), .int .i64 z.target, .int .i64 z.origin]) := Lib.hid fun D w h => rgd_at h.2 hz
    have HZT : Hid (z.yes < AM /\ z.no < AM) := Lib.hid (HQ.out z (List.mem_of_getElem? hz))
    clear hz
    obtain ⟨zr, zy, zn, zt, zo⟩ := z
    dsimp only at HZ HZT
    go_wp2_with (first
     | ((with_reducible refine qA 26 ?_); refine BigFrame.wpList_want rfl fun _ hK => AE rfl rfl rfl rfl (HR8.out _) (hK _ _ ?_))
     | ((with_reducible refine qA 27 ?_); refine BigFrame.wpList_want rfl fun _ hK => Dp rfl rfl (Ga (by omega)) (hK _ _ ?_))
     | ((with_reducible refine qA 28 ?_); refine FI (n := 60) (m := z8) rfl _ _ _ _ rfl (fun z => z = 60 + z8) rfl rfl (by omega) rfl ?_; rintro z28 rfl)
     | ((with_reducible refine qB ?_); refine qc ?_ ?_ <;> intro h_ <;> go_prune)
     | ((with_reducible refine qK ?_); refine qC hS ?_))
    refine Fa 9 [10, 11] [.s (fun v w => ∃ g, v = .slice (some ⟨g, 0, none⟩) 0 0 /\ w.ownsRow wr.heap.size 109 5 (.slice (some ⟨g, 0, none⟩) 0 0) 0 []) fun v w w' h hb => by obtain ⟨g, e, h⟩ := h; exact ⟨g, e, Ac.kept (f := .own (.slice (some ⟨g, 0, none⟩) 0 0) 109 5 0 []) (row := none) h (Bc hb none) (by simp)⟩, .q g2 3, .i (.slice (some ⟨b, o, none⟩) rq.length cq), .s (fun v w => ∃ A c, v = .slice A rq.length c /\ w.ownsRow wr.heap.size 109 5 (.slice A rq.length c) rq.length (At rq)) fun v w w' h hb => by obtain ⟨A, c, e, h⟩ := h; exact ⟨A, c, e, Ac.kept (f := .own (.slice A rq.length c) 109 5 rq.length (At rq)) (row := none) h (Bc hb none) (by simp)⟩, .q g2 3, .i (.slice (some ⟨b, o, none⟩) rq.length cq), .q b (o + (0) * 5), .i (.agg #[.bool zr, .int .u64 (zy : Nat), .int .u64 (zn : Nat), .int .i64 zt, .int .i64 zo]), .s (fun v w => Sl w (fun _ => True) 5 v 1 [Value.bool zr, Value.int .u64 (zy : Nat), Value.int .u64 (zn : Nat), Value.int .i64 zt, Value.int .i64 zo]) fun v w w' h hb => h.ext hb, .t, .t, .t] ⟨?_, uF, uC (h := fun w hW hN => (hS.ext hW).shut 3 rfl 3 rfl), ?_, uF, uC (h := fun w hW hN => (hS.ext hW).shut 3 rfl 3 rfl), uI (h := fun w hW hN => Af (m := 0) Tryz.underlying27 (by kernel_rfl) (by omega) (by omega)), uD (h := fun w hW hN => HZ.out _ _ (hS.ext hW).ro), ?_, trivial⟩ ?_
    ·refine uT fun b__ w hW hE K hK => ?_
     refine AX rfl Tryz.underlying27 (ps := []) (by simp) (cells := #[]) (by kernel_rfl) fun w' hX hb => hK _ _ ⟨_, rfl, E9 hX hW.size⟩ hb
    ·refine uT fun b__ w hW hE K hK => ?_
     have e31 := hE 31
     have e33 := hE 33
     obtain ⟨g, hg, hown⟩ := e31
     exact Ea rfl Dy hg hown e33 (hS.ext hW).ro.2 (by omega) (by omega) hW.size fun A c w' ho hb => hK _ _ ⟨A, c, rfl, ho⟩ hb
    ·refine uT fun b__ w hW hE K hK => ?_
     have e38 := hE 38
     refine AX rfl Tryz.underlying27 (ps := [(0, .agg #[.bool zr, .int .u64 (zy : Nat), .int .u64 (zn : Nat), .int .i64 zt, .int .i64 zo])]) (by simp [e38]) (cells := #[.bool zr, .int .u64 (zy : Nat), .int .u64 (zn : Nat), .int .i64 zt, .int .i64 zo]) (by kernel_rfl) fun w' hX hb => hK _ _ ((Sl.of_box (n := 1) (size := 5) hX rfl (by omega)).imp fun _ _ _ => trivial) hb
    ·intro vs wz hW hT
     obtain ⟨e31, e32, e33, e34, e35, e36, e37, e38, e39, -⟩ := hT
     have bx : (fun _ : Nat => True) 0 := trivial
     simp only [Ak, Act.put, zz, ze]
     obtain ⟨Ao, co, e34, hown⟩ := e34
     have hS1 := hS.new hW (.own (.slice Ao rq.length co) 109 5 rq.length (At rq)) hown
     (intro o_ ho_; simp only [List.getElem?_toArray, List.getElem?_cons_succ, List.getElem?_cons_zero, Option.some.injEq] at ho_; subst ho_)
     refine CF rfl Dy e34 (hS1.own 0 rfl) rfl e39 (by intro u hu; simp at hu; rcases hu with rfl | rfl | rfl | rfl | rfl <;> rfl) (by omega) (by omega) hS1.size fun v9 w9 ho9 hg9 hat9 => ?_
     replace hS1 := hS1.upd 0 rfl (.own v9 109 5 (rq.length + 1) (At rq ++ [Value.bool zr, Value.int .u64 (zy : Nat), Value.int .u64 (zn : Nat), Value.int .i64 zt, Value.int .i64 zo])) hg9 ho9 hat9
     obtain ⟨Ap, cp, rfl, _, _⟩ := B7 (hS1.own 0 rfl)
     (intro o_ ho_; simp only [List.getElem?_toArray, List.getElem?_cons_succ, List.getElem?_cons_zero, Option.some.injEq] at ho_; subst ho_)
     simp only [Act.put, List.setIfInBounds_toArray, List.set_cons_zero, List.set_cons_succ]
     refine Cb rfl rfl (v := .pointer (some ⟨g2, 3, none⟩)) (by kernel_rfl) ?_
     (intro o_ ho_; simp only [List.getElem?_toArray, List.getElem?_cons_succ, List.getElem?_cons_zero, Option.some.injEq] at ho_; subst ho_)
     simp only [Act.put, List.setIfInBounds_toArray, List.set_cons_zero, List.set_cons_succ]
     refine BE (v := .slice Ap (rq.length + 1) cp) rfl rfl rfl (hS1.box 4 rfl) (by simp) rfl rfl (by kernel_rfl) fun w10 h10 hU10 => ?_
     replace hS1 := hS1.upd 4 rfl (.box g2 30 #[.int .i64 R, .slice Al L.length cl, .int .u64 (st : Nat), .slice Ap (rq.length + 1) cp, .slice An nl.length cn, .slice Ag gl.length cg]) (Bh hU10) ⟨(hS1.holds (.box g2 30 #[.int .i64 R, .slice Al L.length cl, .int .u64 (st : Nat), .slice (some ⟨b, o, none⟩) rq.length cq, .slice An nl.length cn, .slice Ag gl.length cg]) (by simp)).1, h10⟩ fun _ e => .inl e
     simp only [Cz]
     simp only [Act.put, List.setIfInBounds_toArray, List.set_cons_zero, List.set_cons_succ]
     clear hS hW
     replace hS1 := hS1.freeze 0 (by decide) rfl
     go_wp2_with fail
     go_roundg (200 - (rq.length + 1))
     case measure => have := HGK.out; omega
     case rel => exact ⟨rq ++ [⟨zr, zy, zn, zt, zo⟩], Ap, cp, by rw [List.length_append, List.length_singleton]; exact Nat.le_refl _, by rw [List.length_append, List.length_singleton]; omega, Lib.hid (CD HQ.out HZT.out), by
      rw [List.length_append, List.length_singleton]
      exact hS1.mono (KS.out.and (Av (by decide))) fun D w h => ⟨h.1.1, by rw [Cv]; exact h.2⟩⟩
   ·have hz : rq.length = 0 \/ (0 < rq.length /\ 60 + z8 <= rq.length) := by omega
    clear hlen
    rcases hz with hz | ⟨hz1, hz2⟩
    all_goals
     go_wp2_with (first
      | ((with_reducible refine qA 26 ?_); refine BigFrame.wpList_want rfl fun _ hK => AE rfl rfl rfl rfl (HR8.out _) (hK _ _ ?_))
      | ((with_reducible refine qA 27 ?_); refine BigFrame.wpList_want rfl fun _ hK => Dp rfl rfl (Ga (by omega)) (hK _ _ ?_))
      | ((with_reducible refine qA 28 ?_); refine FI (n := 60) (m := z8) rfl _ _ _ _ rfl (fun z => z = 60 + z8) rfl rfl (by omega) rfl ?_; rintro z28 rfl)
      | ((with_reducible refine qB ?_); refine qc ?_ ?_ <;> intro h_ <;> go_prune)
      | ((with_reducible refine qk 30 ?_); first | refine Bz hS 3 rfl _ _ rfl g2 rfl _ _ rfl _ Tryz.underlying30 rfl (by kernel_rfl) ?_ | refine Bz hS 4 rfl _ _ rfl g2 rfl _ _ rfl _ Tryz.underlying30 rfl (by kernel_rfl) ?_)
      | ((with_reducible refine qm 30 ?_); (first | (refine Bm hS 1 rfl _ _ _ rfl g4 _ rfl rfl _ _ rfl (by kernel_rfl) rfl (by kernel_rfl) ?_) | (refine Bm hS 2 rfl _ _ _ rfl g4 _ rfl rfl _ _ rfl (by kernel_rfl) rfl (by kernel_rfl) ?_)); clear hS; intro w_ hS; (try simp only [Act.put, Act.eval, zz, Value.cells] at hS))
      | ((with_reducible refine qK ?_); refine qC hS ?_))
     have hS1 := hS
     refine Ba Tryz.results15 rfl (hS.box 1 rfl) Tryz.underlying30 rfl (by kernel_rfl) rfl ?_
     refine ⟨_, ⟨R, some L, st, rq, nl, gl⟩, rfl, ⟨rfl, HH.out.1, HH.out.2, ⟨HF.out.start, HQ.out, (by simp; omega), HF.out.never, (by simp; omega), HF.out.goal, (by simp; omega)⟩⟩, ⟨by simp; omega, by simp; omega, by simp; omega⟩, (hS1.sub (F' := F) (by repeat (first | exact List.Sublist.refl _ | apply List.Sublist.cons))).mono (KS.out.and (B6)) fun D w h => ?_⟩
     exact ⟨h.1, _, _, _, _, _, rfl, rfl, (kall _ _ h.1).1, h.2, kn _ _ h.1, kg _ _ h.1⟩
end
section
open Go.RowKit
structure SpoD where
 d : Nat
 a : Nat
 b : Nat
def SpoD.ok (x : SpoD) : Prop := x.d < 256 /\ x.a < 256 /\ x.b < 256
def CE (l : List SpoD) : List Value := l.flatMap fun x => [Value.int .u8 (x.d : Nat), Value.int .u8 (x.a : Nat), Value.int .u8 (x.b : Nat)]
theorem spcells_at (l : List SpoD) (k : Nat) (z : SpoD) (h : l[k]? = some z) : (CE l)[k * 3]? = some (.int .u8 (z.d : Nat)) /\ (CE l)[k * 3 + 1]? = some (.int .u8 (z.a : Nat)) /\ (CE l)[k * 3 + 2]? = some (.int .u8 (z.b : Nat)) := by
 induction l generalizing k with
 | nil => simp at h
 | cons y r ih =>
  cases k with
  | zero =>
   simp at h
   subst h
   simp [CE]
  | succ k =>
   have h2 := ih k (by simpa using h)
   rw [show (k + 1) * 3 = k * 3 + 1 + 1 + 1 by omega]
   simpa [CE] using h2
end
section
open Go.RowKit
attribute [local go_sem ↓] Go.wp_at_zero Go.wp_at_succ
set_option maxRecDepth 20000
set_option exponentiation.threshold 5000
def noL (p : AK) : AK := ⟨p.roles, none, p.start, p.rules, p.never, p.goal⟩
theorem noL_ok {p : AK} (h : p.Ok) : (noL p).Ok := ⟨h.rules, h.never, h.goal, fun L e => by cases e⟩
theorem BQ.noL {w : World} {D : Nat -> Prop} {a lp s rv nv gv : Value} {p : AK} (h : BQ w D (.agg #[a, lp, s, rv, nv, gv]) p) : BQ w D (.agg #[a, .pointer none, s, rv, nv, gv]) (noL p) := by
 obtain ⟨_, _, _, _, _, e, _, h2, h3, h4, h5⟩ := h
 injection e with e; injection e with e; injection e with e0 e; injection e with e1 e; injection e with e2 e; injection e with e3 e; injection e with e4 e; injection e with e5 _
 subst e0 e1 e2 e3 e4 e5
 exact ⟨_, _, _, _, _, rfl, rfl, h2, h3, h4, h5⟩
end
section
open Go.RowKit
attribute [local go_sem ↓] Go.wp_at_zero Go.wp_at_succ
set_option maxRecDepth 20000
set_option exponentiation.threshold 5000
theorem start31s {W : World} {D E : Nat -> Prop} {v u : Value} {l : List Nat} {m : List SpoD} (h : Bl W) (hv : Sl W D 1 v l.length (u8s l)) (hu : Sl W E 3 u m.length (CE m)) : ∃ K : (Nat -> Prop) -> World -> Prop, (∀ D w, K D w -> Bl w /\ D 0) /\ (∀ D w, K D w -> Sl w D 1 v l.length (u8s l)) /\ (∀ D w, K D w -> Sl w D 3 u m.length (CE m)) /\ St W W [] K :=
 ⟨fun D w => (Bl w /\ D 0) /\ Sl w D 1 v l.length (u8s l) /\ Sl w D 3 u m.length (CE m), fun _ _ h => h.1, fun _ _ h => h.2.1, fun _ _ h => h.2.2, St.start (D := fun _ => True) (C0.and ((Av (by decide)).and (Av (by decide)))) ⟨⟨h, trivial⟩, hv.imp fun _ _ _ => trivial, hu.imp fun _ _ _ => trivial⟩⟩
theorem rfit_ok {p : AK} {L : List (Nat × Nat)} (h : Gj p L) : p.Ok := ⟨by have := h.fits.rlen; omega, by have := h.fits.nlen; omega, by have := h.fits.glen; omega, fun L' e => by rw [h.links] at e; injection e with e; subst e; exact ⟨h.hok, by have := h.len; omega⟩⟩
theorem noL_check (p : AK) : checkE (noL p) = 1 := rfl
theorem rng3 {w : World} {g i : Nat} {a b c : Value} (h0 : w.cell? ⟨g, i, none⟩ = some a) (h1 : w.cell? ⟨g, i + 1, none⟩ = some b) (h2 : w.cell? ⟨g, i + 2, none⟩ = some c) : w.rangeAt g i [a, b, c] := fun j v hj => by
 match j, hj with
 | 0, hj => obtain rfl := Option.some.inj (show some _ = some v from hj); exact h0
 | 1, hj => obtain rfl := Option.some.inj (show some _ = some v from hj); exact h1
 | 2, hj => obtain rfl := Option.some.inj (show some _ = some v from hj); exact h2
 | j + 3, hj => simp at hj
set_option maxHeartbeats 4000000 in
theorem lchecks31_any (v u : Value) (l : List Nat) (m : List SpoD) (W : World) (D E : Nat -> Prop) (hl : ∀ x ∈ l, x < 256) (hm : ∀ x ∈ m, x.ok) (hv : Sl W D 1 v l.length (u8s l)) (hu : Sl W E 3 u m.length (CE m)) (hT : Bl W) : Calls Tryz.prog 3 #[v, u] W (AF (fun x _ => x = .bool true) W) := by
 obtain ⟨KK, kt, k1, k2, hS⟩ := start31s hT hv hu
 obtain ⟨A2, c2, rfl, _, _⟩ := hu.shape
 clear hv hu
 have HL := Lib.hid hl
 have HM := Lib.hid hm
 have KS := Lib.hid hS.stable
 clear hl hT hm
 go_enter Tryz.func3, Tryz.ntmps3
 go_wp2_with (first
  | (go_at_call 12; refine (lawake31_any hS kt).mono ?_; clear hS; rintro e w_ ⟨rfl, hS⟩)
  | (go_at_call 13; refine (rmake31_any HL.out hS k1).mono ?_; clear hS; rintro e w_ ⟨u, p, L, R, rfl, hM, hS⟩; replace hM := Lib.hid hM; obtain ⟨us, rfl, hu6, hu1⟩ := hS.ro.2.cells; replace hu6 := Lib.hid hu6)
  | ((with_reducible refine qA 5 ?_); refine qa hS #[.int .i64 0, .slice none 0 0, .int .u64 0, .slice none 0 0, .slice none 0 0, .slice none 0 0] ?_; clear hS; intro g5 w_ hS)
  | ((with_reducible refine qm 30 ?_); refine Bm hS 0 rfl _ _ _ rfl _ _ rfl rfl _ _ rfl (by rw [hu6.out]; kernel_rfl) (by rw [hu6.out]; rfl) hu1 ?_; clear hS; intro w_ hS; (try simp only [Act.put, Act.eval, zz, Value.cells] at hS))
  | ((with_reducible refine qk 30 ?_); refine Bz hS 0 rfl _ _ rfl g5 rfl _ us rfl _ Tryz.underlying30 rfl (by rw [hu6.out]; kernel_rfl) ?_)
  | (go_at_call 14; refine (FT hS.ro.2 (made_rfit hM.out)).mono ?_; rw [hM.out.check]; rintro r_ w_ ⟨_, rfl, rfl, hb_⟩; replace hS := hS.ext hb_; clear hb_))
 go_loopw [6] (fun iv wr => ∃ (j : Nat) (q : AK) (us : Array Value), iv = .int .i64 (j : Nat) /\ j <= 2 /\ Hid (Gj q L /\ Bnd q j /\ us.size = 6) /\ us.all (·.oneCell') = true /\ St W wr [.box g5 30 us] (fun D w => KK D w /\ B0 w D (.agg us) q)) (fun iv _ => 2 - (intOf iv).toNat)
 case atStart => exact ⟨0, p, us, rfl, by omega, Lib.hid ⟨made_rfit hM.out, hM.out.bnd, hu6.out⟩, hu1, hS⟩
 case round =>
  clear hS hu1 hu6
  obtain ⟨j, q, us, rfl, hj, HQ, hu1, hS⟩ := hrel
  have HU6 := Lib.hid HQ.out.2.2
  by_cases hgo : j < m.length /\ j < 2
  ·obtain ⟨hjm, hj2⟩ := hgo
   obtain ⟨b, o, rfl⟩ := sl_pos (k2 _ _ hS.ro.1) (by omega)
   obtain ⟨x, hx⟩ : ∃ x, m[j]? = some x := ⟨_, List.getElem?_eq_getElem hjm⟩
   have HX : Hid (x.ok) := Lib.hid (HM.out x (List.mem_of_getElem? hx))
   have HC := Lib.hid (spcells_at m j x hx)
   clear hx
   obtain ⟨xd, xa, xb⟩ := x
   dsimp only at HC
   have KR : Hid (∀ D w, KK D w -> w.rangeAt b (o + j * 3) [.int .u8 (xd : Nat), .int .u8 (xa : Nat), .int .u8 (xb : Nat)]) := Lib.hid fun D w h => by
    have h2 := k2 D w h
    obtain ⟨q0, q1, q2⟩ := HC.out
    exact rng3 (D3 h2 q0) (by rw [Nat.add_assoc]; exact D3 h2 q1) (by rw [Nat.add_assoc]; exact D3 h2 q2)
   go_wp2_with (first | ((with_reducible refine qB ?_); refine qc ?_ ?_ <;> intro h_ <;> go_prune))
   replace hS := hS.drew
   refine wp_zS [5, 6] [some (.agg us), some (.slice (some ⟨b, o, none⟩) m.length c2), some (.int .i64 (j : Nat)), some (.pointer (some ⟨b, o + (j) * 3, none⟩)), some (.agg #[.int .u8 (xd : Nat), .int .u8 (xa : Nat), .int .u8 (xb : Nat)]), none, none] (fun vs w => match vs with | [] => St W w [.box g5 30 us] (fun D w => KK D w /\ B0 w D (.agg us) q) | [v] => ∃ (us' : Array Value) (q' : AK), v = .agg us' /\ us'.all (·.oneCell') = true /\ Hid (Gj q' L /\ Bnd q' (j + 1) /\ us'.size = 6) /\ St W w [.box g5 30 us] (fun D w => KK D w /\ B0 w D (.agg us') q') | _ => ∃ (us' : Array Value) (q' : AK), us'.all (·.oneCell') = true /\ Hid (Gj q' L /\ Bnd q' (j + 1) /\ us'.size = 6) /\ St W w [.box g5 30 us'] (fun D w => KK D w /\ B0 w D (.agg us') q')) ?_ ⟨?_, vM, vM, ?_, ?_, ?_, ?_, trivial⟩ ?_
   ·first | assumption | (dsimp only; assumption)
   ·refine vR 0 0 fun b__ w vs hS h1 h2 hE K hK => ?_
    rcases vs with _ | ⟨x0, vs⟩ <;> first | (exfalso; first | exact hS | (revert h1 h2; simp <;> omega); done) | ((have e5 : b__.eval (.tmp 5) = .pointer (some ⟨g5, 0, none⟩) := hE 5); (exact DK rfl e5 ((show St W w [.box g5 30 us] (fun D w => KK D w /\ B0 w D (.agg us) q) from hS).box 0 rfl) Tryz.underlying30 rfl (by rw [HU6.out]; kernel_rfl) (hK _ rfl)))
   ·refine vR 0 0 fun b__ w vs hS h1 h2 hE K hK => ?_
    rcases vs with _ | ⟨x0, vs⟩ <;> first | (exfalso; first | exact hS | (revert h1 h2; simp <;> omega); done) | ((have e28 := hE 28); (have e29 := hE 29); (exact Cy rfl e28 e29 (Af (m := j) Tryz.underlying23 (by kernel_rfl) (by omega) (by omega)) (hK _ rfl)))
   ·refine vR 0 0 fun b__ w vs hS h1 h2 hE K hK => ?_
    rcases vs with _ | ⟨x0, vs⟩ <;> first | (exfalso; first | exact hS | (revert h1 h2; simp <;> omega); done) | ((have e30 := hE 30); (exact AU (cs := [.int .u8 (xd : Nat), .int .u8 (xa : Nat), .int .u8 (xb : Nat)]) rfl e30 (KR.out _ _ (show St W w [.box g5 30 us] (fun D w => KK D w /\ B0 w D (.agg us) q) from hS).ro.1) Tryz.underlying35 rfl (by kernel_rfl) (hK _ rfl)))
   ·refine vX 0 fun b__ w vs hS hl hE K hK => ?_
    obtain rfl := Hu hl
    have e27 := hE 27
    have e31 := hE 31
    refine Br rfl (by kernel_rfl) (by simp only [List.map_cons, List.map_nil, e27, e31]) (rspoilt_any (d := xd) HX.out.2.1 HX.out.2.2 (by omega) HQ.out.1 HQ.out.2.1 (show St W w [.box g5 30 us] (fun D w => KK D w /\ B0 w D (.agg us) q) from hS) (fun D w h => h.2)) fun e w' ⟨u', q', he, hr, hn, hs⟩ => ⟨u', he, ?_⟩
    obtain ⟨us', rfl, h6, h1⟩ := hs.ro.2.cells
    exact hK _ w' ⟨us', q', rfl, h1, Lib.hid ⟨hr, hn, h6⟩, hs.mono (KS.out.and B6) fun D w h => ⟨h.1.1, h.2⟩⟩
   ·refine vX 1 fun b__ w vs hS hl hE K hK => ?_
    obtain ⟨x0, rfl⟩ := FA hl
    have e5 : b__.eval (.tmp 5) = .pointer (some ⟨g5, 0, none⟩) := hE 5
    have e32 := hE 32
    obtain ⟨us', q', hx0, h1, hq, h3⟩ := hS
    exact Dg rfl e5 (e32.trans hx0) (h3.box 0 rfl) (by rw [hq.out.2.2]; kernel_rfl) (by rw [HU6.out, hq.out.2.2]) h1 fun w' hbx hup => hK undef w' ⟨us', q', h1, hq, h3.upd 0 rfl (.box g5 30 us') (Bh hup) ⟨(h3.holds _ (List.mem_of_getElem? (i := 0) rfl)).1, hbx⟩ fun _ e => .inl e⟩
   ·intro us wz vs hS hl hT
    obtain ⟨x0, x1, rfl⟩ := Fz hl
    obtain ⟨e27, e28, e29, e30, e31, e32, -⟩ := hT
    clear hl
    simp only [Ak, Act.put, zz, ze]
    obtain ⟨us', q', h1', HQ', hS⟩ := hS
    go_wp2_with fail
    exact ⟨⟨j + 1, q', us', by go_num, by omega, HQ', h1', hS⟩, by simp [intOf]; omega⟩
  ·have hz : m.length <= j \/ (j < m.length /\ 2 <= j) := by omega
   clear hgo
   have HRK : Hid (∀ (w : World) (D : Nat -> Prop) (v : Value), B0 w D v q -> Calls Tryz.prog 14 #[v] w (AF (fun x _ => x = .int .i64 (checkE q)) w)) := Lib.hid fun w D v h => FT h HQ.out.1
   have HSK : Hid (∀ (w : World) (D : Nat -> Prop) (v : Value), BQ w D v q -> Bl w -> Calls Tryz.prog 17 #[v] w (AF (fun x _ => x = .int .i64 (checkE q)) w)) := Lib.hid fun w D v h1 h2 => Ie h1 (rfit_ok HQ.out.1) h2
   have HNK : Hid (∀ (w : World) (D : Nat -> Prop) (v : Value), BQ w D v (noL q) -> Bl w -> Calls Tryz.prog 17 #[v] w (AF (fun x _ => x = .int .i64 1) w)) := Lib.hid fun w D v h1 h2 => by have := Ie h1 (noL_ok (rfit_ok HQ.out.1)) h2; rwa [noL_check] at this
   obtain ⟨ce, hce⟩ : ∃ ce, checkE q = ce := ⟨_, rfl⟩
   rw [hce] at HRK HSK
   clear hce
   rcases hz with h1 | ⟨h1, h2⟩
   all_goals
    go_wp2_with (first
     | ((with_reducible refine qB ?_); refine qc ?_ ?_ <;> intro h_ <;> go_prune)
     | ((with_reducible refine qk 30 ?_); refine Bz hS 0 rfl _ _ rfl g5 rfl _ us rfl _ Tryz.underlying30 rfl (by rw [HU6.out]; kernel_rfl) ?_)
     | (go_at_call 16; refine (G5 HQ.out.1.links HQ.out.1.hok HQ.out.1.len HQ.out.1.fits hS (fun D w h => h.2) (fun D w h => kt D w h.1)).mono ?_; clear hS; rintro e w_ ⟨x, rfl, hS⟩; obtain ⟨la, As, ns, cs, Ar, cr, An, cn, Ag, cg, rfl⟩ := hS.ro.2.shape6)
     | ((with_reducible refine qA 7 ?_); refine qa hS #[.int .i64 0, .pointer none, .slice none 0 0, .slice none 0 0, .slice none 0 0, .slice none 0 0] ?_; clear hS; intro g7 w_ hS)
     | ((with_reducible refine qA 9 ?_); refine qa hS #[.int .i64 0, .pointer none, .slice none 0 0, .slice none 0 0, .slice none 0 0, .slice none 0 0] ?_; clear hS; intro g9 w_ hS)
     | ((with_reducible refine qk 43 ?_); refine Bz hS 0 rfl _ _ rfl g7 rfl _ _ rfl _ Tryz.underlying43 rfl (by kernel_rfl) ?_)
     | ((with_reducible refine qM ?_); (first | refine qS hS ?_ | refine qT hS ?_); clear hS; intro w_ hS; (try simp only [Act.put, Act.eval, zz, Value.cells] at hS)))
    have HTK := Lib.hid (fun D w (h : (KK D w /\ B0 w D (.agg us) q) /\ BQ w D (.agg #[.int .i64 q.roles, .pointer la, .slice As ns cs, .slice Ar q.rules.length cr, .slice An q.never.length cn, .slice Ag q.goal.length cg]) q) => (kt _ _ h.1.1).1)
    refine C5 [.i (.agg #[.int .i64 q.roles, .pointer la, .slice As ns cs, .slice Ar q.rules.length cr, .slice An q.never.length cn, .slice Ag q.goal.length cg]), .n ce, .i (.agg us), .n ce, .b true, .b true, .i (.agg #[.int .i64 q.roles, .pointer none, .slice As ns cs, .slice Ar q.rules.length cr, .slice An q.never.length cn, .slice Ag q.goal.length cg]), .n 1, .b true, .b true, .b true] ⟨uR (h := fun w hW hN => (hS.ext hW).box 1 rfl), ?_, ?_, ?_, uB (h := fun w hW hN => EV (by simp)), uM, uR (h := fun w hW hN => (hS.ext hW).box 0 rfl), ?_, uB (h := fun w hW hN => EV (by simp)), uP, uA, trivial⟩ ?_
    ·refine uT fun b__ w hW hE K hK => ?_
     have e42 := hE 42
     exact Ai rfl (by kernel_rfl) (by simp only [List.map_cons, List.map_nil, e42]) (HSK.out _ _ _ (hS.ext hW).ro.2 (HTK.out _ _ (hS.ext hW).ro)) fun v w' h hb => hK v w' h hb
    ·refine uT fun b__ w hW hE K hK => ?_
     have e5 : b__.eval (.tmp 5) = .pointer (some ⟨g5, 0, none⟩) := hE 5
     exact DK rfl e5 ((hS.ext hW).box 2 rfl) Tryz.underlying30 rfl (by rw [HU6.out]; kernel_rfl) (hK _ _ rfl (Below.refl _ _))
    ·refine uT fun b__ w hW hE K hK => ?_
     have e44 := hE 44
     exact Ai rfl (by kernel_rfl) (by simp only [List.map_cons, List.map_nil, e44]) (HRK.out _ _ _ (hS.ext hW).ro.1.2) fun v w' h hb => hK v w' h hb
    ·refine uT fun b__ w hW hE K hK => ?_
     have e48 := hE 48
     exact Ai rfl (by kernel_rfl) (by simp only [List.map_cons, List.map_nil, e48]) (HNK.out _ _ _ (hS.ext hW).ro.2.noL (HTK.out _ _ (hS.ext hW).ro)) fun v w' h hb => hK v w' h hb
    ·intro vs wz hW hT
     obtain ⟨e42, e43, e44, e45, e46, e47, e48, e49, e50, e51, e4, -⟩ := hT
     simp only [Ak, Act.put, zz, ze]
     replace hS := hS.ext hW
     go_wp2_with fail
     go_ret
     first | exact AF.mk rfl hS.below | exact AF.mk e4 hS.below
end
section
open Go.RowKit Go.ChangeShapes Go.WideShapes
section
variable {H : Type} {enc : TypeId × Value -> H} {P : Program} {w : World} {base : Nat} {sp : Nat -> Bool} {held : Bool}
theorem Ic {t e : TypeId} {size fuel : Nat} {cs : List Value} {x : DataW H × List MemPlace} (ht : P.underlying t = some (.slice e)) (hc : P.cellsOf e = size) (hsz : 0 < size) (h : DataW.trod enc P w base sp held fuel t cs = some x) :
  ∃ v n xs, cs = [v] /\ Sl w (fun _ => True) size v n xs /\ ∀ k, k < n -> ∃ f' y, DataW.trod enc P w base sp held f' e ((xs.drop (k * size)).take size) = some y := by
 rcases DataW.trod_slice ht h with ⟨rfl, _⟩ | ⟨a, len, cap, elems, rest, n, _, rfl, _, hb, hl, hm, hlen, hel, _⟩
 ·exact ⟨_, 0, [], rfl, ⟨by simp, none, 0, rfl, Nat.le_refl _, Nat.zero_le _, fun h => by omega⟩, fun k hk => by omega⟩
 ·rw [hc] at hel
  have each : ∀ k, k < len -> ∃ ck y, w.cells? base (a.add (k * size)) size = some ck /\ DataW.trod enc P w base sp held n e ck = some y := by
   intro k hk
   have h1 := hel k hk
   rw [List.getElem?_eq_getElem (by omega)] at h1
   obtain ⟨ck, h2, h3⟩ := Option.bind_eq_some_iff.1 h1
   exact ⟨ck, _, h2, h3⟩
  have hadd : ∀ i j, (a.add i).add j = a.add (i + j) := by
   intro i j
   unfold Addr.add
   by_cases h1 : i = 0 <;> by_cases h2 : j = 0 <;> simp [h1, h2, Nat.add_assoc]
  have cell : ∀ j, j < len * size -> ∃ x, w.cell? (a.add j) = some x := by
   intro j hj
   have hk : j / size < len := (Nat.div_lt_iff_lt_mul hsz).2 hj
   obtain ⟨ck, y, h1, h2⟩ := each _ hk
   obtain ⟨_, h3, h4⟩ := World.cells?_some h1
   have h5 := h4 (j % size) (Nat.mod_lt _ hsz)
   rw [hadd, Nat.mul_comm, Nat.div_add_mod] at h5
   rw [h5, List.getElem?_eq_getElem (by rw [h3]; exact Nat.mod_lt _ hsz)]
   exact ⟨_, rfl⟩
  refine ⟨.slice (some a) len cap, len, (List.range (len * size)).map fun j => (w.cell? (a.add j)).getD undef, rfl, ⟨by simp, some a, cap, rfl, hl, hm, fun h0 => ?_⟩, fun k hk => ?_⟩
  ·obtain ⟨x0, hx0⟩ := cell 0 (Nat.mul_pos h0 hsz)
   obtain ⟨b, o, s⟩ := a
   have hs : s = none := cell_spot hx0
   subst hs
   refine ⟨b, o, rfl, trivial, ?_, fun j x hx => ?_⟩
   ·have := hx0
    unfold World.cell? at this
    simp only [Addr.add] at this
    rcases Nat.lt_or_ge b w.heap.size with hlt | hge
    ·exact hlt
    ·simp [Array.getElem?_eq_none hge] at this
   ·simp only [List.getElem?_map, Option.map_eq_some_iff] at hx
    obtain ⟨j', hj', rfl⟩ := hx
    have hjl := (List.getElem?_eq_some_iff.1 hj').1
    rw [List.getElem?_range (by simpa using hjl)] at hj'
    obtain rfl := Option.some.inj hj'
    obtain ⟨y, hy⟩ := cell j (by simpa using hjl)
    rw [hy]
    have e : (⟨b, o, none⟩ : Addr).add j = ⟨b, o + j, none⟩ := by
     unfold Addr.add; split <;> simp [*]
    rw [e] at hy
    exact hy
  ·obtain ⟨ck, y, h1, h2⟩ := each k hk
   obtain ⟨_, h3, h4⟩ := World.cells?_some h1
   refine ⟨n, y, ?_⟩
   rw [<- h2]
   congr 1
   have hle : k * size + size <= len * size := by
    rw [<- Nat.succ_mul]; exact Nat.mul_le_mul_right _ hk
   apply List.ext_getElem?
   intro i
   rcases Nat.lt_or_ge i size with hi | hi
   ·rw [List.getElem?_take_of_lt hi, List.getElem?_drop, List.getElem?_map, List.getElem?_range (by omega)]
    have h5 := h4 i hi
    rw [hadd] at h5
    simp only [Option.map_some]
    rw [h5, List.getElem?_eq_getElem (by omega)]
    simp
   ·rw [List.getElem?_eq_none (by simp; omega), List.getElem?_eq_none (by omega)]
end
theorem list3 {α : Type} {l : List α} (h : l.length = 3) : ∃ a b c, l = [a, b, c] := by
 match l, h with
 | [a, b, c], _ => exact ⟨a, b, c, rfl⟩
theorem list3r {α : Type} {l : List α} {n : Nat} (h : l.length = (n + 1) * 3) : ∃ a b c r, l = a :: b :: c :: r := by
 match l, h with
 | [], h => simp at h
 | [_], h => simp at h; omega
 | [_, _], h => simp at h; omega
 | a :: b :: c :: r, _ => exact ⟨a, b, c, r, rfl⟩
theorem u8_nat {n : Int} (h : (Lit.int .u8 n).wf = true) : ∃ m : Nat, n = (m : Int) /\ m < 256 := by
 have := bounds_u8 h
 exact ⟨n.toNat, by omega, by omega⟩
end
section
open Go.ChangeShapes Go.WideShapes Go.ChangeAt Go.RowKit
theorem sp_struct {H : Type} {enc : TypeId × Value -> H} {w : World} {base : Nat} {sp : Nat -> Bool} {held : Bool} {fuel : Nat} {a b c : Value} {y : DataW H × List MemPlace} (hy : DataW.trod enc Tryz.prog w base sp held fuel 35 [a, b, c] = some y) :
  ∃ z : SpoD, z.ok /\ a = .int .u8 (z.d : Nat) /\ b = .int .u8 (z.a : Nat) /\ c = .int .u8 (z.b : Nat) := by
 obtain ⟨ys, m, rfl, _, _, hyl, hf⟩ := DataW.trod_struct Tryz.underlying35 hy
 obtain ⟨y0, y1, y2, rfl⟩ := list3 (show ys.length = 3 from hyl)
 clear hyl
 have g0 : DataW.trod enc Tryz.prog w base sp held m 5 (([a, b, c]).drop 0 |>.take (Tryz.prog.cellsOf 5)) = some y0 := hf 0 _ rfl
 have g1 : DataW.trod enc Tryz.prog w base sp held m 5 (([a, b, c]).drop 1 |>.take (Tryz.prog.cellsOf 5)) = some y1 := hf 1 _ rfl
 have g2 : DataW.trod enc Tryz.prog w base sp held m 5 (([a, b, c]).drop 2 |>.take (Tryz.prog.cellsOf 5)) = some y2 := hf 2 _ rfl
 have c1 : Tryz.prog.cellsOf 5 = 1 := by kernel_rfl
 rw [c1] at g0 g1 g2
 obtain ⟨n0, e0, _, w0⟩ := DataW.trod_int Tryz.underlying5 (x := y0) (by simpa using g0)
 obtain ⟨n1, e1, _, w1⟩ := DataW.trod_int Tryz.underlying5 (x := y1) (by simpa using g1)
 obtain ⟨n2, e2, _, w2⟩ := DataW.trod_int Tryz.underlying5 (x := y2) (by simpa using g2)
 obtain ⟨m0, rfl, l0⟩ := u8_nat w0
 obtain ⟨m1, rfl, l1⟩ := u8_nat w1
 obtain ⟨m2, rfl, l2⟩ := u8_nat w2
 simp at e0 e1 e2
 subst e0 e1 e2
 exact ⟨⟨m0, m1, m2⟩, ⟨l0, l1, l2⟩, rfl, rfl, rfl⟩
set_option maxRecDepth 20000 in
theorem spoils_open {H : Type} {enc : TypeId × Value -> H} {W : World} {r : Reach} {b0 base : Nat} {sp : Nat -> Bool} {held : Bool} {v : Value} {d : DataW H} {p : List MemPlace} (hv : Value.okWide Tryz.prog W r b0 23 v) (h : DataW.Trod enc Tryz.prog W base sp held 23 v d p) :
  ∃ m : List SpoD, (∀ x ∈ m, x.ok) /\ Sl W (fun _ => True) 3 v m.length (CE m) := by
 obtain ⟨a0, len0, cap0, rfl⟩ := okWide_slice Tryz.underlying23 hv
 obtain ⟨fuel, hf⟩ := h
 obtain ⟨v, n, xs, e, hs, he⟩ := Ic Tryz.underlying23 (size := 3) (by kernel_rfl) (by decide) hf
 obtain rfl : v = .slice a0 len0 cap0 := by simpa [Value.cells] using e.symm
 have hl := hs.1
 have : ∃ zs : List SpoD, xs = CE zs /\ zs.length = n /\ ∀ c ∈ zs, c.ok := by
  clear hs hf e
  induction n generalizing xs with
  | zero => exact ⟨[], List.length_eq_zero_iff.1 (by simpa using hl), rfl, by simp⟩
  | succ n ih =>
   obtain ⟨f', y, hy⟩ := he 0 (by omega)
   simp only [Nat.zero_mul, List.drop_zero] at hy
   obtain ⟨zs, hz, hn, hok⟩ := ih (xs.drop 3) (fun k hk => by
    obtain ⟨f', y, h⟩ := he (k + 1) (by omega)
    refine ⟨f', y, ?_⟩
    rw [List.drop_drop]
    rw [show 3 + k * 3 = (k + 1) * 3 by omega]
    exact h) (by simp; omega)
   obtain ⟨a, b, c, r, rfl⟩ := list3r hl
   obtain ⟨z, hzo, rfl, rfl, rfl⟩ := sp_struct (show DataW.trod enc Tryz.prog W base sp held f' 35 [a, b, c] = some y from hy)
   refine ⟨z :: zs, ?_, by simp [hn], fun c hc => ?_⟩
   ·show _ = _ :: _ :: _ :: CE zs
    rw [<- hz]; rfl
   ·rcases List.mem_cons.1 hc with rfl | hc
    ·exact hzo
    ·exact hok c hc
 obtain ⟨zs, rfl, rfl, hok⟩ := this
 exact ⟨zs, hok, hs⟩
end
section
open Go.ChangeShapes Go.WideShapes Go.ChangeAt Go.RowKit
set_option maxRecDepth 20000 in
theorem bytes_open {H : Type} {enc : TypeId × Value -> H} {W : World} {r : Reach} {b0 base : Nat} {sp : Nat -> Bool} {held : Bool} {v : Value} {d : DataW H} {p : List MemPlace} (hv : Value.okWide Tryz.prog W r b0 22 v) (h : DataW.Trod enc Tryz.prog W base sp held 22 v d p) :
  ∃ l : List Nat, (∀ x ∈ l, x < 256) /\ Sl W (fun _ => True) 1 v l.length (u8s l) := by
 obtain ⟨a0, len0, cap0, rfl⟩ := okWide_slice Tryz.underlying22 hv
 obtain ⟨fuel, hf⟩ := h
 obtain ⟨v, n, xs, e, hs, he⟩ := Ic Tryz.underlying22 (size := 1) (by kernel_rfl) (by decide) hf
 have hl := hs.1
 have : ∃ zs : List Nat, (∀ x ∈ zs, x < 256) /\ xs = u8s zs := by
  have : ∀ v ∈ xs, ∃ z : Nat, z < 256 /\ v = .int .u8 (z : Nat) := by
   intro v hv
   obtain ⟨k, hk, hkv⟩ := List.mem_iff_getElem.1 hv
   obtain ⟨f', y, hy⟩ := he k (by omega)
   obtain ⟨z, hz, _, hw⟩ := DataW.trod_int Tryz.underlying5 hy
   obtain ⟨m, rfl, hm⟩ := u8_nat hw
   have h0 := congrArg (·[0]?) hz
   simp only [Nat.mul_one, List.getElem?_take_of_lt Nat.zero_lt_one, List.getElem?_drop, Nat.add_zero] at h0
   rw [List.getElem?_eq_getElem hk, hkv] at h0
   exact ⟨m, hm, by simpa using h0⟩
  clear hs he hl
  induction xs with
  | nil => exact ⟨[], fun x hx => by simp at hx, rfl⟩
  | cons a r ih =>
   obtain ⟨zs, hzs, rfl⟩ := ih fun v hv => this v (List.mem_cons_of_mem _ hv)
   obtain ⟨z, hz, rfl⟩ := this a List.mem_cons_self
   exact ⟨z :: zs, fun x hx => by rcases List.mem_cons.1 hx with rfl | hx; exact hz; exact hzs x hx, rfl⟩
 obtain ⟨zs, hzs, rfl⟩ := this
 have hz : zs.length = n := by simpa [u8s] using hl
 obtain rfl : v = .slice a0 len0 cap0 := by simpa [Value.cells] using e.symm
 exact ⟨zs, hzs, hz ▸ hs⟩
end
section
open Go.RowKit Go.ChangeShapes Go.WideShapes
theorem boxF_of_reads {w : World} {n : String} {g : Nat} {t e : TypeId} {m : Nat} {k : IntKind} {zs : List Int} (hg : Tryz.prog.globalNamed n = some g) (hty : (Tryz.prog.globals[g]?).map (·.type) = some t)
  (ht : Tryz.prog.underlying t = some (.array m e)) (he : Tryz.prog.underlying e = some (.int k)) (hce : Tryz.prog.cellsOf e = 1) (hct : Tryz.prog.cellsOf t = m) (h : Lib.VarReads Tryz.prog w n (Lib.tabData k zs)) :
  ∃ t, BoxF w g t (zs.map fun z => Value.int k z).toArray := by
 obtain ⟨g', t', cs, fuel, p, hg', hty', hvar, hd⟩ := h
 obtain rfl := Option.some.inj (hg.symm.trans hg')
 obtain rfl := Option.some.inj (hty.symm.trans hty')
 have hcs := Lib.cells_of_tab ht he hce hct hd
 simp only [World.var?, hg, Option.bind_some] at hvar
 split at hvar
 ·rename_i cs' t'' f heq
  obtain rfl := Option.some.inj hvar
  refine ⟨(t'', f), ?_⟩
  rw [<- hcs]
  exact heq
 ·cases hvar
end
section
open Go.RowKit Go.ChangeShapes Go.WideShapes
theorem dtab_of_reads {w : World} (h1 : Lib.VarReads Tryz.prog w "math/bits.deBruijn64tab" Rows.laid_math_bits_deBruijn64tab) : Bl w := by
 have e1 : (Rows.laid_math_bits_deBruijn64tab : DataW Unit) = Lib.tabData .u8 (dbL.map fun x : Nat => (x : Int)) := by kernel_rfl
 rw [e1] at h1
 obtain ⟨t, b1⟩ := boxF_of_reads (g := 0) (by kernel_rfl) (t := 225) (by kernel_rfl) Tryz.underlying225 Tryz.underlying5 (by kernel_rfl) (by kernel_rfl) h1
 have e : (List.map (fun z => Value.int .u8 z) (dbL.map fun x : Nat => (x : Int))) = u8s dbL := by simp [u8s]
 rw [e] at b1
 intro q hq
 rw [b1.cell, List.getElem?_toArray]
 exact u8s_at _ _ hq
end
section
open Go.ChangeShapes Go.WideShapes Go.ChangeAt Go.RowKit
theorem Hm (W : World) (h : laidMetH Tryz.prog Rows.schemeChecksRow.laid W) : Bl W := by
 have h' : laidMetH Tryz.prog [("math/bits.deBruijn64tab", Rows.laid_math_bits_deBruijn64tab)] W := h
 rw [MakeChecks.laidMetH_plain _ _ _ (by kernel_rfl)] at h'
 exact dtab_of_reads (Lib.laidMet.reads h' (.head _))
noncomputable def schcStart (os : Os) : World := World.laidAll Tryz.prog os Rows.schemeChecksRow.laid
theorem Ig (os : Os) (args : Array Value) : laidMetH Tryz.prog Rows.schemeChecksRow.laid ((schcStart os).forCall (fun _ _ => 0) ⟨#[], args, []⟩).memory := by
 rw [MakeChecks.laidMetH_plain _ _ _ (by kernel_rfl)]
 exact laidMet_laidAll _ (by kernel_rfl) (by kernel_rfl)
theorem schc_own : ownKnob Tryz.prog.godebug = none := by kernel_rfl
theorem FK : laidOutB Tryz.prog = true := by kernel_rfl
set_option maxRecDepth 100000 in
theorem schc_lifted (os : Os) (started : os.Started) (H : Type) (enc : TypeId × Value -> H) :
  ReturnsInHanded {} Tryz.checked os 3 .any (fun w args => (Rows.schemeChecksSpec.pre enc Tryz.prog Tryz.f3 [] false w args /\ laidMetH Tryz.prog Rows.schemeChecksRow.laid w) /\ sizedMet enc Tryz.prog Tryz.f3 (OpenSpec.ofChange Rows.schemeChecksSpec) false w args)
   (Rows.schemeChecksSpec.post enc Tryz.prog Tryz.f3 false true false false) := by
 refine returnsInHanded_of_change_and (C := Tryz.checked) (X := fun w _ => laidMetH Tryz.prog Rows.schemeChecksRow.laid w) (fun _ _ _ hh h => h.of_heap hh) schc_own started (by kernel_rfl) Tryz.func3
  (ChangeSpec.witness_shaped (enc := enc) (C := Tryz.checked) (os := os) (X := fun w _ => laidMetH Tryz.prog Rows.schemeChecksRow.laid w) false (schcStart os) #[.slice none 0 0, .slice none 0 0] 8 (World.laidAll_os _ _ _) (World.shaped_of_ZipB (by kernel_rfl) (by kernel_rfl)) (by kernel_rfl) (by kernel_rfl) (by kernel_rfl) (Ig os _)) ?_
 intro W base args ds gs before hval0 hW _ _ hL _
 have hval : ∀ (j : Nat) t v, Tryz.f3.params[j]? = some t -> args[j]? = some v -> Value.okWide Tryz.prog W .any base t v := hval0
 have hW' := hW
 obtain ⟨p, q, hA0, hV, rfl, hfz, hnd⟩ := hW
 have hA : DataW.TrodAll enc Tryz.prog W 0 (fun _ => true) true Tryz.f3.params.toList args.toList ds p := hA0
 rw [Tryz.params3] at hA hval
 obtain ⟨v0, v1, d0, d1, p0, p1, rfl, rfl, rfl, h0, h1⟩ := trodAll_two hA
 obtain ⟨rfl, rfl⟩ := trodVars_none hV
 obtain ⟨l, hl, hs⟩ := bytes_open (hval 0 _ v0 rfl rfl) h0
 obtain ⟨m, hm, hs2⟩ := spoils_open (hval 1 _ v1 rfl rfl) h1
 have hT := Hm W hL
 have lt : ∀ z ∈ p0 ++ p1, z.block < W.heap.size := fun z hz => by simpa using hW'.lt z (by simpa using hz)
 refine (lchecks31_any v0 v1 l m W _ _ hl hm hs hs2 hT).mono fun E W' he => ?_
 obtain ⟨r, rfl, rfl, hb⟩ := he
 refine ⟨_, rfl, _, _, _, [], p0 ++ p1, [], hW', ?_, ?_, ?_, hb.frame _, fun h => by cases h⟩
 ·exact trodAll_mk1 (shut_bool Tryz.underlying4 true)
 ·rw [Tryz.params3]
  exact trodAll_mk2 (Below.trod FK (by kernel_rfl) (of_decide_eq_true (by kernel_rfl)) h0 hb fun z hz => lt z (List.mem_append_left _ hz)) (Below.trod FK (by kernel_rfl) (of_decide_eq_true (by kernel_rfl)) h1 hb fun z hz => lt z (List.mem_append_right _ hz))
 ·rfl
theorem schc_holds : Rows.SchemeChecksSaid :=
 OpenClaim.holds_of_wide 3 Tryz.f3 rfl rfl rfl rfl rfl rfl rfl ⟨rfl, rfl, rfl, rfl, rfl⟩ rfl rfl rfl rfl rfl (by kernel_rfl) Tryz.func3 (by kernel_rfl)
  (of_decide_eq_true (by kernel_rfl)) (by unfold Func.isWrapper; rw [if_neg (by decide +kernel)]; exact ⟨rfl, rfl⟩)
  (fun os started H enc _ => schc_lifted os started H enc)
end
section
open Go
theorem schc_card : Rows.SchemeChecksCardSaid :=
 Claim7.holds_tied_plain_at .later [] [.data] true (true, "2f541ff0f2b150b94377df4c904e54df060b1cc989d168e7cdafb17d6c9b7b94") false
  schc_holds (fun _ h => by cases h) (by kernel_rfl) (fun _ h => by cases h) schemeChecks_row_tie rfl ⟨rfl, rfl⟩ (by kernel_rfl) rfl
  (fun f fn hf hfn => by
   obtain rfl : f = 3 := Option.some.inj ((show Tryz.prog.funcNamed "arbac/arbaclaw31.SchemeChecks" = some 3 by kernel_rfl).symm.trans hf) |>.symm
   obtain rfl : fn = Tryz.f3 := (Option.some.inj (Tryz.func3.symm.trans hfn)).symm
   exact ⟨by kernel_rfl, fun j t ht => by
    rw [Tryz.params3] at ht
    have h3 : t = 22 \/ t = 23 := by
     rcases j with _ | _ | j
     ·simp at ht; simp [<- ht]
     ·simp at ht; simp [<- ht]
     ·simp at ht
    rcases h3 with rfl | rfl
    ·exact (show Tryz.prog.wantsStandIn 22 = false by kernel_rfl)
    ·exact (show Tryz.prog.wantsStandIn 23 = false by kernel_rfl)⟩)
  (by kernel_rfl)
end
end Go.Proofs.YtchjigffejhmfaaGreatDoor
namespace Go.Proofs.YtchjigffejhmfaaGreatDoor
#print axioms schc_card
end Go.Proofs.YtchjigffejhmfaaGreatDoor
