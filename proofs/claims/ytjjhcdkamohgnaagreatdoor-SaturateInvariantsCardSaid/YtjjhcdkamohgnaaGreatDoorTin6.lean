/-
  The card of SaturateInvariants.
-/
import Derived.Test.YtjjhcdkamohgnaaGreatDoorRows
import Derived.ProofKit
import Derived.OpenShut
import Derived.Lib.LaidU8
import Derived.Lay
import Derived.MakeChecks
import Derived.LaidLaws
import Derived.Stop.Joined
import Derived.Test.YtjjhcdkamohgnaaGreatDoorCards
import Derived.Test.YtjjhcdkamohgnaaGreatDoorTie
import Derived.SevenTiedAt
import Derived.Test.YtjjhcdkamohgnaaGreatDoorTin5
namespace Go.Proofs.YtjjhcdkamohgnaaGreatDoor
section
open Go.RowKit
attribute [local go_sem ↓] Go.wp_at_zero Go.wp_at_succ
set_option maxRecDepth 20000
set_option exponentiation.threshold 5000
theorem Dq {w0 : World} {D : Nat -> Prop} {v : Value} {l : List Int} {N : Nat} (hs : Sl w0 D 1 v l.length (AH l)) (hN : ofN l = N) : Calls Tryz.prog 48 #[v] w0 (AP (fun x w' => AV w' (w0.heap.size <= ·) x (N, 0)) w0) := by
 obtain ⟨K, k1, hS⟩ : ∃ K : (Nat -> Prop) -> World -> Prop, (∀ D w, K D w -> Sl w D 1 v l.length (AH l)) /\ St w0 w0 [] K := ⟨_, fun _ _ h => h, St.start (Aq (by decide)) hs⟩
 clear hs
 go_enter Tryz.func48, Tryz.ntmps48
 go_wp2_with (first
  | ((with_reducible refine qA 2 ?_); refine qa hS #[.slice none 0 0, .slice none 0 0] ?_; clear hS; intro g2 w_ hS)
  | (go_at_call 28; have hsW := hS.size; refine (JD _ l _ _ (k1 _ _ hS.ro)).mono ?_; rw [hN]; rintro r_ w_ ⟨_, rfl, h1, hb_⟩; obtain ⟨A, c, lw, rfl, -⟩ := h1.parts; replace hS := hS.ret hb_ (AW A5 fun z => w0.heap.size <= z) (h1.imp fun z hz _ => ⟨hz, Nat.le_trans hsW hz⟩); clear h1 hb_ hsW)
  | ((with_reducible show wpList _ _ _ (⟨_, .build _ _, _, _, _, _⟩ :: _) _ _); refine AL rfl _ _ rfl #[.slice A lw.length c, .slice none 0 0] (by kernel_rfl) ?_)
  | ((with_reducible refine qM ?_); (first | refine qS hS ?_ | refine qT hS ?_); clear hS; intro w_ hS; (try simp only [Act.put, Act.eval, zz, Value.cells] at hS)))
 refine Bm Tryz.results48 rfl (hS.box 0 rfl) Tryz.underlying54 rfl (by kernel_rfl) rfl ?_
 exact AP.mk ⟨_, _, rfl, hS.ro.2.imp fun z hz _ => hz.2, A7.empty⟩ hS.below
theorem Bx {w : World} {D : Nat -> Prop} {a b : Value} {z : Nat × Nat} (h : AV w D (.agg #[a, b]) z) : A7 w D (.agg #[a]) z.1 /\ A7 w D (.agg #[b]) z.2 := by
 obtain ⟨x, y, he, h1, h2⟩ := h
 have e : a = x /\ b = y := by simpa using he
 obtain ⟨rfl, rfl⟩ := e
 exact ⟨h1, h2⟩
theorem cells3 {w : World} {D : Nat -> Prop} {a1 b1 a2 b2 a3 b3 : Value} (h1 : AV w D (.agg #[a1, b1]) (2, 0)) (h2 : AV w D (.agg #[a2, b2]) (8, 0)) (h3 : AV w D (.agg #[a3, b3]) (6, 0)) :
  AQ w D [.bool false, a1, b1, .int .i64 2, .int .i64 0, .bool false, a2, b2, .int .i64 4, .int .i64 0, .bool false, a3, b3, .int .i64 3, .int .i64 0] QA.rules :=
 AQ.append (l := [⟨false, 2, 0, 2, 0⟩]) (xs := [.bool false, a1, b1, .int .i64 2, .int .i64 0]) rfl (AQ.single (Bx h1).1 (Bx h1).2)
  (AQ.append (l := [⟨false, 8, 0, 4, 0⟩]) (xs := [.bool false, a2, b2, .int .i64 4, .int .i64 0]) rfl (AQ.single (Bx h2).1 (Bx h2).2) (AQ.single (z := ⟨false, 6, 0, 3, 0⟩) (Bx h3).1 (Bx h3).2))
theorem cells2 {w : World} {D : Nat -> Prop} {a2 b2 a3 b3 : Value} (h2 : AV w D (.agg #[a2, b2]) (8, 0)) (h3 : AV w D (.agg #[a3, b3]) (6, 0)) :
  AQ w D [.bool false, a2, b2, .int .i64 4, .int .i64 0, .bool false, a3, b3, .int .i64 3, .int .i64 0] QB.rules :=
 AQ.append (l := [⟨false, 8, 0, 4, 0⟩]) (xs := [.bool false, a2, b2, .int .i64 4, .int .i64 0]) rfl (AQ.single (Bx h2).1 (Bx h2).2) (AQ.single (z := ⟨false, 6, 0, 3, 0⟩) (Bx h3).1 (Bx h3).2)
theorem JO {w : World} {D : Nat -> Prop} {v : Value} {z : Nat × Nat} (h : AV w D v z) : AV w (fun _ => True) v z := by
 obtain ⟨a, b, e, h1, h2⟩ := h
 exact ⟨a, b, e, h1.imp fun _ _ _ => trivial, h2.imp fun _ _ _ => trivial⟩
theorem three_cc {w : World} {D : Nat -> Prop} {a1 b1 a2 b2 a3 b3 : Value} {x y z : Nat × Nat} (h1 : AV w D (.agg #[a1, b1]) x) (h2 : AV w D (.agg #[a2, b2]) y) (h3 : AV w D (.agg #[a3, b3]) z) : Ak w D [a1, b1, a2, b2, a3, b3] [x, y, z] :=
 Ak.append (xs := [a1, b1]) (l := [x]) rfl (G2 (Bx h1).1 (Bx h1).2) (Ak.append (xs := [a2, b2]) (l := [y]) rfl (G2 (Bx h2).1 (Bx h2).2) (G2 (Bx h3).1 (Bx h3).2))
theorem sl_tail {w : World} {D : Nat -> Prop} {b : Nat} {x0 x1 x2 x3 x4 : Value} {xs : List Value} (h : Sl w D 5 (.slice (some ⟨b, 0, none⟩) 3 3) 3 (x0 :: x1 :: x2 :: x3 :: x4 :: xs)) : Sl w D 5 (.slice (some ⟨b, 5, none⟩) 2 2) 2 xs := by
 obtain ⟨h1, A', c', e, h2, h3, h4⟩ := h
 injection e with e1 _ e3
 subst e1 e3
 obtain ⟨b', o', e, h5, h6, h7⟩ := h4 (by decide)
 injection e with e
 injection e with e1 e2
 subst e1 e2
 refine ⟨by simp at h1; omega, _, 2, rfl, Nat.le_refl _, by decide, fun _ => ⟨b, 5, rfl, h5, h6, fun j x hj => ?_⟩⟩
 have := h7 (j + 5) x (by simpa using hj)
 rw [show 0 + (j + 5) = 5 + j by omega] at this
 exact this
set_option maxHeartbeats 4000000 in
theorem lawake35_any {w0 w : World} {F : List Ai} {K : (Nat -> Prop) -> World -> Prop} (hS : St w0 w F K) (kt : ∀ D w, K D w -> Bu w /\ D 0) : Calls Tryz.prog 12 #[] w fun e w' => e = .returned (.bool true) /\ St w0 w' F K := by
 have KS := Lib.hid hS.stable
 go_enter Tryz.func12, Tryz.ntmps12
 go_wp2_with (first
  | (go_at_call 49; refine (hnew_any hS kt).mono ?_; clear hS; rintro e w_ ⟨p, rfl, hS⟩; obtain ⟨q, o, rfl, -⟩ := id hS.ro.2)
  | ((with_reducible refine qA 13 ?_); refine EB hS rfl _ 3 1 _ rfl Tryz.underlying45 #[.int .i64 1] (by kernel_rfl) 1 rfl (by decide) ?_; clear hS; intro g13 w_ hS; (try simp only [Act.put, List.setIfInBounds_toArray, List.set_cons_zero, List.set_cons_succ]))
  | (go_at_call 28; refine (JD _ [1] _ _ (Sl.of_own (hS.own 0 rfl))).mono ?_; rw [show ofN [1] = 2 from by decide]; rintro r_ w_ ⟨_, rfl, h1, hb_⟩; replace hS := hS.ret hb_ A5 h1; clear h1 hb_; obtain ⟨A14, c14, l14, rfl, -⟩ := hS.ro.2.parts; obtain ⟨n14, hn14⟩ : ∃ n, n = l14.length := ⟨_, rfl⟩; rw [<- hn14] at hS ⊢; clear hn14)
  | ((with_reducible refine qA 16 ?_); refine EB hS rfl _ 3 1 _ rfl Tryz.underlying45 #[.int .i64 1] (by kernel_rfl) 1 rfl (by decide) ?_; clear hS; intro g16 w_ hS; (try simp only [Act.put, List.setIfInBounds_toArray, List.set_cons_zero, List.set_cons_succ]))
  | ((with_reducible refine qA 17 ?_); refine BigFrame.wpList_want rfl fun _ hK => BP (f := 48) (first := #[]) (caps := #[]) (vs := [.slice (some ⟨g16, 0, none⟩) 1 1]) rfl rfl (by kernel_rfl) (by simp [Act.eval, Act.put]) (Dq (l := [1]) (N := 2) (Sl.of_own (hS.own 0 rfl)) (by decide)) fun e w' ⟨x_, he_, hx_, hb_⟩ => ⟨x_, he_, hK _ _ ?_⟩; clear hK; obtain ⟨ya_, na_, rfl, hy_, hn_⟩ := id hx_; obtain ⟨A17, m17, c17, rfl⟩ := hy_.shape; obtain ⟨B17, k17, d17, rfl⟩ := hn_.shape; replace hS := hS.ret hb_ Bw hx_; clear hx_ hb_ hy_ hn_ he_; (try simp only [Act.put, List.setIfInBounds_toArray, List.set_cons_zero, List.set_cons_succ]))
  | ((with_reducible refine qA 18 ?_); refine AL rfl _ _ rfl #[.bool false, .slice A17 m17 c17, .slice B17 k17 d17, .int .i64 2, .int .i64 0] (by kernel_rfl) ?_; (try simp only [Act.put, List.setIfInBounds_toArray, List.set_cons_zero, List.set_cons_succ]))
  | ((with_reducible refine qA 20 ?_); refine EB hS rfl _ 3 1 _ rfl Tryz.underlying45 #[.int .i64 3] (by kernel_rfl) 1 rfl (by decide) ?_; clear hS; intro g20 w_ hS; (try simp only [Act.put, List.setIfInBounds_toArray, List.set_cons_zero, List.set_cons_succ]))
  | ((with_reducible refine qA 21 ?_); refine BigFrame.wpList_want rfl fun _ hK => BP (f := 48) (first := #[]) (caps := #[]) (vs := [.slice (some ⟨g20, 0, none⟩) 1 1]) rfl rfl (by kernel_rfl) (by simp [Act.eval, Act.put]) (Dq (l := [3]) (N := 8) (Sl.of_own (hS.own 0 rfl)) (by decide)) fun e w' ⟨x_, he_, hx_, hb_⟩ => ⟨x_, he_, hK _ _ ?_⟩; clear hK; obtain ⟨ya_, na_, rfl, hy_, hn_⟩ := id hx_; obtain ⟨A21, m21, c21, rfl⟩ := hy_.shape; obtain ⟨B21, k21, d21, rfl⟩ := hn_.shape; replace hS := hS.ret hb_ Bw hx_; clear hx_ hb_ hy_ hn_ he_; (try simp only [Act.put, List.setIfInBounds_toArray, List.set_cons_zero, List.set_cons_succ]))
  | ((with_reducible refine qA 22 ?_); refine AL rfl _ _ rfl #[.bool false, .slice A21 m21 c21, .slice B21 k21 d21, .int .i64 4, .int .i64 0] (by kernel_rfl) ?_; (try simp only [Act.put, List.setIfInBounds_toArray, List.set_cons_zero, List.set_cons_succ]))
  | ((with_reducible refine qA 24 ?_); refine EB hS rfl _ 3 2 _ rfl Tryz.underlying45 #[.int .i64 1, .int .i64 2] (by kernel_rfl) 1 rfl (by decide) ?_; clear hS; intro g24 w_ hS; (try simp only [Act.put, List.setIfInBounds_toArray, List.set_cons_zero, List.set_cons_succ]))
  | ((with_reducible refine qA 25 ?_); refine BigFrame.wpList_want rfl fun _ hK => BP (f := 48) (first := #[]) (caps := #[]) (vs := [.slice (some ⟨g24, 0, none⟩) 2 2]) rfl rfl (by kernel_rfl) (by simp [Act.eval, Act.put]) (Dq (l := [1, 2]) (N := 6) (Sl.of_own (hS.own 0 rfl)) (by decide)) fun e w' ⟨x_, he_, hx_, hb_⟩ => ⟨x_, he_, hK _ _ ?_⟩; clear hK; obtain ⟨ya_, na_, rfl, hy_, hn_⟩ := id hx_; obtain ⟨A25, m25, c25, rfl⟩ := hy_.shape; obtain ⟨B25, k25, d25, rfl⟩ := hn_.shape; replace hS := hS.ret hb_ Bw hx_; clear hx_ hb_ hy_ hn_ he_; (try simp only [Act.put, List.setIfInBounds_toArray, List.set_cons_zero, List.set_cons_succ]))
  | ((with_reducible refine qA 26 ?_); refine AL rfl _ _ rfl #[.bool false, .slice A25 m25 c25, .slice B25 k25 d25, .int .i64 3, .int .i64 0] (by kernel_rfl) ?_; (try simp only [Act.put, List.setIfInBounds_toArray, List.set_cons_zero, List.set_cons_succ]))
  | ((with_reducible refine qA 27 ?_); refine st_litpS hS rfl _ 58 3 _ rfl Tryz.underlying28 [(0, .agg #[.bool false, .slice A17 m17 c17, .slice B17 k17 d17, .int .i64 2, .int .i64 0]), (1, .agg #[.bool false, .slice A21 m21 c21, .slice B21 k21 d21, .int .i64 4, .int .i64 0]), (2, .agg #[.bool false, .slice A25 m25 c25, .slice B25 k25 d25, .int .i64 3, .int .i64 0])] (by simp [Act.eval]) #[.bool false, .slice A17 m17 c17, .slice B17 k17 d17, .int .i64 2, .int .i64 0, .bool false, .slice A21 m21 c21, .slice B21 k21 d21, .int .i64 4, .int .i64 0, .bool false, .slice A25 m25 c25, .slice B25 k25 d25, .int .i64 3, .int .i64 0] (by kernel_rfl) 5 rfl (by decide) ?_; clear hS; intro g27 w_ hS; (try simp only [Act.put, List.setIfInBounds_toArray, List.set_cons_zero, List.set_cons_succ]))
  | ((with_reducible refine qA 29 ?_); refine EB hS rfl _ 3 1 _ rfl Tryz.underlying45 #[.int .i64 4] (by kernel_rfl) 1 rfl (by decide) ?_; clear hS; intro g29 w_ hS; (try simp only [Act.put, List.setIfInBounds_toArray, List.set_cons_zero, List.set_cons_succ]))
  | ((with_reducible refine qA 30 ?_); refine BigFrame.wpList_want rfl fun _ hK => BP (f := 48) (first := #[]) (caps := #[]) (vs := [.slice (some ⟨g29, 0, none⟩) 1 1]) rfl rfl (by kernel_rfl) (by simp [Act.eval, Act.put]) (Dq (l := [4]) (N := 16) (Sl.of_own (hS.own 0 rfl)) (by decide)) fun e w' ⟨x_, he_, hx_, hb_⟩ => ⟨x_, he_, hK _ _ ?_⟩; clear hK; obtain ⟨ya_, na_, rfl, hy_, hn_⟩ := id hx_; obtain ⟨A30, m30, c30, rfl⟩ := hy_.shape; obtain ⟨B30, k30, d30, rfl⟩ := hn_.shape; replace hS := hS.ret hb_ Bw hx_; clear hx_ hb_ hy_ hn_ he_; (try simp only [Act.put, List.setIfInBounds_toArray, List.set_cons_zero, List.set_cons_succ]))
  | ((with_reducible refine qA 31 ?_); refine st_litpS hS rfl _ 54 1 _ rfl Tryz.underlying29 [(0, .agg #[.slice A30 m30 c30, .slice B30 k30 d30])] (by simp [Act.eval]) #[.slice A30 m30 c30, .slice B30 k30 d30] (by kernel_rfl) 2 rfl (by decide) ?_; clear hS; intro g31 w_ hS; (try simp only [Act.put, List.setIfInBounds_toArray, List.set_cons_zero, List.set_cons_succ]))
  | ((with_reducible refine qA 32 ?_); refine AL rfl _ _ rfl #[.int .i64 4, .pointer (some ⟨q, 0, none⟩), .slice A14 n14 c14, .slice (some ⟨g27, 0, none⟩) 3 3, .slice none 0 0, .slice (some ⟨g31, 0, none⟩) 1 1] (by kernel_rfl) ?_; (try simp only [Act.put, List.setIfInBounds_toArray, List.set_cons_zero, List.set_cons_succ]))
  | ((with_reducible refine qA 2 ?_); refine qa hS #[.int .i64 0, .pointer none, .slice none 0 0, .slice none 0 0, .slice none 0 0, .slice none 0 0] ?_; clear hS; intro g2 w_ hS)
  | ((with_reducible refine qM ?_); (first | refine qS hS ?_ | refine qT hS ?_); clear hS; intro w_ hS; (try simp only [Act.put, Act.eval, zz, Value.cells] at hS))
  | ((with_reducible refine qA 34 ?_)
     replace hS := (hS.freeze 1 (by decide) rfl).freeze 2 (by decide) rfl
     obtain ⟨K1, k0, kpA, kpB, hS2⟩ : ∃ K1 : (Nat -> Prop) -> World -> Prop, Hid (∀ D w, K1 D w -> K D w) /\ Hid (∀ D w, K1 D w -> Bn w D (.agg #[.int .i64 4, .pointer (some ⟨q, 0, none⟩), .slice A14 n14 c14, .slice (some ⟨g27, 0, none⟩) 3 3, .slice none 0 0, .slice (some ⟨g31, 0, none⟩) 1 1]) QA) /\ Hid (∀ D w, K1 D w -> Bn w D (.agg #[.int .i64 4, .pointer (some ⟨q, 0, none⟩), .slice A14 n14 c14, .slice (some ⟨g27, 5, none⟩) 2 2, .slice none 0 0, .slice (some ⟨g31, 0, none⟩) 1 1]) QB) /\ St w0 w_ (.box g2 31 #[.int .i64 4, .pointer (some ⟨q, 0, none⟩), .slice A14 n14 c14, .slice (some ⟨g27, 0, none⟩) 3 3, .slice none 0 0, .slice (some ⟨g31, 0, none⟩) 1 1] :: F) K1 := ⟨_, Lib.hid fun D w h => h.1.1.1.1.1.1.1.1, Lib.hid fun D w h => ⟨_, _, _, _, _, rfl, h.1.1.1.1.1.1.1.2, h.1.1.1.1.1.1.2, ⟨_, h.2, cells3 h.1.1.1.1.1.2 h.1.1.1.1.2 h.1.1.1.2⟩, EN, _, h.1.2, G2 (Bx h.1.1.2).1 (Bx h.1.1.2).2⟩, Lib.hid fun D w h => ⟨_, _, _, _, _, rfl, h.1.1.1.1.1.1.1.2, h.1.1.1.1.1.1.2, ⟨_, sl_tail h.2, cells2 h.1.1.1.1.2 h.1.1.1.2⟩, EN, _, h.1.2, G2 (Bx h.1.1.2).1 (Bx h.1.1.2).2⟩, hS.sub (.cons_cons _ (.cons _ (.cons _ (.cons _ (.cons _ (.cons _ (List.Sublist.refl _)))))))⟩
     clear hS
     have hS := hS2
     clear hS2
     refine BigFrame.wpList_want rfl fun _ hK => AK rfl rfl (hS.box 0 rfl) Tryz.underlying31 rfl (by kernel_rfl) (hK _ _ ?_)))
 have kt1 := Lib.hid fun D w h => (kt _ _ (k0.out D w h)).1
 refine (Ee (kpA.out _ _ hS.ro) okQA (kt1.out _ _ hS.ro)).mono ?_
 rw [srchA]
 rintro e w_ ⟨_, rfl, ⟨pa, ca, rfl, h1, h2⟩, hb_⟩
 obtain ⟨Aa, la, rfl, -⟩ := id h1.shape
 obtain ⟨Ab, lb, rfl⟩ := Cp h2
 replace hS := hS.ret hb_ (Aq (by decide)) h1
 clear h1 h2 hb_
 go_wp2_with (first
  | ((with_reducible refine qA 40 ?_); refine BigFrame.wpList_want rfl fun _ hK => AK rfl rfl (hS.box 0 rfl) Tryz.underlying31 rfl (by kernel_rfl) (hK _ _ ?_))
  | (go_at_call 23; refine (JE okQA hS (fun D w h => kpA.out _ _ h.1) (fun D w h => kt1.out _ _ h.1)).mono ?_; rw [obtA]; clear hS; rintro e w_ ⟨y, rfl, hS⟩; obtain ⟨u7, rfl, hu7⟩ := Ch hS.ro.2)
  | ((with_reducible refine qA 7 ?_); refine qa hS #[.slice none 0 0] ?_; clear hS; intro g7 w_ hS)
  | ((with_reducible refine qm 27 ?_); refine B7 hS 0 rfl _ _ _ rfl _ _ rfl rfl _ _ rfl (by kernel_rfl) (by kernel_rfl) (by simpa using hu7) ?_; clear hS; intro w_ hS; (try simp only [Act.put, Act.eval, zz, Value.cells] at hS))
  | ((with_reducible refine qA 47 ?_); refine BigFrame.wpList_want rfl fun _ hK => AK rfl rfl (hS.box 1 rfl) Tryz.underlying31 rfl (by kernel_rfl) (hK _ _ ?_))
  | ((with_reducible refine qM ?_); (first | refine qS hS ?_ | refine qT hS ?_); clear hS; intro w_ hS; (try simp only [Act.put, Act.eval, zz, Value.cells] at hS))
  | ((with_reducible refine qK ?_); refine qC hS ?_))
 refine (Ee (kpB.out _ _ hS.ro.1.1) okQB (kt1.out _ _ hS.ro.1.1)).mono ?_
 rw [srchB]
 rintro e w_ ⟨_, rfl, ⟨pb, cb, rfl, h1, h2⟩, hb_⟩
 obtain ⟨Ac, lc, rfl, -⟩ := id h1.shape
 obtain ⟨Ad, ld, rfl⟩ := Cp h2
 replace hS := hS.ret hb_ AX h2
 clear h1 h2 hb_
 obtain ⟨K2, k1, k2, k3, k4, hS2⟩ : ∃ K2 : (Nat -> Prop) -> World -> Prop, Hid (∀ D w, K2 D w -> K1 D w) /\ Hid (∀ D w, K2 D w -> Sl w D 1 (.slice Aa 3 la) ([0, 2, 1] : List Int).length (AH [0, 2, 1])) /\ Hid (∀ D w, K2 D w -> A7 w D (.agg #[u7]) 30) /\ Hid (∀ D w, K2 D w -> AA w D (.slice Ad 3 ld) [(4, 0), (8, 0), (16, 0)]) /\ St w0 w_ _ K2 := ⟨_, Lib.hid fun D w h => h.1.1.1, Lib.hid fun D w h => h.1.1.2, Lib.hid fun D w h => h.1.2, Lib.hid fun D w h => h.2, hS⟩
 clear hS
 have hS := hS2
 clear hS2
 go_wp2_with fail
 refine CH [.n 0, .b true, .b true, .b true, .b true, .b true, .i (.slice Aa 3 la), .s (fun v w => Sl w (fun _ => True) 1 v ([0, 2, 1] : List Int).length (AH [0, 2, 1])) fun v w w' h hb => h.ext hb, .b true, .b true, .b true, .i (.agg #[u7]), .s (fun v w => Sl w (fun _ => True) 1 v ([1, 2, 3, 4] : List Int).length (AH [1, 2, 3, 4])) fun v w w' h hb => h.ext hb, .s (fun v w => A7 w (fun _ => True) v 30) fun v w w' h hb => h.ext hb, .b true, .b true, .b true, .n 0, .b true, .b true, .b true, .b false, .b true, .b true, .b true, .i (.slice Ad 3 ld), .i (.func (.func 48) #[] #[]), .s (fun v w => Sl w (fun _ => True) 1 v ([2] : List Int).length (AH [2])) fun v w w' h hb => h.ext hb, .s (fun v w => ∃ A n c B k d, v = .agg #[.slice A n c, .slice B k d] /\ AV w (fun _ => True) (.agg #[.slice A n c, .slice B k d]) (4, 0)) fun v w w' h hb => by obtain ⟨A, n, c, B, k, d, h1, h2⟩ := h; exact ⟨A, n, c, B, k, d, h1, h2.ext hb⟩, .i (.func (.func 48) #[] #[]), .s (fun v w => Sl w (fun _ => True) 1 v ([3] : List Int).length (AH [3])) fun v w w' h hb => h.ext hb, .s (fun v w => ∃ A n c B k d, v = .agg #[.slice A n c, .slice B k d] /\ AV w (fun _ => True) (.agg #[.slice A n c, .slice B k d]) (8, 0)) fun v w w' h hb => by obtain ⟨A, n, c, B, k, d, h1, h2⟩ := h; exact ⟨A, n, c, B, k, d, h1, h2.ext hb⟩, .i (.func (.func 48) #[] #[]), .s (fun v w => Sl w (fun _ => True) 1 v ([4] : List Int).length (AH [4])) fun v w w' h hb => h.ext hb, .s (fun v w => ∃ A n c B k d, v = .agg #[.slice A n c, .slice B k d] /\ AV w (fun _ => True) (.agg #[.slice A n c, .slice B k d]) (16, 0)) fun v w w' h hb => by obtain ⟨A, n, c, B, k, d, h1, h2⟩ := h; exact ⟨A, n, c, B, k, d, h1, h2.ext hb⟩, .s (fun v w => AA w (fun _ => True) v [(4, 0), (8, 0), (16, 0)]) fun v w w' h hb => h.ext hb, .b true, .b true, .b true] ⟨uM, uB (h := fun w hW hN => GY rfl), uM, uM, uP, uM, uM, ?_, ?_, uP, uM, uR (h := fun w hW hN => (hS.ext hW).box 0 rfl), ?_, ?_, ?_, uP, uM, uM, uB (h := fun w hW hN => GY rfl), uP, uM, uM, uU, uP, uM, uM, uM, ?_, ?_, uM, ?_, ?_, uM, ?_, ?_, ?_, ?_, uP, uA, trivial⟩ ?_
 ·refine uT fun b__ w hW hE K hK => ?_
  refine BE rfl Tryz.underlying45 (ps := [(0, .int .i64 0), (1, .int .i64 2), (2, .int .i64 1)]) (by simp [Act.eval]) (cells := #[.int .i64 0, .int .i64 2, .int .i64 1]) (by kernel_rfl) fun w' hX hb => hK _ _ ((Sl.of_box (n := 3) (size := 1) hX rfl (by omega)).imp fun _ _ _ => trivial) hb
 ·refine uT fun b__ w hW hE K hK => ?_
  have e59 := hE 59
  have e60 := hE 60
  exact AB rfl (by kernel_rfl) (by simp only [List.map_cons, List.map_nil, e59]) (GV _ _ [0, 2, 1] [0, 2, 1] _ _ _ (k2.out _ _ (hS.ext hW).ro) e60) fun v w' h hb => hK v w' h hb
 ·refine uT fun b__ w hW hE K hK => ?_
  refine BE rfl Tryz.underlying45 (ps := [(0, .int .i64 1), (1, .int .i64 2), (2, .int .i64 3), (3, .int .i64 4)]) (by simp [Act.eval]) (cells := #[.int .i64 1, .int .i64 2, .int .i64 3, .int .i64 4]) (by kernel_rfl) fun w' hX hb => hK _ _ ((Sl.of_box (n := 4) (size := 1) hX rfl (by omega)).imp fun _ _ _ => trivial) hb
 ·refine uT fun b__ w hW hE K hK => ?_
  have e65 := hE 65
  exact AB rfl (by kernel_rfl) (by simp only [List.map_cons, List.map_nil]) (JD _ [1, 2, 3, 4] _ _ e65) fun v w' h hb => hK v w' (by rw [show ofN [1, 2, 3, 4] = 30 from by decide] at h; exact h.imp fun _ _ _ => trivial) hb
 ·refine uT fun b__ w hW hE K hK => ?_
  have e64 := hE 64
  have e66 := hE 66
  exact AB rfl (by kernel_rfl) (by simp only [List.map_cons, List.map_nil, e64]) (EM _ _ 30 30 _ _ _ (k3.out _ _ (hS.ext hW).ro) e66) fun v w' h hb => hK v w' h hb
 ·refine uT fun b__ w hW hE K hK => ?_
  refine BE rfl Tryz.underlying45 (ps := [(0, .int .i64 2)]) (by simp [Act.eval]) (cells := #[.int .i64 2]) (by kernel_rfl) fun w' hX hb => hK _ _ ((Sl.of_box (n := 1) (size := 1) hX rfl (by omega)).imp fun _ _ _ => trivial) hb
 ·refine uT fun b__ w hW hE K hK => ?_
  have e79 := hE 79
  have e80 := hE 80
  refine BP (f := 48) (first := #[]) (caps := #[]) (vs := [b__.eval (.tmp 80)]) rfl e79 (by kernel_rfl) (by simp) (Dq (l := [2]) (N := 4) e80 (by decide)) fun e w' ⟨x_, he_, hx_, hb_⟩ => ⟨x_, he_, ?_⟩
  obtain ⟨ya_, na_, rfl, hy_, hn_⟩ := id hx_
  obtain ⟨A, m, c, rfl⟩ := hy_.shape
  obtain ⟨B, k, d, rfl⟩ := hn_.shape
  exact hK _ _ ⟨_, _, _, _, _, _, rfl, JO hx_⟩ hb_
 ·refine uT fun b__ w hW hE K hK => ?_
  refine BE rfl Tryz.underlying45 (ps := [(0, .int .i64 3)]) (by simp [Act.eval]) (cells := #[.int .i64 3]) (by kernel_rfl) fun w' hX hb => hK _ _ ((Sl.of_box (n := 1) (size := 1) hX rfl (by omega)).imp fun _ _ _ => trivial) hb
 ·refine uT fun b__ w hW hE K hK => ?_
  have e82 := hE 82
  have e83 := hE 83
  refine BP (f := 48) (first := #[]) (caps := #[]) (vs := [b__.eval (.tmp 83)]) rfl e82 (by kernel_rfl) (by simp) (Dq (l := [3]) (N := 8) e83 (by decide)) fun e w' ⟨x_, he_, hx_, hb_⟩ => ⟨x_, he_, ?_⟩
  obtain ⟨ya_, na_, rfl, hy_, hn_⟩ := id hx_
  obtain ⟨A, m, c, rfl⟩ := hy_.shape
  obtain ⟨B, k, d, rfl⟩ := hn_.shape
  exact hK _ _ ⟨_, _, _, _, _, _, rfl, JO hx_⟩ hb_
 ·refine uT fun b__ w hW hE K hK => ?_
  refine BE rfl Tryz.underlying45 (ps := [(0, .int .i64 4)]) (by simp [Act.eval]) (cells := #[.int .i64 4]) (by kernel_rfl) fun w' hX hb => hK _ _ ((Sl.of_box (n := 1) (size := 1) hX rfl (by omega)).imp fun _ _ _ => trivial) hb
 ·refine uT fun b__ w hW hE K hK => ?_
  have e85 := hE 85
  have e86 := hE 86
  refine BP (f := 48) (first := #[]) (caps := #[]) (vs := [b__.eval (.tmp 86)]) rfl e85 (by kernel_rfl) (by simp) (Dq (l := [4]) (N := 16) e86 (by decide)) fun e w' ⟨x_, he_, hx_, hb_⟩ => ⟨x_, he_, ?_⟩
  obtain ⟨ya_, na_, rfl, hy_, hn_⟩ := id hx_
  obtain ⟨A, m, c, rfl⟩ := hy_.shape
  obtain ⟨B, k, d, rfl⟩ := hn_.shape
  exact hK _ _ ⟨_, _, _, _, _, _, rfl, JO hx_⟩ hb_
 ·refine uT fun b__ w hW hE K hK => ?_
  have e81 := hE 81
  have e84 := hE 84
  have e87 := hE 87
  obtain ⟨A1, n1, c1, B1, k1, d1, f1, f2⟩ := e81
  obtain ⟨A2, n2, c2, B2, k2, d2, f3, f4⟩ := e84
  obtain ⟨A3, n3, c3, B3, k3, d3, f5, f6⟩ := e87
  refine BE rfl Tryz.underlying29 (ps := [(0, .agg #[.slice A1 n1 c1, .slice B1 k1 d1]), (1, .agg #[.slice A2 n2 c2, .slice B2 k2 d2]), (2, .agg #[.slice A3 n3 c3, .slice B3 k3 d3])]) (by simp [f1, f3, f5]) (cells := #[.slice A1 n1 c1, .slice B1 k1 d1, .slice A2 n2 c2, .slice B2 k2 d2, .slice A3 n3 c3, .slice B3 k3 d3]) (by kernel_rfl) fun w' hX hb => hK _ _ ⟨_, (Sl.of_box (n := 3) (size := 2) hX rfl (by omega)).imp fun _ _ _ => trivial, three_cc (f2.ext hb) (f4.ext hb) (f6.ext hb)⟩ hb
 ·refine uT fun b__ w hW hE K hK => ?_
  have e78 := hE 78
  have e88 := hE 88
  exact AB rfl (by kernel_rfl) (by simp only [List.map_cons, List.map_nil, e78]; rfl) (IC _ _ [(4, 0), (8, 0), (16, 0)] [(4, 0), (8, 0), (16, 0)] _ _ _ (k4.out _ _ (hS.ext hW).ro) e88) fun v w' h hb => hK v w' h hb
 ·intro vs wz hW hT
  obtain ⟨e53, e54, e55, e56, e57, e58, e59, e60, e61, e62, e63, e64, e65, e66, e67, e68, e69, e70, e71, e72, e73, e74, e75, e76, e77, e78, e79, e80, e81, e82, e83, e84, e85, e86, e87, e88, e89, e90, e0, -⟩ := hT
  have bx : (fun _ : Nat => True) 0 := trivial
  simp only [AF, Act.put, zz, ze]
  rw [e0]
  replace hS := hS.ext hW
  clear hW
  go_wp2_with fail
  go_ret
  exact ⟨rfl, (hS.sub (List.sublist_append_right [_, _] F)).mono KS.out fun D w h => k0.out _ _ (k1.out _ _ h)⟩
end
section
open Go.RowKit
set_option exponentiation.threshold 5000
theorem start_bytesT {W : World} {D : Nat -> Prop} {v : Value} {l : List Nat} (h : Bu W) (hv : Sl W D 1 v l.length (u8s l)) : ∃ K : (Nat -> Prop) -> World -> Prop, (∀ D w, K D w -> Bu w /\ D 0) /\ (∀ D w, K D w -> Sl w D 1 v l.length (u8s l)) /\ St W W [] K :=
 ⟨fun D w => (Bu w /\ D 0) /\ Sl w D 1 v l.length (u8s l), fun _ _ h => h.1, fun _ _ h => h.2, St.start (D := fun _ => True) (BG.and (Aq (by decide))) ⟨⟨h, trivial⟩, hv.imp fun _ _ _ => trivial⟩⟩
end
section
open Go.RowKit
attribute [local go_sem ↓] Go.wp_at_zero Go.wp_at_succ
set_option maxRecDepth 20000
set_option exponentiation.threshold 5000
theorem oneC_small {N : Nat} : Small (G8 N) := fun z hz => by
 obtain ⟨r, hr, rfl⟩ := List.mem_map.1 hz
 have : r < 64 := List.mem_range.1 (List.mem_filter.1 hr).1
 exact ⟨EG this, by show (0 : Nat) < Bc; unfold Bc; decide⟩
theorem srch_small {L : List (Nat × Nat)} {p : Ah} : Small (srchM L p).2.1 := by
 unfold srchM
 split
 ·exact fun z hz => by cases hz
 ·exact oneC_small
end
section
open Go.RowKit
attribute [local go_sem ↓] Go.wp_at_zero Go.wp_at_succ
set_option maxRecDepth 20000
set_option exponentiation.threshold 5000
set_option maxHeartbeats 4000000 in
theorem IL (v : Value) (l : List Nat) (W : World) (D : Nat -> Prop) (hl : ∀ x ∈ l, x < 256) (hv : Sl W D 1 v l.length (u8s l)) (hT : Bu W) : Calls Tryz.prog 10 #[v] W (AP (fun x _ => x = .bool true) W) := by
 obtain ⟨K, kt, k1, hS⟩ := start_bytesT hT hv
 clear hv hT
 have HL := Lib.hid hl
 clear hl
 go_enter Tryz.func10, Tryz.ntmps10
 go_wp2_with (first
  | (go_at_call 12; refine (lawake35_any hS kt).mono ?_; clear hS; rintro e w_ ⟨rfl, hS⟩)
  | (go_at_call 13; refine (lmade_any true HL.out hS k1 kt).mono ?_; clear hS; rintro e w_ ⟨x, u, rfl, p, ⟨L, R, hM⟩, hpl, hS⟩; replace hM := Lib.hid hM; replace hpl := Lib.hid (hpl rfl); obtain ⟨xs, rfl, hx6, hx1⟩ := hS.ro.2.1.cells; replace hx6 := Lib.hid hx6; obtain ⟨us, rfl, hu6, hu1⟩ := hS.ro.2.2.cells; replace hu6 := Lib.hid hu6; have HC0 := Lib.hid hM.out.check)
  | (go_at_call 41; refine (of_slice_any hM.out.ok hS (fun D w h => h.2.1) (fun D w h => (kt D w h.1).1)).mono ?_; rw [HC0.out]; clear hS; rintro e w_ ⟨y, kk, rfl, hS⟩; obtain ⟨ys, rfl, hy6, hy1⟩ := hS.ro.1.2.cells; replace hy6 := Lib.hid hy6)
  | ((with_reducible refine qA 3 ?_); refine qa hS #[.int .i64 0, .pointer none, .slice none 0 0, .slice none 0 0, .slice none 0 0, .slice none 0 0] ?_; clear hS; intro g3 w_ hS)
  | ((with_reducible refine qA 4 ?_); refine qa hS #[.int .i64 0, .slice none 0 0, .int .u64 0, .slice none 0 0, .slice none 0 0, .slice none 0 0] ?_; clear hS; intro g4 w_ hS)
  | ((with_reducible refine qA 6 ?_); refine qa hS #[.int .i64 0, .pointer none, .slice none 0 0, .slice none 0 0, .slice none 0 0, .slice none 0 0] ?_; clear hS; intro g6 w_ hS)
  | ((with_reducible refine qm 37 ?_); refine B7 hS 0 rfl _ _ _ rfl _ _ rfl rfl _ _ rfl (by rw [hu6.out]; kernel_rfl) (by rw [hu6.out]; rfl) hu1 ?_; clear hS; intro w_ hS; (try simp only [Act.put, Act.eval, zz, Value.cells] at hS))
  | ((with_reducible refine qm 31 ?_); (first | (refine B7 hS 1 rfl _ _ _ rfl _ _ rfl rfl _ _ rfl (by rw [hx6.out]; kernel_rfl) (by rw [hx6.out]; rfl) hx1 ?_) | (refine B7 hS 0 rfl _ _ _ rfl _ _ rfl rfl _ _ rfl (by rw [hy6.out]; kernel_rfl) (by rw [hy6.out]; rfl) hy1 ?_)); clear hS; intro w_ hS; (try simp only [Act.put, Act.eval, zz, Value.cells] at hS))
  | ((with_reducible refine qA 29 ?_); refine BigFrame.wpList_want rfl fun _ hK => AK rfl rfl (hS.box 1 rfl) Tryz.underlying31 rfl (by rw [hx6.out]; kernel_rfl) (hK _ _ ?_))
  | ((with_reducible refine qA 41 ?_); refine BigFrame.wpList_want rfl fun _ hK => AK rfl rfl (hS.box 2 rfl) Tryz.underlying31 rfl (by rw [hx6.out]; kernel_rfl) (hK _ _ ?_)))
 obtain ⟨fd, hfd⟩ : ∃ fd, rchB p = fd := ⟨_, rfl⟩
 obtain ⟨PL, hPL⟩ : ∃ PL, (srchM L p).1 = PL := ⟨_, rfl⟩
 obtain ⟨PM, hPM⟩ : ∃ PM, (srchM L (ofP p)).1 = PM := ⟨_, rfl⟩
 obtain ⟨CB, hCB⟩ : ∃ CB, CB = if fd = true then [] else G8 (BB (relM L p) (uppM L p)) := ⟨_, rfl⟩
 have HS1 : Hid (srchM L p = (PL, CB, fd)) := Lib.hid (by
  have h3 := ER hM.out hpl.out
  rw [hfd] at h3
  cases fd
  ·have h2 := srch_no hM.out hpl.out hfd
   rw [h2] at hPL ⊢
   rw [hCB, <- hPL]; rfl
  ·have h2 := srch_yes hM.out hpl.out hfd
   rw [<- hPL, hCB, <- h3, if_pos rfl, <- h2])
 have HS2 : Hid (srchM L (ofP p) = (PM, CB, fd)) := Lib.hid (by
  have hf2 := F5 hM.out hpl.out
  have hr2 := (rch_slice hM.out hpl.out).trans hfd
  have h3 := ER hM.out.slice hf2
  rw [hr2] at h3
  cases fd
  ·have h2 := srch_no hM.out.slice hf2 hr2
   rw [h2] at hPM ⊢
   rw [hCB, <- hPM, minus_slice hM.out]; rfl
  ·have h2 := srch_yes hM.out.slice hf2 hr2
   rw [<- hPM, hCB, <- h3, if_pos rfl, <- h2])
 have HS0 : Hid (srchS p = (PL, CB, fd, 0)) := Lib.hid (by unfold srchS; rw [if_pos hM.out.check, hM.out.links, hpl.out]; dsimp only; rw [HS1.out, if_pos rfl])
 have HS3 : Hid (srchS (ofP p) = (PM, CB, fd, 0)) := Lib.hid (by unfold srchS; rw [if_pos hM.out.slice.check, hM.out.slice.links, F5 hM.out hpl.out]; dsimp only; rw [HS2.out, if_pos rfl])
 have HSC : Hid (Small CB) := Lib.hid (by
  have h := srch_small (L := L) (p := p)
  rw [HS1.out] at h; exact h)
 have HI : Hid (fd = false -> invB p R CB = true) := Lib.hid (fun h => by
  subst h
  rw [hCB]
  exact invB_true (sat_inv hM.out hpl.out hfd))
 have HEM : Hid (fd = true -> CB = []) := Lib.hid (fun h => by rw [hCB, if_pos h])
 clear hfd hPL hPM hCB
 refine (Ee hS.ro.1.1.2.1 hM.out.ok (kt _ _ hS.ro.1.1.1).1).mono ?_
 rw [HS0.out]
 rintro e w_ ⟨_, rfl, ⟨pa, ca, rfl, h1, h2⟩, hb_⟩
 replace hS := hS.ret hb_ ((Aq (by decide)).and AX) ⟨h1, h2⟩
 obtain ⟨Aa, la, rfl, -⟩ := id h1.shape
 obtain ⟨Ab, lb, rfl⟩ := Cp h2
 clear h1 h2 hb_
 go_wp2_with (first
  | ((with_reducible refine qA 48 ?_); refine BigFrame.wpList_want rfl fun _ hK => AK rfl rfl (hS.box 0 rfl) Tryz.underlying31 rfl (by rw [hy6.out]; kernel_rfl) (hK _ _ ?_)))
 refine (Ee hS.ro.1.1.2 hM.out.slice.ok (kt _ _ hS.ro.1.1.1.1).1).mono ?_
 rw [HS3.out]
 rintro e w_ ⟨_, rfl, ⟨pb, cb, rfl, h1, h2⟩, hb_⟩
 replace hS := hS.ret hb_ ((Aq (by decide)).and AX) ⟨h1, h2⟩
 obtain ⟨Ac, lc, rfl, -⟩ := id h1.shape
 obtain ⟨Ad, ld, rfl⟩ := Cp h2
 clear h1 h2 hb_
 cases fd
 ·have HI2 := Lib.hid (HI.out rfl)
  go_wp2_with (first
   | ((with_reducible refine qA 71 ?_); refine BigFrame.wpList_want rfl fun _ hK => AK rfl rfl (hS.box 1 rfl) Tryz.underlying37 rfl (by rw [hu6.out]; kernel_rfl) (hK _ _ ?_))
   | ((with_reducible refine qA 85 ?_); refine BigFrame.wpList_want rfl fun _ hK => AK rfl rfl (hS.box 1 rfl) Tryz.underlying37 rfl (by rw [hu6.out]; kernel_rfl) (hK _ _ ?_))
   | (go_at_call 39; refine (rsrch_any hM.out hpl.out hS (fun D w h => h.1.1.1.1.2.2)).mono ?_; rw [HS1.out]; clear hS; rintro e w_ ⟨a2, c2, rfl, hS⟩; obtain ⟨Ae, le, rfl, -⟩ := id hS.ro.2.1.shape; obtain ⟨Ag, lg, rfl, -⟩ := Sl.shape (hS.ro.2.2 : Sl _ _ _ _ _ _))
   | (go_at_call 42; refine (IC _ _ CB CB _ _ _ hS.ro.1.1.2.2 hS.ro.1.2.2).mono ?_; rw [show (CB == CB) = true from beq_self_eq_true _]; rintro r_ w_ ⟨_, rfl, rfl, hb_⟩; replace hS := hS.ext hb_; clear hb_)
   | (go_at_call 40; refine (lsame_any _ _ CB CB _ _ _ hS.ro.1.1.2.2 hS.ro.2.2 HSC.out HSC.out (kt _ _ hS.ro.1.1.1.1.1.1).1).mono ?_; rw [show (CB == CB) = true from beq_self_eq_true _]; rintro r_ w_ ⟨_, rfl, rfl, hb_⟩; replace hS := hS.ext hb_; clear hb_)
   | (go_at_call 44; refine (rinv_any hS.ro.1.1.1.1.1.2.2 hM.out hS.ro.2.2 HSC.out).mono ?_; rw [HI2.out]; rintro r_ w_ ⟨_, rfl, rfl, hb_⟩; replace hS := hS.ext hb_; clear hb_))
  go_ret
  exact AP.mk rfl hS.below
 ·obtain rfl := HEM.out rfl
  go_wp2_with fail
  go_ret
  exact AP.mk rfl hS.below
end
section
open Go.RowKit Go.ChangeShapes Go.WideShapes
section
variable {H : Type} {enc : TypeId × Value -> H} {P : Program} {w : World} {base : Nat} {sp : Nat -> Bool} {held : Bool}
theorem sl_of_trod {t e : TypeId} {size fuel : Nat} {cs : List Value} {x : DataW H × List MemPlace} (ht : P.underlying t = some (.slice e)) (hc : P.cellsOf e = size) (hsz : 0 < size) (h : DataW.trod enc P w base sp held fuel t cs = some x) :
  ∃ v n xs, cs = [v] /\ Sl w (fun _ => True) size v n xs /\ ∀ k, k < n -> ∃ f' y, DataW.trod enc P w base sp held f' e ((xs.drop (k * size)).take size) = some y := by
 rcases DataW.trod_slice ht h with ⟨rfl, _⟩ | ⟨a, len, cap, elems, rest, n, _, rfl, _, hb, hl, hm, hlen, hel, _⟩
 ·exact ⟨_, 0, [], rfl, ⟨by simp, none, 0, rfl, Nat.le_refl _, Nat.zero_le _, fun h => by omega⟩, fun k hk => by omega⟩
 ·rw [hc] at hel
  have each : ∀ k, k < len -> ∃ ck y, w.cells? base (a.add (k * size)) size = some ck /\ DataW.trod enc P w base sp held n e ck = some y := by
   intro k hk
   have h1 := hel k hk
   rw [List.getElem?_eq_getElem (by omega)] at h1
   obtain ⟨ck, h2, h3⟩ := Option.bind_eq_some_iff.1 h1
   exact ⟨ck, _, h2, h3⟩
  have hadd : ∀ i j, (a.add i).add j = a.add (i + j) := by
   intro i j
   unfold Addr.add
   by_cases h1 : i = 0 <;> by_cases h2 : j = 0 <;> simp [h1, h2, Nat.add_assoc]
  have cell : ∀ j, j < len * size -> ∃ x, w.cell? (a.add j) = some x := by
   intro j hj
   have hk : j / size < len := (Nat.div_lt_iff_lt_mul hsz).2 hj
   obtain ⟨ck, y, h1, h2⟩ := each _ hk
   obtain ⟨_, h3, h4⟩ := World.cells?_some h1
   have h5 := h4 (j % size) (Nat.mod_lt _ hsz)
   rw [hadd, Nat.mul_comm, Nat.div_add_mod] at h5
   rw [h5, List.getElem?_eq_getElem (by rw [h3]; exact Nat.mod_lt _ hsz)]
   exact ⟨_, rfl⟩
  refine ⟨.slice (some a) len cap, len, (List.range (len * size)).map fun j => (w.cell? (a.add j)).getD undef, rfl, ⟨by simp, some a, cap, rfl, hl, hm, fun h0 => ?_⟩, fun k hk => ?_⟩
  ·obtain ⟨x0, hx0⟩ := cell 0 (Nat.mul_pos h0 hsz)
   obtain ⟨b, o, s⟩ := a
   have hs : s = none := cell_spot hx0
   subst hs
   refine ⟨b, o, rfl, trivial, ?_, fun j x hx => ?_⟩
   ·have := hx0
    unfold World.cell? at this
    simp only [Addr.add] at this
    rcases Nat.lt_or_ge b w.heap.size with hlt | hge
    ·exact hlt
    ·simp [Array.getElem?_eq_none hge] at this
   ·simp only [List.getElem?_map, Option.map_eq_some_iff] at hx
    obtain ⟨j', hj', rfl⟩ := hx
    have hjl := (List.getElem?_eq_some_iff.1 hj').1
    rw [List.getElem?_range (by simpa using hjl)] at hj'
    obtain rfl := Option.some.inj hj'
    obtain ⟨y, hy⟩ := cell j (by simpa using hjl)
    rw [hy]
    have e : (⟨b, o, none⟩ : Addr).add j = ⟨b, o + j, none⟩ := by
     unfold Addr.add; split <;> simp [*]
    rw [e] at hy
    exact hy
  ·obtain ⟨ck, y, h1, h2⟩ := each k hk
   obtain ⟨_, h3, h4⟩ := World.cells?_some h1
   refine ⟨n, y, ?_⟩
   rw [<- h2]
   congr 1
   have hle : k * size + size <= len * size := by
    rw [<- Nat.succ_mul]; exact Nat.mul_le_mul_right _ hk
   apply List.ext_getElem?
   intro i
   rcases Nat.lt_or_ge i size with hi | hi
   ·rw [List.getElem?_take_of_lt hi, List.getElem?_drop, List.getElem?_map, List.getElem?_range (by omega)]
    have h5 := h4 i hi
    rw [hadd] at h5
    simp only [Option.map_some]
    rw [h5, List.getElem?_eq_getElem (by omega)]
    simp
   ·rw [List.getElem?_eq_none (by simp; omega), List.getElem?_eq_none (by omega)]
end
theorem u8_nat {n : Int} (h : (Lit.int .u8 n).wf = true) : ∃ m : Nat, n = (m : Int) /\ m < 256 := by
 have := bounds_u8 h
 exact ⟨n.toNat, by omega, by omega⟩
end
section
open Go.ChangeShapes Go.WideShapes Go.ChangeAt Go.RowKit
set_option maxRecDepth 20000 in
theorem bytes_open {H : Type} {enc : TypeId × Value -> H} {W : World} {r : Reach} {b0 base : Nat} {sp : Nat -> Bool} {held : Bool} {v : Value} {d : DataW H} {p : List MemPlace} (hv : Value.okWide Tryz.prog W r b0 22 v) (h : DataW.Trod enc Tryz.prog W base sp held 22 v d p) :
  ∃ l : List Nat, (∀ x ∈ l, x < 256) /\ Sl W (fun _ => True) 1 v l.length (u8s l) := by
 obtain ⟨a0, len0, cap0, rfl⟩ := okWide_slice Tryz.underlying22 hv
 obtain ⟨fuel, hf⟩ := h
 obtain ⟨v, n, xs, e, hs, he⟩ := sl_of_trod Tryz.underlying22 (size := 1) (by kernel_rfl) (by decide) hf
 have hl := hs.1
 have : ∃ zs : List Nat, (∀ x ∈ zs, x < 256) /\ xs = u8s zs := by
  have : ∀ v ∈ xs, ∃ z : Nat, z < 256 /\ v = .int .u8 (z : Nat) := by
   intro v hv
   obtain ⟨k, hk, hkv⟩ := List.mem_iff_getElem.1 hv
   obtain ⟨f', y, hy⟩ := he k (by omega)
   obtain ⟨z, hz, _, hw⟩ := DataW.trod_int Tryz.underlying5 hy
   obtain ⟨m, rfl, hm⟩ := u8_nat hw
   have h0 := congrArg (·[0]?) hz
   simp only [Nat.mul_one, List.getElem?_take_of_lt Nat.zero_lt_one, List.getElem?_drop, Nat.add_zero] at h0
   rw [List.getElem?_eq_getElem hk, hkv] at h0
   exact ⟨m, hm, by simpa using h0⟩
  clear hs he hl
  induction xs with
  | nil => exact ⟨[], fun x hx => by simp at hx, rfl⟩
  | cons a r ih =>
   obtain ⟨zs, hzs, rfl⟩ := ih fun v hv => this v (List.mem_cons_of_mem _ hv)
   obtain ⟨z, hz, rfl⟩ := this a List.mem_cons_self
   exact ⟨z :: zs, fun x hx => by rcases List.mem_cons.1 hx with rfl | hx; exact hz; exact hzs x hx, rfl⟩
 obtain ⟨zs, hzs, rfl⟩ := this
 have hz : zs.length = n := by simpa [u8s] using hl
 obtain rfl : v = .slice a0 len0 cap0 := by simpa [Value.cells] using e.symm
 exact ⟨zs, hzs, hz ▸ hs⟩
end
section
open Go.RowKit Go.ChangeShapes Go.WideShapes
theorem boxF_of_reads {w : World} {n : String} {g : Nat} {t e : TypeId} {m : Nat} {k : IntKind} {zs : List Int} (hg : Tryz.prog.globalNamed n = some g) (hty : (Tryz.prog.globals[g]?).map (·.type) = some t)
  (ht : Tryz.prog.underlying t = some (.array m e)) (he : Tryz.prog.underlying e = some (.int k)) (hce : Tryz.prog.cellsOf e = 1) (hct : Tryz.prog.cellsOf t = m) (h : Lib.VarReads Tryz.prog w n (Lib.tabData k zs)) :
  ∃ t, BoxF w g t (zs.map fun z => Value.int k z).toArray := by
 obtain ⟨g', t', cs, fuel, p, hg', hty', hvar, hd⟩ := h
 obtain rfl := Option.some.inj (hg.symm.trans hg')
 obtain rfl := Option.some.inj (hty.symm.trans hty')
 have hcs := Lib.cells_of_tab ht he hce hct hd
 simp only [World.var?, hg, Option.bind_some] at hvar
 split at hvar
 ·rename_i cs' t'' f heq
  obtain rfl := Option.some.inj hvar
  refine ⟨(t'', f), ?_⟩
  rw [<- hcs]
  exact heq
 ·cases hvar
end
section
open Go.RowKit Go.ChangeShapes Go.WideShapes
theorem dtab_of_reads {w : World} (h1 : Lib.VarReads Tryz.prog w "math/bits.deBruijn64tab" Rows.laid_math_bits_deBruijn64tab) : Bu w := by
 have e1 : (Rows.laid_math_bits_deBruijn64tab : DataW Unit) = Lib.tabData .u8 (dbL.map fun x : Nat => (x : Int)) := by kernel_rfl
 rw [e1] at h1
 obtain ⟨t, b1⟩ := boxF_of_reads (g := 0) (by kernel_rfl) (t := 175) (by kernel_rfl) Tryz.underlying175 Tryz.underlying5 (by kernel_rfl) (by kernel_rfl) h1
 have e : (List.map (fun z => Value.int .u8 z) (dbL.map fun x : Nat => (x : Int))) = u8s dbL := by simp [u8s]
 rw [e] at b1
 intro q hq
 rw [b1.cell, List.getElem?_toArray]
 exact u8s_at _ _ hq
end
section
open Go.ChangeShapes Go.WideShapes Go.ChangeAt Go.RowKit
theorem IK (W : World) (h : laidMetH Tryz.prog Rows.saturateInvariantsRow.laid W) : Bu W := by
 have h' : laidMetH Tryz.prog [("math/bits.deBruijn64tab", Rows.laid_math_bits_deBruijn64tab)] W := h
 rw [MakeChecks.laidMetH_plain _ _ _ (by kernel_rfl)] at h'
 exact dtab_of_reads (Lib.laidMet.reads h' (.head _))
noncomputable def tinvStart (os : Os) : World := World.laidAll Tryz.prog os Rows.saturateInvariantsRow.laid
theorem J8 (os : Os) (args : Array Value) : laidMetH Tryz.prog Rows.saturateInvariantsRow.laid ((tinvStart os).forCall (fun _ _ => 0) ⟨#[], args, []⟩).memory := by
 rw [MakeChecks.laidMetH_plain _ _ _ (by kernel_rfl)]
 exact laidMet_laidAll _ (by kernel_rfl) (by kernel_rfl)
theorem tinv_own : ownKnob Tryz.prog.godebug = none := by kernel_rfl
theorem tinv_laidOut : laidOutB Tryz.prog = true := by kernel_rfl
set_option maxRecDepth 100000 in
theorem tinv_lifted (os : Os) (started : os.Started) (H : Type) (enc : TypeId × Value -> H) :
  ReturnsInHanded {} Tryz.checked os 10 .any (fun w args => (Rows.saturateInvariantsSpec.pre enc Tryz.prog Tryz.f10 [] false w args /\ laidMetH Tryz.prog Rows.saturateInvariantsRow.laid w) /\ sizedMet enc Tryz.prog Tryz.f10 (OpenSpec.ofChange Rows.saturateInvariantsSpec) false w args)
   (Rows.saturateInvariantsSpec.post enc Tryz.prog Tryz.f10 false true false false) := by
 refine returnsInHanded_of_change_and (C := Tryz.checked) (X := fun w _ => laidMetH Tryz.prog Rows.saturateInvariantsRow.laid w) (fun _ _ _ hh h => h.of_heap hh) tinv_own started (by kernel_rfl) Tryz.func10
  (ChangeSpec.witness_shaped (enc := enc) (C := Tryz.checked) (os := os) (X := fun w _ => laidMetH Tryz.prog Rows.saturateInvariantsRow.laid w) false (tinvStart os) #[.slice none 0 0] 8 (World.laidAll_os _ _ _) (World.shaped_of_ZipB (by kernel_rfl) (by kernel_rfl)) (by kernel_rfl) (by kernel_rfl) (by kernel_rfl) (J8 os _)) ?_
 intro W base args ds gs before hval0 hW _ _ hL _
 have hval : ∀ (j : Nat) t v, Tryz.f10.params[j]? = some t -> args[j]? = some v -> Value.okWide Tryz.prog W .any base t v := hval0
 have hW' := hW
 obtain ⟨p, q, hA0, hV, rfl, hfz, hnd⟩ := hW
 have hA : DataW.TrodAll enc Tryz.prog W 0 (fun _ => true) true Tryz.f10.params.toList args.toList ds p := hA0
 rw [Tryz.params10] at hA hval
 obtain ⟨v0, d0, rfl, rfl, h0⟩ := trodAll_one hA
 obtain ⟨rfl, rfl⟩ := trodVars_none hV
 obtain ⟨l, hl, hs⟩ := bytes_open (hval 0 _ v0 rfl rfl) h0
 have hT := IK W hL
 have lt : ∀ z ∈ p, z.block < W.heap.size := fun z hz => by simpa using hW'.lt z (by simpa using hz)
 refine (IL v0 l W _ hl hs hT).mono fun E W' he => ?_
 obtain ⟨r, rfl, rfl, hb⟩ := he
 refine ⟨_, rfl, _, _, _, [], p, [], hW', ?_, ?_, ?_, hb.frame _, fun h => by cases h⟩
 ·exact trodAll_mk1 (shut_bool Tryz.underlying4 true)
 ·rw [Tryz.params10]
  exact trodAll_mk1 (Below.trod tinv_laidOut (by kernel_rfl) (of_decide_eq_true (by kernel_rfl)) h0 hb fun z hz => lt z (hz))
 ·rfl
theorem tinv_holds : Rows.SaturateInvariantsSaid :=
 OpenClaim.holds_of_wide 10 Tryz.f10 rfl rfl rfl rfl rfl rfl rfl ⟨rfl, rfl, rfl, rfl, rfl⟩ rfl rfl rfl rfl rfl (by kernel_rfl) Tryz.func10 (by kernel_rfl)
  (of_decide_eq_true (by kernel_rfl)) (by unfold Func.isWrapper; rw [if_neg (by decide +kernel)]; exact ⟨rfl, rfl⟩)
  (fun os started H enc _ => tinv_lifted os started H enc)
end
section
open Go
theorem tinv_card : Rows.SaturateInvariantsCardSaid :=
 Claim7.holds_tied_plain_at .later [] [.data] true (true, "c3149becd198d29015449e0d705ae27b5a03ac5ddd59b56b3bc98e4a229c6d98") false
  tinv_holds (fun _ h => by cases h) (by kernel_rfl) (fun _ h => by cases h) saturateInvariants_row_tie rfl ⟨rfl, rfl⟩ (by kernel_rfl) rfl
  (fun f fn hf hfn => by
   obtain rfl : f = 10 := Option.some.inj ((show Tryz.prog.funcNamed "arbac/arbaclaw35.SaturateInvariants" = some 10 by kernel_rfl).symm.trans hf) |>.symm
   obtain rfl : fn = Tryz.f10 := (Option.some.inj (Tryz.func10.symm.trans hfn)).symm
   exact ⟨by kernel_rfl, fun j t ht => by
    rw [Tryz.params10] at ht
    have h3 : t = 22 := by
     rcases j with _ | j
     ·simp at ht; simp [<- ht]
     ·simp at ht
    rcases h3 with rfl
    ·exact (show Tryz.prog.wantsStandIn 22 = false by kernel_rfl)⟩)
  (by kernel_rfl)
end
end Go.Proofs.YtjjhcdkamohgnaaGreatDoor
namespace Go.Proofs.YtjjhcdkamohgnaaGreatDoor
#print axioms tinv_card
end Go.Proofs.YtjjhcdkamohgnaaGreatDoor
