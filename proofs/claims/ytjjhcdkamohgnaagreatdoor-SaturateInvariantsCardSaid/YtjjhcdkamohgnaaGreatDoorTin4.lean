/-
  What the statement needs, part 4.
-/
import Derived.Deep.LoopGhost
import Derived.Lib.MinMax
import Derived.Laws.BitsAllLaws
import Derived.Test.YtjjhcdkamohgnaaGreatDoorTin3
namespace Go.Proofs.YtjjhcdkamohgnaaGreatDoor
section
open Go.RowKit
attribute [local go_sem ↓] Go.wp_at_zero Go.wp_at_succ
set_option maxRecDepth 20000
set_option exponentiation.threshold 5000
noncomputable def checkE (p : Ah) : Int := match p.links with
 | none => 1
 | some L => if p.roles < 1 \/ 63 < p.roles then 1 else if 64 < p.rules.length \/ 2000 < p.never.length \/ 2000 < p.goal.length then 3
  else if E8 p L (Dk p.roles.toNat) = false then 4 else if (p.cubes.any fun z => z.1 &&& z.2 != 0) = true \/ p.rules.all revB = false then 6
  else if goodB p p.start = false then 7 else 0
theorem cempty_any {w : World} {D : Nat -> Prop} {x : Value} {z : Nat × Nat} (hx : AV w D x z) : Calls Tryz.prog 69 #[x] w (AP (fun u _ => u = .bool (z.1 &&& z.2 != 0)) w) := by
 obtain ⟨a, b, rfl, ha, hb⟩ := hx
 exact JQ a b _ _ w D D ha hb
set_option maxHeartbeats 2000000 in
theorem CA {w0 : World} {D : Nat -> Prop} {v : Value} {p : Ah} (hp : Bn w0 D v p) (hP : p.Ok) (hT : Bu w0) : Calls Tryz.prog 31 #[v] w0 (AP (fun x _ => x = .int .i64 (checkE p)) w0) := by
 obtain ⟨R, lk, st, rl, nl, gl⟩ := p
 have HP := Lib.hid hP
 obtain ⟨hP1, hP2, hP3, -⟩ := hP
 dsimp only at hP1 hP2 hP3
 obtain ⟨lp, s, rv, nv, gv, rfl, h1, h2, h3, h4, h5⟩ := hp
 dsimp only at h1 h2 h3 h4 h5 ⊢
 obtain ⟨Cs, ns, cs, rfl⟩ := h2.shape
 obtain ⟨Ar, cr, rfl, _, _⟩ := h3.shape
 obtain ⟨An, cn, rfl, _, _⟩ := h4.shape
 obtain ⟨Ag, cg, rfl, _, _⟩ := h5.shape
 obtain ⟨K, kp, kh, ks, kr, kt, hS⟩ : ∃ K : (Nat -> Prop) -> World -> Prop, (∀ D w, K D w -> Bn w D (.agg #[.int .i64 R, lp, .slice Cs ns cs, .slice Ar rl.length cr, .slice An nl.length cn, .slice Ag gl.length cg]) ⟨R, lk, st, rl, nl, gl⟩) /\ (∀ D w, K D w -> Gx w D lp lk) /\ (∀ D w, K D w -> A7 w D (.agg #[.slice Cs ns cs]) st) /\ (∀ D w, K D w -> Bq w D (.slice Ar rl.length cr) rl) /\ (∀ D w, K D w -> Bu w) /\ St w0 w0 [] K :=
  ⟨fun D w => ((Gx w D lp lk /\ A7 w D (.agg #[.slice Cs ns cs]) st) /\ Bq w D (.slice Ar rl.length cr) rl /\ AA w D (.slice An nl.length cn) nl /\ AA w D (.slice Ag gl.length cg) gl) /\ (Bu w /\ D 0), fun _ _ h => ⟨_, _, _, _, _, rfl, h.1.1.1, h.1.1.2, h.1.2.1, h.1.2.2.1, h.1.2.2.2⟩, fun _ _ h => h.1.1.1, fun _ _ h => h.1.1.2, fun _ _ h => h.1.2.1, fun _ _ h => h.2.1,
   St.start (D := fun _ => True) (((C2.and A5).and (Bh.and (AX.and AX))).and BG) ⟨⟨⟨C2 D _ w0 w0 h1 (Nat.le_refl _) (fun _ _ _ _ h => h) fun _ _ _ _ => trivial, h2.imp fun _ _ _ => trivial⟩, Bh D _ w0 w0 h3 (Nat.le_refl _) (fun _ _ _ _ h => h) fun _ _ _ _ => trivial, h4.imp fun _ _ _ => trivial, h5.imp fun _ _ _ => trivial⟩, hT, trivial⟩⟩
 clear h1 h2 h3 h4 h5 hT
 cases lk with
 | none =>
  obtain rfl := kh _ _ hS.ro
  go_enter Tryz.func31, Tryz.ntmps31
  go_wp2_with (first
   | ((with_reducible refine qA 1 ?_); refine Az hS rfl _ _ rfl (.agg #[.int .i64 R, .pointer none, .slice Cs ns cs, .slice Ar rl.length cr, .slice An nl.length cn, .slice Ag gl.length cg]) _ rfl rfl ?_; clear hS; intro g1 w_ hS; (try simp only [Act.put, Act.eval, zz, Value.cells] at hS))
   | ((with_reducible refine qK ?_); refine qC hS ?_))
  go_ret
  exact AP.mk rfl hS.below
 | some L =>
  obtain ⟨q, o, rfl, -⟩ := id (kh _ _ hS.ro)
  have HE := Lib.hid (show checkE ⟨R, some L, st, rl, nl, gl⟩ = if R < 1 \/ 63 < R then 1 else if 64 < rl.length \/ 2000 < nl.length \/ 2000 < gl.length then 3
   else if E8 ⟨R, some L, st, rl, nl, gl⟩ L (Dk R.toNat) = false then 4 else if ((Ah.cubes ⟨R, some L, st, rl, nl, gl⟩).any fun z => z.1 &&& z.2 != 0) = true \/ rl.all revB = false then 6
   else if goodB ⟨R, some L, st, rl, nl, gl⟩ st = false then 7 else 0 from rfl)
  generalize checkE ⟨R, some L, st, rl, nl, gl⟩ = RES at *
  by_cases hR : R < 1 \/ 63 < R
  ·have hE : RES = 1 := by rw [HE.out, if_pos hR]
   subst hE
   by_cases hR1 : R < 1
   all_goals
    go_enter Tryz.func31, Tryz.ntmps31
    go_wp2_with (first
     | ((with_reducible refine qA 1 ?_); refine Az hS rfl _ _ rfl (.agg #[.int .i64 R, .pointer (some ⟨q, 0, none⟩), .slice Cs ns cs, .slice Ar rl.length cr, .slice An nl.length cn, .slice Ag gl.length cg]) _ rfl rfl ?_; clear hS; intro g1 w_ hS; (try simp only [Act.put, Act.eval, zz, Value.cells] at hS))
     | ((with_reducible refine qK ?_); refine qC hS ?_)
     | ((with_reducible refine qB ?_); refine qc ?_ ?_ <;> intro h_ <;> go_prune)
     )
    go_ret
    exact AP.mk rfl hS.below
  obtain ⟨r, rfl⟩ : ∃ r : Nat, R = (r : Int) := ⟨R.toNat, by omega⟩
  have hr63 : 1 <= r /\ r <= 63 := by omega
  replace HE := Lib.hid (HE.out.trans (if_neg hR))
  clear hR
  by_cases hN : 64 < rl.length \/ 2000 < nl.length \/ 2000 < gl.length
  ·have hE : RES = 3 := by rw [HE.out, if_pos hN]
   subst hE
   by_cases hN1 : 64 < rl.length
   all_goals
    by_cases hN2 : 2000 < nl.length
    all_goals
     go_enter Tryz.func31, Tryz.ntmps31
     go_wp2_with (first
      | ((with_reducible refine qA 1 ?_); refine Az hS rfl _ _ rfl (.agg #[.int .i64 (r : Nat), .pointer (some ⟨q, 0, none⟩), .slice Cs ns cs, .slice Ar rl.length cr, .slice An nl.length cn, .slice Ag gl.length cg]) _ rfl rfl ?_; clear hS; intro g1 w_ hS; (try simp only [Act.put, Act.eval, zz, Value.cells] at hS))
      | ((with_reducible refine qK ?_); refine qC hS ?_)
      | ((with_reducible refine qB ?_); refine qc ?_ ?_ <;> intro h_ <;> go_prune)
      )
     go_ret
     exact AP.mk rfl hS.below
  have hN1 : rl.length <= 64 /\ nl.length <= 2000 /\ gl.length <= 2000 := by omega
  obtain ⟨hN1, hN2, hN3⟩ := hN1
  replace HE := Lib.hid (HE.out.trans (if_neg hN))
  clear hN
  go_enter Tryz.func31, Tryz.ntmps31
  go_wp2_with (first
   | ((with_reducible refine qA 1 ?_); refine Az hS rfl _ _ rfl (.agg #[.int .i64 (r : Nat), .pointer (some ⟨q, 0, none⟩), .slice Cs ns cs, .slice Ar rl.length cr, .slice An nl.length cn, .slice Ag gl.length cg]) _ rfl rfl ?_; clear hS; intro g1 w_ hS; (try simp only [Act.put, Act.eval, zz, Value.cells] at hS))
   | ((with_reducible refine qK ?_); refine qC hS ?_)
   | ((with_reducible refine qB ?_); refine qc ?_ ?_ <;> intro h_ <;> go_prune)
   | ((with_reducible refine qK ?_); refine qL hS Tryz.underlying31 ?_))
  refine (known_any (kp _ _ hS.ro) HP.out rfl rfl hr63.2).mono ?_
  rintro e_ w1 ⟨_, rfl, rfl, hb_⟩
  replace hS := hS.ext hb_
  clear hb_
  have e1 : Dk ((r : Int)).toNat = Dk r := by rw [Int.toNat_natCast]
  rw [e1] at HE
  obtain ⟨b1, hb1⟩ : ∃ b, b = E8 ⟨(r : Int), some L, st, rl, nl, gl⟩ L (Dk r) := ⟨_, rfl⟩
  rw [<- hb1] at HE ⊢
  clear hb1 e1
  cases b1
  ·have hE : RES = 4 := HE.out.trans (if_pos rfl)
   subst hE
   go_wp2_with fail
   go_ret
   exact AP.mk rfl hS.below
  replace HE := Lib.hid (HE.out.trans (if_neg (by decide)))
  go_wp2_with (first
   | ((with_reducible refine qK ?_); refine qL hS Tryz.underlying31 ?_)
   | (go_at_call 68; refine (Jw HP.out hS kp).mono ?_; clear hS; rintro e w_ ⟨v8, rfl, hS⟩))
  refine (Hp v8 _ 69 #[] #[] (fun z => z.1 &&& z.2 != 0) (by kernel_rfl) hS (fun D w h => h.2) fun x z w _ ⟨F', h⟩ => cempty_any h.ro.2).mono ?_
  clear hS
  rintro r_ w2 ⟨rfl, hS⟩
  obtain ⟨b2, hb2⟩ : ∃ b, b = (Ah.cubes ⟨(r : Int), some L, st, rl, nl, gl⟩).any fun z => z.1 &&& z.2 != 0 := ⟨_, rfl⟩
  rw [<- hb2] at HE ⊢
  clear hb2
  cases b2
  rotate_left
  ·have hE : RES = 6 := HE.out.trans (if_pos (.inl rfl))
   subst hE
   go_wp2_with fail
   go_ret
   exact AP.mk rfl hS.below
  go_wp2_with (first | ((with_reducible refine qK ?_); refine qC hS ?_))
  refine (allr_any _ rl 66 #[] #[] revB (by kernel_rfl) hS (fun D w h => kr D w h.1) fun x z w _ ⟨F', h⟩ => chk1_any h.ro.2).mono ?_
  clear hS
  rintro r_ w3 ⟨rfl, hS⟩
  obtain ⟨b3, hb3⟩ : ∃ b, b = rl.all revB := ⟨_, rfl⟩
  rw [<- hb3] at HE ⊢
  clear hb3
  cases b3
  ·have hE : RES = 6 := HE.out.trans (if_pos (.inr rfl))
   subst hE
   go_wp2_with fail
   go_ret
   exact AP.mk rfl hS.below
  replace HE := Lib.hid (HE.out.trans (if_neg (by decide)))
  go_wp2_with (first
   | ((with_reducible refine qK ?_); refine qL hS Tryz.underlying31 ?_)
   | ((with_reducible refine qk 27 ?_); first | (refine A9 hS 0 rfl _ _ rfl _ _ rfl _ _ rfl _ (by first | rfl | assumption) Tryz.underlying27 rfl (by kernel_rfl) ?_) | (refine A9 hS 1 rfl _ _ rfl _ _ rfl _ _ rfl _ (by first | rfl | assumption) Tryz.underlying27 rfl (by kernel_rfl) ?_) | (refine A9 hS 2 rfl _ _ rfl _ _ rfl _ _ rfl _ (by first | rfl | assumption) Tryz.underlying27 rfl (by kernel_rfl) ?_) | (refine A9 hS 3 rfl _ _ rfl _ _ rfl _ _ rfl _ (by first | rfl | assumption) Tryz.underlying27 rfl (by kernel_rfl) ?_) | (refine A9 hS 4 rfl _ _ rfl _ _ rfl _ _ rfl _ (by first | rfl | assumption) Tryz.underlying27 rfl (by kernel_rfl) ?_) | (refine A9 hS 5 rfl _ _ rfl _ _ rfl _ _ rfl _ (by first | rfl | assumption) Tryz.underlying27 rfl (by kernel_rfl) ?_)))
  refine (good_any (kp _ _ hS.ro.1) HP.out (kt _ _ hS.ro.1) (ks _ _ hS.ro.1)).mono ?_
  rintro e_ w4 ⟨_, rfl, rfl, hb_⟩
  replace hS := hS.ext hb_
  clear hb_
  obtain ⟨b4, hb4⟩ : ∃ b, b = goodB ⟨(r : Int), some L, st, rl, nl, gl⟩ st := ⟨_, rfl⟩
  rw [<- hb4] at HE ⊢
  clear hb4
  cases b4
  ·have hE : RES = 7 := HE.out.trans (if_pos rfl)
   subst hE
   go_wp2_with fail
   go_ret
   exact AP.mk rfl hS.below
  have hE : RES = 0 := HE.out.trans (if_neg (by decide))
  subst hE
  go_wp2_with fail
  go_ret
  exact AP.mk rfl hS.below
end
section
open Go.RowKit
attribute [local go_sem ↓] Go.wp_at_zero Go.wp_at_succ
set_option maxRecDepth 20000
set_option exponentiation.threshold 5000
noncomputable def senQ (L : List (Nat × Nat)) (r : Int) : Nat := if 1 <= r /\ r <= 63 then senM L r.toNat else 0
noncomputable def depP (L : List (Nat × Nat)) (pre : List Int) : Nat := pre.foldl (fun m x => m ||| senQ L x) 0
theorem depP_snoc (L : List (Nat × Nat)) (pre : List Int) (x : Int) : depP L (pre ++ [x]) = depP L pre ||| senQ L x := by
 unfold depP; rw [List.foldl_append]; rfl
noncomputable def depM (L : List (Nat × Nat)) (N : Nat) : Nat := maskOf 64 fun i => ∃ r, 1 <= r /\ r < 64 /\ N.testBit r = true /\ (senM L r).testBit i = true
theorem Gm {L : List (Nat × Nat)} (hL : Ex 64 L) {N i : Nat} : (depM L N).testBit i = true ↔ ∃ r, 1 <= r /\ r < 64 /\ N.testBit r = true /\ (senM L r).testBit i = true := by
 rw [depM, Bf]
 refine ⟨fun h => h.2, fun h => ⟨?_, h⟩⟩
 obtain ⟨r, h1, h2, h3, h4⟩ := h
 rcases (Fi hL).1 h4 with rfl | h
 ·exact h2
 ·exact (h.lt hL).1
theorem depP_full {L : List (Nat × Nat)} (hL : Ex 64 L) {ws : List Nat} (hw : Ba ws) : depP L (BH ws) = depM L (Br ws) := AZ fun i => by
 unfold depP
 rw [I6, Gm hL, Nat.zero_testBit]
 constructor
 ·rintro (h | ⟨x, h1, h2⟩)
  ·cases h
  ·obtain ⟨k, rfl⟩ := Hi h1
   have h3 := (E7 hw).1 h1
   unfold senQ at h2
   split at h2
   ·rename_i h4
    exact ⟨k, by omega, by omega, h3, by simpa using h2⟩
   ·rw [Nat.zero_testBit] at h2; cases h2
 ·rintro ⟨r, h1, h2, h3, h4⟩
  refine .inr ⟨(r : Int), (E7 hw).2 h3, ?_⟩
  rw [senQ, if_pos (by omega), Int.toNat_natCast]
  exact h4
set_option maxHeartbeats 2000000 in
theorem DF {w0 : World} {D E : Nat -> Prop} {v u : Value} {p : Ah} {L : List (Nat × Nat)} {z : Nat × Nat} (hp : Bn w0 D v p) (hl : p.links = some L) (hH : Fd L) (hT : Bu w0) (hu : AV w0 E u z) : Calls Tryz.prog 79 #[v, u] w0 (AP (fun x w' => A7 w' (w0.heap.size <= ·) x (depM L (z.1 ||| z.2))) w0) := by
 obtain ⟨R, lk, st, rl, nl, gl⟩ := p
 dsimp only at hl
 subst hl
 obtain ⟨lp, s, rv, nv, gv, rfl, h1, h2, h3, h4, h5⟩ := hp
 dsimp only at h1 h2 h3 h4 h5 ⊢
 obtain ⟨q, o, rfl, hX⟩ := id h1
 obtain ⟨Cs, ns, cs, rfl⟩ := h2.shape
 obtain ⟨Ar, cr, rfl, _, _⟩ := h3.shape
 obtain ⟨An, cn, rfl, _, _⟩ := h4.shape
 obtain ⟨Ag, cg, rfl, _, _⟩ := h5.shape
 obtain ⟨y, n⟩ := z
 obtain ⟨ya, na, rfl, hy, hn⟩ := hu
 dsimp only at hy hn ⊢
 obtain ⟨Ay, my, cy, rfl⟩ := hy.shape
 obtain ⟨Am, mn, cm, rfl⟩ := hn.shape
 obtain ⟨N, hN⟩ : ∃ N, N = y ||| n := ⟨_, rfl⟩
 rw [<- hN]
 have HN := Lib.hid hN
 clear hN h1 h2 h3 h4 h5
 obtain ⟨K, ky, kn, ko, kt, hS⟩ : ∃ K : (Nat -> Prop) -> World -> Prop, (∀ D w, K D w -> A7 w D (.agg #[.slice Ay my cy]) y) /\ (∀ D w, K D w -> A7 w D (.agg #[.slice Am mn cm]) n) /\ (∀ D w, K D w -> Gj q o L D w) /\ (∀ D w, K D w -> Bu w /\ D 0) /\ St w0 w0 [] K :=
  ⟨fun D w => ((A7 w D (.agg #[.slice Ay my cy]) y /\ A7 w D (.agg #[.slice Am mn cm]) n) /\ Gj q o L D w) /\ Bu w /\ D 0, fun _ _ h => h.1.1.1, fun _ _ h => h.1.1.2, fun _ _ h => h.1.2, fun _ _ h => h.2, St.start (D := fun _ => True) (((A5.and A5).and CQ).and BG) ⟨⟨⟨hy.imp fun _ _ _ => trivial, hn.imp fun _ _ _ => trivial⟩, CQ D _ w0 w0 hX (Nat.le_refl _) (fun _ _ _ _ h => h) fun _ _ _ _ => trivial⟩, hT, trivial⟩⟩
 have HH := Lib.hid hH
 clear hy hn hT hX hH
 refine (callsIn_wide (n := 6)).1 (callsIn_of_wp_marks Tryz.func79 rfl trivial ?_ rfl)
 simp only [Tryz.ntmps79, List.size_toArray, List.length_cons, List.length_nil, Nat.reduceAdd, Nat.reduceSub, Array.replicate_succ, Array.replicate_zero, List.push_toArray, List.append_toArray, List.nil_append, List.cons_append]
 refine wpIn_wide.2 ?_
 go_wp2_with (first
  | ((with_reducible refine qA 2 ?_); refine Az hS rfl _ _ rfl (.agg #[.int .i64 R, .pointer (some ⟨q, 0, none⟩), .slice Cs ns cs, .slice Ar rl.length cr, .slice An nl.length cn, .slice Ag gl.length cg]) _ rfl rfl ?_; clear hS; intro g2 w_ hS; (try simp only [Act.put, Act.eval, zz, Value.cells] at hS))
  | ((with_reducible refine qA 3 ?_); refine Az hS rfl _ _ rfl (.agg #[.slice Ay my cy, .slice Am mn cm]) _ rfl rfl ?_; clear hS; intro g3 w_ hS; (try simp only [Act.put, Act.eval, zz, Value.cells] at hS))
  | ((with_reducible refine qA 4 ?_); refine qa hS #[.slice none 0 0] ?_; clear hS; intro g4 w_ hS)
  | ((with_reducible refine qA 5 ?_); refine qa hS #[.slice none 0 0] ?_; clear hS; intro g5 w_ hS)
  | ((with_reducible refine qk 27 ?_); first | (refine A9 hS 0 rfl _ _ rfl _ _ rfl _ _ rfl _ (by first | rfl | assumption) Tryz.underlying27 rfl (by kernel_rfl) ?_) | (refine A9 hS 1 rfl _ _ rfl _ _ rfl _ _ rfl _ (by first | rfl | assumption) Tryz.underlying27 rfl (by kernel_rfl) ?_) | (refine A9 hS 2 rfl _ _ rfl _ _ rfl _ _ rfl _ (by first | rfl | assumption) Tryz.underlying27 rfl (by kernel_rfl) ?_) | (refine A9 hS 3 rfl _ _ rfl _ _ rfl _ _ rfl _ (by first | rfl | assumption) Tryz.underlying27 rfl (by kernel_rfl) ?_) | (refine A9 hS 4 rfl _ _ rfl _ _ rfl _ _ rfl _ (by first | rfl | assumption) Tryz.underlying27 rfl (by kernel_rfl) ?_) | (refine A9 hS 5 rfl _ _ rfl _ _ rfl _ _ rfl _ (by first | rfl | assumption) Tryz.underlying27 rfl (by kernel_rfl) ?_))
  | (go_at_call 32; refine (Fv _ _ y n _ _ _ (ky _ _ hS.ro) (kn _ _ hS.ro)).mono ?_; rw [<- HN.out]; rintro r_ w_ ⟨_, rfl, h1, hb_⟩; replace hS := hS.ret hb_ A5 h1; clear h1 hb_; obtain ⟨A, c, l, rfl, hl, hvl, _⟩ := hS.ro.2.parts))
 obtain ⟨KY, ky1, ko1, kt1, hS2⟩ : ∃ KY : (Nat -> Prop) -> World -> Prop, (∀ D w, KY D w -> A7 w D (.agg #[.slice A l.length c]) (Br l)) /\ (∀ D w, KY D w -> Gj q o L D w) /\ (∀ D w, KY D w -> Bu w /\ D 0) /\ St w0 w_ [.box g5 27 #[.slice none 0 0], .box g4 27 #[.slice none 0 0], .box g3 54 #[.slice Ay my cy, .slice Am mn cm], .box g2 31 #[.int .i64 R, .pointer (some ⟨q, 0, none⟩), .slice Cs ns cs, .slice Ar rl.length cr, .slice An nl.length cn, .slice Ag gl.length cg]] KY := ⟨_, fun _ _ h => by rw [<- hvl]; exact h.2, fun _ _ h => ko _ _ h.1, fun _ _ h => kt _ _ h.1, hS⟩
 have HVL := Lib.hid hvl
 clear hS ky kn kt ko K
 have ko := ko1
 have kt := kt1
 clear ko1 kt1
 have hS := hS2
 clear hS2 hvl
 refine (Fo _ _ _ _ (ky1 _ _ hS.ro)).mono ?_
 rintro e w3 ⟨_, rfl, ⟨Bs, A', cap, ws, rfl, e1, hcn, hvN, hsl, hBs, hX⟩, hb3⟩
 obtain rfl := FF hcn hl hvN
 obtain ⟨rfl, rfl⟩ : A = A' /\ c = cap := by simpa using e1
 clear e1 hvN
 obtain ⟨hT, hT0⟩ := kt _ _ hS.ro
 replace hS := hS.good hb3 hsl hT hT0 hBs hX
 obtain ⟨KK, ko, kG, KKS, hS⟩ : ∃ KK : (Nat -> Prop) -> World -> Prop, (∀ D w, KK D w -> Gj q o L D w) /\ (∀ D w, KK D w -> Fc Bs A c ws w) /\ AO KK /\ St w0 w3 [.box g5 27 #[.slice none 0 0], .box g4 27 #[.slice none 0 0], .box g3 54 #[.slice Ay my cy, .slice Am mn cm], .box g2 31 #[.int .i64 R, .pointer (some ⟨q, 0, none⟩), .slice Cs ns cs, .slice Ar rl.length cr, .slice An nl.length cn, .slice Ag gl.length cg]] KK := ⟨_, fun D w h => ko D w h.1, fun D w h => h.2.1, hS.stable, hS⟩
 have HCN := Lib.hid hcn
 have HCF : Hid (depP L (BH ws) = depM L N) := Lib.hid (by rw [HVL.out]; exact depP_full HH.out.inr hcn.1)
 clear hsl hX hT hT0 hb3 kt ky1 hcn hl
 go_wp2_with fail
 have hsz := hS.size
 refine (wpIn_wide (n := 6)).1 ?_
 refine GA fun act hact => ?_
 refine EV hS HCN.out.1 HCN.out.2.2 kG (by rw [hact]; rfl) rfl
  (fun pre F' K' => ∃ u, F' = [.box g5 27 #[u], .box g4 27 #[.slice none 0 0], .box g3 54 #[.slice Ay my cy, .slice Am mn cm], .box g2 31 #[.int .i64 R, .pointer (some ⟨q, 0, none⟩), .slice Cs ns cs, .slice Ar rl.length cr, .slice An nl.length cn, .slice Ag gl.length cg]] /\ AO K' /\ ∀ D w, K' D w -> KK D w /\ A7 w (fun z => D z /\ w0.heap.size <= z) (.agg #[u]) (depP L pre))
  (fun _ _ _ _ => False) (fun s F K' h D w hk => by obtain ⟨_, _, _, h4⟩ := h; exact (h4 D w hk).1) ?hr (fun _ _ _ _ h => h.elim) ⟨_, rfl, KKS, fun D w h => ⟨h, A7.empty⟩⟩
  (fun x => { tmps := (act.tmps.setIfInBounds 13 (.int .i64 x)).setIfInBounds 6 (.int .i64 x), defers := [] }) ?assign ?body ?done (fun _ _ _ _ _ _ _ _ h _ _ => h.elim)
 case hr =>
  rintro s F K' ⟨u, rfl, _⟩ f hf
  simp only [List.mem_cons, List.not_mem_nil, or_false] at hf
  rcases hf with rfl | rfl | rfl | rfl <;> exact .inl rfl
 case assign =>
  intro l x W K hK
  subst hact
  rw [IP]
  refine wpIn_region_lit ?_
  refine EI (by intro _ _ h; exact h) _ _ _ (by rfl) _ _ ?_
  refine wpList_plain rfl fun _ hK' => CL (v := .int .i64 x) rfl (by rfl) (hK' _ _ ?_)
  exact wpList_nil hK
 case body =>
  rintro l pre x hx W F' Xo K' ⟨ub, rfl, hKs, hk'⟩ hS hlt
  subst hact
  have HW := Lib.hid (depP_snoc L pre x)
  generalize depP L pre = N0 at *
  have HKP := Lib.hid hk'
  have hWs : W.heap.size <= W.heap.size := Nat.le_refl _
  clear hx hk'
  simp only [Act.put, List.setIfInBounds_toArray, List.set_cons_zero, List.set_cons_succ]
  refine wpIn_block ?_
  refine Dh (by kernel_rfl) (by intro _ _ h; exact h) (by rfl) ?_
  refine JT 6 [] [.i (.agg #[ub]), .q g2 1, .q q 0, .n x, .s (fun v w => A7 w (fun _ => True) v (senQ L x)) fun v w w' h hb => h.ext hb, .s (fun v w => ∃ u, v = .agg #[u] /\ u.oneCell' = true /\ A7 w (fun z => W.heap.size <= z) (.agg #[u]) (N0 ||| senQ L x)) fun v w w' h hb => ⟨_, h.choose_spec.1, h.choose_spec.2.1, h.choose_spec.2.2.ext hb⟩, .t] ⟨uR (h := fun w hW hN => (hS.ext hW).box 0 rfl), uF, uC (h := fun w hW hN => ((hS.ext hW).box 3 rfl).cell 1), uM, ?_, ?_, trivial⟩ ?_
  ·refine uT fun b__ w hW hE K hK => ?_
   have e16 := hE 16
   have e17 := hE 17
   refine AB rfl (by kernel_rfl) (by simp only [List.map_cons, List.map_nil, e16, e17]) (hsen_any (w0 := w) ⟨q, o, rfl, ko _ _ (HKP.out _ _ (hS.ext hW).ro.1).1⟩ HH.out x) fun v w' h hb => ?_
   exact hK v w' (h.imp fun _ _ _ => trivial) hb
  ·refine uT fun b__ w hW hE K hK => ?_
   have e14 := hE 14
   have e18 := hE 18
   refine AB rfl (by kernel_rfl) (by simp only [List.map_cons, List.map_nil, e14]) (Fv (.agg #[ub]) _ N0 _ w _ _ (HKP.out _ _ (hS.ext hW).ro.1).2 e18) fun v w' h hb => ?_
   obtain ⟨u, rfl, h1⟩ := Ch h
   exact hK _ w' ⟨u, rfl, h1, h.imp fun z hz _ => Nat.le_trans hW.size hz⟩ hb
  ·intro vs wz hW hT
   obtain ⟨e14, e15, e16, e17, e18, e19, -⟩ := hT
   have bx : (fun _ : Nat => True) 0 := trivial
   simp only [AF, Act.put, zz, ze]
   (intro o_ ho_; simp only [List.getElem?_toArray, List.getElem?_cons_succ, List.getElem?_cons_zero, Option.some.injEq] at ho_; subst ho_)
   obtain ⟨un, e19, hu1, hun⟩ := e19
   have hsW := hS.size
   have hS1 := hS.ret hW (AW (A5 (v := .agg #[un]) (N := N0 ||| senQ L x)) fun z => w0.heap.size <= z) (hun.imp fun z hz _ => ⟨hz, Nat.le_trans hsW hz⟩)
   refine BO rfl rfl e19 (hS1.box 0 rfl) (by kernel_rfl) rfl (by simpa using hu1) fun w4 h1 hU => ?_
   have hS2 := (hS1.upd 0 rfl (.box g5 27 #[un]) (Bj hU) ⟨(hS1.holds (.box g5 27 #[ub]) (by simp)).1, h1⟩ fun _ e => .inl e)
   refine ⟨_, _, ⟨un, rfl, hS2.stable, fun D w h => ⟨(HKP.out D w h.1.1).1, by rw [HW.out]; exact h.2⟩⟩, by rw [hU.size]; exact hW.size, hS2⟩
 case done =>
  rintro D W F' K' hD ⟨u, rfl, hKs, hk'⟩ hS hK
  subst hact
  obtain ⟨A3, c3, l3, he, -⟩ := ((hk' _ _ hS.ro).2).parts
  obtain rfl : u = .slice A3 l3.length c3 := by injection he with he; simpa using he
  clear he
  have hM := hS.mark hsz hD (by
   intro f hf
   simp only [List.mem_cons, List.not_mem_nil, or_false] at hf
   rcases hf with rfl | rfl | rfl | rfl <;> exact .inl rfl) hK rfl
  have HKP := Lib.hid hk'
  clear hk' hS hK
  have hS := hM
  clear hM
  simp only [List.cons_append, List.nil_append] at hS
  go_wp2_with (first
   | ((with_reducible refine qK ?_); refine qL hS Tryz.underlying27 ?_)
   | ((with_reducible refine qM ?_); (first | refine qS hS ?_ | refine qT hS ?_); clear hS; intro w_ hS; (try simp only [Act.put, Act.eval, zz, Value.cells] at hS)))
  refine Cc (F := [.box g5 27 #[.slice A3 l3.length c3], .box g4 27 #[.slice A3 l3.length c3], .box g3 54 #[.slice Ay my cy, .slice Am mn cm], .box g2 31 #[.int .i64 R, .pointer (some ⟨q, 0, none⟩), .slice Cs ns cs, .slice Ar rl.length cr, .slice An nl.length cn, .slice Ag gl.length cg]]) ?_ [D] _ hS
  intro w' h
  refine ⟨_, results_cell_row rfl _ _ g4 27 _ (0, 0) _ rfl (h.box 1 rfl) Tryz.underlying27 rfl (by kernel_rfl), ?_⟩
  exact AP.mk (by rw [<- HCF.out]; exact (HKP.out _ _ h.ro).2.imp fun z hz _ => hz.2) h.below
end
section
open Go.RowKit
set_option exponentiation.threshold 5000
def C9 (a b : Nat) : Prop := ∀ i, a.testBit i = true -> b.testBit i = true
theorem C9.refl (a : Nat) : C9 a a := fun _ h => h
theorem C9.trans {a b c : Nat} (h : C9 a b) (k : C9 b c) : C9 a c := fun i hi => k i (h i hi)
theorem C9.left (a b : Nat) : C9 a (a ||| b) := fun i h => Cx.2 (.inl h)
theorem C9.right (a b : Nat) : C9 b (a ||| b) := fun i h => Cx.2 (.inr h)
theorem C9.or {a b c : Nat} (h : C9 a c) (k : C9 b c) : C9 (a ||| b) c := fun i hi => (Cx.1 hi).elim (h i) (k i)
theorem C9.anti {a b : Nat} (h : C9 a b) (k : C9 b a) : a = b := AZ fun i => ⟨h i, k i⟩
theorem C9.has {a b : Nat} (h : C9 a b) {i : Int} (k : Bk a i = true) : Bk b i = true := by
 unfold Bk at *
 simp only [Bool.and_eq_true, decide_eq_true_eq] at *
 exact ⟨k.1, h _ k.2⟩
theorem meets_iff {a b : Nat} : (a &&& b != 0) = true ↔ ∃ i, a.testBit i = true /\ b.testBit i = true := by
 rw [bne_iff_ne]
 constructor
 ·intro h
  obtain ⟨i, hi⟩ := Nat.exists_testBit_of_ne_zero h
  rw [Nat.testBit_and, Bool.and_eq_true] at hi
  exact ⟨i, hi⟩
 ·rintro ⟨i, h1, h2⟩ e
  have : (a &&& b).testBit i = true := by rw [Nat.testBit_and, h1, h2]; rfl
  rw [e, Nat.zero_testBit] at this
  cases this
theorem C9.meets {a b c : Nat} (h : C9 b c) (k : (a &&& b != 0) = true) : (a &&& c != 0) = true := by
 obtain ⟨i, h1, h2⟩ := meets_iff.1 k
 exact meets_iff.2 ⟨i, h1, h i h2⟩
noncomputable def depC (L : List (Nat × Nat)) (z : Nat × Nat) : Nat := depM L (z.1 ||| z.2)
noncomputable def depR (L : List (Nat × Nat)) (r : AM) : Nat := depM L (r.yes ||| r.no)
structure Ew (L : List (Nat × Nat)) (p : Ah) (S : Nat) : Prop where
 goal : ∀ c ∈ p.goal, C9 (depC L c) S
 rules : ∀ r ∈ p.rules, r.revoke = false -> Bk S r.target = true -> C9 (depR L r) S
 never : ∀ c ∈ p.never, (depC L c &&& S != 0) = true -> C9 (depC L c) S
noncomputable def relM (L : List (Nat × Nat)) (p : Ah) : Nat := maskOf 64 fun i => ∀ T, Ew L p T -> T.testBit i = true
def Hw (L : List (Nat × Nat)) (p : Ah) (N : Nat) : Prop := (∀ T, Ew L p T -> C9 N T) /\ N < 2 ^ 64
theorem F6 (L : List (Nat × Nat)) (N : Nat) : depM L N < 2 ^ 64 := by
 refine Nat.lt_pow_two_of_testBit _ fun i hi => ?_
 by_cases h : (depM L N).testBit i = true
 ·rw [depM, Bf] at h; omega
 ·simpa using h
theorem Hw.zero (L : List (Nat × Nat)) (p : Ah) : Hw L p 0 := ⟨fun T _ i hi => (by rw [Nat.zero_testBit] at hi; cases hi), by decide⟩
theorem Hw.goal {L : List (Nat × Nat)} {p : Ah} {N : Nat} (h : Hw L p N) {c : Nat × Nat} (hc : c ∈ p.goal) : Hw L p (N ||| depC L c) :=
 ⟨fun T hT => (h.1 T hT).or (hT.goal c hc), Nat.or_lt_two_pow h.2 (F6 _ _)⟩
theorem Hw.rule {L : List (Nat × Nat)} {p : Ah} {N : Nat} (h : Hw L p N) {r : AM} (hr : r ∈ p.rules) (h1 : r.revoke = false) (h2 : Bk N r.target = true) : Hw L p (N ||| depR L r) :=
 ⟨fun T hT => (h.1 T hT).or (hT.rules r hr h1 ((h.1 T hT).has h2)), Nat.or_lt_two_pow h.2 (F6 _ _)⟩
theorem Hw.never {L : List (Nat × Nat)} {p : Ah} {N : Nat} (h : Hw L p N) {c : Nat × Nat} (hc : c ∈ p.never) (h2 : (depC L c &&& N != 0) = true) : Hw L p (N ||| depC L c) :=
 ⟨fun T hT => (h.1 T hT).or (hT.never c hc ((h.1 T hT).meets h2)), Nat.or_lt_two_pow h.2 (F6 _ _)⟩
theorem Hw.eq {L : List (Nat × Nat)} {p : Ah} {N : Nat} (h : Hw L p N) (k : Ew L p N) : N = relM L p := AZ fun i => by
 rw [relM, Bf]
 refine ⟨fun hi => ⟨?_, fun T hT => h.1 T hT i hi⟩, fun hi => hi.2 N k⟩
 rcases Nat.lt_or_ge i 64 with h1 | h1
 ·exact h1
 ·have := Nat.testBit_lt_two_pow (Nat.lt_of_lt_of_le h.2 (Nat.pow_le_pow_right (by decide) h1))
  rw [this] at hi; cases hi
structure CX (L : List (Nat × Nat)) (p : Ah) (B N i j : Nat) : Prop where
 low : Hw L p N
 sub : C9 B N
 goal : ∀ c ∈ p.goal, C9 (depC L c) N
 rules : ∀ r ∈ p.rules.take i, r.revoke = false -> Bk B r.target = true -> C9 (depR L r) N
 never : ∀ c ∈ p.never.take j, (depC L c &&& B != 0) = true -> C9 (depC L c) N
theorem CX.more {L : List (Nat × Nat)} {p : Ah} {B N N' i j : Nat} (h : CX L p B N i j) (hs : C9 N N') (hl : Hw L p N') : CX L p B N' i j :=
 ⟨hl, h.sub.trans hs, fun c hc => (h.goal c hc).trans hs, fun r hr a b => (h.rules r hr a b).trans hs, fun c hc a => (h.never c hc a).trans hs⟩
theorem Di {α : Type} {l : List α} {k : Nat} {x y : α} (hk : l[k]? = some x) (h : y ∈ l.take (k + 1)) : y ∈ l.take k \/ y = x := by
 rw [List.take_add_one, hk, List.mem_append] at h
 exact h.imp id fun h => by simpa using h
theorem CX.ruleY {L : List (Nat × Nat)} {p : Ah} {B N i j : Nat} (h : CX L p B N i j) {r : AM} (hi : p.rules[i]? = some r) (h1 : r.revoke = false) (h2 : Bk N r.target = true) : CX L p B (N ||| depR L r) (i + 1) j :=
 have h' := h.more (C9.left N (depR L r)) (h.low.rule (List.mem_of_getElem? hi) h1 h2)
 ⟨h'.low, h'.sub, h'.goal, fun x hx a b => (Di hi hx).elim (fun hx => h'.rules x hx a b) fun e => by subst e; exact C9.right _ _, h'.never⟩
theorem CX.ruleN {L : List (Nat × Nat)} {p : Ah} {B N i j : Nat} (h : CX L p B N i j) {r : AM} (hi : p.rules[i]? = some r) (h1 : r.revoke = true \/ Bk N r.target = false) : CX L p B N (i + 1) j :=
 ⟨h.low, h.sub, h.goal, fun x hx a b => (Di hi hx).elim (fun hx => h.rules x hx a b) fun e => (by
  subst e
  rcases h1 with h1 | h1
  ·rw [h1] at a; cases a
  ·rw [h.sub.has b] at h1; cases h1), h.never⟩
theorem CX.neverY {L : List (Nat × Nat)} {p : Ah} {B N i j : Nat} (h : CX L p B N i j) {c : Nat × Nat} (hj : p.never[j]? = some c) (h2 : (depC L c &&& N != 0) = true) : CX L p B (N ||| depC L c) i (j + 1) :=
 have h' := h.more (C9.left N (depC L c)) (h.low.never (List.mem_of_getElem? hj) h2)
 ⟨h'.low, h'.sub, h'.goal, h'.rules, fun x hx a => (Di hj hx).elim (fun hx => h'.never x hx a) fun e => by subst e; exact C9.right _ _⟩
theorem CX.neverN {L : List (Nat × Nat)} {p : Ah} {B N i j : Nat} (h : CX L p B N i j) {c : Nat × Nat} (hj : p.never[j]? = some c) (h2 : (depC L c &&& N != 0) = false) : CX L p B N i (j + 1) :=
 ⟨h.low, h.sub, h.goal, h.rules, fun x hx a => (Di hj hx).elim (fun hx => h.never x hx a) fun e => by
  subst e
  rw [h.sub.meets a] at h2; cases h2⟩
theorem CX.start {L : List (Nat × Nat)} {p : Ah} {N : Nat} (h : Hw L p N) (k : ∀ c ∈ p.goal, C9 (depC L c) N) : CX L p N N 0 0 :=
 ⟨h, C9.refl _, k, fun _ h => by simp at h, fun _ h => by simp at h⟩
theorem CX.done {L : List (Nat × Nat)} {p : Ah} {N : Nat} (h : CX L p N N p.rules.length p.never.length) : N = relM L p :=
 h.low.eq ⟨h.goal, fun r hr => h.rules r (by rw [List.take_length]; exact hr), fun c hc => h.never c (by rw [List.take_length]; exact hc)⟩
theorem CX.lt {L : List (Nat × Nat)} {p : Ah} {B N i j : Nat} (h : CX L p B N i j) (hne : ¬ N = B) : 2 ^ 64 - N < 2 ^ 64 - B := by
 have h1 : B ||| N = N := AZ fun k => ⟨fun hk => (Cx.1 hk).elim (h.sub k) id, fun hk => Cx.2 (.inr hk)⟩
 have h2 : B <= N := by rw [<- h1]; exact Nat.left_le_or
 have := h.low.2
 omega
end
section
open Go.RowKit
attribute [local go_sem ↓] Go.wp_at_zero Go.wp_at_succ
set_option maxRecDepth 20000
set_option exponentiation.threshold 5000
noncomputable def relS (p : Ah) : Nat := if checkE p = 0 then (match p.links with | none => 0 | some L => relM L p) else 0
set_option maxHeartbeats 4000000 in
theorem H6 {w0 : World} {D : Nat -> Prop} {v : Value} {p : Ah} (hp : Bn w0 D v p) (hP : p.Ok) (hT : Bu w0) : Calls Tryz.prog 63 #[v] w0 (AP (fun x w' => A7 w' (w0.heap.size <= ·) x (relS p)) w0) := by
 obtain ⟨R, lk, st, rl, nl, gl⟩ := p
 have HP := Lib.hid hP
 have hP1 := hP.rules
 have hP2 := hP.never
 have hP3 := hP.goal
 dsimp only at hP1 hP2 hP3
 clear hP
 obtain ⟨lp, s, rv, nv, gv, rfl, h1, h2, h3, h4, h5⟩ := hp
 dsimp only at h1 h2 h3 h4 h5 ⊢
 obtain ⟨Cs, ns, cs, rfl⟩ := h2.shape
 obtain ⟨Ar, cr, rfl, _, _⟩ := h3.shape
 obtain ⟨An, cn, rfl, _, _⟩ := h4.shape
 obtain ⟨Ag, cg, rfl, _, _⟩ := h5.shape
 obtain ⟨K, kp, kh, kr, kn, kg, kt, hS⟩ : ∃ K : (Nat -> Prop) -> World -> Prop, (∀ D w, K D w -> Bn w D (.agg #[.int .i64 R, lp, .slice Cs ns cs, .slice Ar rl.length cr, .slice An nl.length cn, .slice Ag gl.length cg]) ⟨R, lk, st, rl, nl, gl⟩) /\ (∀ D w, K D w -> Gx w D lp lk) /\ (∀ D w, K D w -> Bq w D (.slice Ar rl.length cr) rl) /\ (∀ D w, K D w -> AA w D (.slice An nl.length cn) nl) /\ (∀ D w, K D w -> AA w D (.slice Ag gl.length cg) gl) /\ (∀ D w, K D w -> Bu w) /\ St w0 w0 [] K :=
  ⟨fun D w => ((Gx w D lp lk /\ A7 w D (.agg #[.slice Cs ns cs]) st) /\ Bq w D (.slice Ar rl.length cr) rl /\ AA w D (.slice An nl.length cn) nl /\ AA w D (.slice Ag gl.length cg) gl) /\ (Bu w /\ D 0), fun _ _ h => ⟨_, _, _, _, _, rfl, h.1.1.1, h.1.1.2, h.1.2.1, h.1.2.2.1, h.1.2.2.2⟩, fun _ _ h => h.1.1.1, fun _ _ h => h.1.2.1, fun _ _ h => h.1.2.2.1, fun _ _ h => h.1.2.2.2, fun _ _ h => h.2.1,
   St.start (D := fun _ => True) (((C2.and A5).and (Bh.and (AX.and AX))).and BG) ⟨⟨⟨C2 D _ w0 w0 h1 (Nat.le_refl _) (fun _ _ _ _ h => h) fun _ _ _ _ => trivial, h2.imp fun _ _ _ => trivial⟩, Bh D _ w0 w0 h3 (Nat.le_refl _) (fun _ _ _ _ h => h) fun _ _ _ _ => trivial, h4.imp fun _ _ _ => trivial, h5.imp fun _ _ _ => trivial⟩, hT, trivial⟩⟩
 clear h1 h2 h3 h4 h5 hT
 have KS := Lib.hid hS.stable
 obtain ⟨e, he⟩ : ∃ e, e = checkE ⟨R, lk, st, rl, nl, gl⟩ := ⟨_, rfl⟩
 have HE := Lib.hid he
 clear he
 by_cases h0 : e = 0
 ·subst h0
  cases lk with
  | none => have := HE.out; cases this
  | some L =>
   have HH := Lib.hid (HP.out.links L rfl).1
   have HRS : Hid (relS ⟨R, some L, st, rl, nl, gl⟩ = relM L ⟨R, some L, st, rl, nl, gl⟩) := Lib.hid (by unfold relS; rw [if_pos HE.out.symm])
   rw [HRS.out]
   obtain ⟨q, o, rfl, -⟩ := id (kh _ _ hS.ro)
   go_enter Tryz.func63, Tryz.ntmps63
   go_wp2_with (first
    | ((with_reducible refine qA 1 ?_); refine Az hS rfl _ _ rfl (.agg #[.int .i64 R, .pointer (some ⟨q, 0, none⟩), .slice Cs ns cs, .slice Ar rl.length cr, .slice An nl.length cn, .slice Ag gl.length cg]) _ rfl rfl ?_; clear hS; intro g1 w_ hS; (try simp only [Act.put, Act.eval, zz, Value.cells] at hS))
    | ((with_reducible refine qA 2 ?_); refine qa hS #[.slice none 0 0] ?_; clear hS; intro g2 w_ hS)
    | ((with_reducible refine qA 3 ?_); refine qa hS #[.slice none 0 0] ?_; clear hS; intro g3 w_ hS)
    | ((with_reducible refine qK ?_); refine qL hS Tryz.underlying31 ?_)
    | (go_at_call 31; refine (CA (kp _ _ hS.ro) HP.out (kt _ _ hS.ro)).mono ?_; rw [<- HE.out]; rintro r_ w_ ⟨_, rfl, rfl, hb_⟩; replace hS := hS.ext hb_; clear hb_)
    | ((with_reducible refine qK ?_); refine qC hS ?_))
   go_loopw [19] (fun i wr => ∃ (j : Nat) (u : Value) (N : Nat), i = .int .i64 (j : Nat) /\ j <= gl.length /\ Hid (Hw L ⟨R, some L, st, rl, nl, gl⟩ N /\ ∀ c ∈ gl.take j, C9 (depC L c) N) /\ St w0 wr [.box g3 27 #[u], .box g2 27 #[.slice none 0 0], .box g1 31 #[.int .i64 R, .pointer (some ⟨q, 0, none⟩), .slice Cs ns cs, .slice Ar rl.length cr, .slice An nl.length cn, .slice Ag gl.length cg]] (fun D w => K D w /\ A7 w (fun z => D z /\ w0.heap.size <= z) (.agg #[u]) N)) (fun i _ => gl.length - (intOf i).toNat)
   case atStart => exact ⟨0, _, 0, rfl, by omega, Lib.hid ⟨Hw.zero _ _, by simp⟩, hS.mono (KS.out.and (AW A5 fun z => w0.heap.size <= z)) fun D w h => ⟨h, A7.empty⟩⟩
   case round =>
    clear hS
    obtain ⟨j, u, N0, rfl, hj, HI, hS⟩ := hrel
    by_cases hlj : j < gl.length
    ·obtain ⟨b, o2, y, n, rfl, _, hb, c0, c1, hy, hn⟩ := (kg _ _ hS.ro.1).at_ hlj
     obtain ⟨Ay, my, cy, rfl⟩ := hy.shape
     obtain ⟨Am, mn, cm, rfl⟩ := hn.shape
     have HI2 : Hid (Hw L ⟨R, some L, st, rl, nl, gl⟩ (N0 ||| depC L (gl.getD j (0, 0))) /\ ∀ c ∈ gl.take (j + 1), C9 (depC L c) (N0 ||| depC L (gl.getD j (0, 0)))) := Lib.hid ⟨HI.out.1.goal (List.mem_of_getElem? (B9 (0, 0) hlj)), fun c hc => (Di (B9 (0, 0) hlj) hc).elim (fun h => (HI.out.2 c h).trans (C9.left _ _)) fun e => by rw [e]; exact C9.right _ _⟩
     obtain ⟨KC, kc, hS2⟩ : ∃ KC : (Nat -> Prop) -> World -> Prop, Hid (∀ D w, KC D w -> K D w /\ A7 w (fun z => D z /\ w0.heap.size <= z) (.agg #[u]) N0 /\ AV w D (.agg #[.slice Ay my cy, .slice Am mn cm]) (gl.getD j (0, 0))) /\ St w0 wr [.box g3 27 #[u], .box g2 27 #[.slice none 0 0], .box g1 31 #[.int .i64 R, .pointer (some ⟨q, 0, none⟩), .slice Cs ns cs, .slice Ar rl.length cr, .slice An nl.length cn, .slice (some ⟨b, o2, none⟩) gl.length cg]] KC := ⟨_, Lib.hid fun D w h => ⟨h.1.1, h.1.2, h.2⟩, hS.add (D := D6 _) Bw ⟨_, _, rfl, hy, hn⟩ fun _ h _ => h⟩
     clear hS hy hn
     have hS := hS2
     clear hS2
     generalize gl.getD j (0, 0) = z at *
     go_wp2_with (first
      | ((with_reducible refine qB ?_); refine qc ?_ ?_ <;> intro h_ <;> go_prune)
      | ((with_reducible refine qA 22 ?_); refine BigFrame.wpList_want rfl fun _ hK => AY (cs := [.slice Ay my cy, .slice Am mn cm]) rfl rfl (Jr c0 c1) Tryz.underlying54 rfl (by kernel_rfl) (hK _ _ ?_))
      | ((with_reducible refine qA 5 ?_); refine qa hS #[.slice none 0 0, .slice none 0 0] ?_; clear hS; intro g5 w_ hS)
      | ((with_reducible refine qM ?_); (first | refine qS hS ?_ | refine qT hS ?_); clear hS; intro w_ hS; (try simp only [Act.put, Act.eval, zz, Value.cells] at hS)))
     refine Gy 5 [] [.i (.agg #[u]), .i (.agg #[.int .i64 R, .pointer (some ⟨q, 0, none⟩), .slice Cs ns cs, .slice Ar rl.length cr, .slice An nl.length cn, .slice (some ⟨b, o2, none⟩) gl.length cg]), .i (.agg #[.slice Ay my cy, .slice Am mn cm]), .s (fun v w => A7 w (fun _ => True) v (depC L z)) fun v w w' h hb => h.ext hb, .s (fun v w => ∃ u, v = .agg #[u] /\ u.oneCell' = true /\ A7 w (fun z => w_.heap.size <= z) (.agg #[u]) (N0 ||| depC L z)) fun v w w' h hb => ⟨_, h.choose_spec.1, h.choose_spec.2.1, h.choose_spec.2.2.ext hb⟩, .t] ⟨uR (h := fun w hW hN => (hS.ext hW).box 1 rfl), uR (h := fun w hW hN => (hS.ext hW).box 3 rfl), uR (h := fun w hW hN => (hS.ext hW).box 0 rfl), ?_, ?_, trivial⟩ ?_
     ·refine uT fun b__ w hW hE K hK => ?_
      have e24 := hE 24
      have e25 := hE 25
      refine AB rfl (by kernel_rfl) (by simp only [List.map_cons, List.map_nil, e24, e25]) (DF (kp _ _ (kc.out _ _ (hS.ext hW).ro).1) rfl HH.out (kt _ _ (kc.out _ _ (hS.ext hW).ro).1) (kc.out _ _ (hS.ext hW).ro).2.2) fun v w' h hb => ?_
      exact hK v w' (h.imp fun _ _ _ => trivial) hb
     ·refine uT fun b__ w hW hE K hK => ?_
      have e23 := hE 23
      have e26 := hE 26
      refine AB rfl (by kernel_rfl) (by simp only [List.map_cons, List.map_nil, e23]) (Fv (.agg #[u]) _ N0 _ w _ _ (kc.out _ _ (hS.ext hW).ro).2.1 e26) fun v w' h hb => ?_
      obtain ⟨u, rfl, h1⟩ := Ch h
      exact hK _ w' ⟨u, rfl, h1, h.imp fun z hz _ => Nat.le_trans hW.size hz⟩ hb
     ·intro vs wz hW hT
      obtain ⟨e23, e24, e25, e26, e27, -⟩ := hT
      have bx : (fun _ : Nat => True) 0 := trivial
      simp only [AF, Act.put, zz, ze]
      (intro o_ ho_; simp only [List.getElem?_toArray, List.getElem?_cons_succ, List.getElem?_cons_zero, Option.some.injEq] at ho_; subst ho_)
      obtain ⟨un, e27, hu1, hun⟩ := e27
      have hsW := hS.size
      have hS1 := hS.ret hW (AW (A5 (v := .agg #[un]) (N := N0 ||| depC L z)) fun z => w0.heap.size <= z) (hun.imp fun z hz _ => ⟨hz, Nat.le_trans hsW hz⟩)
      refine BO rfl rfl e27 (hS1.box 1 rfl) (by kernel_rfl) rfl (by simpa using hu1) fun w4 h1 hU => ?_
      have hS2 := (hS1.upd 1 rfl (.box g3 27 #[un]) (Bj hU) ⟨(hS1.holds (.box g3 27 #[u]) (by simp)).1, h1⟩ fun _ e => .inl e)
      simp only [BV]
      simp only [Act.put, List.setIfInBounds_toArray, List.set_cons_zero, List.set_cons_succ]
      clear hS hS1 h1 hU hW hun e27
      have hS := hS2
      clear hS2
      go_wp2_with fail
      exact ⟨⟨j + 1, un, N0 ||| depC L z, by go_num, hlj, HI2, (hS.sub (List.sublist_cons_self _ _)).mono (KS.out.and (AW A5 fun z => w0.heap.size <= z)) fun D w h => ⟨(kc.out _ _ h.1).1, h.2⟩⟩, by simp [intOf]; omega⟩
    ·obtain rfl : gl.length = j := by omega
     have HI2 : Hid (Hw L ⟨R, some L, st, rl, nl, gl⟩ N0 /\ ∀ c ∈ gl, C9 (depC L c) N0) := Lib.hid ⟨HI.out.1, fun c hc => HI.out.2 c (by rw [List.take_length]; exact hc)⟩
     clear HI
     go_wp2_with (first | ((with_reducible refine qB ?_); refine qc ?_ ?_ <;> intro h_ <;> go_prune))
     go_loopg [] (2 ^ 64 - N0) (fun k wr => ∃ (u : Value) (B : Nat), 2 ^ 64 - B <= k /\ Hid (Hw L ⟨R, some L, st, rl, nl, gl⟩ B /\ ∀ c ∈ gl, C9 (depC L c) B) /\ St w0 wr [.box g3 27 #[u], .box g2 27 #[.slice none 0 0], .box g1 31 #[.int .i64 R, .pointer (some ⟨q, 0, none⟩), .slice Cs ns cs, .slice Ar rl.length cr, .slice An nl.length cn, .slice Ag gl.length cg]] (fun D w => K D w /\ A7 w (fun z => D z /\ w0.heap.size <= z) (.agg #[u]) B))
     case atStart => exact ⟨u, N0, Nat.le_refl _, HI2, hS⟩
     case round =>
      clear hS HI2
      obtain ⟨uB8, B, hgk, HI, hS⟩ := hrel
      obtain ⟨Ab, cb, lb, he, -⟩ := hS.ro.2.parts
      obtain rfl : uB8 = .slice Ab lb.length cb := by injection he with he; simpa using he
      clear he
      obtain ⟨nb, hnb⟩ : ∃ nb, nb = lb.length := ⟨_, rfl⟩
      rw [<- hnb] at hS
      clear hnb
      have HGK := Lib.hid hgk
      clear hgk
      go_wp2_with (first
       | ((with_reducible refine qk 27 ?_); first | (refine A9 hS 0 rfl _ _ rfl _ _ rfl _ _ rfl _ (by first | rfl | assumption) Tryz.underlying27 rfl (by kernel_rfl) ?_) | (refine A9 hS 1 rfl _ _ rfl _ _ rfl _ _ rfl _ (by first | rfl | assumption) Tryz.underlying27 rfl (by kernel_rfl) ?_) | (refine A9 hS 2 rfl _ _ rfl _ _ rfl _ _ rfl _ (by first | rfl | assumption) Tryz.underlying27 rfl (by kernel_rfl) ?_) | (refine A9 hS 3 rfl _ _ rfl _ _ rfl _ _ rfl _ (by first | rfl | assumption) Tryz.underlying27 rfl (by kernel_rfl) ?_) | (refine A9 hS 4 rfl _ _ rfl _ _ rfl _ _ rfl _ (by first | rfl | assumption) Tryz.underlying27 rfl (by kernel_rfl) ?_) | (refine A9 hS 5 rfl _ _ rfl _ _ rfl _ _ rfl _ (by first | rfl | assumption) Tryz.underlying27 rfl (by kernel_rfl) ?_))
       | ((with_reducible refine qA 6 ?_); refine qa hS #[.slice none 0 0] ?_; clear hS; intro g6 w_ hS)
       | ((with_reducible refine qM ?_); (first | refine qS hS ?_ | refine qT hS ?_); clear hS; intro w_ hS; (try simp only [Act.put, Act.eval, zz, Value.cells] at hS))
       | ((with_reducible refine qK ?_); refine qC hS ?_))
      go_loopw [33] (fun i wr => ∃ (j : Nat) (u : Value) (N : Nat), i = .int .i64 (j : Nat) /\ j <= rl.length /\ Hid (CX L ⟨R, some L, st, rl, nl, gl⟩ B N j 0) /\ St w0 wr [.box g6 27 #[.slice Ab nb cb], .box g3 27 #[u], .box g2 27 #[.slice none 0 0], .box g1 31 #[.int .i64 R, .pointer (some ⟨q, 0, none⟩), .slice Cs ns cs, .slice Ar rl.length cr, .slice An nl.length cn, .slice Ag gl.length cg]] (fun D w => (K D w /\ A7 w D (.agg #[.slice Ab nb cb]) B) /\ A7 w (fun z => D z /\ w0.heap.size <= z) (.agg #[u]) N)) (fun i _ => rl.length - (intOf i).toNat)
      case atStart => exact ⟨0, _, B, rfl, by omega, Lib.hid (CX.start HI.out.1 HI.out.2), hS.mono ((KS.out.and A5).and (AW A5 fun z => w0.heap.size <= z)) fun D w h => ⟨⟨h.1, h.2.imp fun z hz _ => hz.1⟩, h.2⟩⟩
      case round =>
       clear hS HI
       obtain ⟨j, u, N0, rfl, hj, HI, hS⟩ := hrel
       by_cases hlj : j < rl.length
       ·obtain ⟨b, o2, y, n, rfl, _, hb, c0, c1, c2, c3, c4, hy, hn⟩ := (kr _ _ hS.ro.1.1).at_ hlj
        obtain ⟨Ay, my, cy, rfl⟩ := hy.shape
        obtain ⟨Am, mn, cm, rfl⟩ := hn.shape
        have HGj := Lib.hid (B9 AC hlj)
        obtain ⟨KC, kc, hS2⟩ : ∃ KC : (Nat -> Prop) -> World -> Prop, Hid (∀ D w, KC D w -> (K D w /\ A7 w D (.agg #[.slice Ab nb cb]) B) /\ A7 w (fun z => D z /\ w0.heap.size <= z) (.agg #[u]) N0 /\ A7 w D (.agg #[.slice Ay my cy]) (rl.getD j AC).yes /\ A7 w D (.agg #[.slice Am mn cm]) (rl.getD j AC).no) /\ St w0 wr [.box g6 27 #[.slice Ab nb cb], .box g3 27 #[u], .box g2 27 #[.slice none 0 0], .box g1 31 #[.int .i64 R, .pointer (some ⟨q, 0, none⟩), .slice Cs ns cs, .slice (some ⟨b, o2, none⟩) rl.length cr, .slice An nl.length cn, .slice Ag gl.length cg]] KC := ⟨_, Lib.hid fun D w h => ⟨h.1.1, h.1.2, h.2.1, h.2.2⟩, hS.add (D := D6 _) (A5.and A5) ⟨hy, hn⟩ fun _ h _ => h⟩
        clear hS hy hn
        have hS := hS2
        clear hS2
        generalize rl.getD j AC = z at *
        obtain ⟨rv, ry, rn, rt, ro⟩ := z
        dsimp only at kc c0 c1 c2 c3 c4
        obtain ⟨b1, hb1⟩ : ∃ b, b = Bk N0 rt := ⟨_, rfl⟩
        have HB1 := Lib.hid hb1
        cases rv
        ·cases b1
         ·have HI2 := Lib.hid (HI.out.ruleN HGj.out (.inr hb1.symm))
          clear hb1 HI
          go_wp2_with (first
           | ((with_reducible refine qB ?_); refine qc ?_ ?_ <;> intro h_ <;> go_prune)
           | ((with_reducible refine qA 36 ?_); refine BigFrame.wpList_want rfl fun _ hK => AY (cs := [.bool _, .slice Ay my cy, .slice Am mn cm, .int .i64 rt, .int .i64 ro]) rfl rfl (G7 c0 c1 c2 c3 c4) Tryz.underlying58 rfl (by kernel_rfl) (hK _ _ ?_))
           | ((with_reducible refine qA 8 ?_); refine qa hS #[.bool false, .slice none 0 0, .slice none 0 0, .int .i64 0, .int .i64 0] ?_; clear hS; intro g8 w_ hS)
           | ((with_reducible refine qM ?_); (first | refine qS hS ?_ | refine qT hS ?_); clear hS; intro w_ hS; (try simp only [Act.put, Act.eval, zz, Value.cells] at hS))
           | ((with_reducible refine qk 27 ?_); first | (refine A9 hS 0 rfl _ _ rfl _ _ rfl _ _ rfl _ (by first | rfl | assumption) Tryz.underlying27 rfl (by kernel_rfl) ?_) | (refine A9 hS 1 rfl _ _ rfl _ _ rfl _ _ rfl _ (by first | rfl | assumption) Tryz.underlying27 rfl (by kernel_rfl) ?_) | (refine A9 hS 2 rfl _ _ rfl _ _ rfl _ _ rfl _ (by first | rfl | assumption) Tryz.underlying27 rfl (by kernel_rfl) ?_) | (refine A9 hS 3 rfl _ _ rfl _ _ rfl _ _ rfl _ (by first | rfl | assumption) Tryz.underlying27 rfl (by kernel_rfl) ?_) | (refine A9 hS 4 rfl _ _ rfl _ _ rfl _ _ rfl _ (by first | rfl | assumption) Tryz.underlying27 rfl (by kernel_rfl) ?_) | (refine A9 hS 5 rfl _ _ rfl _ _ rfl _ _ rfl _ (by first | rfl | assumption) Tryz.underlying27 rfl (by kernel_rfl) ?_))
           | ((with_reducible refine qK ?_); refine qC hS ?_)
           | (go_at_call 47; refine (Cv _ N0 rt _ _ (kc.out _ _ hS.ro).2.1).mono ?_; rw [<- HB1.out]; rintro r_ w_ ⟨_, rfl, rfl, hb_⟩; replace hS := hS.ext hb_; clear hb_))
          exact ⟨⟨j + 1, u, N0, by go_num, hlj, HI2, (hS.sub (List.sublist_cons_self _ _)).mono ((KS.out.and A5).and (AW A5 fun z => w0.heap.size <= z)) fun D w h => ⟨(kc.out _ _ h).1, (kc.out _ _ h).2.1⟩⟩, by simp [intOf]; omega⟩
         ·have HI2 := Lib.hid (HI.out.ruleY HGj.out rfl hb1.symm)
          have HZ : Hid (depR L ⟨false, ry, rn, rt, ro⟩ = depM L (ry ||| rn)) := Lib.hid rfl
          generalize depR L ⟨false, ry, rn, rt, ro⟩ = dz at *
          clear hb1 HI
          go_wp2_with (first
           | ((with_reducible refine qB ?_); refine qc ?_ ?_ <;> intro h_ <;> go_prune)
           | ((with_reducible refine qA 36 ?_); refine BigFrame.wpList_want rfl fun _ hK => AY (cs := [.bool _, .slice Ay my cy, .slice Am mn cm, .int .i64 rt, .int .i64 ro]) rfl rfl (G7 c0 c1 c2 c3 c4) Tryz.underlying58 rfl (by kernel_rfl) (hK _ _ ?_))
           | ((with_reducible refine qA 8 ?_); refine qa hS #[.bool false, .slice none 0 0, .slice none 0 0, .int .i64 0, .int .i64 0] ?_; clear hS; intro g8 w_ hS)
           | ((with_reducible refine qM ?_); (first | refine qS hS ?_ | refine qT hS ?_); clear hS; intro w_ hS; (try simp only [Act.put, Act.eval, zz, Value.cells] at hS))
           | ((with_reducible refine qk 27 ?_); first | (refine A9 hS 0 rfl _ _ rfl _ _ rfl _ _ rfl _ (by first | rfl | assumption) Tryz.underlying27 rfl (by kernel_rfl) ?_) | (refine A9 hS 1 rfl _ _ rfl _ _ rfl _ _ rfl _ (by first | rfl | assumption) Tryz.underlying27 rfl (by kernel_rfl) ?_) | (refine A9 hS 2 rfl _ _ rfl _ _ rfl _ _ rfl _ (by first | rfl | assumption) Tryz.underlying27 rfl (by kernel_rfl) ?_) | (refine A9 hS 3 rfl _ _ rfl _ _ rfl _ _ rfl _ (by first | rfl | assumption) Tryz.underlying27 rfl (by kernel_rfl) ?_) | (refine A9 hS 4 rfl _ _ rfl _ _ rfl _ _ rfl _ (by first | rfl | assumption) Tryz.underlying27 rfl (by kernel_rfl) ?_) | (refine A9 hS 5 rfl _ _ rfl _ _ rfl _ _ rfl _ (by first | rfl | assumption) Tryz.underlying27 rfl (by kernel_rfl) ?_))
           | ((with_reducible refine qK ?_); refine qC hS ?_)
           | (go_at_call 47; refine (Cv _ N0 rt _ _ (kc.out _ _ hS.ro).2.1).mono ?_; rw [<- HB1.out]; rintro r_ w_ ⟨_, rfl, rfl, hb_⟩; replace hS := hS.ext hb_; clear hb_))
          refine Gy 6 [] [.i (.agg #[u]), .i (.agg #[.int .i64 R, .pointer (some ⟨q, 0, none⟩), .slice Cs ns cs, .slice (some ⟨b, o2, none⟩) rl.length cr, .slice An nl.length cn, .slice Ag gl.length cg]), .q g8 1, .i (.agg #[.slice Ay my cy, .slice Am mn cm]), .s (fun v w => A7 w (fun _ => True) v (dz)) fun v w w' h hb => h.ext hb, .s (fun v w => ∃ u, v = .agg #[u] /\ u.oneCell' = true /\ A7 w (fun z => w_.heap.size <= z) (.agg #[u]) (N0 ||| dz)) fun v w w' h hb => ⟨_, h.choose_spec.1, h.choose_spec.2.1, h.choose_spec.2.2.ext hb⟩, .t] ⟨uR (h := fun w hW hN => (hS.ext hW).box 2 rfl), uR (h := fun w hW hN => (hS.ext hW).box 4 rfl), uF, uD (h := fun w hW hN => Jr (((hS.ext hW).box 0 rfl).cell 1) (((hS.ext hW).box 0 rfl).cell 2)), ?_, ?_, trivial⟩ ?_
          ·refine uT fun b__ w hW hE K hK => ?_
           have e47 := hE 47
           have e49 := hE 49
           refine AB rfl (by kernel_rfl) (by simp only [List.map_cons, List.map_nil, e47, e49]) (DF (kp _ _ (kc.out _ _ (hS.ext hW).ro).1.1) rfl HH.out (kt _ _ (kc.out _ _ (hS.ext hW).ro).1.1) (show AV _ _ (.agg #[.slice Ay my cy, .slice Am mn cm]) (ry, rn) from ⟨_, _, rfl, (kc.out _ _ (hS.ext hW).ro).2.2⟩)) fun v w' h hb => ?_
           exact hK v w' (by rw [HZ.out]; exact h.imp fun _ _ _ => trivial) hb
          ·refine uT fun b__ w hW hE K hK => ?_
           have e46 := hE 46
           have e50 := hE 50
           refine AB rfl (by kernel_rfl) (by simp only [List.map_cons, List.map_nil, e46]) (Fv (.agg #[u]) _ N0 _ w _ _ (kc.out _ _ (hS.ext hW).ro).2.1 e50) fun v w' h hb => ?_
           obtain ⟨u, rfl, h1⟩ := Ch h
           exact hK _ w' ⟨u, rfl, h1, h.imp fun z hz _ => Nat.le_trans hW.size hz⟩ hb
          ·intro vs wz hW hT
           obtain ⟨e46, e47, e48, e49, e50, e51, -⟩ := hT
           have bx : (fun _ : Nat => True) 0 := trivial
           simp only [AF, Act.put, zz, ze]
           (intro o_ ho_; simp only [List.getElem?_toArray, List.getElem?_cons_succ, List.getElem?_cons_zero, Option.some.injEq] at ho_; subst ho_)
           obtain ⟨un, e51, hu1, hun⟩ := e51
           have hsW := hS.size
           have hS1 := hS.ret hW (AW (A5 (v := .agg #[un]) (N := N0 ||| dz)) fun z => w0.heap.size <= z) (hun.imp fun z hz _ => ⟨hz, Nat.le_trans hsW hz⟩)
           refine BO rfl rfl e51 (hS1.box 2 rfl) (by kernel_rfl) rfl (by simpa using hu1) fun w4 h1 hU => ?_
           have hS2 := (hS1.upd 2 rfl (.box g3 27 #[un]) (Bj hU) ⟨(hS1.holds (.box g3 27 #[u]) (by simp)).1, h1⟩ fun _ e => .inl e)
           simp only [BV]
           simp only [Act.put, List.setIfInBounds_toArray, List.set_cons_zero, List.set_cons_succ]
           clear hS hS1 h1 hU hW hun e51
           have hS := hS2
           clear hS2
           go_wp2_with fail
           exact ⟨⟨j + 1, un, N0 ||| dz, by go_num, hlj, HI2, (hS.sub (List.sublist_cons_self _ _)).mono ((KS.out.and A5).and (AW A5 fun z => w0.heap.size <= z)) fun D w h => ⟨(kc.out _ _ h.1).1, h.2⟩⟩, by simp [intOf]; omega⟩
        ·have HI2 := Lib.hid (HI.out.ruleN HGj.out (.inl rfl))
         clear hb1 HI
         go_wp2_with (first
          | ((with_reducible refine qB ?_); refine qc ?_ ?_ <;> intro h_ <;> go_prune)
          | ((with_reducible refine qA 36 ?_); refine BigFrame.wpList_want rfl fun _ hK => AY (cs := [.bool _, .slice Ay my cy, .slice Am mn cm, .int .i64 rt, .int .i64 ro]) rfl rfl (G7 c0 c1 c2 c3 c4) Tryz.underlying58 rfl (by kernel_rfl) (hK _ _ ?_))
          | ((with_reducible refine qA 8 ?_); refine qa hS #[.bool false, .slice none 0 0, .slice none 0 0, .int .i64 0, .int .i64 0] ?_; clear hS; intro g8 w_ hS)
          | ((with_reducible refine qM ?_); (first | refine qS hS ?_ | refine qT hS ?_); clear hS; intro w_ hS; (try simp only [Act.put, Act.eval, zz, Value.cells] at hS))
          | ((with_reducible refine qk 27 ?_); first | (refine A9 hS 0 rfl _ _ rfl _ _ rfl _ _ rfl _ (by first | rfl | assumption) Tryz.underlying27 rfl (by kernel_rfl) ?_) | (refine A9 hS 1 rfl _ _ rfl _ _ rfl _ _ rfl _ (by first | rfl | assumption) Tryz.underlying27 rfl (by kernel_rfl) ?_) | (refine A9 hS 2 rfl _ _ rfl _ _ rfl _ _ rfl _ (by first | rfl | assumption) Tryz.underlying27 rfl (by kernel_rfl) ?_) | (refine A9 hS 3 rfl _ _ rfl _ _ rfl _ _ rfl _ (by first | rfl | assumption) Tryz.underlying27 rfl (by kernel_rfl) ?_) | (refine A9 hS 4 rfl _ _ rfl _ _ rfl _ _ rfl _ (by first | rfl | assumption) Tryz.underlying27 rfl (by kernel_rfl) ?_) | (refine A9 hS 5 rfl _ _ rfl _ _ rfl _ _ rfl _ (by first | rfl | assumption) Tryz.underlying27 rfl (by kernel_rfl) ?_))
          | ((with_reducible refine qK ?_); refine qC hS ?_)
          | (go_at_call 47; refine (Cv _ N0 rt _ _ (kc.out _ _ hS.ro).2.1).mono ?_; rw [<- HB1.out]; rintro r_ w_ ⟨_, rfl, rfl, hb_⟩; replace hS := hS.ext hb_; clear hb_))
         exact ⟨⟨j + 1, u, N0, by go_num, hlj, HI2, (hS.sub (List.sublist_cons_self _ _)).mono ((KS.out.and A5).and (AW A5 fun z => w0.heap.size <= z)) fun D w h => ⟨(kc.out _ _ h).1, (kc.out _ _ h).2.1⟩⟩, by simp [intOf]; omega⟩
       ·obtain rfl : rl.length = j := by omega
        go_wp2_with (first | ((with_reducible refine qB ?_); refine qc ?_ ?_ <;> intro h_ <;> go_prune) | ((with_reducible refine qK ?_); refine qC hS ?_))
        go_loopw [56] (fun i wr => ∃ (j : Nat) (u : Value) (N : Nat), i = .int .i64 (j : Nat) /\ j <= nl.length /\ Hid (CX L ⟨R, some L, st, rl, nl, gl⟩ B N rl.length j) /\ St w0 wr [.box g6 27 #[.slice Ab nb cb], .box g3 27 #[u], .box g2 27 #[.slice none 0 0], .box g1 31 #[.int .i64 R, .pointer (some ⟨q, 0, none⟩), .slice Cs ns cs, .slice Ar rl.length cr, .slice An nl.length cn, .slice Ag gl.length cg]] (fun D w => (K D w /\ A7 w D (.agg #[.slice Ab nb cb]) B) /\ A7 w (fun z => D z /\ w0.heap.size <= z) (.agg #[u]) N)) (fun i _ => nl.length - (intOf i).toNat)
        case atStart => exact ⟨0, u, N0, rfl, by omega, HI, hS⟩
        case round =>
         clear hS HI
         obtain ⟨j, u, N0, rfl, hj, HI, hS⟩ := hrel
         by_cases hlj : j < nl.length
         ·obtain ⟨b, o2, y, n, rfl, _, hb, c0, c1, hy, hn⟩ := (kn _ _ hS.ro.1.1).at_ hlj
          obtain ⟨Ay, my, cy, rfl⟩ := hy.shape
          obtain ⟨Am, mn, cm, rfl⟩ := hn.shape
          have HGj := Lib.hid (B9 (0, 0) hlj)
          obtain ⟨KC, kc, hS2⟩ : ∃ KC : (Nat -> Prop) -> World -> Prop, Hid (∀ D w, KC D w -> (K D w /\ A7 w D (.agg #[.slice Ab nb cb]) B) /\ A7 w (fun z => D z /\ w0.heap.size <= z) (.agg #[u]) N0 /\ AV w D (.agg #[.slice Ay my cy, .slice Am mn cm]) (nl.getD j (0, 0))) /\ St w0 wr [.box g6 27 #[.slice Ab nb cb], .box g3 27 #[u], .box g2 27 #[.slice none 0 0], .box g1 31 #[.int .i64 R, .pointer (some ⟨q, 0, none⟩), .slice Cs ns cs, .slice Ar rl.length cr, .slice (some ⟨b, o2, none⟩) nl.length cn, .slice Ag gl.length cg]] KC := ⟨_, Lib.hid fun D w h => ⟨h.1.1, h.1.2, h.2⟩, hS.add (D := D6 _) Bw ⟨_, _, rfl, hy, hn⟩ fun _ h _ => h⟩
          clear hS hy hn
          have hS := hS2
          clear hS2
          generalize nl.getD j (0, 0) = z at *
          obtain ⟨b1, hb1⟩ : ∃ b, b = (depC L z &&& N0 != 0) := ⟨_, rfl⟩
          have HB1 := Lib.hid hb1
          have HDZ : Hid (depM L (z.1 ||| z.2) = depC L z) := Lib.hid rfl
          cases b1
          ·have HI2 := Lib.hid (HI.out.neverN HGj.out hb1.symm)
           clear hb1 HI
           go_wp2_with (first
            | ((with_reducible refine qB ?_); refine qc ?_ ?_ <;> intro h_ <;> go_prune)
            | ((with_reducible refine qA 59 ?_); refine BigFrame.wpList_want rfl fun _ hK => AY (cs := [.slice Ay my cy, .slice Am mn cm]) rfl rfl (Jr c0 c1) Tryz.underlying54 rfl (by kernel_rfl) (hK _ _ ?_))
            | ((with_reducible refine qA 10 ?_); refine qa hS #[.slice none 0 0, .slice none 0 0] ?_; clear hS; intro g10 w_ hS)
            | ((with_reducible refine qA 11 ?_); refine qa hS #[.slice none 0 0] ?_; clear hS; intro g11 w_ hS)
            | ((with_reducible refine qM ?_); (first | refine qS hS ?_ | refine qT hS ?_); clear hS; intro w_ hS; (try simp only [Act.put, Act.eval, zz, Value.cells] at hS))
            | ((with_reducible refine qA 60 ?_); refine BigFrame.wpList_want rfl fun _ hK => AK rfl rfl (hS.box 4 rfl) Tryz.underlying31 rfl (by kernel_rfl) (hK _ _ ?_))
            | ((with_reducible refine qK ?_); refine qL hS Tryz.underlying54 ?_)
            | ((with_reducible refine qk 27 ?_); first | (refine A9 hS 0 rfl _ _ rfl _ _ rfl _ _ rfl _ (by first | rfl | assumption) Tryz.underlying27 rfl (by kernel_rfl) ?_) | (refine A9 hS 1 rfl _ _ rfl _ _ rfl _ _ rfl _ (by first | rfl | assumption) Tryz.underlying27 rfl (by kernel_rfl) ?_) | (refine A9 hS 2 rfl _ _ rfl _ _ rfl _ _ rfl _ (by first | rfl | assumption) Tryz.underlying27 rfl (by kernel_rfl) ?_) | (refine A9 hS 3 rfl _ _ rfl _ _ rfl _ _ rfl _ (by first | rfl | assumption) Tryz.underlying27 rfl (by kernel_rfl) ?_) | (refine A9 hS 4 rfl _ _ rfl _ _ rfl _ _ rfl _ (by first | rfl | assumption) Tryz.underlying27 rfl (by kernel_rfl) ?_) | (refine A9 hS 5 rfl _ _ rfl _ _ rfl _ _ rfl _ (by first | rfl | assumption) Tryz.underlying27 rfl (by kernel_rfl) ?_))
            | (go_at_call 79; have hsW := hS.size; refine (DF (kp _ _ (kc.out _ _ hS.ro).1.1) rfl HH.out (kt _ _ (kc.out _ _ hS.ro).1.1) (kc.out _ _ hS.ro).2.2).mono ?_; rw [HDZ.out]; rintro r_ w_ ⟨_, rfl, h1, hb_⟩; replace hS := hS.ret hb_ A5 h1; obtain ⟨Ad, cd, ld, rfl, -⟩ := hS.ro.2.parts; clear h1 hb_ hsW)
            | (go_at_call 80; refine (EH _ _ (depC L z) N0 _ _ _ hS.ro.2 (kc.out _ _ hS.ro.1).2.1).mono ?_; rw [<- HB1.out]; rintro r_ w_ ⟨_, rfl, rfl, hb_⟩; replace hS := hS.ext hb_; clear hb_)
            )
           exact ⟨⟨j + 1, u, N0, by go_num, hlj, HI2, (hS.sub ((List.sublist_cons_self _ _).trans (List.sublist_cons_self _ _))).mono ((KS.out.and A5).and (AW A5 fun z => w0.heap.size <= z)) fun D w h => ⟨(kc.out _ _ h.1).1, (kc.out _ _ h.1).2.1⟩⟩, by simp [intOf]; omega⟩
          ·have HI2 := Lib.hid (HI.out.neverY HGj.out hb1.symm)
           clear hb1 HI
           go_wp2_with (first
            | ((with_reducible refine qB ?_); refine qc ?_ ?_ <;> intro h_ <;> go_prune)
            | ((with_reducible refine qA 59 ?_); refine BigFrame.wpList_want rfl fun _ hK => AY (cs := [.slice Ay my cy, .slice Am mn cm]) rfl rfl (Jr c0 c1) Tryz.underlying54 rfl (by kernel_rfl) (hK _ _ ?_))
            | ((with_reducible refine qA 10 ?_); refine qa hS #[.slice none 0 0, .slice none 0 0] ?_; clear hS; intro g10 w_ hS)
            | ((with_reducible refine qA 11 ?_); refine qa hS #[.slice none 0 0] ?_; clear hS; intro g11 w_ hS)
            | ((with_reducible refine qM ?_); (first | refine qS hS ?_ | refine qT hS ?_); clear hS; intro w_ hS; (try simp only [Act.put, Act.eval, zz, Value.cells] at hS))
            | ((with_reducible refine qA 60 ?_); refine BigFrame.wpList_want rfl fun _ hK => AK rfl rfl (hS.box 4 rfl) Tryz.underlying31 rfl (by kernel_rfl) (hK _ _ ?_))
            | ((with_reducible refine qK ?_); refine qL hS Tryz.underlying54 ?_)
            | ((with_reducible refine qk 27 ?_); first | (refine A9 hS 0 rfl _ _ rfl _ _ rfl _ _ rfl _ (by first | rfl | assumption) Tryz.underlying27 rfl (by kernel_rfl) ?_) | (refine A9 hS 1 rfl _ _ rfl _ _ rfl _ _ rfl _ (by first | rfl | assumption) Tryz.underlying27 rfl (by kernel_rfl) ?_) | (refine A9 hS 2 rfl _ _ rfl _ _ rfl _ _ rfl _ (by first | rfl | assumption) Tryz.underlying27 rfl (by kernel_rfl) ?_) | (refine A9 hS 3 rfl _ _ rfl _ _ rfl _ _ rfl _ (by first | rfl | assumption) Tryz.underlying27 rfl (by kernel_rfl) ?_) | (refine A9 hS 4 rfl _ _ rfl _ _ rfl _ _ rfl _ (by first | rfl | assumption) Tryz.underlying27 rfl (by kernel_rfl) ?_) | (refine A9 hS 5 rfl _ _ rfl _ _ rfl _ _ rfl _ (by first | rfl | assumption) Tryz.underlying27 rfl (by kernel_rfl) ?_))
            | (go_at_call 79; have hsW := hS.size; refine (DF (kp _ _ (kc.out _ _ hS.ro).1.1) rfl HH.out (kt _ _ (kc.out _ _ hS.ro).1.1) (kc.out _ _ hS.ro).2.2).mono ?_; rw [HDZ.out]; rintro r_ w_ ⟨_, rfl, h1, hb_⟩; replace hS := hS.ret hb_ A5 h1; obtain ⟨Ad, cd, ld, rfl, -⟩ := hS.ro.2.parts; clear h1 hb_ hsW)
            | (go_at_call 80; refine (EH _ _ (depC L z) N0 _ _ _ hS.ro.2 (kc.out _ _ hS.ro.1).2.1).mono ?_; rw [<- HB1.out]; rintro r_ w_ ⟨_, rfl, rfl, hb_⟩; replace hS := hS.ext hb_; clear hb_)
            | (go_at_call 32; have hsW := hS.size; refine (Fv _ _ N0 (depC L z) _ _ _ (kc.out _ _ hS.ro.1).2.1 hS.ro.2).mono ?_; rintro r_ w_ ⟨_, rfl, h1, hb_⟩; replace hS := hS.ret hb_ (AW A5 fun z => w0.heap.size <= z) (h1.imp fun z hz _ => ⟨hz, Nat.le_trans hsW hz⟩); obtain ⟨Ao, co, lo, rfl, -⟩ := hS.ro.2.parts; clear h1 hb_ hsW))
           exact ⟨⟨j + 1, _, N0 ||| depC L z, by go_num, hlj, HI2, (hS.sub ((List.sublist_cons_self _ _).trans (List.sublist_cons_self _ _))).mono ((KS.out.and A5).and (AW A5 fun z => w0.heap.size <= z)) fun D w h => ⟨(kc.out _ _ h.1.1).1, h.2⟩⟩, by simp [intOf]; omega⟩
         ·obtain rfl : nl.length = j := by omega
          obtain ⟨b1, hb1⟩ : ∃ b, b = (N0 == B) := ⟨_, rfl⟩
          have HB1 := Lib.hid hb1
          obtain ⟨Ao, co, lo, he, -⟩ := hS.ro.2.parts
          obtain rfl : u = .slice Ao lo.length co := by injection he with he; simpa using he
          clear he
          cases b1
          ·have hne : ¬ N0 = B := fun e => by rw [e, beq_self_eq_true] at hb1; cases hb1
           have HLT := Lib.hid (HI.out.lt hne)
           have HI2 : Hid (Hw L ⟨R, some L, st, rl, nl, gl⟩ N0 /\ ∀ c ∈ gl, C9 (depC L c) N0) := Lib.hid ⟨HI.out.low, HI.out.goal⟩
           clear hb1 hne HI
           go_wp2_with (first
            | ((with_reducible refine qB ?_); refine qc ?_ ?_ <;> intro h_ <;> go_prune)
            | ((with_reducible refine qk 27 ?_); first | (refine A9 hS 0 rfl _ _ rfl _ _ rfl _ _ rfl _ (by first | rfl | assumption) Tryz.underlying27 rfl (by kernel_rfl) ?_) | (refine A9 hS 1 rfl _ _ rfl _ _ rfl _ _ rfl _ (by first | rfl | assumption) Tryz.underlying27 rfl (by kernel_rfl) ?_) | (refine A9 hS 2 rfl _ _ rfl _ _ rfl _ _ rfl _ (by first | rfl | assumption) Tryz.underlying27 rfl (by kernel_rfl) ?_) | (refine A9 hS 3 rfl _ _ rfl _ _ rfl _ _ rfl _ (by first | rfl | assumption) Tryz.underlying27 rfl (by kernel_rfl) ?_) | (refine A9 hS 4 rfl _ _ rfl _ _ rfl _ _ rfl _ (by first | rfl | assumption) Tryz.underlying27 rfl (by kernel_rfl) ?_) | (refine A9 hS 5 rfl _ _ rfl _ _ rfl _ _ rfl _ (by first | rfl | assumption) Tryz.underlying27 rfl (by kernel_rfl) ?_))
            | (go_at_call 19; refine (EM _ _ N0 B _ _ _ hS.ro.2 hS.ro.1.2).mono ?_; rw [<- HB1.out]; rintro r_ w_ ⟨_, rfl, rfl, hb_⟩; replace hS := hS.ext hb_; clear hb_))
           go_roundg (2 ^ 64 - N0)
           case measure => have := HLT.out; have := HGK.out; omega
           case rel => exact ⟨_, N0, Nat.le_refl _, HI2, (hS.sub (List.sublist_cons_self _ _)).mono (KS.out.and (AW A5 fun z => w0.heap.size <= z)) fun D w h => ⟨h.1.1, h.2⟩⟩
          ·obtain rfl : N0 = B := by simpa using hb1.symm
           have HFIN := Lib.hid HI.out.done
           clear hb1 HI
           go_wp2_with (first
            | ((with_reducible refine qB ?_); refine qc ?_ ?_ <;> intro h_ <;> go_prune)
            | ((with_reducible refine qk 27 ?_); first | (refine A9 hS 0 rfl _ _ rfl _ _ rfl _ _ rfl _ (by first | rfl | assumption) Tryz.underlying27 rfl (by kernel_rfl) ?_) | (refine A9 hS 1 rfl _ _ rfl _ _ rfl _ _ rfl _ (by first | rfl | assumption) Tryz.underlying27 rfl (by kernel_rfl) ?_) | (refine A9 hS 2 rfl _ _ rfl _ _ rfl _ _ rfl _ (by first | rfl | assumption) Tryz.underlying27 rfl (by kernel_rfl) ?_) | (refine A9 hS 3 rfl _ _ rfl _ _ rfl _ _ rfl _ (by first | rfl | assumption) Tryz.underlying27 rfl (by kernel_rfl) ?_) | (refine A9 hS 4 rfl _ _ rfl _ _ rfl _ _ rfl _ (by first | rfl | assumption) Tryz.underlying27 rfl (by kernel_rfl) ?_) | (refine A9 hS 5 rfl _ _ rfl _ _ rfl _ _ rfl _ (by first | rfl | assumption) Tryz.underlying27 rfl (by kernel_rfl) ?_))
            | ((with_reducible refine qM ?_); (first | refine qS hS ?_ | refine qT hS ?_); clear hS; intro w_ hS; (try simp only [Act.put, Act.eval, zz, Value.cells] at hS))
            | (go_at_call 19; refine (EM _ _ N0 N0 _ _ _ hS.ro.2 hS.ro.1.2).mono ?_; rw [<- HB1.out]; rintro r_ w_ ⟨_, rfl, rfl, hb_⟩; replace hS := hS.ext hb_; clear hb_))
           refine Bm Tryz.results63 rfl (hS.box 2 rfl) Tryz.underlying27 rfl (by kernel_rfl) rfl ?_
           exact AP.mk (by rw [<- HFIN.out]; exact hS.ro.2.imp fun z hz _ => hz.2) hS.below
 ·have HRS : Hid (relS ⟨R, lk, st, rl, nl, gl⟩ = 0) := Lib.hid (by unfold relS; rw [if_neg (fun h => h0 (HE.out.trans h))])
  rw [HRS.out]
  go_enter Tryz.func63, Tryz.ntmps63
  go_wp2_with (first
   | ((with_reducible refine qA 1 ?_); refine Az hS rfl _ _ rfl (.agg #[.int .i64 R, lp, .slice Cs ns cs, .slice Ar rl.length cr, .slice An nl.length cn, .slice Ag gl.length cg]) _ rfl rfl ?_; clear hS; intro g1 w_ hS; (try simp only [Act.put, Act.eval, zz, Value.cells] at hS))
   | ((with_reducible refine qA 2 ?_); refine qa hS #[.slice none 0 0] ?_; clear hS; intro g2 w_ hS)
   | ((with_reducible refine qA 3 ?_); refine qa hS #[.slice none 0 0] ?_; clear hS; intro g3 w_ hS)
   | ((with_reducible refine qB ?_); refine qc ?_ ?_ <;> intro h_ <;> go_prune)
   | ((with_reducible refine qK ?_); refine qL hS Tryz.underlying31 ?_)
   | ((with_reducible refine qk 27 ?_); first | (refine A9 hS 0 rfl _ _ rfl _ _ rfl _ _ rfl _ (by first | rfl | assumption) Tryz.underlying27 rfl (by kernel_rfl) ?_) | (refine A9 hS 1 rfl _ _ rfl _ _ rfl _ _ rfl _ (by first | rfl | assumption) Tryz.underlying27 rfl (by kernel_rfl) ?_) | (refine A9 hS 2 rfl _ _ rfl _ _ rfl _ _ rfl _ (by first | rfl | assumption) Tryz.underlying27 rfl (by kernel_rfl) ?_) | (refine A9 hS 3 rfl _ _ rfl _ _ rfl _ _ rfl _ (by first | rfl | assumption) Tryz.underlying27 rfl (by kernel_rfl) ?_) | (refine A9 hS 4 rfl _ _ rfl _ _ rfl _ _ rfl _ (by first | rfl | assumption) Tryz.underlying27 rfl (by kernel_rfl) ?_) | (refine A9 hS 5 rfl _ _ rfl _ _ rfl _ _ rfl _ (by first | rfl | assumption) Tryz.underlying27 rfl (by kernel_rfl) ?_))
   | ((with_reducible refine qM ?_); (first | refine qS hS ?_ | refine qT hS ?_); clear hS; intro w_ hS; (try simp only [Act.put, Act.eval, zz, Value.cells] at hS))
   | (go_at_call 31; refine (CA (kp _ _ hS.ro) HP.out (kt _ _ hS.ro)).mono ?_; rw [<- HE.out]; rintro r_ w_ ⟨_, rfl, rfl, hb_⟩; replace hS := hS.ext hb_; clear hb_))
  refine Bm Tryz.results63 rfl (hS.box 1 rfl) Tryz.underlying27 rfl (by kernel_rfl) rfl ?_
  exact AP.mk A7.empty hS.below
end
section
open Go.RowKit
attribute [local go_sem ↓] Go.wp_at_zero Go.wp_at_succ
set_option maxRecDepth 20000
set_option exponentiation.threshold 5000
theorem J6 : BD Tryz.prog 28 58 5 72 := ⟨Tryz.underlying28, by kernel_rfl⟩
theorem kclone_any {w0 : World} {D : Nat -> Prop} {pv : Value} {n : Nat} {xs : List Value} (h : Sl w0 D 2 pv n xs) (ho : ∀ u ∈ xs, u.oneCell' = true) (hl : n <= 1000000) : Calls Tryz.prog 27 #[pv] w0 fun e w' => ∃ v, e = .returned v /\ St w0 w' [.own v 54 2 n xs] fun _ _ => True := by
 obtain ⟨A, c, rfl, hc1, hc2⟩ := h.shape
 obtain ⟨K, kp, hS⟩ : ∃ K : (Nat -> Prop) -> World -> Prop, (∀ D w, K D w -> Sl w D 2 (.slice A n c) n xs) /\ St w0 w0 [] K := ⟨_, fun _ _ h => h, St.start (Aq (by decide)) h⟩
 clear h
 cases A with
 | none =>
  obtain ⟨rfl, rfl⟩ : n = 0 /\ xs = [] := by
   obtain ⟨h1, A, c2, h2, _, _, h5⟩ := kp _ _ hS.ro
   rcases Nat.eq_zero_or_pos n with h | h
   ·subst h; exact ⟨rfl, List.length_eq_zero_iff.1 (by omega)⟩
   ·obtain ⟨b, o, h6, _⟩ := h5 h
    injection h2 with h2; rw [<- h2] at h6; cases h6
  go_enter Tryz.func27, Tryz.ntmps27
  go_wp2_with (first
   | ((with_reducible refine qB ?_); refine qc ?_ ?_ <;> intro h_ <;> go_prune)
   | ((with_reducible refine qA 4 ?_); refine BigFrame.wpList_want rfl fun _ hK => AE (vx := .slice none 0 c) (vy := .slice none 0 0) (v := .bool true) rfl rfl rfl rfl (Lib.run_eql_slice_nil _ _ _ _ _ _ _ _ Tryz.underlying29) (hK _ _ ?_)))
  go_ret
  exact ⟨_, rfl, ((hS.nil 54 2)).mono (AO.pure True) fun _ _ _ => trivial⟩
 | some ad =>
  go_enter Tryz.func27, Tryz.ntmps27
  go_wp2_with (first
   | ((with_reducible refine qA 4 ?_); refine BigFrame.wpList_want rfl fun _ hK => AE (vx := .slice (some ad) n c) (vy := .slice none 0 0) (v := .bool false) rfl rfl rfl rfl (Lib.run_eql_slice_nil _ _ _ _ _ _ _ _ Tryz.underlying29) (hK _ _ ?_))
   | ((with_reducible show wpList _ _ _ (⟨_, .buildSlice _ 0 _, _, _, _, _⟩ :: _) _ _); refine GS hS rfl _ _ rfl Tryz.underlying29 (by kernel_rfl) 2 ?_; clear hS; intro ge w_ hS)
   | ((with_reducible refine qA 7 ?_); refine IV hS 0 rfl _ _ _ rfl DT _ rfl rfl _ _ _ _ rfl (kp _ _ hS.ro) ho (by omega) (by omega) ?_; clear hS; intro g cap w_ hS))
  go_ret
  exact ⟨_, rfl, hS.mono (AO.pure True) fun _ _ _ => trivial⟩
theorem rclone_any {w0 : World} {D : Nat -> Prop} {pv : Value} {n : Nat} {xs : List Value} (h : Sl w0 D 5 pv n xs) (ho : ∀ u ∈ xs, u.oneCell' = true) (hl : n <= 1000000) : Calls Tryz.prog 29 #[pv] w0 fun e w' => ∃ v, e = .returned v /\ St w0 w' [.own v 58 5 n xs] fun _ _ => True := by
 obtain ⟨A, c, rfl, hc1, hc2⟩ := h.shape
 obtain ⟨K, kp, hS⟩ : ∃ K : (Nat -> Prop) -> World -> Prop, (∀ D w, K D w -> Sl w D 5 (.slice A n c) n xs) /\ St w0 w0 [] K := ⟨_, fun _ _ h => h, St.start (Aq (by decide)) h⟩
 clear h
 cases A with
 | none =>
  obtain ⟨rfl, rfl⟩ : n = 0 /\ xs = [] := by
   obtain ⟨h1, A, c2, h2, _, _, h5⟩ := kp _ _ hS.ro
   rcases Nat.eq_zero_or_pos n with h | h
   ·subst h; exact ⟨rfl, List.length_eq_zero_iff.1 (by omega)⟩
   ·obtain ⟨b, o, h6, _⟩ := h5 h
    injection h2 with h2; rw [<- h2] at h6; cases h6
  go_enter Tryz.func29, Tryz.ntmps29
  go_wp2_with (first
   | ((with_reducible refine qB ?_); refine qc ?_ ?_ <;> intro h_ <;> go_prune)
   | ((with_reducible refine qA 4 ?_); refine BigFrame.wpList_want rfl fun _ hK => AE (vx := .slice none 0 c) (vy := .slice none 0 0) (v := .bool true) rfl rfl rfl rfl (Lib.run_eql_slice_nil _ _ _ _ _ _ _ _ Tryz.underlying28) (hK _ _ ?_)))
  go_ret
  exact ⟨_, rfl, ((hS.nil 58 5)).mono (AO.pure True) fun _ _ _ => trivial⟩
 | some ad =>
  go_enter Tryz.func29, Tryz.ntmps29
  go_wp2_with (first
   | ((with_reducible refine qA 4 ?_); refine BigFrame.wpList_want rfl fun _ hK => AE (vx := .slice (some ad) n c) (vy := .slice none 0 0) (v := .bool false) rfl rfl rfl rfl (Lib.run_eql_slice_nil _ _ _ _ _ _ _ _ Tryz.underlying28) (hK _ _ ?_))
   | ((with_reducible show wpList _ _ _ (⟨_, .buildSlice _ 0 _, _, _, _, _⟩ :: _) _ _); refine GS hS rfl _ _ rfl Tryz.underlying28 (by kernel_rfl) 5 ?_; clear hS; intro ge w_ hS)
   | ((with_reducible refine qA 7 ?_); refine IV hS 0 rfl _ _ _ rfl J6 _ rfl rfl _ _ _ _ rfl (kp _ _ hS.ro) ho (by omega) (by omega) ?_; clear hS; intro g cap w_ hS))
  go_ret
  exact ⟨_, rfl, hS.mono (AO.pure True) fun _ _ _ => trivial⟩
theorem JR {w0 : World} {D : Nat -> Prop} {pv : Value} {n : Nat} {xs : List Value} (h : Sl w0 D 2 pv n xs) (ho : ∀ u ∈ xs, u.oneCell' = true) (hl : n <= 1000000) : Calls Tryz.prog 116 #[pv] w0 fun e w' => ∃ v, e = .returned v /\ St w0 w' [.own v 54 2 n xs] fun _ _ => True := by
 have HC := Lib.hid (kclone_any h ho hl)
 clear h ho
 go_enter Tryz.func116, Tryz.ntmps116
 go_wp2_with (first | (go_at_call 27; refine HC.out.mono ?_; rintro e w_ ⟨v, rfl, hS⟩))
 go_ret
 exact ⟨_, rfl, hS⟩
theorem vs_len5 {vs : List Value} (h : vs.length = 5) : ∃ x0 x1 x2 x3 x4, vs = [x0, x1, x2, x3, x4] := by
 obtain ⟨x, vs', rfl, h'⟩ := GH h
 obtain ⟨y, z, u, t, rfl⟩ := IQ h'
 exact ⟨x, y, z, u, t, rfl⟩
theorem vs_len6 {vs : List Value} (h : vs.length = 6) : ∃ x0 x1 x2 x3 x4 x5, vs = [x0, x1, x2, x3, x4, x5] := by
 obtain ⟨x, vs', rfl, h'⟩ := GH h
 obtain ⟨y, z, u, t, r, rfl⟩ := vs_len5 h'
 exact ⟨x, y, z, u, t, r, rfl⟩
theorem Jg {w : World} {D : Nat -> Prop} {size n : Nat} {v : Value} {xs : List Value} (h : Sl w D size v n xs) : v.cells = #[v] /\ v.oneCell' = true := by
 obtain ⟨A, c, rfl, _, _⟩ := h.shape
 exact ⟨rfl, rfl⟩
theorem AQ.one {w : World} {D : Nat -> Prop} {xs : List Value} {l : List AM} (hl : xs.length = l.length * 5) (h : AQ w D xs l) : ∀ u ∈ xs, u.oneCell' = true := fun u hu => by
 obtain ⟨i, hi, rfl⟩ := List.getElem_of_mem hu
 have hk : i / 5 < l.length := by omega
 obtain ⟨a, b, q0, q1, q2, q3, q4, q5, q6⟩ := h (i / 5) l[i / 5] (by rw [List.getElem?_eq_getElem hk])
 obtain ⟨A, m, c, e3⟩ := q5.shape
 obtain ⟨B, k, d, e4⟩ := q6.shape
 have key : ∀ {j : Nat} {v : Value}, xs[i / 5 * 5 + j]? = some v -> i = i / 5 * 5 + j -> v.oneCell' = true -> xs[i].oneCell' = true := fun {j v} q e hv => by
  rw [<- e, List.getElem?_eq_getElem hi] at q
  injection q with q
  rw [q]; exact hv
 have h5 : i % 5 < 5 := Nat.mod_lt _ (by decide)
 have hd := Nat.div_add_mod i 5
 match hm : i % 5, h5 with
 | 0, _ => exact key (j := 0) q0 (by omega) rfl
 | 1, _ => exact key (j := 1) q1 (by omega) (by rw [e3]; rfl)
 | 2, _ => exact key (j := 2) q2 (by omega) (by rw [e4]; rfl)
 | 3, _ => exact key (j := 3) q3 (by omega) rfl
 | 4, _ => exact key (j := 4) q4 (by omega) rfl
set_option maxHeartbeats 1000000 in
theorem copy_any {w0 w : World} {F : List Ai} {K : (Nat -> Prop) -> World -> Prop} {v : Value} {p : Ah} (hP : p.Ok) (hS : St w0 w F K) (kp : ∀ D w, K D w -> Bn w D v p) :
  Calls Tryz.prog 78 #[v] w fun e w' => ∃ u, e = .returned u /\ St w0 w' F fun D w => K D w /\ Bn w D u p := by
 obtain ⟨R, lk, st, rl, nl, gl⟩ := p
 obtain ⟨lp, s, rv, nv, gv, rfl, hh, hs, hr, hn, hg⟩ := kp _ _ hS.ro
 dsimp only at hh hs hr hn hg
 obtain ⟨hP1, hP2, hP3, -⟩ := hP
 dsimp only at hP1 hP2 hP3
 have KS := Lib.hid hS.stable
 obtain ⟨la, rfl⟩ : ∃ la, lp = .pointer la := by
  cases lk with
  | none => exact ⟨none, hh⟩
  | some L => obtain ⟨q, o, rfl, -⟩ := hh; exact ⟨_, rfl⟩
 obtain ⟨Cs, ns, cs, rfl⟩ := hs.shape
 obtain ⟨Ar, cr, rfl, _, _⟩ := hr.shape
 obtain ⟨An, cn, rfl, _, _⟩ := hn.shape
 obtain ⟨Ag, cg, rfl, _, _⟩ := hg.shape
 obtain ⟨xr, hr1, hr2⟩ := hr
 obtain ⟨xn, hn1, hn2⟩ := hn
 obtain ⟨xg, hg1, hg2⟩ := hg
 have OR : Hid (∀ u ∈ xr, u.oneCell' = true) := Lib.hid (hr2.one hr1.1)
 have ON : Hid (∀ u ∈ xn, u.oneCell' = true) := Lib.hid (Ak.one hn1.1 hn2)
 have OG : Hid (∀ u ∈ xg, u.oneCell' = true) := Lib.hid (Ak.one hg1.1 hg2)
 obtain ⟨K1, k0, kh, ks, kr, kn, kg, kr2, kn2, kg2, hS2⟩ : ∃ K1 : (Nat -> Prop) -> World -> Prop, (∀ D w, K1 D w -> K D w) /\ (∀ D w, K1 D w -> Gx w D (.pointer la) lk) /\ (∀ D w, K1 D w -> A7 w D (.agg #[.slice Cs ns cs]) st) /\ (∀ D w, K1 D w -> Sl w D 5 (.slice Ar rl.length cr) rl.length xr) /\ (∀ D w, K1 D w -> Sl w D 2 (.slice An nl.length cn) nl.length xn) /\ (∀ D w, K1 D w -> Sl w D 2 (.slice Ag gl.length cg) gl.length xg) /\ (∀ D w, K1 D w -> AQ w D xr rl) /\ (∀ D w, K1 D w -> Ak w D xn nl) /\ (∀ D w, K1 D w -> Ak w D xg gl) /\ St w0 w F K1 :=
  ⟨_, fun _ _ h => h.1, fun _ _ h => h.2.1.1, fun _ _ h => h.2.1.2, fun _ _ h => h.2.2.1.1, fun _ _ h => h.2.2.2.1.1, fun _ _ h => h.2.2.2.2.1, fun _ _ h => h.2.2.1.2, fun _ _ h => h.2.2.2.1.2, fun _ _ h => h.2.2.2.2.2, hS.add (D := D6 F) ((C2.and A5).and (((Aq (by decide)).and Cf).and (((Aq (by decide)).and CR).and ((Aq (by decide)).and CR)))) ⟨⟨hh, hs⟩, ⟨hr1, hr2⟩, ⟨hn1, hn2⟩, hg1, hg2⟩ fun _ h _ => h⟩
 clear hS hh hs hr1 hr2 hn1 hn2 hg1 hg2 kp
 have hS := hS2
 clear hS2
 have KS1 := Lib.hid hS.stable
 go_enter Tryz.func78, Tryz.ntmps78
 go_wp2_with (first
  | ((with_reducible refine qA 1 ?_); refine Az hS rfl _ _ rfl (.agg #[.int .i64 R, .pointer la, .slice Cs ns cs, .slice Ar rl.length cr, .slice An nl.length cn, .slice Ag gl.length cg]) _ rfl rfl ?_; clear hS; intro g1 w_ hS; (try simp only [Act.put, Act.eval, zz, Value.cells] at hS))
  | ((with_reducible refine qA 2 ?_); refine qa hS #[.int .i64 0, .pointer none, .slice none 0 0, .slice none 0 0, .slice none 0 0, .slice none 0 0] ?_; clear hS; intro g2 w_ hS))
 have h0d : St w0 w_.drew (.box g2 31 #[.int .i64 0, .pointer none, .slice none 0 0, .slice none 0 0, .slice none 0 0, .slice none 0 0] :: .box g1 31 #[.int .i64 R, .pointer la, .slice Cs ns cs, .slice Ar rl.length cr, .slice An nl.length cn, .slice Ag gl.length cg] :: F) K1 := hS.drew
 clear hS
 refine wp_zS [2, 5, 8, 10, 12, 14] [some (.pointer (some ⟨g1, 3, none⟩)), some (.slice Ar rl.length cr), none, some (.pointer (some ⟨g1, 4, none⟩)), some (.slice An nl.length cn), none, some (.pointer (some ⟨g1, 5, none⟩)), some (.slice Ag gl.length cg), none, some (.pointer (some ⟨g1, 3, none⟩)), none, some (.pointer (some ⟨g1, 4, none⟩)), none, some (.pointer (some ⟨g1, 5, none⟩)), none] (fun vs w => match vs with | [] => St w0 w (.box g2 31 #[.int .i64 0, .pointer none, .slice none 0 0, .slice none 0 0, .slice none 0 0, .slice none 0 0] :: .box g1 31 #[.int .i64 R, .pointer la, .slice Cs ns cs, .slice Ar rl.length cr, .slice An nl.length cn, .slice Ag gl.length cg] :: F) K1 | [a] => St w0 w (.box g2 31 #[.int .i64 0, .pointer none, .slice none 0 0, .slice none 0 0, .slice none 0 0, .slice none 0 0] :: .box g1 31 #[.int .i64 R, .pointer la, .slice Cs ns cs, .slice Ar rl.length cr, .slice An nl.length cn, .slice Ag gl.length cg] :: F) (fun D w => K1 D w /\ Sl w D 5 a rl.length xr) | [a, b] => St w0 w (.box g2 31 #[.int .i64 0, .pointer none, .slice none 0 0, .slice none 0 0, .slice none 0 0, .slice none 0 0] :: .box g1 31 #[.int .i64 R, .pointer la, .slice Cs ns cs, .slice Ar rl.length cr, .slice An nl.length cn, .slice Ag gl.length cg] :: F) (fun D w => (K1 D w /\ Sl w D 5 a rl.length xr) /\ Sl w D 2 b nl.length xn) | [a, b, c] => St w0 w (.box g2 31 #[.int .i64 0, .pointer none, .slice none 0 0, .slice none 0 0, .slice none 0 0, .slice none 0 0] :: .box g1 31 #[.int .i64 R, .pointer la, .slice Cs ns cs, .slice Ar rl.length cr, .slice An nl.length cn, .slice Ag gl.length cg] :: F) (fun D w => ((K1 D w /\ Sl w D 5 a rl.length xr) /\ Sl w D 2 b nl.length xn) /\ Sl w D 2 c gl.length xg) | [a, b, c, _] => St w0 w (.box g2 31 #[.int .i64 0, .pointer none, .slice none 0 0, .slice none 0 0, .slice none 0 0, .slice none 0 0] :: .box g1 31 #[.int .i64 R, .pointer la, .slice Cs ns cs, a, .slice An nl.length cn, .slice Ag gl.length cg] :: F) (fun D w => ((K1 D w /\ Sl w D 5 a rl.length xr) /\ Sl w D 2 b nl.length xn) /\ Sl w D 2 c gl.length xg) | [a, b, c, _, _] => St w0 w (.box g2 31 #[.int .i64 0, .pointer none, .slice none 0 0, .slice none 0 0, .slice none 0 0, .slice none 0 0] :: .box g1 31 #[.int .i64 R, .pointer la, .slice Cs ns cs, a, b, .slice Ag gl.length cg] :: F) (fun D w => ((K1 D w /\ Sl w D 5 a rl.length xr) /\ Sl w D 2 b nl.length xn) /\ Sl w D 2 c gl.length xg) | [a, b, c, _, _, _] => St w0 w (.box g2 31 #[.int .i64 0, .pointer none, .slice none 0 0, .slice none 0 0, .slice none 0 0, .slice none 0 0] :: .box g1 31 #[.int .i64 R, .pointer la, .slice Cs ns cs, a, b, c] :: F) (fun D w => ((K1 D w /\ Sl w D 5 a rl.length xr) /\ Sl w D 2 b nl.length xn) /\ Sl w D 2 c gl.length xg) | _ => False) ?_ ⟨vF, ?_, ?_, vF, ?_, ?_, vF, ?_, ?_, vF, ?_, vF, ?_, vF, ?_, trivial⟩ ?_
 ·first | assumption | (dsimp only; assumption)
 ·refine vR 0 0 fun b__ w vs hS h1 h2 hE K hK => ?_
  rcases vs with _ | ⟨x0, vs⟩ <;> first | (exfalso; first | exact hS | (revert h1 h2; simp <;> omega); done) | ((have e3 := hE 3); (first | exact At rfl e3 (by kernel_rfl) ((show St w0 w (.box g2 31 #[.int .i64 0, .pointer none, .slice none 0 0, .slice none 0 0, .slice none 0 0, .slice none 0 0] :: .box g1 31 #[.int .i64 R, .pointer la, .slice Cs ns cs, .slice Ar rl.length cr, .slice An nl.length cn, .slice Ag gl.length cg] :: F) K1 from hS).shut 1 rfl 3 rfl) (hK _ rfl)))
 ·refine vX 0 fun b__ w vs hS hl hE K hK => ?_
  obtain rfl := IR hl
  have e4 := hE 4
  have h3 : St w0 w (.box g2 31 #[.int .i64 0, .pointer none, .slice none 0 0, .slice none 0 0, .slice none 0 0, .slice none 0 0] :: .box g1 31 #[.int .i64 R, .pointer la, .slice Cs ns cs, .slice Ar rl.length cr, .slice An nl.length cn, .slice Ag gl.length cg] :: F) K1 := hS
  exact Cb rfl (by kernel_rfl) (by simp only [List.map_cons, List.map_nil, e4]) (rclone_any (kr _ _ h3.ro) OR.out (by omega)) fun e w' ⟨v, he, hs⟩ => ⟨v, he, hK v w' ((h3.new hs.below (.own v 58 5 rl.length xr) (hs.own 0 rfl)).freeze 0 (by decide) rfl)⟩
 ·refine vR 0 1 fun b__ w vs hS h1 h2 hE K hK => ?_
  rcases vs with _ | ⟨x0, _ | ⟨x1, vs⟩⟩ <;> first | (exfalso; first | exact hS | (revert h1 h2; simp <;> omega); done) | ((have e6 := hE 6); (first | exact At rfl e6 (by kernel_rfl) ((show St w0 w (.box g2 31 #[.int .i64 0, .pointer none, .slice none 0 0, .slice none 0 0, .slice none 0 0, .slice none 0 0] :: .box g1 31 #[.int .i64 R, .pointer la, .slice Cs ns cs, .slice Ar rl.length cr, .slice An nl.length cn, .slice Ag gl.length cg] :: F) K1 from hS).shut 1 rfl 4 rfl) (hK _ rfl) | exact At rfl e6 (by kernel_rfl) ((show St w0 w (.box g2 31 #[.int .i64 0, .pointer none, .slice none 0 0, .slice none 0 0, .slice none 0 0, .slice none 0 0] :: .box g1 31 #[.int .i64 R, .pointer la, .slice Cs ns cs, .slice Ar rl.length cr, .slice An nl.length cn, .slice Ag gl.length cg] :: F) (fun D w => K1 D w /\ Sl w D 5 x0 rl.length xr) from hS).shut 1 rfl 4 rfl) (hK _ rfl)))
 ·refine vX 1 fun b__ w vs hS hl hE K hK => ?_
  obtain ⟨x0, rfl⟩ := GG hl
  have e7 := hE 7
  have h3 : St w0 w (.box g2 31 #[.int .i64 0, .pointer none, .slice none 0 0, .slice none 0 0, .slice none 0 0, .slice none 0 0] :: .box g1 31 #[.int .i64 R, .pointer la, .slice Cs ns cs, .slice Ar rl.length cr, .slice An nl.length cn, .slice Ag gl.length cg] :: F) (fun D w => K1 D w /\ Sl w D 5 x0 rl.length xr) := hS
  exact Cb rfl (by kernel_rfl) (by simp only [List.map_cons, List.map_nil, e7]) (JR (kn _ _ h3.ro.1) ON.out (by omega)) fun e w' ⟨v, he, hs⟩ => ⟨v, he, hK v w' ((h3.new hs.below (.own v 54 2 nl.length xn) (hs.own 0 rfl)).freeze 0 (by decide) rfl)⟩
 ·refine vR 0 2 fun b__ w vs hS h1 h2 hE K hK => ?_
  rcases vs with _ | ⟨x0, _ | ⟨x1, _ | ⟨x2, vs⟩⟩⟩ <;> first | (exfalso; first | exact hS | (revert h1 h2; simp <;> omega); done) | ((have e9 := hE 9); (first | exact At rfl e9 (by kernel_rfl) ((show St w0 w (.box g2 31 #[.int .i64 0, .pointer none, .slice none 0 0, .slice none 0 0, .slice none 0 0, .slice none 0 0] :: .box g1 31 #[.int .i64 R, .pointer la, .slice Cs ns cs, .slice Ar rl.length cr, .slice An nl.length cn, .slice Ag gl.length cg] :: F) K1 from hS).shut 1 rfl 5 rfl) (hK _ rfl) | exact At rfl e9 (by kernel_rfl) ((show St w0 w (.box g2 31 #[.int .i64 0, .pointer none, .slice none 0 0, .slice none 0 0, .slice none 0 0, .slice none 0 0] :: .box g1 31 #[.int .i64 R, .pointer la, .slice Cs ns cs, .slice Ar rl.length cr, .slice An nl.length cn, .slice Ag gl.length cg] :: F) (fun D w => K1 D w /\ Sl w D 5 x0 rl.length xr) from hS).shut 1 rfl 5 rfl) (hK _ rfl) | exact At rfl e9 (by kernel_rfl) ((show St w0 w (.box g2 31 #[.int .i64 0, .pointer none, .slice none 0 0, .slice none 0 0, .slice none 0 0, .slice none 0 0] :: .box g1 31 #[.int .i64 R, .pointer la, .slice Cs ns cs, .slice Ar rl.length cr, .slice An nl.length cn, .slice Ag gl.length cg] :: F) (fun D w => (K1 D w /\ Sl w D 5 x0 rl.length xr) /\ Sl w D 2 x1 nl.length xn) from hS).shut 1 rfl 5 rfl) (hK _ rfl)))
 ·refine vX 2 fun b__ w vs hS hl hE K hK => ?_
  obtain ⟨x0, x1, rfl⟩ := GF hl
  have e10 := hE 10
  have h3 : St w0 w (.box g2 31 #[.int .i64 0, .pointer none, .slice none 0 0, .slice none 0 0, .slice none 0 0, .slice none 0 0] :: .box g1 31 #[.int .i64 R, .pointer la, .slice Cs ns cs, .slice Ar rl.length cr, .slice An nl.length cn, .slice Ag gl.length cg] :: F) (fun D w => (K1 D w /\ Sl w D 5 x0 rl.length xr) /\ Sl w D 2 x1 nl.length xn) := hS
  exact Cb rfl (by kernel_rfl) (by simp only [List.map_cons, List.map_nil, e10]) (JR (kg _ _ h3.ro.1.1) OG.out (by omega)) fun e w' ⟨v, he, hs⟩ => ⟨v, he, hK v w' ((h3.new hs.below (.own v 54 2 gl.length xg) (hs.own 0 rfl)).freeze 0 (by decide) rfl)⟩
 ·refine vX 3 fun b__ w vs hS hl hE K hK => ?_
  obtain ⟨x0, x1, x2, rfl⟩ := GE hl
  have e12 := hE 12
  have e5 := hE 5
  have h3 : St w0 w (.box g2 31 #[.int .i64 0, .pointer none, .slice none 0 0, .slice none 0 0, .slice none 0 0, .slice none 0 0] :: .box g1 31 #[.int .i64 R, .pointer la, .slice Cs ns cs, .slice Ar rl.length cr, .slice An nl.length cn, .slice Ag gl.length cg] :: F) (fun D w => ((K1 D w /\ Sl w D 5 x0 rl.length xr) /\ Sl w D 2 x1 nl.length xn) /\ Sl w D 2 x2 gl.length xg) := hS
  have hc := Jg (h3.ro.1.1.2)
  exact Cu rfl e12 e5 (h3.box 1 rfl) (show 3 < 6 by decide) hc.1 hc.2 (by kernel_rfl) fun w' hbx hup => hK _ w' (h3.upd 1 rfl (.box g1 31 #[.int .i64 R, .pointer la, .slice Cs ns cs, x0, .slice An nl.length cn, .slice Ag gl.length cg]) (Bj hup) ⟨(h3.holds (.box g1 31 _) (List.mem_of_getElem? (i := 1) rfl)).1, hbx⟩ fun _ e => .inl e)
 ·refine vX 4 fun b__ w vs hS hl hE K hK => ?_
  obtain ⟨x0, x1, x2, x3, rfl⟩ := IQ hl
  have e13 := hE 13
  have e8 := hE 8
  have h3 : St w0 w (.box g2 31 #[.int .i64 0, .pointer none, .slice none 0 0, .slice none 0 0, .slice none 0 0, .slice none 0 0] :: .box g1 31 #[.int .i64 R, .pointer la, .slice Cs ns cs, x0, .slice An nl.length cn, .slice Ag gl.length cg] :: F) (fun D w => ((K1 D w /\ Sl w D 5 x0 rl.length xr) /\ Sl w D 2 x1 nl.length xn) /\ Sl w D 2 x2 gl.length xg) := hS
  have hc := Jg (h3.ro.1.2)
  exact Cu rfl e13 e8 (h3.box 1 rfl) (show 4 < 6 by decide) hc.1 hc.2 (by kernel_rfl) fun w' hbx hup => hK _ w' (h3.upd 1 rfl (.box g1 31 #[.int .i64 R, .pointer la, .slice Cs ns cs, x0, x1, .slice Ag gl.length cg]) (Bj hup) ⟨(h3.holds (.box g1 31 _) (List.mem_of_getElem? (i := 1) rfl)).1, hbx⟩ fun _ e => .inl e)
 ·refine vX 5 fun b__ w vs hS hl hE K hK => ?_
  obtain ⟨x0, x1, x2, x3, x4, rfl⟩ := vs_len5 hl
  have e14 := hE 14
  have e11 := hE 11
  have h3 : St w0 w (.box g2 31 #[.int .i64 0, .pointer none, .slice none 0 0, .slice none 0 0, .slice none 0 0, .slice none 0 0] :: .box g1 31 #[.int .i64 R, .pointer la, .slice Cs ns cs, x0, x1, .slice Ag gl.length cg] :: F) (fun D w => ((K1 D w /\ Sl w D 5 x0 rl.length xr) /\ Sl w D 2 x1 nl.length xn) /\ Sl w D 2 x2 gl.length xg) := hS
  have hc := Jg (h3.ro.2)
  exact Cu rfl e14 e11 (h3.box 1 rfl) (show 5 < 6 by decide) hc.1 hc.2 (by kernel_rfl) fun w' hbx hup => hK _ w' (h3.upd 1 rfl (.box g1 31 #[.int .i64 R, .pointer la, .slice Cs ns cs, x0, x1, x2]) (Bj hup) ⟨(h3.holds (.box g1 31 _) (List.mem_of_getElem? (i := 1) rfl)).1, hbx⟩ fun _ e => .inl e)
 ·intro us wz vs hS hl hT
  obtain ⟨x0, x1, x2, x3, x4, x5, rfl⟩ := vs_len6 hl
  obtain ⟨e3, e4, e5, e6, e7, e8, e9, e10, e11, e12, e13, e14, -⟩ := hT
  clear hl
  simp only [AF, Act.put, zz, ze]
  have hS2 : St w0 wz (.box g2 31 #[.int .i64 0, .pointer none, .slice none 0 0, .slice none 0 0, .slice none 0 0, .slice none 0 0] :: .box g1 31 #[.int .i64 R, .pointer la, .slice Cs ns cs, x0, x1, x2] :: F) (fun D w => ((K1 D w /\ Sl w D 5 x0 rl.length xr) /\ Sl w D 2 x1 nl.length xn) /\ Sl w D 2 x2 gl.length xg) := hS
  clear hS
  have hS := hS2
  clear hS2
  obtain ⟨A0, c0, rfl, _, _⟩ := hS.ro.1.1.2.shape
  obtain ⟨A1, c1, rfl, _, _⟩ := hS.ro.1.2.shape
  obtain ⟨A2, c2, rfl, _, _⟩ := hS.ro.2.shape
  go_wp2_with (first
   | ((with_reducible refine qK ?_); refine qL hS Tryz.underlying31 ?_)
   | ((with_reducible refine qM ?_); (first | refine qS hS ?_ | refine qT hS ?_); clear hS; intro w_ hS; (try simp only [Act.put, Act.eval, zz, Value.cells] at hS)))
  refine Bm Tryz.results78 rfl (hS.box 0 rfl) Tryz.underlying31 rfl (by kernel_rfl) rfl ?_
  exact ⟨_, rfl, (hS.sub ((List.sublist_cons_self _ _).trans (List.sublist_cons_self _ _))).mono (KS.out.and BX) fun D w h => ⟨k0 _ _ h.1.1.1, _, _, _, _, _, rfl, kh _ _ h.1.1.1, ks _ _ h.1.1.1, ⟨xr, h.1.1.2, kr2 _ _ h.1.1.1⟩, ⟨xn, h.1.2, kn2 _ _ h.1.1.1⟩, xg, h.2, kg2 _ _ h.1.1.1⟩⟩
end
section
open Go.RowKit
attribute [local go_sem ↓] Go.wp_at_zero Go.wp_at_succ
set_option maxRecDepth 20000
set_option exponentiation.threshold 5000
theorem rolesN_lt (r : Nat) : Dk r < 2 ^ (r + 1) := by
 have h1 : 2 ^ (r + 1) - 1 < 2 ^ (r + 1) := by have := Nat.two_pow_pos (r + 1); omega
 unfold Dk del
 split
 ·exact Nat.xor_lt_two_pow h1 (Nat.pow_lt_pow_right (by decide) (by simp))
 ·exact h1
theorem has_roles {r : Nat} {i : Int} (h : Bk (Dk r) i = true) : ∃ t : Nat, i = (t : Int) /\ t <= r := by
 unfold Bk at h
 simp only [Bool.and_eq_true, decide_eq_true_eq] at h
 refine ⟨i.toNat, by omega, ?_⟩
 rcases Nat.lt_or_ge i.toNat (r + 1) with h1 | h1
 ·omega
 ·have := Nat.testBit_lt_two_pow (Nat.lt_of_lt_of_le (rolesN_lt r) (Nat.pow_le_pow_right (by decide) h1))
  rw [this] at h; cases h.2
theorem checkE_known {p : Ah} {L : List (Nat × Nat)} (h : checkE p = 0) (hl : p.links = some L) : (1 <= p.roles /\ p.roles <= 63) /\ E8 p L (Dk p.roles.toNat) = true := by
 unfold checkE at h
 rw [hl] at h
 dsimp only at h
 split at h
 ·cases h
 ·rename_i h1
  split at h
  ·cases h
  ·split at h
   ·cases h
   ·rename_i h2
    exact ⟨by omega, by simpa using h2⟩
theorem target_nat {p : Ah} {L : List (Nat × Nat)} (h : checkE p = 0) (hl : p.links = some L) {r : AM} (hr : r ∈ p.rules) : ∃ t : Nat, r.target = (t : Int) /\ t < 64 := by
 obtain ⟨h1, h2⟩ := checkE_known h hl
 unfold E8 at h2
 simp only [Bool.and_eq_true] at h2
 obtain ⟨t, e, ht⟩ := has_roles (List.all_eq_true.1 h2.2.2.1 r hr)
 exact ⟨t, e, by omega⟩
theorem cnt_lt {α : Type} {p q : α -> Bool} (h : ∀ x, q x = true -> p x = true) {r : α} (hp : p r = true) (hq : q r = false) : ∀ {l : List α}, r ∈ l -> (l.filter q).length < (l.filter p).length
 | x :: l, hr => by
  have hle : ∀ l : List α, (l.filter q).length <= (l.filter p).length := fun l => by
   induction l with
   | nil => simp
   | cons y l ih =>
    rw [List.filter_cons, List.filter_cons]
    by_cases hy : q y = true
    ·rw [if_pos hy, if_pos (h y hy)]; simpa using ih
    ·rw [if_neg hy]; split
     ·simp; omega
     ·exact ih
  rcases List.mem_cons.1 hr with rfl | hr
  ·rw [List.filter_cons, List.filter_cons, if_neg (by rw [hq]; decide), if_pos hp]
   have := hle l
   simp; omega
  ·have ih := cnt_lt h hp hq hr
   rw [List.filter_cons, List.filter_cons]
   by_cases hy : q x = true
   ·rw [if_pos hy, if_pos (h x hy)]; simpa using ih
   ·rw [if_neg hy]; split
    ·simp; omega
    ·exact ih
theorem Fj {L : List (Nat × Nat)} {s i : Nat} : (closM L s).testBit i = true ↔ ∃ r, r < 64 /\ 1 <= r /\ s.testBit r = true /\ (junM L r).testBit i = true := by
 unfold closM; exact FO
theorem C9.clos {L : List (Nat × Nat)} {a b : Nat} (h : C9 a b) : C9 (closM L a) (closM L b) := fun i hi => by
 obtain ⟨r, h1, h2, h3, h4⟩ := Fj.1 hi
 exact Fj.2 ⟨r, h1, h2, h r h3, h4⟩
theorem BK {a b : Nat} : (a &&& b == a) = true ↔ C9 a b := by
 rw [beq_iff_eq]
 constructor
 ·intro h i hi
  rw [<- h, Nat.testBit_and, Bool.and_eq_true] at hi
  exact hi.2
 ·intro h
  refine AZ fun i => ?_
  rw [Nat.testBit_and, Bool.and_eq_true]
  exact ⟨fun h => h.1, fun hi => ⟨hi, h i hi⟩⟩
structure UCl (L : List (Nat × Nat)) (p : Ah) (T : Nat) : Prop where
 start : C9 p.start T
 rules : ∀ r ∈ p.rules, r.revoke = false -> (r.yes &&& closM L T == r.yes) = true -> Bk T r.target = true
def ULow (L : List (Nat × Nat)) (p : Ah) (N : Nat) : Prop := C9 p.start N /\ ∀ T, UCl L p T -> C9 N T
def Gw (L : List (Nat × Nat)) (p : Ah) (N : Nat) : Prop := UCl L p N /\ ∀ T, UCl L p T -> C9 N T
open Classical in
noncomputable def uppM (L : List (Nat × Nat)) (p : Ah) : Nat := if h : ∃ N, Gw L p N then Classical.choose h else 0
theorem Gw.eq {L : List (Nat × Nat)} {p : Ah} {N : Nat} (h : Gw L p N) : N = uppM L p := by
 have hx : ∃ N, Gw L p N := ⟨N, h⟩
 have k : Gw L p (uppM L p) := by unfold uppM; rw [dif_pos hx]; exact Classical.choose_spec hx
 exact (h.2 _ k.1).anti (k.2 _ h.1)
theorem ULow.add {L : List (Nat × Nat)} {p : Ah} {N t : Nat} (h : ULow L p N) {r : AM} (hr : r ∈ p.rules) (h1 : r.revoke = false) (h2 : (r.yes &&& closM L N == r.yes) = true) (ht : r.target = (t : Int)) : ULow L p (N ||| 2 ^ t) :=
 ⟨h.1.trans (C9.left _ _), fun T hT => (h.2 T hT).or fun i hi => by
  have e : i = t := Do.1 hi
  subst e
  have := hT.rules r hr h1 (BK.2 ((BK.1 h2).trans (h.2 T hT).clos))
  rw [ht] at this
  unfold Bk at this
  simp only [Bool.and_eq_true] at this
  simpa using this.2⟩
def DJ (N : Nat) (l : List AM) : Nat := (l.filter fun r => !Bk N r.target).length
theorem JJ {N t : Nat} {l : List AM} {r : AM} (hr : r ∈ l) (ht : r.target = (t : Int)) (hn : Bk N r.target = false) : DJ (N ||| 2 ^ t) l < DJ N l := by
 refine cnt_lt (r := r) (fun x hx => ?_) (by rw [hn]; rfl) ?_ hr
 ·cases hb : Bk N x.target with
  | false => rfl
  | true => rw [(C9.left N (2 ^ t)).has hb] at hx; cases hx
 ·rw [ht]; simp [Bk]
end
section
open Go.RowKit
set_option exponentiation.threshold 5000
def Hg (N : Nat) (r : AM) : Nat := if r.revoke then del N r.target else BF N r.target
noncomputable def closP (p : Ah) (N : Nat) : Nat := match p.links with
 | some L => closM L N
 | none => 0
noncomputable def stepB (p : Ah) (N : Nat) (r : AM) : Bool := !(((Bk N r.target != r.revoke) || (!r.revoke && !B0 (r.yes, r.no) (closP p N))) || !goodB p (Hg N r))
noncomputable def stepM (p : Ah) (N : Nat) (k : Int) : Option Nat :=
 if 0 <= k /\ k < p.rules.length /\ p.links.isSome = true then (if stepB p N (p.rules.getD k.toNat AC) = true then some (Hg N (p.rules.getD k.toNat AC)) else none) else none
theorem stepM_none {p : Ah} {N : Nat} {k : Int} (h : ¬ (0 <= k /\ k < p.rules.length /\ p.links.isSome = true)) : stepM p N k = none := if_neg h
theorem Jc {p : Ah} {L : List (Nat × Nat)} {N j : Nat} (hl : p.links = some L) (hj : j < p.rules.length) : stepM p N (j : Nat) = if stepB p N (p.rules.getD j AC) = true then some (Hg N (p.rules.getD j AC)) else none := by
 unfold stepM
 rw [if_pos ⟨by omega, by omega, by rw [hl]; rfl⟩, Int.toNat_natCast]
inductive Rch (p : Ah) : Nat -> Prop
 | start : Rch p p.start
 | step {N M : Nat} {k : Int} : Rch p N -> stepM p N k = some M -> Rch p M
theorem sl_pos {w : World} {D : Nat -> Prop} {size n c : Nat} {A : Option Addr} {xs : List Value} (h : Sl w D size (.slice A n c) n xs) (hn : 0 < n) : ∃ b o, A = some ⟨b, o, none⟩ := by
 obtain ⟨_, A', c', e, _, _, h3⟩ := h
 injection e with e _ _
 subst e
 obtain ⟨b, o, e, _⟩ := h3 hn
 exact ⟨b, o, e⟩
end
section
open Go.RowKit
attribute [local go_sem ↓] Go.wp_at_zero Go.wp_at_succ
set_option maxRecDepth 20000
theorem opw_lenS {P : Program} {o : Oper} {a : Act} {w : World} {K : Act -> World -> Prop} {Q : Exit -> Act -> World -> Prop} {t e : TypeId} {x : Operand} {n c : Nat} {A : Option Addr} (ho : o.op = .call { callee := .builtin .len, args := #[x], argTypes := #[t] }) (hx : a.eval x = .slice A n c) (h : P.underlying t = some (.slice e)) (hk : K (a.put o.dst (.int .i64 (n : Nat))) w) : o.wp P a w K Q := by
 have hr : (Builtin.len_ #[t] o.type #[.slice A n c]).run P w = .ok (.int .i64 (n : Nat)) w := by
  simp [Builtin.len_, run_underlying h]; rfl
 unfold Oper.wp execOp
 simp only [ho, resolve, invoke, builtin, Sem.run_bind, Sem.run_pure, Result.andThen_ok, List.map_toArray, List.map_cons, List.map_nil, hx, hr]
 exact hk
end
section
open Go.RowKit
attribute [local go_sem ↓] Go.wp_at_zero Go.wp_at_succ
set_option maxRecDepth 20000
set_option exponentiation.threshold 5000
theorem perm_at : ∀ (F : List Ai) (i : Nat) (f g : Ai), F[i]? = some f -> (g :: F.eraseIdx i).Perm (F.set i g)
 | [], i, f, g, h => by simp at h
 | x :: F, 0, f, g, h => List.Perm.refl _
 | x :: F, i + 1, f, g, h => (List.Perm.swap x g _).trans ((perm_at F i f g (by simpa using h)).cons x)
theorem set_sameF : ∀ (F : List Ai) (i : Nat) (f : Ai), F[i]? = some f -> F.set i f = F
 | [], i, f, h => rfl
 | x :: F, 0, f, h => by simp at h; subst h; rfl
 | x :: F, i + 1, f, h => by rw [List.set_cons_succ, set_sameF F i f (by simpa using h)]
theorem St.front {w0 w : World} {F : List Ai} {K : (Nat -> Prop) -> World -> Prop} {i : Nat} {f : Ai} (h : St w0 w F K) (hi : F[i]? = some f) : St w0 w (f :: F.eraseIdx i) K := h.perm (by
 have h1 := perm_at F i f f hi
 rwa [set_sameF F i f hi] at h1)
section
variable {P : Program} {ops : Array Oper} {rest : List Oper} {o : Oper} {a : Act} {Q : Exit -> Act -> World -> Prop} {w : World}
theorem GT (hg : Region.wanted o (yielded ops a.tmps) = true) (t t2 : TypeId) (x y : Operand) (ho : o.op = .binOp .and t x y t2) (X Y : Int) (hx : a.eval x = .int .u8 X) (hy : a.eval y = .int .u8 Y) (h1 : 0 <= X /\ X < 256) (h2 : 0 <= Y /\ Y < 256)
  (hk : ∀ z : Nat, z < 256 -> Hid (z = X.toNat &&& Y.toNat) -> wpList P ops Q rest (a.put o.dst (.int .u8 (z : Nat))) w) : wpList P ops Q (o :: rest) a w := by
 refine BigFrame.wpList_want hg fun _ hK => AE (v := .int .u8 ((X.toNat &&& Y.toNat : Nat) : Int)) ho hx hy rfl ?_ (hK _ _ (hk _ (Nat.lt_of_le_of_lt Nat.and_le_left (by omega)) (Lib.hid rfl)))
 go_simp
 exact u8_and X Y h1.1 h1.2 h2.1 h2.2
theorem st_andnot8 (hg : Region.wanted o (yielded ops a.tmps) = true) (t t2 : TypeId) (x y : Operand) (ho : o.op = .binOp .andNot t x y t2) (X Y : Int) (hx : a.eval x = .int .u8 X) (hy : a.eval y = .int .u8 Y) (h1 : 0 <= X /\ X < 256) (h2 : 0 <= Y /\ Y < 256)
  (hk : ∀ z : Nat, z < 256 -> Hid (z = X.toNat &&& (255 - Y.toNat)) -> wpList P ops Q rest (a.put o.dst (.int .u8 (z : Nat))) w) : wpList P ops Q (o :: rest) a w := by
 refine BigFrame.wpList_want hg fun _ hK => AE (v := .int .u8 ((X.toNat &&& (255 - Y.toNat) : Nat) : Int)) ho hx hy rfl ?_ (hK _ _ (hk _ (Nat.lt_of_le_of_lt Nat.and_le_left (by omega)) (Lib.hid rfl)))
 go_simp
 exact u8_andNot X Y h1.1 h1.2 h2.1 h2.2
end
theorem and_not8 {a b : Nat} (ha : a < 256) : a &&& (b &&& (255 - a)) = 0 := by
 apply Nat.eq_of_testBit_eq
 intro i
 rw [Nat.testBit_and, Nat.testBit_and, Nat.zero_testBit, show 255 - a = 2 ^ 8 - (a + 1) by omega, Nat.testBit_two_pow_sub_succ (by omega)]
 cases a.testBit i <;> cases b.testBit i <;> simp
theorem JU {a m : Nat} : a &&& m &&& m = a &&& m := by rw [Nat.and_assoc, Nat.and_self]
theorem I9 (y n m : Nat) (hm : m < 256) (w0 : World) :
  Calls Tryz.prog 91 #[.int .i64 (y : Nat), .int .i64 (n : Nat), .int .u8 (m : Nat)] w0 (AP (fun x _ => ∃ a b : Nat, x = .agg #[.int .u64 (a : Nat), .int .u64 (b : Nat)] /\ a &&& m = a /\ b &&& m = b /\ a &&& b = 0 /\ a < 256 /\ b < 256) w0) := by
 have hS : St w0 w0 [] fun _ _ => True := St.start0
 go_enter Tryz.func91, Tryz.ntmps91
 go_wp2_with (first
  | ((with_reducible refine qA 6 ?_); refine qa hS #[.int .u64 0, .int .u64 0] ?_; clear hS; intro g6 w_ hS)
  | ((with_reducible refine qA 17 ?_); refine GT rfl _ _ _ _ rfl _ _ rfl rfl (by omega) (by omega) ?_; intro z17 h17 _)
  | ((with_reducible refine qA 19 ?_); refine GT rfl _ _ _ _ rfl _ _ rfl rfl (by omega) (by omega) ?_; intro z19 h19 e19)
  | ((with_reducible refine qA 28 ?_); refine GT rfl _ _ _ _ rfl _ _ rfl rfl (by omega) (by omega) ?_; intro z28 h28 _)
  | ((with_reducible refine qA 30 ?_); refine GT rfl _ _ _ _ rfl _ _ rfl rfl (by omega) (by omega) ?_; intro z30 h30 e30)
  | ((with_reducible refine qA 32 ?_); refine st_andnot8 rfl _ _ _ _ rfl _ _ rfl rfl (by omega) (by omega) ?_; intro z32 h32 e32)
  | ((with_reducible refine qM ?_); (first | refine qS hS ?_ | refine qT hS ?_); clear hS; intro w_ hS; (try simp only [Act.put, Act.eval, zz, Value.cells] at hS)))
 refine Bm Tryz.results91 rfl (hS.box 0 rfl) Tryz.underlying94 rfl (by kernel_rfl) rfl ?_
 have e1 := e19.out
 have e2 := e30.out
 have e3 := e32.out
 simp only [Int.toNat_natCast] at e1 e2 e3
 refine AP.mk ⟨z19, z32, rfl, ?_, ?_, ?_, h19, h32⟩ hS.below
 ·rw [e1, JU]
 ·rw [e3, e2, Nat.and_assoc, Nat.and_comm (255 - z19), <- Nat.and_assoc, JU]
 ·rw [e3]; exact and_not8 h19
theorem Sl.byteAt {w : World} {D : Nat -> Prop} {A : Option Addr} {c : Nat} {l : List Nat} (h : Sl w D 1 (.slice A l.length c) l.length (u8s l)) {k : Nat} (hk : k < l.length) : ∃ b o, A = some ⟨b, o, none⟩ /\ w.cell? ⟨b, o + k, none⟩ = some (.int .u8 (l.getD k 0 : Nat)) := by
 obtain ⟨b, o, h1, _, _, h2⟩ := h.byte hk
 exact ⟨b, o, h1, h2 k hk⟩
theorem next_any {w0 w : World} {F : List Ai} {K : (Nat -> Prop) -> World -> Prop} {q c at_ : Nat} {A : Option Addr} {l : List Nat} (hl : ∀ x ∈ l, x < 256) (ha : at_ < 1000000) (hS : St w0 w (.box q 144 #[.slice A l.length c, .int .i64 (at_ : Nat)] :: F) K) (kp : ∀ D w, K D w -> Sl w D 1 (.slice A l.length c) l.length (u8s l)) :
  Calls Tryz.prog 89 #[.pointer (some ⟨q, 0, none⟩)] w fun e w' => ∃ b : Nat, b < 256 /\ e = .returned (.int .i64 (b : Nat)) /\ St w0 w' (.box q 144 #[.slice A l.length c, .int .i64 ((at_ + 1 : Nat) : Int)] :: F) K := by
 go_enter Tryz.func89, Tryz.ntmps89
 go_wp2_with (first
  | ((with_reducible refine qK ?_); refine qC hS ?_)
  | ((with_reducible refine qM ?_); (first | refine qS hS ?_ | refine qT hS ?_); clear hS; intro w_ hS; (try simp only [Act.put, Act.eval, zz, Value.cells] at hS)))
 obtain ⟨bo, hbo⟩ : ∃ bo : Bool, decide (((at_ + 1 : Nat) : Int) > (l.length : Nat)) = bo := ⟨_, rfl⟩
 have HBO := Lib.hid hbo
 clear hbo
 refine CH [.q q 0, .q q 0, .q q 1, .n ((at_ + 1 : Nat) : Int), .q q 0, .q q 0, .q q 0, .i (.slice A l.length c), .n (l.length : Nat), .i (.bool bo)] ⟨uM, uN, uF, uC (h := fun w hW hN => (hS.ext hW).shut 0 rfl 1 rfl), uM, uN, uF, uC (h := fun w hW hN => (hS.ext hW).shut 0 rfl 0 rfl), ?_, uB (h := fun w hW hN => run_gtB HBO.out), trivial⟩ ?_
 ·refine uT fun b__ w hW hE K hK => ?_
  have e17 := hE 17
  exact opw_lenS rfl e17 Tryz.underlying22 (hK _ _ rfl (Below.refl _ _))
 ·intro vs wz hW hT
  obtain ⟨e10, e11, e12, e13, e14, e15, e16, e17, e18, e19, -⟩ := hT
  simp only [AF, Act.put, zz, ze]
  replace hS := hS.ext hW
  clear hW e10 e11 e12 e13 e14 e15 e16 e17 e18
  rw [e19]
  clear e19
  generalize vs 10 = s10, vs 11 = s11, vs 12 = s12, vs 13 = s13, vs 14 = s14, vs 15 = s15, vs 16 = s16, vs 17 = s17, vs 18 = s18
  cases bo with
  | true =>
   go_wp2_with fail
   go_ret
   exact ⟨0, by decide, rfl, hS⟩
  | false =>
   have hlt : at_ < l.length := by have := HBO.out; simp at this; omega
   obtain ⟨b, o, rfl, hb⟩ := (kp _ _ hS.ro).byteAt hlt
   have hB : l.getD at_ 0 < 256 := by rw [List.getD_eq_getElem?_getD, List.getElem?_eq_getElem hlt]; exact hl _ (List.getElem_mem hlt)
   have hk2 : ∀ D w, K D w -> w.cell? ⟨b, o + at_, none⟩ = some (.int .u8 (l.getD at_ 0 : Nat)) := fun D w h => by
    obtain ⟨b', o', e, h2⟩ := (kp D w h).byteAt hlt
    injection e with e
    injection e with e1 e2
    subst e1; subst e2
    exact h2
   clear hb
   generalize l.getD at_ 0 = x at *
   go_wp2_with fail
   refine CH [.q q 0, .q q 0, .q q 0, .i (.slice (some ⟨b, o, none⟩) l.length c), .q q 0, .q q 0, .q q 1, .n ((at_ + 1 : Nat) : Int), .n (at_ : Nat), .q b (o + (at_) * 1), .i (.int .u8 (x : Nat)), .n (x : Nat), .n (x : Nat)] ⟨uM, uN, uF, uC (h := fun w hW hN => (hS.ext hW).shut 0 rfl 0 rfl), uM, uN, uF, uC (h := fun w hW hN => (hS.ext hW).shut 0 rfl 1 rfl), uB (h := fun w hW hN => by rw [EC (by omega) (by omega)]; congr 2; omega), uI (h := fun w hW hN => Ax (m := at_) Tryz.underlying22 (by kernel_rfl) (by omega) (by omega)), uC (h := fun w hW hN => by rw [Nat.mul_one]; exact hk2 _ _ (hS.ext hW).ro), uE (h := fun w hW hN => by go_simp; exact IntWalk.i64_in _ (by omega)), uA, trivial⟩ ?_
   ·intro vs wz hW hT
    obtain ⟨e20, e21, e22, e23, e24, e25, e26, e27, e28, e29, e30, e31, e2, -⟩ := hT
    simp only [AF, Act.put, zz, ze]
    replace hS := hS.ext hW
    rw [e2]
    clear hW
    go_wp2_with fail
    go_ret
    exact ⟨x, hB, rfl, hS⟩
end
section
open Go.RowKit
attribute [local go_sem ↓] Go.wp_at_zero Go.wp_at_succ
set_option maxRecDepth 20000
set_option exponentiation.threshold 5000
theorem st_and64 {P : Program} {ops : Array Oper} {rest : List Oper} {o : Oper} {a : Act} {Q : Exit -> Act -> World -> Prop} {w : World} (hg : Region.wanted o (yielded ops a.tmps) = true) (t t2 : TypeId) (x y : Operand) (ho : o.op = .binOp .and t x y t2) (X Y : Nat) (hx : a.eval x = .int .u64 (X : Nat)) (hy : a.eval y = .int .u64 (Y : Nat)) (h1 : X < Bc) (h2 : Y < Bc)
  (hk : wpList P ops Q rest (a.put o.dst (.int .u64 ((X &&& Y : Nat) : Int))) w) : wpList P ops Q (o :: rest) a w :=
 BigFrame.wpList_want hg fun _ hK => AE ho hx hy rfl (run_and64 h1 h2) (hK _ _ hk)
theorem Gp {y n s : Nat} (hy : y < Bc) (hn : n < Bc) (hs : s < Bc) (w0 : World) : Calls Tryz.prog 92 #[.agg #[.int .u64 (y : Nat), .int .u64 (n : Nat)], .int .u64 (s : Nat)] w0 (AP (fun x _ => x = .bool (B0 (y, n) s)) w0) := by
 have hS : St w0 w0 [] fun _ _ => True := St.start0
 have e : B0 (y, n) s = (decide ((s &&& y : Nat) = y) && decide ((s &&& n : Nat) = 0)) := by
  unfold B0
  rw [Nat.and_comm s y, Nat.and_comm s n]
  generalize y &&& s = a
  generalize n &&& s = b
  by_cases h1 : a = y <;> by_cases h2 : b = 0 <;> simp [h1, h2]
 rw [e]
 clear e
 go_enter Tryz.func92, Tryz.ntmps92
 go_wp2_with (first
  | ((with_reducible refine qA 2 ?_); refine Az hS rfl _ _ rfl (.agg #[.int .u64 (y : Nat), .int .u64 (n : Nat)]) _ rfl rfl ?_; clear hS; intro g2 w_ hS; (try simp only [Act.put, Act.eval, zz, Value.cells] at hS))
  | ((with_reducible refine qK ?_); refine qC hS ?_)
  | ((with_reducible refine qb .and ?_); refine st_and64 rfl _ _ _ _ rfl _ _ rfl rfl (by assumption) (by assumption) ?_)
  | ((with_reducible refine qB ?_); refine qc ?_ ?_ <;> intro h_ <;> go_prune))
 all_goals (go_ret; refine AP.mk ?_ hS.below; congr 1; simp_all; try omega)
theorem Id {w0 : World} {D : Nat -> Prop} {v : Value} {l : List (Nat × Nat)} {s : Nat} (h : BJ w0 D v l) (hsm : Small l) (hs : s < Bc) : Calls Tryz.prog 81 #[v, .int .u64 (s : Nat)] w0 (AP (fun x _ => x = .bool (l.any fun z => B0 z s)) w0) := by
 obtain ⟨A, c, rfl, _, _⟩ := h.shape
 obtain ⟨K, k1, hS⟩ : ∃ K : (Nat -> Prop) -> World -> Prop, (∀ D w, K D w -> Sl w D 2 (.slice A l.length c) l.length (Bb l)) /\ St w0 w0 [] K := ⟨_, fun _ _ h => h, St.start (Aq (by decide)) h⟩
 have HSm := Lib.hid hsm
 clear h hsm
 go_enter Tryz.func81, Tryz.ntmps81
 go_wp2_with fail
 go_loopw [9] (fun i wr => ∃ j : Nat, i = .int .i64 (j : Nat) /\ j <= l.length /\ Hid ((l.take j).any (fun z => B0 z s) = false) /\ St w0 wr [] K) (fun i _ => l.length - (intOf i).toNat)
 case atStart => exact ⟨0, rfl, by omega, Lib.hid (by simp), hS⟩
 case round =>
  clear hS
  obtain ⟨j, rfl, hj, HN, hS⟩ := hrel
  by_cases hlj : j < l.length
  ·obtain ⟨f0, f1⟩ := DQ l j hlj
   have hM : l.getD j (0, 0) ∈ l := by rw [List.getD_eq_getElem?_getD, List.getElem?_eq_getElem hlj]; exact List.getElem_mem hlj
   have hz := HSm.out _ hM
   have HT : Hid ((l.take (j + 1)).any (fun z => B0 z s) = B0 (l.getD j (0, 0)) s) := Lib.hid (by rw [FQ l j (0, 0) hlj, List.any_append, HN.out]; simp)
   have HB : Hid (B0 (l.getD j (0, 0)) s = true -> l.any (fun z => B0 z s) = true) := Lib.hid fun h => List.any_eq_true.2 ⟨_, hM, h⟩
   clear hM
   generalize l.getD j (0, 0) = z at *
   obtain ⟨y, n⟩ := z
   dsimp only at f0 f1 hz
   have HH := Lib.hid (fun w => Gp hz.1 hz.2 hs w)
   cases hb : B0 (y, n) s with
   | true =>
    have e := HB.out hb
    rw [hb] at HH
    clear hb HB HT HN
    go_wp2_with (first | ((with_reducible refine qB ?_); refine qc ?_ ?_ <;> intro h_ <;> go_prune) | ((with_reducible refine qI ?_); refine qj hS Tryz.underlying35 ?_; intro b_ j_ hc0_ hc1_) | ((with_reducible refine qA 6 ?_); refine Bl hS rfl _ rfl (by kernel_rfl) ?_; clear hS; intro g6 w_ hS; (try simp only [Act.put, Act.eval, zz, Value.cells] at hS)) | ((with_reducible refine qM ?_); (first | refine qS hS ?_ | refine qT hS ?_); clear hS; intro w_ hS; (try simp only [Act.put, Act.eval, zz, Value.cells] at hS)) | ((with_reducible refine qK ?_); refine qL hS Tryz.underlying94 ?_) | (go_at_call 92; refine (HH.out _).mono ?_; rintro r_ w_ ⟨_, rfl, rfl, hb_⟩; replace hS := hS.ext hb_; clear hb_))
    go_ret
    exact AP.mk (show Value.bool true = .bool (l.any fun z => B0 z s) by rw [e]) hS.below
   | false =>
    rw [hb] at HH HT
    clear hb HB HN
    go_wp2_with (first | ((with_reducible refine qB ?_); refine qc ?_ ?_ <;> intro h_ <;> go_prune) | ((with_reducible refine qI ?_); refine qj hS Tryz.underlying35 ?_; intro b_ j_ hc0_ hc1_) | ((with_reducible refine qA 6 ?_); refine Bl hS rfl _ rfl (by kernel_rfl) ?_; clear hS; intro g6 w_ hS; (try simp only [Act.put, Act.eval, zz, Value.cells] at hS)) | ((with_reducible refine qM ?_); (first | refine qS hS ?_ | refine qT hS ?_); clear hS; intro w_ hS; (try simp only [Act.put, Act.eval, zz, Value.cells] at hS)) | ((with_reducible refine qK ?_); refine qL hS Tryz.underlying94 ?_) | (go_at_call 92; refine (HH.out _).mono ?_; rintro r_ w_ ⟨_, rfl, rfl, hb_⟩; replace hS := hS.ext hb_; clear hb_))
    exact ⟨⟨j + 1, by go_num, hlj, HT, hS.sub (List.nil_sublist _)⟩, by simp [intOf]; omega⟩
  ·obtain rfl : l.length = j := by omega
   have e := HN.out
   rw [List.take_length] at e
   go_wp2_with (first | ((with_reducible refine qB ?_); refine qc ?_ ?_ <;> intro h_ <;> go_prune))
   go_ret
   refine AP.mk ?_ hS.below
   rfl
theorem RLinkP.some2 {w0 w' : World} {pv : Value} {L : List (Nat × Nat)} {x y : Nat} {e : Ending} (h : RLinkP w0 pv L (x : Nat) (y : Nat) e w') (ht : twoR (x : Nat) (y : Nat)) :
  ((x, y) ∈ L /\ e = .returned (.tuple #[pv, .int .i64 5]) /\ Below w0.heap.size w0 w') \/ ((x, y) ∉ L /\ TC L y x /\ e = .returned (.tuple #[pv, .int .i64 16]) /\ Below w0.heap.size w0 w') \/
   ((x, y) ∉ L /\ ¬ TC L y x /\ ∃ v, e = .returned (.tuple #[v, .int .i64 0]) /\ St w0 w' [.own v 151 2 (L.length + 1) (Af (ins L (x, y)))] fun _ _ => True) := by
 rcases h with ⟨h, _⟩ | ⟨a, b, h1, h2, _, _, _, h⟩
 ·exact absurd ht h
 ·obtain rfl : x = a := by omega
  obtain rfl : y = b := by omega
  exact h
def JX (R : Nat) (L : List (Nat × Nat)) : Prop := ∀ z ∈ L, 1 <= z.1 /\ z.1 < z.2 /\ z.2 <= R
theorem rlink_st {w0 w : World} {F : List Ai} {K : (Nat -> Prop) -> World -> Prop} {pv : Value} {L : List (Nat × Nat)} {x y R : Nat} (hH : Fd L) (hR : JX R L) (h1 : 1 <= x) (h2 : x < y) (h3 : y <= R) (h4 : R < 64) (hl : L.length <= 1000) (hS : St w0 w F K) (kp : ∀ D w, K D w -> Sl w D 2 pv L.length (Af L)) :
  Calls Tryz.prog 90 #[pv, .int .i64 (x : Nat), .int .i64 (y : Nat)] w fun e w' => ∃ (v : Value) (z : Int) (L' : List (Nat × Nat)), e = .returned (.tuple #[v, .int .i64 z]) /\ Fd L' /\ JX R L' /\ L'.length <= L.length + 1 /\ St w0 w' F fun D w => K D w /\ Sl w D 2 v L'.length (Af L') := by
 have KS := hS.stable
 refine (rlink_any (kp _ _ hS.ro) hH.inr (by omega) x y).mono ?_
 intro e w' h
 have hsame : ∀ z : Int, e = .returned (.tuple #[pv, .int .i64 z]) -> Below w.heap.size w w' -> ∃ (v : Value) (z : Int) (L' : List (Nat × Nat)), e = .returned (.tuple #[v, .int .i64 z]) /\ Fd L' /\ JX R L' /\ L'.length <= L.length + 1 /\ St w0 w' F fun D w => K D w /\ Sl w D 2 v L'.length (Af L') :=
  fun z h hb => ⟨pv, z, L, h, hH, hR, by omega, (hS.ext hb).mono (KS.and (Aq (by decide))) fun D w h => ⟨h, kp D w h⟩⟩
 rcases h.some2 ⟨⟨by omega, by omega⟩, ⟨by omega, by omega⟩, by omega⟩ with ⟨-, a, b⟩ | ⟨-, -, a, b⟩ | ⟨k1, k2, v, a, b⟩
 ·exact hsame _ a b
 ·exact hsame _ a b
 ·refine ⟨v, 0, _, a, hH.ins ⟨h1, by omega⟩ ⟨by omega, by omega⟩ (by omega) k1 k2, fun z hz => ?_, by rw [ins_len]; omega, ?_⟩
  ·rcases (J1.1 hz) with h | h
   ·subst h; exact ⟨h1, h2, h3⟩
   ·exact hR z h
  ·have hn := (hS.new b.below (.own v 151 2 (L.length + 1) (Af (ins L (x, y)))) (b.own 0 rfl)).freeze 0 (by decide) rfl
   rw [ins_len]
   exact hn
def B6 (l : List AM) : List Value := l.flatMap fun z => [.bool z.revoke, .int .u64 (z.yes : Nat), .int .u64 (z.no : Nat), .int .i64 z.target, .int .i64 z.origin]
theorem Fr (a b : List AM) : B6 (a ++ b) = B6 a ++ B6 b := by simp [B6]
theorem rrcells_at (l : List AM) (k : Nat) (z : AM) (h : l[k]? = some z) : (B6 l)[k * 5]? = some (.bool z.revoke) /\ (B6 l)[k * 5 + 1]? = some (.int .u64 (z.yes : Nat)) /\ (B6 l)[k * 5 + 2]? = some (.int .u64 (z.no : Nat)) /\ (B6 l)[k * 5 + 3]? = some (.int .i64 z.target) /\ (B6 l)[k * 5 + 4]? = some (.int .i64 z.origin) := by
 induction l generalizing k with
 | nil => simp at h
 | cons y r ih =>
  cases k with
  | zero => simp at h; subst h; simp [B6]
  | succ k =>
   have := ih k (by simpa using h)
   rw [show (k + 1) * 5 = k * 5 + 5 by omega]
   simpa [B6] using this
def Bi (w : World) (D : Nat -> Prop) (v : Value) (p : Ah) : Prop :=
 ∃ lv rv nv gv L, v = .agg #[.int .i64 p.roles, lv, .int .u64 (p.start : Nat), rv, nv, gv] /\ p.links = some L /\ Sl w D 2 lv L.length (Af L) /\ Sl w D 5 rv p.rules.length (B6 p.rules) /\ BJ w D nv p.never /\ BJ w D gv p.goal
theorem D0 {v : Value} {l : List (Nat × Nat)} : AO fun D w => BJ w D v l := Aq (by decide)
theorem Bo {v : Value} {p : Ah} : AO fun D w => Bi w D v p := fun D D' w w' h a b c => by
 obtain ⟨lv, rv, nv, gv, L, h1, h2, h3, h4, h5, h6⟩ := h
 exact ⟨lv, rv, nv, gv, L, h1, h2, Aq (by decide) D D' w w' h3 a b c, Aq (by decide) D D' w w' h4 a b c, D0 D D' w w' h5 a b c, D0 D D' w w' h6 a b c⟩
end
section
open Go.RowKit
attribute [local go_sem ↓] Go.wp_at_zero Go.wp_at_succ
set_option maxRecDepth 20000
set_option exponentiation.threshold 5000
section
variable {P : Program} {ops : Array Oper} {rest : List Oper} {o : Oper} {a : Act} {Q : Exit -> Act -> World -> Prop} {w : World}
theorem Ez (hg : Region.wanted o (yielded ops a.tmps) = true) (op : BinOp) (t t2 : TypeId) (x y : Operand) (ho : o.op = .binOp op t x y t2) {vx vy : Value} (hx : a.eval x = vx) (hy : a.eval y = vy) {k : IntKind} (p : Nat -> Prop) {z : Nat} (he : (eqGuard op t x y vx vy).run P w = .ok () w) (hr : (binOp op t vx vy).run P w = .ok (.int k (z : Nat)) w) (hp : p z)
  (hk : ∀ z : Nat, p z -> wpList P ops Q rest (a.put o.dst (.int k (z : Nat))) w) : wpList P ops Q (o :: rest) a w :=
 BigFrame.wpList_want hg fun _ hK => AE ho hx hy he hr (hK _ _ (hk z hp))
theorem Du (hg : Region.wanted o (yielded ops a.tmps) = true) (t t2 : TypeId) (x y : Operand) (ho : o.op = .binOp .rem t x y t2) {n m : Nat} (hx : a.eval x = .int .i64 (n : Nat)) (hy : a.eval y = .int .i64 (m : Nat)) (hm : 0 < m)
  (hk : ∀ z : Nat, z < m -> wpList P ops Q rest (a.put o.dst (.int .i64 (z : Nat))) w) : wpList P ops Q (o :: rest) a w :=
 Ez hg _ t t2 x y ho hx hy (fun z => z < m) (z := n % m) rfl (by rw [Ib (by omega) (by omega)]; rfl) (Nat.mod_lt _ hm) hk
theorem st_addN (hg : Region.wanted o (yielded ops a.tmps) = true) (t t2 : TypeId) (x y : Operand) (ho : o.op = .binOp .add t x y t2) {n m : Nat} (p : Nat -> Prop) (hx : a.eval x = .int .i64 (n : Nat)) (hy : a.eval y = .int .i64 (m : Nat)) (hb : n + m < 9223372036854775808) (hp : p (n + m))
  (hk : ∀ z : Nat, p z -> wpList P ops Q rest (a.put o.dst (.int .i64 (z : Nat))) w) : wpList P ops Q (o :: rest) a w :=
 Ez hg _ t t2 x y ho hx hy p (z := n + m) rfl (by rw [run_add64 (by omega) (by omega)]; rfl) hp hk
end
theorem st_someB {P : Program} {ops : Array Oper} {rest : List Oper} {o : Oper} {a : Act} {Q : Exit -> Act -> World -> Prop} {w : World} (hg : Region.wanted o (yielded ops a.tmps) = true) (op : BinOp) (t t2 : TypeId) (x y : Operand) (ho : o.op = .binOp op t x y t2) {vx vy : Value} (hx : a.eval x = vx) (hy : a.eval y = vy) {b : Bool} (he : (eqGuard op t x y vx vy).run P w = .ok () w) (hr : (binOp op t vx vy).run P w = .ok (.bool b) w)
  (hk : ∀ b : Bool, wpList P ops Q rest (a.put o.dst (.bool b)) w) : wpList P ops Q (o :: rest) a w :=
 BigFrame.wpList_want hg fun _ hK => AE ho hx hy he hr (hK _ _ (hk b))
theorem Jl {P : Program} {w : World} {g i : Nat} {t ty : TypeId} {cs : Array Value} {u v : Value} (hb : Co w g t cs) (hi : i + 1 < cs.size) (h1 : u.oneCell' = true) (h2 : v.oneCell' = true) (hs : (P.info? ty).map (·.size) = some 2) :
  (Instr.storeAt ty (.pointer (some ⟨g, i, none⟩)) (.agg #[u, v])).run P w = .ok () ((w.setCell ⟨g, i, none⟩ u).setCell ⟨g, i + 1, none⟩ v) := by
 have := run_storeCells_cells (P := P) g i [u, v] 0 w (fun j hj => by have hc := hb.cell (i + j); simp at hj; simp [hc]; omega) (fun j hj => hb.free _) (by simpa using ⟨h1, h2⟩)
 cases hq : P.info? ty with
 | none => simp [hq] at hs
 | some inf =>
  have hs' : inf.size = 2 := by simpa [hq] using hs
  simp only [Nat.add_zero] at this
  simp [Instr.storeAt, Instr.sureAddr, storeVar, sizeOf, typeInfo, hq, Value.cells, hs', this, World.setCells]
theorem st_bstore2 {P : Program} {ops : Array Oper} {rest : List Oper} {o : Oper} {a : Act} {Q : Exit -> Act -> World -> Prop} {w0 w : World} {F : List Ai} {K : (Nat -> Prop) -> World -> Prop} (h : St w0 w F K) (i : Nat) (hg : Region.wanted o (yielded ops a.tmps) = true) (ty : TypeId) (x y : Operand) (ho : o.op = .store ty x y) (g j : Nat) (u v : Value) (hx : a.eval x = .pointer (some ⟨g, j, none⟩)) (hy : a.eval y = .agg #[u, v]) {t : TypeId} {cs : Array Value} (hb : F[i]? = some (.box g t cs)) (hi : j + 1 < cs.size)
  (h1 : u.oneCell' = true) (h2 : v.oneCell' = true) (hs : (P.info? ty).map (·.size) = some 2) (hk : ∀ w', St w0 w' (F.set i (.box g t ((cs.setIfInBounds j u).setIfInBounds (j + 1) v))) K -> wpList P ops Q rest (a.put o.dst undef) w') : wpList P ops Q (o :: rest) a w := by
 refine BigFrame.wpList_want hg fun _ hK => ?_
 have hX := h.box i hb
 unfold Oper.wp execOp
 simp only [ho, hx, hy, Sem.run_bind, Jl hX hi h1 h2 hs, Result.andThen_ok]
 refine hK _ _ (hk _ (h.upd i hb _ (Bj (IO.trans (BW w g j u) (BW _ g (j + 1) v))) ⟨(h.holds _ (List.mem_of_getElem? hb)).1, (hX.setC u).setC v⟩ fun _ e => .inl e))
theorem I4 : BD Tryz.prog 34 96 5 40 := ⟨Tryz.underlying34, by kernel_rfl⟩
def ROk (R m : Nat) (z : AM) : Prop := (1 <= z.target /\ z.target <= R) /\ (0 <= z.origin /\ z.origin < 7) /\ z.yes &&& m = z.yes /\ z.no &&& m = z.no /\ z.yes &&& z.no = 0 /\ z.yes < 256 /\ z.no < 256 /\ (z.revoke = true -> z.yes = 0 /\ z.no = 0)
def KOk (m : Nat) (z : Nat × Nat) : Prop := z.1 &&& m = z.1 /\ z.2 &&& m = z.2 /\ z.1 &&& z.2 = 0 /\ z.1 < 256 /\ z.2 < 256
def Be (R : Nat) : Nat := 2 ^ (R + 1) - 2
theorem run_maskshl {w : World} {R : Nat} (h : R <= 5) : (binOp .shl 5 (.int .u8 2) (.int .u64 (R : Nat))).run Tryz.prog w = .ok (.int .u8 ((2 ^ (R + 1) : Nat) : Int)) w := by
 match R, h with
 | 0, _ => go_simp; rfl
 | 1, _ => go_simp; rfl
 | 2, _ => go_simp; rfl
 | 3, _ => go_simp; rfl
 | 4, _ => go_simp; rfl
 | 5, _ => go_simp; rfl
theorem run_msub {w : World} {R : Nat} (h0 : 2 <= R) (h : R <= 5) : (binOp .sub 5 (.int .u8 ((2 ^ (R + 1) : Nat) : Int)) (.int .u8 2)).run Tryz.prog w = .ok (.int .u8 (Be R : Nat)) w := by
 match R, h0, h with
 | 2, _, _ => go_simp; rfl
 | 3, _, _ => go_simp; rfl
 | 4, _, _ => go_simp; rfl
 | 5, _, _ => go_simp; rfl
theorem run_shrN {P : Program} {w : World} {t : TypeId} {n k : Nat} (hk : k < 64) : (binOp .shr t (.int .i64 (n : Nat)) (.int .u64 (k : Nat))).run P w = .ok (.int .i64 ((n / 2 ^ k : Nat) : Int)) w := by
 go_simp
theorem CF {w0 w : World} {F : List Ai} {K : (Nat -> Prop) -> World -> Prop} {q c at_ : Nat} {A : Option Addr} {l : List Nat} (hl : ∀ x ∈ l, x < 256) (ha : at_ < 1000000) (hS : St w0 w F K) (i : Nat) (hi : F[i]? = some (.box q 144 #[.slice A l.length c, .int .i64 (at_ : Nat)])) (kp : ∀ D w, K D w -> Sl w D 1 (.slice A l.length c) l.length (u8s l)) :
  Calls Tryz.prog 89 #[.pointer (some ⟨q, 0, none⟩)] w fun e w' => ∃ b : Nat, b < 256 /\ e = .returned (.int .i64 (b : Nat)) /\ St w0 w' (F.set i (.box q 144 #[.slice A l.length c, .int .i64 ((at_ + 1 : Nat) : Int)])) K := by
 refine (next_any hl ha (hS.front hi) kp).mono ?_
 rintro e w' ⟨b, h1, h2, h3⟩
 exact ⟨b, h1, h2, h3.perm (perm_at F i _ _ hi).symm⟩
theorem run_shl2 {w : World} {t : TypeId} {R : Nat} (h : R < 5) : (binOp .shl t (.int .i64 2) (.int .u64 (R : Nat))).run Tryz.prog w = .ok (.int .i64 ((2 ^ (R + 1) : Nat) : Int)) w := by
 match R, h with
 | 0, _ => go_simp; rfl
 | 1, _ => go_simp; rfl
 | 2, _ => go_simp; rfl
 | 3, _ => go_simp; rfl
 | 4, _ => go_simp; rfl
theorem i64_or_nat (a b : Nat) (ha : a < 256) (hb : b < 256) : bits .or .i64 (a : Int) (b : Int) = ((a ||| b : Nat) : Int) := by
 have hx : a ||| b < 2 ^ 8 := Nat.or_lt_two_pow (by omega) (by omega)
 show IntKind.i64.wrap ((BitVec.ofInt 64 (a : Int) ||| BitVec.ofInt 64 (b : Int)).toNat : Int) = _
 rw [BitVec.toNat_or, show BitVec.ofInt 64 (a : Int) = BitVec.ofNat 64 a from BitVec.ofInt_natCast .., show BitVec.ofInt 64 (b : Int) = BitVec.ofNat 64 b from BitVec.ofInt_natCast .., BitVec.toNat_ofNat, BitVec.toNat_ofNat, Nat.mod_eq_of_lt (by omega), Nat.mod_eq_of_lt (by omega)]
 exact wrap_i64_nat (by omega)
theorem run_orN {w : World} {t : TypeId} {a b : Nat} (ha : a < 256) (hb : b < 256) : (binOp .or t (.int .i64 (a : Nat)) (.int .i64 (b : Nat))).run Tryz.prog w = .ok (.int .i64 ((a ||| b : Nat) : Int)) w := by
 go_simp
 exact i64_or_nat a b ha hb
theorem DR (L : List (Nat × Nat)) (s : Nat) : closM L s < Bc := by rw [BC]; exact G0 L s 64
structure Bp (p : Ah) (L : List (Nat × Nat)) (R : Nat) : Prop where
 links : p.links = some L
 roles : p.roles = (R : Int)
 r2 : 2 <= R
 r5 : R <= 5
 hok : Fd L
 inr : JX R L
 len : L.length <= 25
 start : p.start &&& Be R = p.start
 rlen : p.rules.length <= 6
 rules : ∀ z ∈ p.rules, ROk R (Be R) z
 nlen : p.never.length <= 3
 never : ∀ z ∈ p.never, KOk (Be R) z /\ B0 z (closM L p.start) = false
 glen : p.goal.length <= 3
 gpos : 1 <= p.goal.length
 goal : ∀ z ∈ p.goal, KOk (Be R) z
theorem H3 (l : List AM) (b : Bool) (y n : Nat) (t o : Int) : B6 (l ++ [⟨b, y, n, t, o⟩]) = B6 l ++ [.bool b, .int .u64 (y : Nat), .int .u64 (n : Nat), .int .i64 t, .int .i64 o] := by rw [Fr]; rfl
theorem Ir (l : List (Nat × Nat)) (y n : Nat) : Bb (l ++ [(y, n)]) = Bb l ++ [.int .u64 (y : Nat), .int .u64 (n : Nat)] := by rw [Et]; rfl
theorem ty_mkc : BD Tryz.prog 35 94 2 16 := ⟨Tryz.underlying35, by kernel_rfl⟩
theorem Hr {α : Type} {P : α -> Prop} {l : List α} {x : α} (h : ∀ z ∈ l, P z) (hx : P x) : ∀ z ∈ l ++ [x], P z := fun z hz => by
 rcases List.mem_append.1 hz with h1 | h1
 ·exact h z h1
 ·rw [List.mem_singleton.1 h1]; exact hx
set_option maxHeartbeats 4000000 in
theorem Ip {w0 w : World} {F : List Ai} {K : (Nat -> Prop) -> World -> Prop} {v : Value} {l : List Nat} (hl : ∀ x ∈ l, x < 256) (hS : St w0 w F K) (kp : ∀ D w, K D w -> Sl w D 1 v l.length (u8s l)) :
  Calls Tryz.prog 50 #[v] w fun e w' => ∃ u p L R, e = .returned u /\ Bp p L R /\ St w0 w' F fun D w => K D w /\ Bi w D u p := by
 obtain ⟨A, c, rfl, hc1, hc2⟩ := (kp _ _ hS.ro).shape
 have HL := Lib.hid hl
 have KS := Lib.hid hS.stable
 clear hl
 go_enter Tryz.func50, Tryz.ntmps50
 go_wp2_with (first
  | ((with_reducible refine qA 2 ?_); refine qa hS #[.int .i64 0, .slice none 0 0, .int .u64 0, .slice none 0 0, .slice none 0 0, .slice none 0 0] ?_; clear hS; intro g2 w_ hS)
  | ((with_reducible refine qA 27 ?_); refine AL rfl _ _ rfl #[.slice A l.length c, .int .i64 0] (by kernel_rfl) ?_; (try simp only [Act.put, List.setIfInBounds_toArray, List.set_cons_zero, List.set_cons_succ]))
  | ((with_reducible refine qA 28 ?_); refine Az hS rfl _ _ rfl (.agg #[.slice A l.length c, .int .i64 0]) _ rfl rfl ?_; clear hS; intro q w_ hS; (try simp only [Act.put, Act.eval, zz, Value.cells] at hS))
  | (go_at_call 89; first
    | (refine (CF (at_ := 0) HL.out (by omega) hS 0 rfl kp).mono ?_; clear hS; rintro e w_ ⟨b, hb, rfl, hS⟩; replace hS : St w0 w_ (.box q 144 #[.slice A l.length c, .int .i64 1] :: .box g2 37 #[.int .i64 0, .slice none 0 0, .int .u64 0, .slice none 0 0, .slice none 0 0, .slice none 0 0] :: F) K := hS)
    | (refine (CF (at_ := 1) HL.out (by omega) hS 1 rfl kp).mono ?_; clear hS; rintro e w_ ⟨lk, hlk, rfl, hS⟩; replace hS : St w0 w_ (.box g4 37 #[.int .i64 (R : Nat), .slice none 0 0, .int .u64 0, .slice none 0 0, .slice none 0 0, .slice none 0 0] :: .box q 144 #[.slice A l.length c, .int .i64 2] :: .box g2 37 #[.int .i64 0, .slice none 0 0, .int .u64 0, .slice none 0 0, .slice none 0 0, .slice none 0 0] :: F) K := hS))
  | ((with_reducible refine qA 31 ?_); refine Du (m := 4) rfl _ _ _ _ rfl rfl rfl (by decide) ?_; intro r4 hr4)
  | ((with_reducible refine qA 32 ?_); refine st_addN (n := 2) rfl _ _ _ _ rfl (fun z => 2 <= z /\ z <= 5) rfl rfl (by omega) (by omega) ?_; intro R hR)
  | ((with_reducible refine qA 33 ?_); refine AL rfl _ _ rfl #[.int .i64 (R : Nat), .slice none 0 0, .int .u64 0, .slice none 0 0, .slice none 0 0, .slice none 0 0] (by kernel_rfl) ?_; (try simp only [Act.put, List.setIfInBounds_toArray, List.set_cons_zero, List.set_cons_succ]))
  | ((with_reducible refine qA 4 ?_); refine qa hS #[.int .i64 0, .slice none 0 0, .int .u64 0, .slice none 0 0, .slice none 0 0, .slice none 0 0] ?_; clear hS; intro g4 w_ hS)
  | ((with_reducible refine qM ?_); (first | refine qS hS ?_ | refine qT hS ?_); clear hS; intro w_ hS; (try simp only [Act.put, Act.eval, zz, Value.cells] at hS))
  | ((with_reducible refine qK ?_); refine qC hS ?_)
  | ((with_reducible refine qA 37 ?_); refine BigFrame.wpList_want rfl fun _ hK => AE (vx := .int .u8 2) (vy := .int .u64 (R : Nat)) rfl rfl rfl rfl (run_maskshl hR.2) (hK _ _ ?_))
  | ((with_reducible refine qA 38 ?_); refine Ez (k := .u8) rfl _ _ _ _ _ rfl rfl rfl (fun z => z < 256 /\ Hid (z = Be R)) (z := Be R) rfl (run_msub hR.1 hR.2) ⟨by unfold Be; have := Nat.pow_le_pow_right (n := 2) (by decide) (show R + 1 <= 6 by omega); omega, Lib.hid rfl⟩ ?_; rintro m ⟨hm, HM⟩))
 have h64 : R < 64 := by omega
 replace hS := hS.mono (KS.out.and (Aq (by decide) (size := 2) (v := .slice none 0 0) (n := 0) (xs := Af []))) fun D w h => ⟨h, Sl.none_⟩
 go_loopw [7, 8, 9] (fun nv av cv wr => ∃ (a n : Nat) (pv : Value) (L : List (Nat × Nat)), av = .int .i64 (a : Nat) /\ nv = .int .i64 (n : Nat) /\ 1 <= a /\ a <= R /\ n <= 5 * (a - 1) /\ L.length <= n /\ Hid (Fd L) /\ Hid (JX R L) /\ St w0 wr (.box g4 37 #[.int .i64 (R : Nat), pv, .int .u64 0, .slice none 0 0, .slice none 0 0, .slice none 0 0] :: .box q 144 #[.slice A l.length c, .int .i64 2] :: .box g2 37 #[.int .i64 0, .slice none 0 0, .int .u64 0, .slice none 0 0, .slice none 0 0, .slice none 0 0] :: F) fun D w => K D w /\ Sl w D 2 pv L.length (Af L)) (fun _ av _ _ => R - (intOf av).toNat)
 case atStart => exact ⟨1, 0, _, [], rfl, rfl, by omega, by omega, by omega, by simp, Lib.hid Fd.nil, Lib.hid (fun z hz => by simp at hz), hS⟩
 case round =>
  clear hS
  obtain ⟨a, n, pv, L, rfl, rfl, ha1, haR, hn, hLn, HH, HR, hS⟩ := hrel
  by_cases haR2 : a < R
  ·go_wp2_with (first | ((with_reducible refine qB ?_); refine qc ?_ ?_ <;> intro h_ <;> go_prune) | ((with_reducible refine qK ?_); refine qC hS ?_))
   go_loopw [7, 9] (fun nv cv wr => ∃ (d n : Nat) (pv : Value) (L : List (Nat × Nat)), cv = .int .i64 (d : Nat) /\ nv = .int .i64 (n : Nat) /\ a + 1 <= d /\ d <= R + 1 /\ n + a + 1 <= 5 * (a - 1) + d /\ L.length <= n /\ Hid (Fd L) /\ Hid (JX R L) /\ St w0 wr (.box g4 37 #[.int .i64 (R : Nat), pv, .int .u64 0, .slice none 0 0, .slice none 0 0, .slice none 0 0] :: .box q 144 #[.slice A l.length c, .int .i64 2] :: .box g2 37 #[.int .i64 0, .slice none 0 0, .int .u64 0, .slice none 0 0, .slice none 0 0, .slice none 0 0] :: F) fun D w => K D w /\ Sl w D 2 pv L.length (Af L)) (fun _ cv _ => R + 1 - (intOf cv).toNat)
   case atStart => exact ⟨a + 1, n, pv, L, by go_num, rfl, by omega, by omega, by omega, hLn, HH, HR, hS⟩
   case round =>
    clear hS HH HR hLn hn
    obtain ⟨d, n, pv, L, rfl, rfl, hd1, hdR, hn, hLn, HH, HR, hS⟩ := hrel
    by_cases hdR2 : d <= R
    ·go_wp2_with (first
      | ((with_reducible refine qK ?_); refine qC hS ?_)
      | ((with_reducible refine qA 57 ?_); refine Du (m := 8) rfl _ _ _ _ rfl rfl rfl (by decide) ?_; intro z57 h57)
      | ((with_reducible refine qA 59 ?_); refine Ez (k := .i64) rfl _ _ _ _ _ rfl rfl rfl (fun _ => True) rfl (run_shrN (k := z57) (by omega)) trivial ?_; intro z59 _)
      | ((with_reducible refine qA 60 ?_); refine Du (m := 2) rfl _ _ _ _ rfl rfl rfl (by decide) ?_; intro z60 h60)
      | ((with_reducible refine qA 64 ?_); refine Du (m := 3) rfl _ _ _ _ rfl rfl rfl (by decide) ?_; intro z64 h64_)
      | ((with_reducible refine qB ?_); refine qc ?_ ?_ <;> intro h_ <;> go_prune)
      | (go_at_call 90; refine (rlink_st HH.out HR.out ha1 (by omega) hdR2 h64 (by omega) hS (fun D w h => h.2)).mono ?_; clear hS; rintro e w_ ⟨v2, z2, L2, rfl, HH2, HR2, hl2, hS⟩; replace HH2 := Lib.hid HH2; replace HR2 := Lib.hid HR2; obtain ⟨A2, c2, rfl, _, _⟩ := hS.ro.2.shape)
      | ((with_reducible refine qM ?_); (first | refine qS hS ?_ | refine qT hS ?_); clear hS; intro w_ hS; (try simp only [Act.put, Act.eval, zz, Value.cells] at hS)))
     all_goals first
      | exact ⟨⟨d + 1, n + 1, _, L2, by go_num, by go_num, by omega, by omega, by omega, by omega, HH2, HR2, hS.mono (KS.out.and (Aq (by decide))) fun D w h => ⟨h.1.1, h.2⟩⟩, by simp [intOf]; omega⟩
      | exact ⟨⟨d + 1, n + 1, pv, L, by go_num, by go_num, by omega, by omega, by omega, by omega, HH, HR, hS⟩, by simp [intOf]; omega⟩
    ·go_wp2_with (first | ((with_reducible refine qB ?_); refine qc ?_ ?_ <;> intro h_ <;> go_prune) | ((with_reducible refine qK ?_); refine qC hS ?_))
     exact ⟨⟨a + 1, n, pv, L, by go_num, rfl, by omega, by omega, by omega, by omega, HH, HR, hS⟩, by simp [intOf]; omega⟩
  ·have hnn : n <= 25 := by omega
   clear ha1 haR hn hc1 hc2
   go_wp2_with (first
    | ((with_reducible refine qB ?_); refine qc ?_ ?_ <;> intro h_ <;> go_prune)
    | ((with_reducible refine qK ?_); refine qC hS ?_)
    | (go_at_call 89; first | (refine (CF (at_ := 2) HL.out (by omega) hS 1 rfl (fun D w h => kp D w h.1)).mono ?_; clear hS; rintro e w_ ⟨b3, hb3, rfl, hS⟩; replace hS : St w0 w_ (.box g4 37 #[.int .i64 (R : Nat), pv, .int .u64 0, .slice none 0 0, .slice none 0 0, .slice none 0 0] :: .box q 144 #[.slice A l.length c, .int .i64 ((2 + 1 : Nat) : Int)] :: .box g2 37 #[.int .i64 0, .slice none 0 0, .int .u64 0, .slice none 0 0, .slice none 0 0, .slice none 0 0] :: F) (fun D w => K D w /\ Sl w D 2 pv L.length (Af L)) := hS) | (refine (CF (at_ := 2 + 1) HL.out (by omega) hS 1 rfl (fun D w h => kp D w h.1)).mono ?_; clear hS; rintro e w_ ⟨b4, hb4, rfl, hS⟩; replace hS : St w0 w_ (.box g4 37 #[.int .i64 (R : Nat), pv, .int .u64 (s0 : Nat), .slice none 0 0, .slice none 0 0, .slice none 0 0] :: .box q 144 #[.slice A l.length c, .int .i64 ((2 + 1 + 1 : Nat) : Int)] :: .box g2 37 #[.int .i64 0, .slice none 0 0, .int .u64 0, .slice none 0 0, .slice none 0 0, .slice none 0 0] :: F) (fun D w => K D w /\ Sl w D 2 pv L.length (Af L)) := hS))
    | ((with_reducible refine qA 82 ?_); refine GT rfl _ _ _ _ rfl _ _ rfl rfl (by omega) (by omega) ?_; intro s0 hs0 es0)
    | ((with_reducible refine qA 87 ?_); refine Du (m := 7) rfl _ _ _ _ rfl rfl rfl (by decide) ?_; intro RU hRU)
    | ((with_reducible refine qM ?_); (first | refine qS hS ?_ | refine qT hS ?_); clear hS; intro w_ hS; (try simp only [Act.put, Act.eval, zz, Value.cells] at hS)))
   have HS0 : Hid (s0 &&& m = s0) := Lib.hid (by have h := es0.out; simp only [Int.toNat_natCast] at h; rw [h, JU])
   clear es0 hb3 hb4
   obtain ⟨Ap, cp, rfl, _, _⟩ := hS.ro.2.shape
   obtain ⟨K1, k1, kk1, hS2⟩ : ∃ K1 : (Nat -> Prop) -> World -> Prop, (∀ D w, K1 D w -> K D w) /\ (∀ D w, K1 D w -> Sl w D 2 (.slice Ap L.length cp) L.length (Af L)) /\ St w0 w_ (.box g4 37 #[.int .i64 (R : Nat), .slice Ap L.length cp, .int .u64 (s0 : Nat), .slice none 0 0, .slice none 0 0, .slice none 0 0] :: .box q 144 #[.slice A l.length c, .int .i64 ((2 + 1 + 1 : Nat) : Int)] :: .box g2 37 #[.int .i64 0, .slice none 0 0, .int .u64 0, .slice none 0 0, .slice none 0 0, .slice none 0 0] :: F) K1 := ⟨_, fun _ _ h => h.1, fun _ _ h => h.2, hS⟩
   clear hS
   have hS := hS2.nil 96 5
   clear hS2
   have KS1 := Lib.hid hS.stable
   go_loopw [11] (fun kv wr => ∃ (k t : Nat) (rv : Value) (rs : List AM), kv = .int .i64 (k : Nat) /\ k <= RU /\ t <= 4 + 4 * k /\ Hid (rs.length = k) /\ Hid (∀ z ∈ rs, ROk R m z) /\ St w0 wr (.own rv 96 5 k (B6 rs) :: .box g4 37 #[.int .i64 (R : Nat), .slice Ap L.length cp, .int .u64 (s0 : Nat), rv, .slice none 0 0, .slice none 0 0] :: .box q 144 #[.slice A l.length c, .int .i64 ((t : Nat) : Int)] :: .box g2 37 #[.int .i64 0, .slice none 0 0, .int .u64 0, .slice none 0 0, .slice none 0 0, .slice none 0 0] :: F) K1) (fun kv _ => RU - (intOf kv).toNat)
   case atStart => exact ⟨0, 2 + 1 + 1, _, [], rfl, by omega, by omega, Lib.hid rfl, Lib.hid (fun z hz => by simp at hz), hS⟩
   case round =>
    clear hS
    obtain ⟨k, t, rv, rs, rfl, hk, ht, HRL, HRS, hS⟩ := hrel
    obtain ⟨Ar, cr, rfl, _, _⟩ := Bg (hS.own 0 rfl)
    by_cases hkR : k < RU
    ·have hk7 : k < 7 := by omega
     go_wp2_with (first
      | (go_at_call 89; first | (refine (CF (at_ := t) HL.out (by omega) hS 2 rfl (fun D w h => kp D w (k1 D w h))).mono ?_; clear hS; rintro e w_ ⟨kd, hkd, rfl, hS⟩; simp only [List.set_cons_succ, List.set_cons_zero] at hS) | (refine (CF (at_ := t + 1) HL.out (by omega) hS 2 rfl (fun D w h => kp D w (k1 D w h))).mono ?_; clear hS; rintro e w_ ⟨tg, htg, rfl, hS⟩; simp only [List.set_cons_succ, List.set_cons_zero] at hS) | (refine (CF (at_ := t + 1 + 1) HL.out (by omega) hS 2 rfl (fun D w h => kp D w (k1 D w h))).mono ?_; clear hS; rintro e w_ ⟨cy, hcy, rfl, hS⟩; simp only [List.set_cons_succ, List.set_cons_zero] at hS) | (refine (CF (at_ := t + 1 + 1 + 1) HL.out (by omega) hS 2 rfl (fun D w h => kp D w (k1 D w h))).mono ?_; clear hS; rintro e w_ ⟨cz, hcz, rfl, hS⟩; simp only [List.set_cons_succ, List.set_cons_zero] at hS))
      | ((with_reducible refine qA 102 ?_); refine Du (m := 4) rfl _ _ _ _ rfl rfl rfl (by decide) ?_; intro z102 h102)
      | ((with_reducible refine qA 103 ?_); refine st_someB rfl _ _ _ _ _ rfl rfl rfl rfl (GY rfl) ?_; intro rvk)
      | ((with_reducible refine qA 107 ?_); refine Du (m := R) rfl _ _ _ _ rfl rfl rfl (by omega) ?_; intro z107 h107)
      | ((with_reducible refine qA 108 ?_); refine st_addN (n := 1) rfl _ _ _ _ rfl (fun z => 1 <= z /\ z <= R) rfl rfl (by omega) (by omega) ?_; intro z108 h108)
      | ((with_reducible refine qA 110 ?_); refine AL rfl _ _ rfl #[.bool rvk, .int .u64 0, .int .u64 0, .int .i64 (z108 : Nat), .int .i64 (k : Nat)] (by kernel_rfl) ?_; (try simp only [Act.put, List.setIfInBounds_toArray, List.set_cons_zero, List.set_cons_succ]))
      | ((with_reducible refine qA 16 ?_); refine qa hS #[.bool false, .int .u64 0, .int .u64 0, .int .i64 0, .int .i64 0] ?_; clear hS; intro g16 w_ hS)
      | ((with_reducible refine qm 96 ?_); refine qS hS ?_; clear hS; intro w_ hS; (try simp only [Act.put, Act.eval, zz, Value.cells] at hS); cases rvk)
      | (go_at_call 91; refine (I9 cy cz m hm _).mono ?_; rintro r_ w_ ⟨_, rfl, ⟨ya, na, rfl, s1, s2, s3, s4, s5⟩, hb_⟩; replace hS := hS.ext hb_; clear hb_)
      | ((with_reducible refine qm 94 ?_); refine st_bstore2 hS 0 rfl _ _ _ rfl _ _ _ _ rfl rfl rfl (by simp) rfl rfl (by kernel_rfl) ?_; clear hS; intro w_ hS; (try simp only [Act.put, Act.eval, zz, Value.cells] at hS))
      | ((with_reducible refine qK ?_); refine qL hS Tryz.underlying96 ?_)
      | ((with_reducible refine qA 122 ?_); first | (refine CT hS 1 rfl rfl _ _ _ _ rfl rfl I4 (.slice Ar k cr) k (B6 rs) (.agg #[.bool false, .int .u64 (ya : Nat), .int .u64 (na : Nat), .int .i64 (z108 : Nat), .int .i64 (k : Nat)]) #[.bool false, .int .u64 (ya : Nat), .int .u64 (na : Nat), .int .i64 (z108 : Nat), .int .i64 (k : Nat)] rfl (by kernel_rfl) rfl rfl rfl rfl (by intro u hu; simp at hu; rcases hu with rfl | rfl | rfl | rfl | rfl <;> rfl) (by omega) (by omega) ?_; clear hS; intro z_ v' w_ hS; (try simp only [Act.put, Act.eval, zz, Value.cells] at hS); obtain ⟨A', c', rfl, _, _⟩ := Bg (hS.own 1 rfl)) | (refine CT hS 1 rfl rfl _ _ _ _ rfl rfl I4 (.slice Ar k cr) k (B6 rs) (.agg #[.bool true, .int .u64 0, .int .u64 0, .int .i64 (z108 : Nat), .int .i64 (k : Nat)]) #[.bool true, .int .u64 0, .int .u64 0, .int .i64 (z108 : Nat), .int .i64 (k : Nat)] rfl (by kernel_rfl) rfl rfl rfl rfl (by intro u hu; simp at hu; rcases hu with rfl | rfl | rfl | rfl <;> rfl) (by omega) (by omega) ?_; clear hS; intro z_ v' w_ hS; (try simp only [Act.put, Act.eval, zz, Value.cells] at hS); obtain ⟨A', c', rfl, _, _⟩ := Bg (hS.own 1 rfl)))
      | ((with_reducible refine qB ?_); refine qc ?_ ?_ <;> intro h_ <;> go_prune)
      | ((with_reducible refine qK ?_); refine qC hS ?_)
      | ((with_reducible refine qM ?_); (first | refine qS hS ?_ | refine qT hS ?_); clear hS; intro w_ hS; (try simp only [Act.put, Act.eval, zz, Value.cells] at hS)))
     ·have e : B6 (rs ++ [⟨false, ya, na, (z108 : Nat), (k : Nat)⟩]) = B6 rs ++ [.bool false, .int .u64 (ya : Nat), .int .u64 (na : Nat), .int .i64 (z108 : Nat), .int .i64 (k : Nat)] := H3 ..
      refine ⟨⟨k + 1, _, .slice A' (k + 1) c', rs ++ [⟨false, ya, na, (z108 : Nat), (k : Nat)⟩], by go_num, hkR, ?_, Lib.hid (by rw [List.length_append, HRL.out]; rfl), Lib.hid (Hr HRS.out ⟨⟨by simp only; omega, by simp only; omega⟩, ⟨by simp only; omega, by simp only; omega⟩, s1, s2, s3, s4, s5, fun h => by cases h⟩), by rw [e]; exact hS.sub (List.sublist_cons_self _ _)⟩, by simp [intOf]; omega⟩
      omega
     ·have e : B6 (rs ++ [⟨true, 0, 0, (z108 : Nat), (k : Nat)⟩]) = B6 rs ++ [.bool true, .int .u64 0, .int .u64 0, .int .i64 (z108 : Nat), .int .i64 (k : Nat)] := H3 ..
      refine ⟨⟨k + 1, _, .slice A' (k + 1) c', rs ++ [⟨true, 0, 0, (z108 : Nat), (k : Nat)⟩], by go_num, hkR, ?_, Lib.hid (by rw [List.length_append, HRL.out]; rfl), Lib.hid (Hr HRS.out ⟨⟨by simp only; omega, by simp only; omega⟩, ⟨by simp only; omega, by simp only; omega⟩, Nat.zero_and m, Nat.zero_and m, Nat.zero_and 0, Nat.zero_lt_succ _, Nat.zero_lt_succ _, fun _ => ⟨rfl, rfl⟩⟩), by rw [e]; exact hS.sub (List.sublist_cons_self _ _)⟩, by simp [intOf]; omega⟩
      omega
    ·obtain rfl : RU = k := by omega
     go_wp2_with (first
      | (go_at_call 89; first | (refine (CF (at_ := t) HL.out (by omega) hS 2 rfl (fun D w h => kp D w (k1 D w h))).mono ?_; clear hS; rintro e w_ ⟨bv, hbv, rfl, hS⟩; simp only [List.set_cons_succ, List.set_cons_zero] at hS) | (refine (CF (at_ := t + 1) HL.out (by omega) hS 2 rfl (fun D w h => kp D w (k1 D w h))).mono ?_; clear hS; rintro e w_ ⟨bg, hbg, rfl, hS⟩; simp only [List.set_cons_succ, List.set_cons_zero] at hS))
      | ((with_reducible refine qA 127 ?_); refine Du (m := 4) rfl _ _ _ _ rfl rfl rfl (by decide) ?_; intro NV hNV)
      | ((with_reducible refine qA 130 ?_); refine Du (m := 3) rfl _ _ _ _ rfl rfl rfl (by decide) ?_; intro g3 hg3)
      | ((with_reducible refine qA 131 ?_); refine st_addN (n := 1) rfl _ _ _ _ rfl (fun z => 1 <= z /\ z <= 3) rfl rfl (by omega) (by omega) ?_; intro GO hGO)
      | ((with_reducible refine qB ?_); refine qc ?_ ?_ <;> intro h_ <;> go_prune))
     obtain ⟨K2, j1, k2, kr2, hS2⟩ : ∃ K2 : (Nat -> Prop) -> World -> Prop, (∀ D w, K2 D w -> K D w) /\ (∀ D w, K2 D w -> Sl w D 2 (.slice Ap L.length cp) L.length (Af L)) /\ (∀ D w, K2 D w -> Sl w D 5 (.slice Ar RU cr) RU (B6 rs)) /\ St w0 w_ (.box g4 37 #[.int .i64 (R : Nat), .slice Ap L.length cp, .int .u64 (s0 : Nat), .slice Ar RU cr, .slice none 0 0, .slice none 0 0] :: .box q 144 #[.slice A l.length c, .int .i64 ((t + 1 + 1 : Nat) : Int)] :: .box g2 37 #[.int .i64 0, .slice none 0 0, .int .u64 0, .slice none 0 0, .slice none 0 0, .slice none 0 0] :: F) K2 := ⟨_, fun _ _ h => k1 _ _ h.1, fun _ _ h => kk1 _ _ h.1, fun _ _ h => h.2, hS.freeze 0 (by decide) rfl⟩
     clear hS
     have hS := hS2.nil 94 2
     clear hS2
     have KS2 := Lib.hid hS.stable
     go_loopw [19] (fun jv wr => ∃ (j u : Nat) (nv : Value) (ns : List (Nat × Nat)), jv = .int .i64 (j : Nat) /\ j <= NV /\ u <= 40 + 2 * j /\ ns.length <= j /\ Hid (∀ z ∈ ns, KOk m z /\ B0 z (closM L s0) = false) /\ St w0 wr (.own nv 94 2 ns.length (Bb ns) :: .box g4 37 #[.int .i64 (R : Nat), .slice Ap L.length cp, .int .u64 (s0 : Nat), .slice Ar RU cr, nv, .slice none 0 0] :: .box q 144 #[.slice A l.length c, .int .i64 ((u : Nat) : Int)] :: .box g2 37 #[.int .i64 0, .slice none 0 0, .int .u64 0, .slice none 0 0, .slice none 0 0, .slice none 0 0] :: F) K2) (fun jv _ => NV - (intOf jv).toNat)
     case atStart => exact ⟨0, t + 1 + 1, _, [], rfl, by omega, by omega, by simp, Lib.hid (fun z hz => by simp at hz), hS⟩
     case round =>
      clear hS
      obtain ⟨j, u, nv, ns, rfl, hj, hu, hnl, HNS, hS⟩ := hrel
      obtain ⟨An, cn, rfl, _, _⟩ := Bg (hS.own 0 rfl)
      by_cases hjN : j < NV
      ·go_wp2_with (first
        | (go_at_call 89; first | (refine (CF (at_ := u) HL.out (by omega) hS 2 rfl (fun D w h => kp D w (j1 D w h))).mono ?_; clear hS; rintro e w_ ⟨yb, hyb, rfl, hS⟩; simp only [List.set_cons_succ, List.set_cons_zero] at hS) | (refine (CF (at_ := u + 1) HL.out (by omega) hS 2 rfl (fun D w h => kp D w (j1 D w h))).mono ?_; clear hS; rintro e w_ ⟨nb, hnb, rfl, hS⟩; simp only [List.set_cons_succ, List.set_cons_zero] at hS))
        | ((with_reducible refine qA 145 ?_); refine Du (m := R) rfl _ _ _ _ rfl rfl rfl (by omega) ?_; intro z145 h145)
        | ((with_reducible refine qA 147 ?_); refine Ez (k := .i64) rfl _ _ _ _ _ rfl rfl rfl (fun z => z < 256) (z := 2 ^ (z145 + 1)) rfl (run_shl2 (by omega)) (Nat.lt_of_le_of_lt (Nat.pow_le_pow_right (by decide) (show z145 + 1 <= 5 by omega)) (by decide)) ?_; intro z147 h147)
        | ((with_reducible refine qA 148 ?_); refine Ez (k := .i64) rfl _ _ _ _ _ rfl rfl rfl (fun _ => True) (z := yb ||| z147) rfl (run_orN hyb h147) trivial ?_; intro z148 _)
        | (go_at_call 91; refine (I9 z148 nb m hm _).mono ?_; rintro r_ w_ ⟨_, rfl, ⟨ya, na, rfl, s1, s2, s3, s4, s5⟩, hb_⟩; replace hS := hS.ext hb_; clear hb_)
        | ((with_reducible refine qA 22 ?_); refine qa hS #[.int .u64 0, .int .u64 0] ?_; clear hS; intro g22 w_ hS)
        | ((with_reducible refine qB ?_); refine qc ?_ ?_ <;> intro h_ <;> go_prune)
        | ((with_reducible refine qK ?_); refine qC hS ?_)
        | ((with_reducible refine qM ?_); (first | refine qS hS ?_ | refine qT hS ?_); clear hS; intro w_ hS; (try simp only [Act.put, Act.eval, zz, Value.cells] at hS)))
       obtain ⟨hld, hHb⟩ : ∃ hld : Bool, hld = B0 (ya, na) (closM L s0) := ⟨_, rfl⟩
       have HB := Lib.hid hHb
       clear hHb
       refine CH [.i (.agg #[.int .u64 (ya : Nat), .int .u64 (na : Nat)]), .q g4 1, .i (.slice Ap L.length cp), .q g4 2, .i (.int .u64 (s0 : Nat)), .i (.int .u64 (closM L s0 : Nat)), .i (.bool hld), .i (.bool (!hld))] ⟨uR (h := fun w hW hN => (hS.ext hW).box 0 rfl), uF, uC (h := fun w hW hN => (hS.ext hW).shut 2 rfl 1 rfl), uF, uC (h := fun w hW hN => (hS.ext hW).shut 2 rfl 2 rfl), ?_, ?_, uU, trivial⟩ ?_
       ·refine uT fun b__ w hW hE K hK => ?_
        have e154 := hE 154
        have e156 := hE 156
        exact AB rfl (by kernel_rfl) (by simp only [List.map_cons, List.map_nil, e154, e156]) (EF (k2 _ _ (hS.ext hW).ro) HH.out.inr (by omega) s0) fun v w' h hb => hK v w' h hb
       ·refine uT fun b__ w hW hE K hK => ?_
        have e152 := hE 152
        have e157 := hE 157
        exact AB rfl (by kernel_rfl) (by simp only [List.map_cons, List.map_nil, e152, e157]) (Gp (y := ya) (n := na) (by unfold Bc; omega) (by unfold Bc; omega) (DR L s0) _) fun v w' h hb => hK v w' (h.trans (by rw [HB.out])) hb
       ·intro vs wz hW hT
        obtain ⟨e152, e153, e154, e155, e156, e157, e158, e159, -⟩ := hT
        simp only [AF, Act.put, zz, ze]
        replace hS := hS.ext hW
        rw [e159]
        clear hW e152 e153 e154 e155 e156 e157 e158 e159
        cases hld with
        | true =>
         go_wp2_with fail
         exact ⟨⟨j + 1, u + 1 + 1, _, ns, by go_num, hjN, by omega, by omega, HNS, hS.sub (List.sublist_cons_self _ _)⟩, by simp [intOf]; omega⟩
        | false =>
         go_wp2_with (first
          | ((with_reducible refine qK ?_); refine qC hS ?_)
          | ((with_reducible refine qK ?_); refine qL hS Tryz.underlying94 ?_)
          | ((with_reducible refine qA 163 ?_); refine CT hS 1 rfl rfl _ _ _ _ rfl rfl ty_mkc (.slice An ns.length cn) ns.length (Bb ns) (.agg #[.int .u64 (ya : Nat), .int .u64 (na : Nat)]) #[.int .u64 (ya : Nat), .int .u64 (na : Nat)] rfl (by kernel_rfl) rfl rfl rfl rfl (by intro u hu; simp at hu; rcases hu with rfl | rfl <;> rfl) (by omega) (by omega) ?_; clear hS; intro z_ v' w_ hS; (try simp only [Act.put, Act.eval, zz, Value.cells] at hS); obtain ⟨A', c', rfl, _, _⟩ := Bg (hS.own 1 rfl))
          | ((with_reducible refine qM ?_); (first | refine qS hS ?_ | refine qT hS ?_); clear hS; intro w_ hS; (try simp only [Act.put, Act.eval, zz, Value.cells] at hS)))
         have e : Bb (ns ++ [(ya, na)]) = Bb ns ++ [.int .u64 (ya : Nat), .int .u64 (na : Nat)] := Ir ..
         exact ⟨⟨j + 1, u + 1 + 1, .slice A' (ns.length + 1) c', ns ++ [(ya, na)], by go_num, hjN, by omega, by simp; omega, Lib.hid (Hr HNS.out ⟨⟨s1, s2, s3, s4, s5⟩, HB.out.symm⟩), by rw [e, List.length_append]; exact hS.sub (List.sublist_cons_self _ _)⟩, by simp [intOf]; omega⟩
      ·obtain rfl : NV = j := by omega
       go_wp2_with (first | ((with_reducible refine qB ?_); refine qc ?_ ?_ <;> intro h_ <;> go_prune))
       obtain ⟨K3, j3, k3, kr3, kn3, hS2⟩ : ∃ K3 : (Nat -> Prop) -> World -> Prop, (∀ D w, K3 D w -> K D w) /\ (∀ D w, K3 D w -> Sl w D 2 (.slice Ap L.length cp) L.length (Af L)) /\ (∀ D w, K3 D w -> Sl w D 5 (.slice Ar RU cr) RU (B6 rs)) /\ (∀ D w, K3 D w -> Sl w D 2 (.slice An ns.length cn) ns.length (Bb ns)) /\ St w0 wr (.box g4 37 #[.int .i64 (R : Nat), .slice Ap L.length cp, .int .u64 (s0 : Nat), .slice Ar RU cr, .slice An ns.length cn, .slice none 0 0] :: .box q 144 #[.slice A l.length c, .int .i64 ((u : Nat) : Int)] :: .box g2 37 #[.int .i64 0, .slice none 0 0, .int .u64 0, .slice none 0 0, .slice none 0 0, .slice none 0 0] :: F) K3 := ⟨_, fun _ _ h => j1 _ _ h.1, fun _ _ h => k2 _ _ h.1, fun _ _ h => kr2 _ _ h.1, fun _ _ h => h.2, hS.freeze 0 (by decide) rfl⟩
       clear hS
       have hS := hS2.nil 94 2
       clear hS2
       have KS3 := Lib.hid hS.stable
       go_loopw [23] (fun jv wr => ∃ (j x : Nat) (gv : Value) (gs : List (Nat × Nat)), jv = .int .i64 (j : Nat) /\ j <= GO /\ x <= 50 + 2 * j /\ Hid (gs.length = j) /\ Hid (∀ z ∈ gs, KOk m z) /\ St w0 wr (.own gv 94 2 j (Bb gs) :: .box g4 37 #[.int .i64 (R : Nat), .slice Ap L.length cp, .int .u64 (s0 : Nat), .slice Ar RU cr, .slice An ns.length cn, gv] :: .box q 144 #[.slice A l.length c, .int .i64 ((x : Nat) : Int)] :: .box g2 37 #[.int .i64 0, .slice none 0 0, .int .u64 0, .slice none 0 0, .slice none 0 0, .slice none 0 0] :: F) K3) (fun jv _ => GO - (intOf jv).toNat)
       case atStart => exact ⟨0, u, _, [], rfl, by omega, by omega, Lib.hid rfl, Lib.hid (fun z hz => by simp at hz), hS⟩
       case round =>
        clear hS
        obtain ⟨j, x, gv, gs, rfl, hj2, hx, HGL, HGS, hS⟩ := hrel
        obtain ⟨Ag, cg, rfl, _, _⟩ := Bg (hS.own 0 rfl)
        by_cases hjG : j < GO
        ·go_wp2_with (first
          | (go_at_call 89; first | (refine (CF (at_ := x) HL.out (by omega) hS 2 rfl (fun D w h => kp D w (j3 D w h))).mono ?_; clear hS; rintro e w_ ⟨yb, hyb, rfl, hS⟩; simp only [List.set_cons_succ, List.set_cons_zero] at hS) | (refine (CF (at_ := x + 1) HL.out (by omega) hS 2 rfl (fun D w h => kp D w (j3 D w h))).mono ?_; clear hS; rintro e w_ ⟨nb, hnb, rfl, hS⟩; simp only [List.set_cons_succ, List.set_cons_zero] at hS))
          | ((with_reducible refine qB ?_); refine qc ?_ ?_ <;> intro h_ <;> go_prune))
         have h0d := hS.drew
         refine wp_zS [5, 6, 7, 9] [some (.pointer (some ⟨g4, 5, none⟩)), some (.slice Ag j cg), some (.int .i64 (yb : Nat)), some (.int .i64 (nb : Nat)), some (.int .u8 (m : Nat)), none, none, none, some (.pointer (some ⟨g4, 5, none⟩)), none] (fun vs w => match vs with | [] => St w0 w (.own (.slice Ag j cg) 94 2 j (Bb gs) :: .box g4 37 #[.int .i64 (R : Nat), .slice Ap L.length cp, .int .u64 (s0 : Nat), .slice Ar RU cr, .slice An ns.length cn, .slice Ag j cg] :: .box q 144 #[.slice A l.length c, .int .i64 ((x + 1 + 1 : Nat) : Int)] :: .box g2 37 #[.int .i64 0, .slice none 0 0, .int .u64 0, .slice none 0 0, .slice none 0 0, .slice none 0 0] :: F) K3 | [z] => ∃ a b : Nat, z = .agg #[.int .u64 (a : Nat), .int .u64 (b : Nat)] /\ KOk m (a, b) /\ St w0 w (.own (.slice Ag j cg) 94 2 j (Bb gs) :: .box g4 37 #[.int .i64 (R : Nat), .slice Ap L.length cp, .int .u64 (s0 : Nat), .slice Ar RU cr, .slice An ns.length cn, .slice Ag j cg] :: .box q 144 #[.slice A l.length c, .int .i64 ((x + 1 + 1 : Nat) : Int)] :: .box g2 37 #[.int .i64 0, .slice none 0 0, .int .u64 0, .slice none 0 0, .slice none 0 0, .slice none 0 0] :: F) K3 | [_, z] => ∃ a b : Nat, KOk m (a, b) /\ St w0 w (.own (.slice Ag j cg) 94 2 j (Bb gs) :: .box g4 37 #[.int .i64 (R : Nat), .slice Ap L.length cp, .int .u64 (s0 : Nat), .slice Ar RU cr, .slice An ns.length cn, .slice Ag j cg] :: .box q 144 #[.slice A l.length c, .int .i64 ((x + 1 + 1 : Nat) : Int)] :: .box g2 37 #[.int .i64 0, .slice none 0 0, .int .u64 0, .slice none 0 0, .slice none 0 0, .slice none 0 0] :: F) (fun D w => K3 D w /\ Sl w D 2 z 1 [.int .u64 (a : Nat), .int .u64 (b : Nat)]) | [_, _, p'] => ∃ a b : Nat, KOk m (a, b) /\ St w0 w (.own p' 94 2 (j + 1) (Bb gs ++ [.int .u64 (a : Nat), .int .u64 (b : Nat)]) :: .box g4 37 #[.int .i64 (R : Nat), .slice Ap L.length cp, .int .u64 (s0 : Nat), .slice Ar RU cr, .slice An ns.length cn, .slice Ag j cg] :: .box q 144 #[.slice A l.length c, .int .i64 ((x + 1 + 1 : Nat) : Int)] :: .box g2 37 #[.int .i64 0, .slice none 0 0, .int .u64 0, .slice none 0 0, .slice none 0 0, .slice none 0 0] :: F) K3 | [_, _, p', _] => ∃ a b : Nat, KOk m (a, b) /\ St w0 w (.own p' 94 2 (j + 1) (Bb gs ++ [.int .u64 (a : Nat), .int .u64 (b : Nat)]) :: .box g4 37 #[.int .i64 (R : Nat), .slice Ap L.length cp, .int .u64 (s0 : Nat), .slice Ar RU cr, .slice An ns.length cn, p'] :: .box q 144 #[.slice A l.length c, .int .i64 ((x + 1 + 1 : Nat) : Int)] :: .box g2 37 #[.int .i64 0, .slice none 0 0, .int .u64 0, .slice none 0 0, .slice none 0 0, .slice none 0 0] :: F) K3 | _ => False) ?_ ⟨vF, ?_, vM, vM, vM, ?_, ?_, ?_, vF, ?_, trivial⟩ ?_
         ·first | assumption | (dsimp only; assumption)
         ·refine vR 0 2 fun b__ w vs hS h1 h2 hE K hK => ?_
          rcases vs with _ | ⟨x0, _ | ⟨x1, _ | ⟨x2, vs⟩⟩⟩ <;> first | (exfalso; first | exact hS | (revert h1 h2; simp <;> omega); done) | ((have e175 := hE 175); (first | exact At rfl e175 (by kernel_rfl) (hS.shut 1 rfl 5 rfl) (hK _ rfl) | (obtain ⟨_, _, _, hS⟩ := hS; exact At rfl e175 (by kernel_rfl) (hS.shut 1 rfl 5 rfl) (hK _ rfl)) | (obtain ⟨_, _, _, _, hS⟩ := hS; exact At rfl e175 (by kernel_rfl) (hS.shut 1 rfl 5 rfl) (hK _ rfl))))
         ·refine vX 0 fun b__ w vs hS hl hE K hK => ?_
          obtain rfl := IR hl
          have e177 := hE 177
          have e178 := hE 178
          have e179 := hE 179
          exact Cb rfl (by kernel_rfl) (by simp only [List.map_cons, List.map_nil, e177, e178, e179]) (I9 yb nb m hm _) fun e w' ⟨z, he, ⟨a, b, hz, h2, h3, h4, h5, h6⟩, hb_⟩ => ⟨z, he, hK z w' ⟨a, b, hz, ⟨h2, h3, h4, h5, h6⟩, hS.ext hb_⟩⟩
         ·refine vX 1 fun b__ w vs hS hl hE K hK => ?_
          obtain ⟨x0, rfl⟩ := GG hl
          have e180 := hE 180
          obtain ⟨a, b, rfl, hk1, hS⟩ := hS
          refine BE (ps := [(0, .agg #[.int .u64 (a : Nat), .int .u64 (b : Nat)])]) (cells := #[.int .u64 (a : Nat), .int .u64 (b : Nat)]) rfl Tryz.underlying35 (by simp [e180]) (by kernel_rfl) ?_
          intro w' hbx hbel
          exact hK _ w' ⟨a, b, hk1, hS.ret hbel (Aq (by decide)) (⟨by simp, _, 1, rfl, by omega, by unfold maxLen; omega, fun _ => ⟨w.heap.size, 0, rfl, Nat.le_refl _, hbx.lt, fun j x hj => by rw [Nat.zero_add]; exact (hbx.cell j).trans (by simpa using hj)⟩⟩ : Sl w' (w.heap.size <= ·) 2 (.slice (some ⟨w.heap.size, 0, none⟩) 1 1) 1 [.int .u64 (a : Nat), .int .u64 (b : Nat)])⟩
         ·refine vX 2 fun b__ w vs hS hl hE K hK => ?_
          obtain ⟨x0, x1, rfl⟩ := GF hl
          have e176 := hE 176
          have e181 := hE 181
          obtain ⟨a, b, hk1, h3⟩ := hS
          refine EZ rfl ty_mkc e176 (h3.own 0 rfl) e181 h3.ro.2 (by intro u hu; simp at hu; rcases hu with rfl | rfl <;> rfl) (by omega) (by omega) h3.size ?_
          intro v' w' ho hg hat
          exact hK v' w' ⟨a, b, hk1, (h3.upd 0 rfl (.own v' 94 2 (j + 1) (Bb gs ++ [Value.int .u64 (a : Nat), Value.int .u64 (b : Nat)])) hg ho hat).mono KS3.out fun D w h => h.1⟩
         ·refine vX 3 fun b__ w vs hS hl hE K hK => ?_
          obtain ⟨x0, x1, x2, rfl⟩ := GE hl
          have e183 := hE 183
          have e182 := hE 182
          obtain ⟨a, b, hk1, h3⟩ := hS
          refine Cu rfl e183 e182 (h3.box 1 rfl) (by simp) (Ig (h3.own 0 rfl)) (own_one (h3.own 0 rfl)) (by kernel_rfl) ?_
          intro w' hbx hup
          exact hK _ w' ⟨a, b, hk1, h3.upd 1 rfl (.box g4 37 #[.int .i64 (R : Nat), .slice Ap L.length cp, .int .u64 (s0 : Nat), .slice Ar RU cr, .slice An ns.length cn, x2]) (Bj hup) ⟨(h3.holds _ (List.mem_of_getElem? (i := 1) rfl)).1, hbx⟩ fun _ e => .inl e⟩
         ·intro us wz vs hS hl hT
          obtain ⟨x0, x1, x2, x3, rfl⟩ := IQ hl
          obtain ⟨e175, e176, e177, e178, e179, e180, e181, e182, e183, -⟩ := hT
          clear hl
          simp only [AF, Act.put, zz, ze]
          obtain ⟨a, b, hk1, hS⟩ := hS
          clear h0d
          go_wp2_with fail
          have e : Bb (gs ++ [(a, b)]) = Bb gs ++ [.int .u64 (a : Nat), .int .u64 (b : Nat)] := Ir ..
          exact ⟨⟨j + 1, x + 1 + 1, _, gs ++ [(a, b)], by go_num, hjG, by omega, Lib.hid (by rw [List.length_append, HGL.out]; rfl), Lib.hid (Hr HGS.out hk1), by rw [e]; exact hS⟩, by simp [intOf]; omega⟩
        ·obtain rfl : GO = j := by omega
         go_wp2_with (first
          | ((with_reducible refine qB ?_); refine qc ?_ ?_ <;> intro h_ <;> go_prune)
          | ((with_reducible refine qK ?_); refine qL hS Tryz.underlying37 ?_)
          | ((with_reducible refine qM ?_); (first | refine qS hS ?_ | refine qT hS ?_); clear hS; intro w_ hS; (try simp only [Act.put, Act.eval, zz, Value.cells] at hS)))
         have HM : Bp ⟨R, some L, s0, rs, ns, gs⟩ L R := ⟨rfl, rfl, hR.1, hR.2, HH.out, HR.out, by omega, by rw [<- HM.out]; exact HS0.out, by show rs.length <= 6; rw [HRL.out]; omega, by rw [<- HM.out]; exact HRS.out, by show ns.length <= 3; omega, by rw [<- HM.out]; exact HNS.out, by show gs.length <= 3; rw [HGL.out]; omega, by show 1 <= gs.length; rw [HGL.out]; omega, by rw [<- HM.out]; exact HGS.out⟩
         have hS1 := hS.freeze 0 (by decide) rfl
         refine Bm Tryz.results50 rfl (hS.box 3 rfl) Tryz.underlying37 rfl (by kernel_rfl) rfl ?_
         refine ⟨_, rfl, _, ⟨L, R, HM⟩, (hS1.sub (F' := F) (((List.sublist_cons_self _ _).trans (List.sublist_cons_self _ _)).trans (List.sublist_cons_self _ _))).mono (KS.out.and Bo) fun D w h => ⟨j3 _ _ h.1, ?_⟩⟩
         refine ⟨_, _, _, _, L, rfl, rfl, k3 _ _ h.1, ?_, kn3 _ _ h.1, ?_⟩
         ·show Sl w D 5 _ rs.length _; rw [HRL.out]; exact kr3 _ _ h.1
         ·show Sl w D 2 _ gs.length _; rw [HGL.out]; exact h.2
end
section
open Go.RowKit
structure GK where
 b : Option (Nat × Option (Array Value))
 K : (Nat -> Prop) -> World -> Prop
def GK.F (ty : TypeId) (zs : Array Value) (s : GK) : List Ai := match s.b with
 | none => []
 | some (g, o) => [.box g ty (o.getD zs)]
def GJ (w0 : World) (F : List Ai) (ty : TypeId) (zs : Array Value) (s : World × GK) : Prop := St w0 s.1 (s.2.F ty zs ++ F) s.2.K
def GR (w0 : World) (F : List Ai) (ty : TypeId) (zs : Array Value) (s s' : World × GK) : Prop :=
 (GJ w0 F ty zs s -> GJ w0 F ty zs s') /\ (∀ D w, s'.2.K D w -> s.2.K D w) /\ (∀ g, s.2.b = some (g, none) -> ∃ o, s'.2.b = some (g, o)) /\ (∀ g cs, s.2.b = some (g, some cs) -> s'.2.b = some (g, some cs))
theorem GR.refl {w0 : World} {F : List Ai} {ty : TypeId} {zs : Array Value} : ∀ s, GR w0 F ty zs s s := fun _ => ⟨id, fun _ _ h => h, fun _ h => ⟨_, h⟩, fun _ _ h => h⟩
theorem GR.var {w0 : World} {F : List Ai} {ty : TypeId} {zs : Array Value} {s s' : World × GK} (h : GR w0 F ty zs s s') {v : Value} (k : ∃ g o, v = .pointer (some ⟨g, 0, none⟩) /\ s.2.b = some (g, o)) : ∃ g o, v = .pointer (some ⟨g, 0, none⟩) /\ s'.2.b = some (g, o) := by
 obtain ⟨g, o, e, k⟩ := k
 cases o with
 | none => obtain ⟨o, k⟩ := h.2.2.1 g k; exact ⟨g, o, e, k⟩
 | some cs => exact ⟨g, _, e, h.2.2.2 g cs k⟩
theorem GR.trans {w0 : World} {F : List Ai} {ty : TypeId} {zs : Array Value} : ∀ a b c, GR w0 F ty zs a b -> GR w0 F ty zs b c -> GR w0 F ty zs a c := fun a b c h k =>
 ⟨fun j => k.1 (h.1 j), fun D w j => h.2.1 D w (k.2.1 D w j), fun g j => by
  obtain ⟨o, j2⟩ := h.2.2.1 g j
  obtain ⟨g', o', e, j3⟩ := k.var ⟨g, o, rfl, j2⟩
  injection e with e; injection e with e; injection e with e; subst e
  exact ⟨o', j3⟩, fun g cs j => k.2.2.2 g cs (h.2.2.2 g cs j)⟩
def GN (ia is : Nat) (i : Nat) (s : World × GK) : Prop := (i = ia -> s.2.b = none) /\ (i = is -> ∀ g cs, s.2.b ≠ some (g, some cs))
theorem GN.start {ia is : Nat} {w : World} {K : (Nat -> Prop) -> World -> Prop} (i : Nat) : GN ia is i (w, ⟨none, K⟩) := ⟨fun _ => rfl, fun _ _ _ h => by cases h⟩
theorem GK.more {w0 : World} {F : List Ai} {ty : TypeId} {zs : Array Value} {w : World × GK} {w' : World} {K' : (Nat -> Prop) -> World -> Prop} {ia is i : Nat} (h : St w0 w' (w.2.F ty zs ++ F) K') (hk : ∀ D w1, K' D w1 -> w.2.K D w1) :
  GR w0 F ty zs w (w', { w.2 with K := K' }) /\ ∀ j, j ≠ i -> GN ia is j w -> GN ia is j (w', { w.2 with K := K' }) := ⟨⟨fun _ => h, hk, fun _ h => ⟨_, h⟩, fun _ _ h => h⟩, fun _ _ h => h⟩
theorem GK.made {w0 : World} {F : List Ai} {ty : TypeId} {zs : Array Value} {w : World × GK} {w' : World} {g ia is : Nat} (hn : w.2.b = none) (h : St w0 w' (.box g ty zs :: F) w.2.K) :
  GR w0 F ty zs w (w', { w.2 with b := some (g, none) }) /\ ∀ j, j ≠ ia -> GN ia is j w -> GN ia is j (w', { w.2 with b := some (g, none) }) :=
 ⟨⟨fun _ => h, fun _ _ h => h, fun g h => (by rw [hn] at h; cases h), fun g cs h => (by rw [hn] at h; cases h)⟩, fun j hj _ => ⟨fun e => absurd e hj, fun _ g cs e => by cases e⟩⟩
theorem GK.put {w0 : World} {F : List Ai} {ty : TypeId} {zs : Array Value} {w : World × GK} {w' : World} {g ia is : Nat} {cs : Array Value} (hn : w.2.b = some (g, none)) (h : St w0 w' (.box g ty cs :: F) w.2.K) :
  GR w0 F ty zs w (w', { w.2 with b := some (g, some cs) }) /\ ∀ j, j ≠ is -> GN ia is j w -> GN ia is j (w', { w.2 with b := some (g, some cs) }) :=
 ⟨⟨fun _ => h, fun _ _ h => h, fun g' h => (by rw [hn] at h; injection h with h; injection h with h1 h2; subst h1; exact ⟨_, rfl⟩), fun g cs h => (by rw [hn] at h; cases h)⟩, fun j hj k => ⟨fun e => absurd (k.1 e) (by rw [hn]; exact nofun), fun e => absurd e hj⟩⟩
section
variable {P : Program} {o : Oper} {a : Act} {w : World × GK} {w0 : World} {F : List Ai} {ty : TypeId} {zs : Array Value} {K : Act -> World -> Prop} {Q : Exit -> Act -> World -> Prop}
theorem GJ.none (hJ : GJ w0 F ty zs w) (hn : w.2.b = none) : St w0 w.1 F w.2.K := by
 unfold GJ GK.F at hJ; rw [hn] at hJ; exact hJ
theorem GJ.some {g : Nat} {x : Option (Array Value)} (hJ : GJ w0 F ty zs w) (hn : w.2.b = some (g, x)) : St w0 w.1 (.box g ty (x.getD zs) :: F) w.2.K := by
 unfold GJ GK.F at hJ; rw [hn] at hJ; exact hJ
theorem GJ.cell (hJ : GJ w0 F ty zs w) {g : Nat} {t : TypeId} {cs : Array Value} (i : Nat) (hi : F[i]? = Option.some (Ai.box g t cs)) (j : Nat) {x : Value} (hx : cs[j]? = Option.some x) : w.1.cell? ⟨g, j, Option.none⟩ = Option.some x :=
 ((hJ.holds (.box g t cs) (List.mem_append_right _ (List.mem_of_getElem? hi))).2.cell j).trans hx
theorem gk_alloc (ho : o.op = .alloc ty) (hz : ((P.info? ty).bind (·.zero)).isSome = true) (hzs : zeroCells P ty = zs) (hJ : GJ w0 F ty zs w) (hn : w.2.b = Option.none)
  (hK : ∀ g w', St w0 w' (.box g ty zs :: F) w.2.K -> K (a.put o.dst (.pointer (some ⟨g, 0, Option.none⟩))) w') : o.wp P a w.1 K Q :=
 opw_alloc ho hz fun w' hb hbel => hK _ w' ((hJ.none hn).new hbel _ ⟨Nat.le_refl _, hzs ▸ hb⟩)
theorem gk_store {x y : Operand} {g : Nat} {cs : Array Value} (ho : o.op = .store ty x y) (hx : a.eval x = .pointer (some ⟨g, 0, Option.none⟩)) (hy : a.eval y = .agg cs) (hJ : GJ w0 F ty zs w) (hn : w.2.b = Option.some (g, Option.none)) (hi : (P.info? ty).map (·.size) = Option.some cs.size)
  (hold : zs.size = cs.size) (h1 : cs.all (·.oneCell') = true) (hK : ∀ w', St w0 w' (.box g ty cs :: F) w.2.K -> K (a.put o.dst undef) w') : o.wp P a w.1 K Q := by
 have hS := hJ.some hn
 exact BO ho hx hy (hS.box 0 rfl) hi hold h1 fun w' hb hU => hK w' (hS.upd 0 rfl (.box g ty cs) (Bj hU) ⟨(hS.holds _ (List.mem_cons_self ..)).1, hb⟩ fun _ e => .inl e)
end
def SR (w0 : World) (FX : Bool × Bool -> List Ai) (K : (Nat -> Prop) -> World -> Prop) (s s' : World × (Bool × Bool)) : Prop :=
 (St w0 s.1 (FX s.2) K -> St w0 s'.1 (FX s'.2) K) /\ (s.2.1 = true -> s'.2.1 = true) /\ (s.2.2 = true -> s'.2.2 = true)
theorem SR.refl {w0 : World} {FX : Bool × Bool -> List Ai} {K : (Nat -> Prop) -> World -> Prop} : ∀ s, SR w0 FX K s s := fun _ => ⟨id, id, id⟩
theorem SR.trans {w0 : World} {FX : Bool × Bool -> List Ai} {K : (Nat -> Prop) -> World -> Prop} : ∀ a b c, SR w0 FX K a b -> SR w0 FX K b c -> SR w0 FX K a c := fun _ _ _ h k => ⟨fun j => k.1 (h.1 j), fun j => k.2.1 (h.2.1 j), fun j => k.2.2 (h.2.2 j)⟩
end
section
open Go.RowKit
attribute [local go_sem ↓] Go.wp_at_zero Go.wp_at_succ
set_option maxRecDepth 20000
set_option exponentiation.threshold 5000
theorem LinkP.next {w0 w : World} {F : List Ai} {K : (Nat -> Prop) -> World -> Prop} {L M : List (Nat × Nat)} {x : Nat × Nat} {r : Value} {z : Int} (h : LinkP w0 F K L (x.1 : Nat) (x.2 : Nat) r z w) {j : Nat} (hx : M[j]? = some x) (hL : ∀ u, u ∈ L ↔ u ∈ M.take j) (hN : M.Nodup) (hR : ∀ u ∈ M, (1 <= u.1 /\ u.1 < 64) /\ 1 <= u.2 /\ u.2 < 64) (hA : Eb M) :
  z = 0 /\ ∃ L', Fd L' /\ (∀ u, u ∈ L' ↔ u ∈ M.take (j + 1)) /\ St w0 w F fun D w => K D w /\ IsH w D r L' := by
 have hm := List.mem_of_getElem? hx
 have h1 := hR x hm
 have hne := hA.ne hm
 have htk : ∀ u, u ∈ M.take (j + 1) ↔ u ∈ L ++ [x] := fun u => by
  rw [List.take_add_one, hx, List.mem_append, List.mem_append, hL]; simp
 rcases h with ⟨h, _⟩ | ⟨a, b, ha, hb, _, _, _, h⟩
 ·exact absurd ⟨⟨by omega, by omega⟩, ⟨by omega, by omega⟩, by omega⟩ h
 ·obtain rfl : x = (a, b) := Prod.ext (by show x.1 = a; omega) (by show x.2 = b; omega)
  rcases h with ⟨h, _⟩ | ⟨_, h, _⟩ | ⟨_, hz, L', h3, h4, h5⟩
  ·exfalso
   obtain ⟨i, hi, e⟩ := List.getElem_of_mem ((hL _).1 h)
   rw [List.length_take] at hi
   obtain ⟨hj, ej⟩ := List.getElem?_eq_some_iff.1 hx
   rw [List.getElem_take] at e
   exact List.pairwise_iff_getElem.1 hN i j (by omega) hj (by omega) (e.trans ej.symm)
  ·exact absurd (hA.sub fun u hu => List.mem_of_mem_take ((htk u).2 hu)) h
  ·exact ⟨hz, L', h3, fun u => (h4 u).trans (htk u).symm, h5⟩
end
section
open Go.RowKit
attribute [local go_sem ↓] Go.wp_at_zero Go.wp_at_succ
set_option maxRecDepth 20000
set_option exponentiation.threshold 5000
theorem nodup_le : ∀ {T S : List (Nat × Nat)}, T.Nodup -> (∀ y ∈ T, y ∈ S) -> T.length <= S.length
 | [], _, _, _ => by simp
 | t :: T, S, hT, hs => by
  have hT := List.nodup_cons.1 hT
  have ht := hs t (List.mem_cons_self ..)
  have := nodup_le (T := T) (S := S.erase t) hT.2 fun y hy => (List.mem_erase_of_ne (fun e => hT.1 (by rw [<- e]; exact hy))).2 (hs y (List.mem_cons_of_mem _ hy))
  rw [List.length_erase_of_mem ht] at this
  have := List.length_pos_of_mem ht
  rw [List.length_cons]
  omega
def Part (M : List (Nat × Nat)) (j : Nat) (L : List (Nat × Nat)) : Prop := Fd L /\ ∀ u, u ∈ L ↔ u ∈ M.take j
theorem Part.len {M L : List (Nat × Nat)} {j : Nat} (h : Part M j L) : L.length <= M.length := nodup_le h.1.asc.nodup fun y hy => List.mem_of_mem_take ((h.2 y).1 hy)
theorem Part.full {M L : List (Nat × Nat)} (h : Part M M.length L) (hM : Asc M) : L = M := Asc.uniq h.1.asc hM fun u => by rw [h.2, List.take_length]
end
section
open Go.RowKit
attribute [local go_sem ↓] Go.wp_at_zero Go.wp_at_succ
set_option maxRecDepth 20000
set_option exponentiation.threshold 5000
theorem ret3_cell {P : Program} {fn : Func} {p t2 t3 : Tmp} {ty : TypeId} {R : Ending -> World -> Prop} {a : Act} {w : World} {g : Nat} {t : TypeId} {cs : Array Value} {d : TypeDesc} {v u : Value} (h : fn.results = #[.cell p ty, .tmp t2, .tmp t3]) (hp : a.eval (.tmp p) = .pointer (some ⟨g, 0, none⟩)) (hb : Co w g t cs)
  (hu : P.underlying ty = some d) (hd : (match d with | .struct _ | .array _ _ => true | _ => false) = true) (hi : (P.info? ty).map (·.size) = some cs.size) (hv : a.eval (.tmp t2) = v) (hv2 : a.eval (.tmp t3) = u) (hdf : a.defers = []) (hR : R (.returned (.tuple #[.agg cs, v, u])) w) : bodyPost P fn R .ret a w := by
 have hr : (results fn a.tmps).run P w = .ok (.tuple #[.agg cs, v, u]) w := by
  have hp' : a.tmps[p]?.getD undef = .pointer (some ⟨g, 0, none⟩) := by simpa [Act.eval] using hp
  have hv' : a.tmps[t2]?.getD undef = v := by simpa [Act.eval] using hv
  have hv2' : a.tmps[t3]?.getD undef = u := by simpa [Act.eval] using hv2
  simp [results, h, hp', hv', hv2', asAddr, run_loadVar_row w g t ty cs (0, 0) d hb hu hd hi]
 exact bodyPost_ret hr hdf hR
def Dn (S : Nat) (l : List AM) : List AM := l.filter fun r => Bk S r.target
def DK (S : Nat) (l : List AM) (j : Nat) : List Int := ((List.range j).filter fun k : Nat => Bk S (l.getD k AC).target).map fun k : Nat => (k : Int)
noncomputable def keepC (L : List (Nat × Nat)) (S : Nat) (l : List (Nat × Nat)) : List (Nat × Nat) := l.filter fun c => depC L c &&& S != 0
theorem keepR_step {S : Nat} {l : List AM} {j : Nat} {r : AM} (h : l[j]? = some r) : Dn S (l.take (j + 1)) = if Bk S r.target = true then Dn S (l.take j) ++ [r] else Dn S (l.take j) := by
 unfold Dn
 rw [List.take_add_one, h, List.filter_append]
 by_cases e : Bk S r.target = true <;> simp [e]
theorem keepN_step {S : Nat} {l : List AM} {j : Nat} {r : AM} (h : l[j]? = some r) : DK S l (j + 1) = if Bk S r.target = true then DK S l j ++ [(j : Int)] else DK S l j := by
 unfold DK
 have e : l.getD j AC = r := by rw [List.getD_eq_getElem?_getD, h]; rfl
 rw [List.range_succ, List.filter_append, List.map_append]
 by_cases e2 : Bk S r.target = true
 ·rw [if_pos e2, List.filter_cons, e, if_pos e2]; rfl
 ·rw [if_neg e2, List.filter_cons, e, if_neg e2]; simp
theorem keepC_step {L : List (Nat × Nat)} {S : Nat} {l : List (Nat × Nat)} {j : Nat} {c : Nat × Nat} (h : l[j]? = some c) : keepC L S (l.take (j + 1)) = if (depC L c &&& S != 0) = true then keepC L S (l.take j) ++ [c] else keepC L S (l.take j) := by
 unfold keepC
 rw [List.take_add_one, h, List.filter_append]
 by_cases e : (depC L c &&& S != 0) = true
 ·rw [if_pos e]; simp [List.filter_cons, e]
 ·rw [if_neg e]; simp [List.filter_cons, e]
theorem A7.off {w : World} {D : Nat -> Prop} {v : Value} {N g : Nat} {t : TypeId} {cs : Array Value} (h : A7 w D v N) (hb : Co w g t cs) (hc : ∀ (i : Nat) (x : Value), cs[i]? = some x -> ∀ n : Int, x ≠ Value.int .u64 n) : A7 w (fun b => D b /\ b ≠ g) v N := by
 obtain ⟨u, l, rfl, h1, h2, h3, A, c, rfl, h4, h5, h6⟩ := h
 refine ⟨_, l, rfl, h1, h2, h3, A, c, rfl, h4, h5, fun hp => ?_⟩
 obtain ⟨b, o, rfl, q1, q2, q3⟩ := h6 hp
 refine ⟨b, o, rfl, ⟨q1, fun e => ?_⟩, q2, q3⟩
 subst e
 have h7 := q3 0 (.int .u64 (l.getD 0 0 : Nat)) (by
  cases l with
  | nil => simp at hp
  | cons y l => simp [Bz])
 rw [hb.cell] at h7
 exact hc _ _ h7 _ rfl
def zeroP : Ah := ⟨0, none, 0, [], [], []⟩
noncomputable def ofP (p : Ah) : Ah := if checkE p = 0 then (match p.links with
 | none => zeroP
 | some L => ⟨p.roles, p.links, p.start &&& relM L p, Dn (relM L p) p.rules, keepC L (relM L p) p.never, p.goal⟩) else zeroP
noncomputable def ofKept (p : Ah) : List Int := if checkE p = 0 then (match p.links with
 | none => []
 | some L => DK (relM L p) p.rules p.rules.length) else []
theorem Bn.parts {w : World} {D : Nat -> Prop} {a lp s rv nv gv : Value} {p : Ah} (h : Bn w D (.agg #[a, lp, s, rv, nv, gv]) p) : Gx w D lp p.links /\ A7 w D (.agg #[s]) p.start /\ Bq w D rv p.rules /\ AA w D nv p.never /\ AA w D gv p.goal := by
 obtain ⟨lp', s', rv', nv', gv', he, h1, h2, h3, h4, h5⟩ := h
 have e : a = .int .i64 p.roles /\ lp = lp' /\ s = s' /\ rv = rv' /\ nv = nv' /\ gv = gv' := by simpa using he
 obtain ⟨-, rfl, rfl, rfl, rfl, rfl⟩ := e
 exact ⟨h1, h2, h3, h4, h5⟩
theorem AQ.append {w : World} {D : Nat -> Prop} {xs ys : List Value} {l m : List AM} (hx : xs.length = l.length * 5) (h : AQ w D xs l) (k : AQ w D ys m) : AQ w D (xs ++ ys) (l ++ m) := fun i z hi => by
 rcases Nat.lt_or_ge i l.length with h1 | h1
 ·rw [List.getElem?_append_left h1] at hi
  obtain ⟨a, b, q0, q1, q2, q3, q4, q5, q6⟩ := h i z hi
  refine ⟨a, b, ?_, ?_, ?_, ?_, ?_, q5, q6⟩
  all_goals rw [List.getElem?_append_left (by omega)]; assumption
 ·rw [List.getElem?_append_right h1] at hi
  obtain ⟨a, b, q0, q1, q2, q3, q4, q5, q6⟩ := k _ z hi
  refine ⟨a, b, ?_, ?_, ?_, ?_, ?_, q5, q6⟩
  ·rw [List.getElem?_append_right (by omega), <- q0]; congr 1; omega
  ·rw [List.getElem?_append_right (by omega), <- q1]; congr 1; omega
  ·rw [List.getElem?_append_right (by omega), <- q2]; congr 1; omega
  ·rw [List.getElem?_append_right (by omega), <- q3]; congr 1; omega
  ·rw [List.getElem?_append_right (by omega), <- q4]; congr 1; omega
theorem AQ.single {w : World} {D : Nat -> Prop} {a b : Value} {z : AM} (ha : A7 w D (.agg #[a]) z.yes) (hb : A7 w D (.agg #[b]) z.no) : AQ w D [.bool z.revoke, a, b, .int .i64 z.target, .int .i64 z.origin] [z] := fun i x hi => by
 cases i with
 | zero => obtain rfl := Option.some.inj (show some z = some x from hi); exact ⟨a, b, rfl, rfl, rfl, rfl, rfl, ha, hb⟩
 | succ i => simp at hi
set_option maxHeartbeats 4000000 in
theorem of_slice_any {w0 w : World} {F : List Ai} {K : (Nat -> Prop) -> World -> Prop} {v : Value} {p : Ah} (hP : p.Ok) (hS : St w0 w F K) (kp : ∀ D w, K D w -> Bn w D v p) (kt : ∀ D w, K D w -> Bu w) :
  Calls Tryz.prog 41 #[v] w fun e w' => ∃ u k, e = .returned (.tuple #[u, k, .int .i64 (checkE p)]) /\ St w0 w' F fun D w => (K D w /\ Bn w D u (ofP p)) /\ Sl w D 1 k (ofKept p).length (AH (ofKept p)) := by
 obtain ⟨R, lk, st, rl, nl, gl⟩ := p
 obtain ⟨lp, s, rv, nv, gv, rfl, hh, hs, hr, hn, hg⟩ := kp _ _ hS.ro
 dsimp only at hh hs hr hn hg
 have HP := Lib.hid hP
 obtain ⟨hP1, hP2, hP3, -⟩ := hP
 dsimp only at hP1 hP2 hP3
 have KS := Lib.hid hS.stable
 obtain ⟨Cs, ns, cs, rfl⟩ := hs.shape
 obtain ⟨Ar, cr, rfl, _, _⟩ := hr.shape
 obtain ⟨An, cn, rfl, _, _⟩ := hn.shape
 obtain ⟨Ag, cg, rfl, _, _⟩ := hg.shape
 clear hs hr hn hg
 dsimp only at kp ⊢
 obtain ⟨e, he⟩ : ∃ e, e = checkE ⟨R, lk, st, rl, nl, gl⟩ := ⟨_, rfl⟩
 have HE := Lib.hid he
 rw [<- he]
 clear he
 by_cases h0 : e = 0
 ·subst h0
  cases lk with
  | none => have := HE.out; cases this
  | some L =>
   have HH := Lib.hid (HP.out.links L rfl).1
   obtain ⟨q, o, rfl, -⟩ := hh
   obtain ⟨SM, hSM⟩ : ∃ S, S = relM L ⟨R, some L, st, rl, nl, gl⟩ := ⟨_, rfl⟩
   have HRS : Hid (relS ⟨R, some L, st, rl, nl, gl⟩ = SM) := Lib.hid (by unfold relS; rw [if_pos HE.out.symm, hSM])
   have HOF : Hid (ofP ⟨R, some L, st, rl, nl, gl⟩ = ⟨R, some L, st &&& SM, Dn SM rl, keepC L SM nl, gl⟩) := Lib.hid (by unfold ofP; rw [if_pos HE.out.symm, hSM])
   have HON : Hid (ofKept ⟨R, some L, st, rl, nl, gl⟩ = DK SM rl rl.length) := Lib.hid (by unfold ofKept; rw [if_pos HE.out.symm, hSM])
   clear hSM
   go_enter Tryz.func41, Tryz.ntmps41
   go_wp2_with (first
    | ((with_reducible refine qA 1 ?_); refine Az hS rfl _ _ rfl (.agg #[.int .i64 R, .pointer (some ⟨q, 0, none⟩), .slice Cs ns cs, .slice Ar rl.length cr, .slice An nl.length cn, .slice Ag gl.length cg]) _ rfl rfl ?_; clear hS; intro g1 w_ hS; (try simp only [Act.put, Act.eval, zz, Value.cells] at hS))
    | ((with_reducible refine qA 2 ?_); refine qa hS #[.int .i64 0, .pointer none, .slice none 0 0, .slice none 0 0, .slice none 0 0, .slice none 0 0] ?_; clear hS; intro g2 w_ hS)
    | ((with_reducible refine qA 6 ?_); refine qa hS #[.slice none 0 0] ?_; clear hS; intro g6 w_ hS)
    | ((with_reducible refine qA 7 ?_); refine qa hS #[.int .i64 0, .pointer none, .slice none 0 0, .slice none 0 0, .slice none 0 0, .slice none 0 0] ?_; clear hS; intro g7 w_ hS)
    | ((with_reducible refine qB ?_); refine qc ?_ ?_ <;> intro h_ <;> go_prune)
    | ((with_reducible refine qk 31 ?_); first | refine BigFrame.wpList_want rfl fun _ hK => AK rfl rfl (hS.box 1 rfl) Tryz.underlying31 rfl (by kernel_rfl) (hK _ _ ?_) | refine BigFrame.wpList_want rfl fun _ hK => AK rfl rfl (hS.box 2 rfl) Tryz.underlying31 rfl (by kernel_rfl) (hK _ _ ?_))
    | ((with_reducible refine qM ?_); (first | refine qS hS ?_ | refine qT hS ?_); clear hS; intro w_ hS; (try simp only [Act.put, Act.eval, zz, Value.cells] at hS))
    | (go_at_call 31; refine (CA (kp _ _ hS.ro) HP.out (kt _ _ hS.ro)).mono ?_; rw [<- HE.out]; rintro r_ w_ ⟨_, rfl, rfl, hb_⟩; replace hS := hS.ext hb_; clear hb_)
    | (go_at_call 63; refine (H6 (kp _ _ hS.ro) HP.out (kt _ _ hS.ro)).mono ?_; rw [HRS.out]; rintro r_ w_ ⟨_, rfl, h1, hb_⟩; replace hS := hS.ret hb_ A5 h1; clear h1 hb_; obtain ⟨A6, c6, l6, rfl, -⟩ := hS.ro.2.parts; obtain ⟨n6, hn6⟩ : ∃ n, n = l6.length := ⟨_, rfl⟩; rw [<- hn6] at hS ⊢; clear hn6)
    | (go_at_call 78; refine (copy_any HP.out hS (fun D w h => kp D w h.1)).mono ?_; clear hS; rintro r_ w_ ⟨u7, rfl, hS⟩; obtain ⟨lp7, s7, rv7, nv7, gv7, rfl, hh7, hs7, hr7, hn7, hg7⟩ := id hS.ro.2; dsimp only at hh7 hs7 hr7 hn7 hg7; obtain ⟨q7, o7, rfl, -⟩ := hh7; obtain ⟨C7, m7, d7, rfl⟩ := hs7.shape; obtain ⟨Ar7, cr7, rfl, _, _⟩ := hr7.shape; obtain ⟨An7, cn7, rfl, _, _⟩ := hn7.shape; obtain ⟨Ag7, cg7, rfl, _, _⟩ := hg7.shape; clear hs7 hr7 hn7 hg7))
   obtain ⟨K7, k0, k6, kq, ks7, hS2⟩ : ∃ K7 : (Nat -> Prop) -> World -> Prop, (∀ D w, K7 D w -> K D w) /\ (∀ D w, K7 D w -> A7 w D (.agg #[.slice A6 n6 c6]) SM) /\ (∀ D w, K7 D w -> Bn w D (.agg #[.int .i64 R, .pointer (some ⟨q7, 0, none⟩), .slice C7 m7 d7, .slice Ar7 rl.length cr7, .slice An7 nl.length cn7, .slice Ag7 gl.length cg7]) ⟨R, some L, st, rl, nl, gl⟩) /\ (∀ D w, K7 D w -> A7 w D (.agg #[.slice C7 m7 d7]) st) /\ St w0 w_ (.box g7 31 #[.int .i64 R, .pointer (some ⟨q7, 0, none⟩), .slice C7 m7 d7, .slice Ar7 rl.length cr7, .slice An7 nl.length cn7, .slice Ag7 gl.length cg7] :: .box g6 27 #[.slice A6 n6 c6] :: .box g2 31 #[.int .i64 0, .pointer none, .slice none 0 0, .slice none 0 0, .slice none 0 0, .slice none 0 0] :: .box g1 31 #[.int .i64 R, .pointer (some ⟨q, 0, none⟩), .slice Cs ns cs, .slice Ar rl.length cr, .slice An nl.length cn, .slice Ag gl.length cg] :: F) K7 := ⟨_, fun _ _ h => h.1.1, fun _ _ h => h.1.2, fun _ _ h => h.2, fun _ _ h => h.2.parts.2.1, hS⟩
   clear hS
   have hS := hS2
   clear hS2
   have KS7 := Lib.hid hS.stable
   refine IH (fun i__ lo hi v w => match i__ with
    | 0 => v = .pointer (some ⟨g7, 0, none⟩)
    | 1 => v = .int .i64 R
    | 2 => v = .pointer (some ⟨g7, 1, none⟩)
    | 3 => v = .pointer (some ⟨q7, 0, none⟩)
    | 4 => v = .pointer (some ⟨g7, 2, none⟩)
    | 5 => v = .agg #[.slice C7 m7 d7]
    | 6 => v = .agg #[.slice A6 n6 c6]
    | 7 => ∃ u, v = .agg #[u] /\ u.oneCell' = true /\ A7 w (fun z => w_.heap.size <= z) (.agg #[u]) (st &&& SM)
    | 8 => v = .pointer (some ⟨g7, 5, none⟩)
    | 9 => v = .slice Ag7 gl.length cg7
    | 10 => ∃ u, v = .agg #[.int .i64 R, .pointer (some ⟨q7, 0, none⟩), u, .slice none 0 0, .slice none 0 0, .slice Ag7 gl.length cg7] /\ u.oneCell' = true /\ A7 w (fun z => w_.heap.size <= z) (.agg #[u]) (st &&& SM)
    | 11 => ∃ g, v = .pointer (some ⟨g, 0, none⟩) /\ Co w g 31 (zeroCells Tryz.prog 31) /\ lo <= g /\ g < hi
    | 12 => True
    | _ => True) 12 [] (by kernel_rfl) (by kernel_rfl) (by kernel_rfl) (by kernel_rfl) (by kernel_rfl) ?mono ⟨.inr ?r0, .inr ?r1, .inr ?r2, .inr ?r3, .inr ?r4, .inr ?r5, .inr ?r6, .inr ?r7, .inr ?r8, .inr ?r9, .inr ?r10, .inr ?r11, .inl (by decide), trivial⟩ ?post
   case mono =>
    intro i lo hi v w w' h hb
    match i, h with
    | 0, h | 1, h | 2, h | 3, h | 4, h | 5, h | 6, h => exact h
    | 7, h => exact ⟨_, h.choose_spec.1, h.choose_spec.2.1, h.choose_spec.2.2.ext hb⟩
    | 8, h | 9, h => exact h
    | 10, h => exact ⟨_, h.choose_spec.1, h.choose_spec.2.1, h.choose_spec.2.2.ext hb⟩
    | 11, h => exact by obtain ⟨g, e, hb2, h1⟩ := h; exact ⟨g, e, hb2.ext hb, h1⟩
    | 12, h => exact h
    | _ + 13, h => trivial
   case r0 =>
    refine DG fun b__ w hW hold hpre => wU rfl fun K hK => ?_
    have e7 : b__.eval (.tmp 7) = .pointer (some ⟨g7, 0, none⟩) := (hold 7 (by kernel_rfl)).trans rfl
    exact CD rfl e7 (by kernel_rfl) (hK _ _ rfl (Below.refl _ _))
   case r1 =>
    refine DG fun b__ w hW hold hpre => wU rfl fun K hK => ?_
    have e24 : b__.eval (.tmp 24) = .pointer (some ⟨g7, 0, none⟩) := by obtain ⟨_, _, h⟩ := hpre ⟨0, _⟩ (Array.mem_of_getElem? (i := 0) rfl) rfl _ _ rfl rfl; exact h
    exact At rfl e24 (by kernel_rfl) (((hS.ext (BU hW)).box 0 rfl).cell 0) (hK _ _ rfl (Below.refl _ _))
   case r2 =>
    refine DG fun b__ w hW hold hpre => wU rfl fun K hK => ?_
    have e7 : b__.eval (.tmp 7) = .pointer (some ⟨g7, 0, none⟩) := (hold 7 (by kernel_rfl)).trans rfl
    exact CD rfl e7 (by kernel_rfl) (hK _ _ rfl (Below.refl _ _))
   case r3 =>
    refine DG fun b__ w hW hold hpre => wU rfl fun K hK => ?_
    have e26 : b__.eval (.tmp 26) = .pointer (some ⟨g7, 1, none⟩) := by obtain ⟨_, _, h⟩ := hpre ⟨2, _⟩ (Array.mem_of_getElem? (i := 0) rfl) rfl _ _ rfl rfl; exact h
    exact At rfl e26 (by kernel_rfl) (((hS.ext (BU hW)).box 0 rfl).cell 1) (hK _ _ rfl (Below.refl _ _))
   case r4 =>
    refine DG fun b__ w hW hold hpre => wU rfl fun K hK => ?_
    have e7 : b__.eval (.tmp 7) = .pointer (some ⟨g7, 0, none⟩) := (hold 7 (by kernel_rfl)).trans rfl
    exact CD rfl e7 (by kernel_rfl) (hK _ _ rfl (Below.refl _ _))
   case r5 =>
    refine DG fun b__ w hW hold hpre => wU rfl fun K hK => ?_
    have e28 : b__.eval (.tmp 28) = .pointer (some ⟨g7, 2, none⟩) := by obtain ⟨_, _, h⟩ := hpre ⟨4, _⟩ (Array.mem_of_getElem? (i := 0) rfl) rfl _ _ rfl rfl; exact h
    exact E0 rfl e28 ((hS.ext (BU hW)).box 0 rfl) rfl Tryz.underlying27 (by kernel_rfl) (by kernel_rfl) (hK _ _ rfl (Below.refl _ _))
   case r6 =>
    refine DG fun b__ w hW hold hpre => wU rfl fun K hK => ?_
    have e6 : b__.eval (.tmp 6) = .pointer (some ⟨g6, 0, none⟩) := (hold 6 (by kernel_rfl)).trans rfl
    exact AK rfl e6 ((hS.ext (BU hW)).box 1 rfl) Tryz.underlying27 rfl (by kernel_rfl) (hK _ _ rfl (Below.refl _ _))
   case r7 =>
    refine DG fun b__ w hW hold hpre => wU rfl fun K hK => ?_
    have e29 : b__.eval (.tmp 29) = .agg #[.slice C7 m7 d7] := by obtain ⟨_, _, h⟩ := hpre ⟨5, _⟩ (Array.mem_of_getElem? (i := 0) rfl) rfl _ _ rfl rfl; exact h
    have e30 : b__.eval (.tmp 30) = .agg #[.slice A6 n6 c6] := by obtain ⟨_, _, h⟩ := hpre ⟨6, _⟩ (Array.mem_of_getElem? (i := 1) rfl) rfl _ _ rfl rfl; exact h
    refine AB rfl (by kernel_rfl) (by simp only [List.map_cons, List.map_nil, e29, e30]) (and_any (ks7 _ _ (hS.ext (BU hW)).ro) (k6 _ _ (hS.ext (BU hW)).ro)) fun v w' h hb => ?_
    obtain ⟨u, rfl, h1⟩ := Ch h
    exact hK _ w' ⟨u, rfl, h1, h.imp fun z hz _ => Nat.le_trans (BU hW).size hz⟩ hb
   case r8 =>
    refine DG fun b__ w hW hold hpre => wU rfl fun K hK => ?_
    have e7 : b__.eval (.tmp 7) = .pointer (some ⟨g7, 0, none⟩) := (hold 7 (by kernel_rfl)).trans rfl
    exact CD rfl e7 (by kernel_rfl) (hK _ _ rfl (Below.refl _ _))
   case r9 =>
    refine DG fun b__ w hW hold hpre => wU rfl fun K hK => ?_
    have e32 : b__.eval (.tmp 32) = .pointer (some ⟨g7, 5, none⟩) := by obtain ⟨_, _, h⟩ := hpre ⟨8, _⟩ (Array.mem_of_getElem? (i := 0) rfl) rfl _ _ rfl rfl; exact h
    exact At rfl e32 (by kernel_rfl) (((hS.ext (BU hW)).box 0 rfl).cell 5) (hK _ _ rfl (Below.refl _ _))
   case r10 =>
    refine DG fun b__ w hW hold hpre => wU rfl fun K hK => ?_
    have e25 : b__.eval (.tmp 25) = .int .i64 R := by obtain ⟨_, _, h⟩ := hpre ⟨1, _⟩ (Array.mem_of_getElem? (i := 0) rfl) rfl _ _ rfl rfl; exact h
    have e27 : b__.eval (.tmp 27) = .pointer (some ⟨q7, 0, none⟩) := by obtain ⟨_, _, h⟩ := hpre ⟨3, _⟩ (Array.mem_of_getElem? (i := 1) rfl) rfl _ _ rfl rfl; exact h
    obtain ⟨lo31, hi31, e31⟩ : ∃ lo hi : Nat, (fun (v : Value) (w : World) => ∃ u, v = .agg #[u] /\ u.oneCell' = true /\ A7 w (fun z => w_.heap.size <= z) (.agg #[u]) (st &&& SM)) (b__.eval (.tmp 31)) w := hpre ⟨7, _⟩ (Array.mem_of_getElem? (i := 2) rfl) rfl _ _ rfl rfl
    have e33 : b__.eval (.tmp 33) = .slice Ag7 gl.length cg7 := by obtain ⟨_, _, h⟩ := hpre ⟨9, _⟩ (Array.mem_of_getElem? (i := 3) rfl) rfl _ _ rfl rfl; exact h
    obtain ⟨u, hu, h1, h2⟩ := e31
    exact CW rfl (ps := [(0, .int .i64 R), (1, .pointer (some ⟨q7, 0, none⟩)), (2, .agg #[u]), (5, .slice Ag7 gl.length cg7)]) (cells := #[.int .i64 R, .pointer (some ⟨q7, 0, none⟩), u, .slice none 0 0, .slice none 0 0, .slice Ag7 gl.length cg7]) (by simp [e25, e27, hu, e33]) (by kernel_rfl) (hK _ _ ⟨u, rfl, h1, h2⟩ (Below.refl _ _))
   case r11 =>
    refine DG fun b__ w hW hold hpre => ⟨fun hwant K hK => opw_alloc rfl (by kernel_rfl) fun w' hb hbel => hK _ _ ⟨_, rfl, hb, Nat.le_refl _, hb.lt⟩ hbel, fun hwant => ?_⟩
    exact wo hwant
   case post =>
    intro b__ wz lo hi hW hdf hsz hold hT hap hlim
    have e8 : (fun (v : Value) (w : World) => ∃ g, v = .pointer (some ⟨g, 0, none⟩) /\ Co w g 31 (zeroCells Tryz.prog 31) /\ (lo 11) <= g /\ g < (hi 11)) (b__.eval (.tmp 8)) wz := hT 11 _ 8 (by decide) rfl rfl
    have e34 : (fun (v : Value) (w : World) => ∃ u, v = .agg #[.int .i64 R, .pointer (some ⟨q7, 0, none⟩), u, .slice none 0 0, .slice none 0 0, .slice Ag7 gl.length cg7] /\ u.oneCell' = true /\ A7 w (fun z => w_.heap.size <= z) (.agg #[u]) (st &&& SM)) (b__.eval (.tmp 34)) wz := hT 10 _ 34 (by decide) rfl rfl
    have e31 : (fun (v : Value) (w : World) => ∃ u, v = .agg #[u] /\ u.oneCell' = true /\ A7 w (fun z => w_.heap.size <= z) (.agg #[u]) (st &&& SM)) (b__.eval (.tmp 31)) wz := hT 7 _ 31 (by decide) rfl rfl
    obtain ⟨vs, hvs, hb⟩ := EK hdf hsz hold
    replace e8 := (hvs 8) ▸ e8
    replace e34 := (hvs 34) ▸ e34
    have e24 : vs 24 = .pointer (some ⟨g7, 0, none⟩) := (hvs 24).symm.trans (hT 0 _ 24 (by decide) rfl rfl)
    have e25 : vs 25 = .int .i64 R := (hvs 25).symm.trans (hT 1 _ 25 (by decide) rfl rfl)
    have e26 : vs 26 = .pointer (some ⟨g7, 1, none⟩) := (hvs 26).symm.trans (hT 2 _ 26 (by decide) rfl rfl)
    have e27 : vs 27 = .pointer (some ⟨q7, 0, none⟩) := (hvs 27).symm.trans (hT 3 _ 27 (by decide) rfl rfl)
    have e28 : vs 28 = .pointer (some ⟨g7, 2, none⟩) := (hvs 28).symm.trans (hT 4 _ 28 (by decide) rfl rfl)
    have e29 : vs 29 = .agg #[.slice C7 m7 d7] := (hvs 29).symm.trans (hT 5 _ 29 (by decide) rfl rfl)
    have e30 : vs 30 = .agg #[.slice A6 n6 c6] := (hvs 30).symm.trans (hT 6 _ 30 (by decide) rfl rfl)
    replace e31 := (hvs 31) ▸ e31
    have e32 : vs 32 = .pointer (some ⟨g7, 5, none⟩) := (hvs 32).symm.trans (hT 8 _ 32 (by decide) rfl rfl)
    have e33 : vs 33 = .slice Ag7 gl.length cg7 := (hvs 33).symm.trans (hT 9 _ 33 (by decide) rfl rfl)
    subst hb
    clear hvs hold hT hdf hsz
    simp only [AF, Act.put, zz, ze]
    obtain ⟨g8, e8, hb8, l8, u8⟩ := e8
    obtain ⟨u, e34, hu1, hu2⟩ := e34
    obtain ⟨Au, cu, lu, hvu, -⟩ := hu2.parts
    obtain rfl : u = .slice Au lu.length cu := by injection hvu with hvu; simpa using hvu
    clear hvu
    obtain ⟨nu, hnu⟩ : ∃ n, n = lu.length := ⟨_, rfl⟩
    rw [<- hnu] at hu2 e34
    clear hnu
    have L11 := (hlim 11 (by decide) (by decide)).1
    have hz : zeroCells Tryz.prog 31 = #[.int .i64 0, .pointer none, .slice none 0 0, .slice none 0 0, .slice none 0 0, .slice none 0 0] := by kernel_rfl
    rw [hz] at hb8
    have hu3 := hu2.off hb8 (by
     intro i x hx n
     match i, hx with
     | 0, hx => cases hx; exact nofun
     | 1, hx => cases hx; exact nofun
     | 2, hx => cases hx; exact nofun
     | 3, hx => cases hx; exact nofun
     | 4, hx => cases hx; exact nofun
     | 5, hx => cases hx; exact nofun
     | i + 6, hx => simp at hx)
    have hfr : ∀ b, (w_.heap.size <= b /\ b ≠ g8) -> D6 (.box g8 31 #[.int .i64 0, .pointer none, .slice none 0 0, .slice none 0 0, .slice none 0 0, .slice none 0 0] :: (.box g7 31 #[.int .i64 R, .pointer (some ⟨q7, 0, none⟩), .slice C7 m7 d7, .slice Ar7 rl.length cr7, .slice An7 nl.length cn7, .slice Ag7 gl.length cg7] :: .box g6 27 #[.slice A6 n6 c6] :: .box g2 31 #[.int .i64 0, .pointer none, .slice none 0 0, .slice none 0 0, .slice none 0 0, .slice none 0 0] :: .box g1 31 #[.int .i64 R, .pointer (some ⟨q, 0, none⟩), .slice Cs ns cs, .slice Ar rl.length cr, .slice An nl.length cn, .slice Ag gl.length cg] :: F)) b := fun b hb f hf => by
     rcases List.mem_cons.1 hf with rfl | hf
     ·exact fun e => hb.2 (by injection e with e; exact e.symm)
     ·exact hS.fresh hb.1 f hf
    have hS2 := (hS.new hW (.box g8 31 #[.int .i64 0, .pointer none, .slice none 0 0, .slice none 0 0, .slice none 0 0, .slice none 0 0]) ⟨by omega, hb8⟩).add A5 hu3 fun b hb _ => hfr b hb
    clear hS hu2 hu3 hfr hW hlim hap hz
    have hS := hS2
    clear hS2
    simp only [show vs (8 : Nat) = _ from e8, show vs (34 : Nat) = _ from e34]
    (intro o_ ho_; simp only [List.getElem?_toArray, List.getElem?_cons_succ, List.getElem?_cons_zero, Option.some.injEq] at ho_; subst ho_)
    refine BO rfl rfl rfl (hS.box 0 rfl) (by kernel_rfl) (by kernel_rfl) (by simp [Value.oneCell']) fun w4 h4 hU4 => ?_
    replace hS := hS.upd 0 rfl (.box g8 31 #[.int .i64 R, .pointer (some ⟨q7, 0, none⟩), .slice Au nu cu, .slice none 0 0, .slice none 0 0, .slice Ag7 gl.length cg7]) (Bj hU4) ⟨(hS.holds (.box g8 31 #[.int .i64 0, .pointer none, .slice none 0 0, .slice none 0 0, .slice none 0 0, .slice none 0 0]) (by simp)).1, h4⟩ fun _ e => .inl e
    simp only [BV]
    simp only [Act.put, List.setIfInBounds_toArray, List.set_cons_zero, List.set_cons_succ]
    clear h4 hU4 hb8 e8 e34 l8 u8 L11
    go_wp2_with (first | ((with_reducible refine qK ?_); refine qC hS ?_))
    obtain ⟨KA, ka, kr7, kn7, hS2⟩ : ∃ KA : (Nat -> Prop) -> World -> Prop, Hid (∀ D w, KA D w -> K7 D w /\ A7 w D (.agg #[.slice Au nu cu]) (st &&& SM)) /\ (∀ D w, KA D w -> Bq w D (.slice Ar7 rl.length cr7) rl) /\ (∀ D w, KA D w -> AA w D (.slice An7 nl.length cn7) nl) /\ St w0 w4 (.box g8 31 #[.int .i64 R, .pointer (some ⟨q7, 0, none⟩), .slice Au nu cu, .slice none 0 0, .slice none 0 0, .slice Ag7 gl.length cg7] :: (.box g7 31 #[.int .i64 R, .pointer (some ⟨q7, 0, none⟩), .slice C7 m7 d7, .slice Ar7 rl.length cr7, .slice An7 nl.length cn7, .slice Ag7 gl.length cg7] :: .box g6 27 #[.slice A6 n6 c6] :: .box g2 31 #[.int .i64 0, .pointer none, .slice none 0 0, .slice none 0 0, .slice none 0 0, .slice none 0 0] :: .box g1 31 #[.int .i64 R, .pointer (some ⟨q, 0, none⟩), .slice Cs ns cs, .slice Ar rl.length cr, .slice An nl.length cn, .slice Ag gl.length cg] :: F)) KA := ⟨_, Lib.hid fun D w h => ⟨h.1, h.2.imp fun _ h _ => h⟩, fun D w h => (kq _ _ h.1).parts.2.2.1, fun D w h => (kq _ _ h.1).parts.2.2.2.1, hS⟩
    clear hS
    have hS := (hS2.nil 58 5).nil 3 1
    clear hS2
    have KSA := Lib.hid hS.stable
    go_loopw [9, 38] (fun kw i wr => ∃ (j : Nat) (kv rv : Value) (xs : List Value), i = .int .i64 (j : Nat) /\ kv = kw /\ j <= rl.length /\ St w0 wr (.own kv 3 1 (DK SM rl j).length (AH (DK SM rl j)) :: .own rv 58 5 (Dn SM (rl.take j)).length xs :: .box g8 31 #[.int .i64 R, .pointer (some ⟨q7, 0, none⟩), .slice Au nu cu, rv, .slice none 0 0, .slice Ag7 gl.length cg7] :: (.box g7 31 #[.int .i64 R, .pointer (some ⟨q7, 0, none⟩), .slice C7 m7 d7, .slice Ar7 rl.length cr7, .slice An7 nl.length cn7, .slice Ag7 gl.length cg7] :: .box g6 27 #[.slice A6 n6 c6] :: .box g2 31 #[.int .i64 0, .pointer none, .slice none 0 0, .slice none 0 0, .slice none 0 0, .slice none 0 0] :: .box g1 31 #[.int .i64 R, .pointer (some ⟨q, 0, none⟩), .slice Cs ns cs, .slice Ar rl.length cr, .slice An nl.length cn, .slice Ag gl.length cg] :: F)) (fun D w => KA D w /\ AQ w D xs (Dn SM (rl.take j)))) (fun _ i _ => rl.length - (intOf i).toNat)
    case atStart => exact ⟨0, _, _, [], rfl, rfl, by omega, hS.mono (KSA.out.and Cf) fun D w h => ⟨h, fun i z hi => by simp [Dn] at hi⟩⟩
    case round =>
     clear hS
     obtain ⟨j, kv, rv, xs, rfl, rfl, hj, hS⟩ := hrel
     by_cases hlj : j < rl.length
     ·obtain ⟨b, o2, y, n, rfl, _, hb, c0, c1, c2, c3, c4, hy, hn⟩ := (kr7 _ _ hS.ro.1).at_ hlj
      obtain ⟨Ay, my, cy, rfl⟩ := hy.shape
      obtain ⟨Am, mn, cm, rfl⟩ := hn.shape
      have HGj := Lib.hid (B9 AC hlj)
      have HLK : Hid ((Dn SM (rl.take j)).length <= 100000 /\ (DK SM rl j).length <= 100000) := Lib.hid ⟨Nat.le_trans (List.length_filter_le _ _) (by rw [List.length_take]; omega), by unfold DK; rw [List.length_map]; exact Nat.le_trans (List.length_filter_le _ _) (by rw [List.length_range]; omega)⟩
      obtain ⟨KC, kc, hS2⟩ : ∃ KC : (Nat -> Prop) -> World -> Prop, Hid (∀ D w, KC D w -> (KA D w /\ AQ w D xs (Dn SM (rl.take j))) /\ A7 w D (.agg #[.slice Ay my cy]) (rl.getD j AC).yes /\ A7 w D (.agg #[.slice Am mn cm]) (rl.getD j AC).no) /\ St w0 wr (.own kv 3 1 (DK SM rl j).length (AH (DK SM rl j)) :: .own rv 58 5 (Dn SM (rl.take j)).length xs :: .box g8 31 #[.int .i64 R, .pointer (some ⟨q7, 0, none⟩), .slice Au nu cu, rv, .slice none 0 0, .slice Ag7 gl.length cg7] :: (.box g7 31 #[.int .i64 R, .pointer (some ⟨q7, 0, none⟩), .slice C7 m7 d7, .slice (some ⟨b, o2, none⟩) rl.length cr7, .slice An7 nl.length cn7, .slice Ag7 gl.length cg7] :: .box g6 27 #[.slice A6 n6 c6] :: .box g2 31 #[.int .i64 0, .pointer none, .slice none 0 0, .slice none 0 0, .slice none 0 0, .slice none 0 0] :: .box g1 31 #[.int .i64 R, .pointer (some ⟨q, 0, none⟩), .slice Cs ns cs, .slice Ar rl.length cr, .slice An nl.length cn, .slice Ag gl.length cg] :: F)) KC := ⟨_, Lib.hid fun D w h => h, hS.add (D := D6 _) (A5.and A5) ⟨hy, hn⟩ fun _ h _ => h⟩
      clear hS hy hn
      have hS := hS2
      clear hS2
      have HTR := Lib.hid (keepR_step (S := SM) HGj.out)
      have HTN := Lib.hid (keepN_step (S := SM) HGj.out)
      generalize rl.getD j AC = z at *
      obtain ⟨zv, ry, rn, rt, ro⟩ := z
      dsimp only at kc c0 c1 c2 c3 c4
      obtain ⟨b1, hb1⟩ : ∃ b, b = Bk SM rt := ⟨_, rfl⟩
      have HB1 := Lib.hid hb1
      generalize hKR : Dn SM (rl.take j) = KR at *
      generalize hKN : DK SM rl j = KN at *
      have k61 : Hid (∀ D w, KC D w -> A7 w D (.agg #[.slice A6 n6 c6]) SM) := Lib.hid fun D w h => k6 _ _ (ka.out _ _ (kc.out _ _ h).1.1).1
      cases b1
      ·have HT1 : Hid (Dn SM (rl.take (j + 1)) = KR) := Lib.hid (HTR.out.trans (if_neg (by rw [<- hb1]; exact Bool.false_ne_true)))
       have HT2 : Hid (DK SM rl (j + 1) = KN) := Lib.hid (HTN.out.trans (if_neg (by rw [<- hb1]; exact Bool.false_ne_true)))
       clear hb1 hKR hKN HTR HTN
       go_wp2_with (first
        | ((with_reducible refine qB ?_); refine qc ?_ ?_ <;> intro h_ <;> go_prune)
        | ((with_reducible refine qA 42 ?_); refine BigFrame.wpList_want rfl fun _ hK => AY (cs := [.bool zv, .slice Ay my cy, .slice Am mn cm, .int .i64 rt, .int .i64 ro]) rfl rfl (G7 c0 c1 c2 c3 c4) Tryz.underlying58 rfl (by kernel_rfl) (hK _ _ ?_))
        | ((with_reducible refine qA 11 ?_); refine qa hS #[.bool false, .slice none 0 0, .slice none 0 0, .int .i64 0, .int .i64 0] ?_; clear hS; intro g11 w_ hS)
        | ((with_reducible refine qM ?_); (first | refine qS hS ?_ | refine qT hS ?_); clear hS; intro w_ hS; (try simp only [Act.put, Act.eval, zz, Value.cells] at hS))
        | ((with_reducible refine qk 27 ?_); first | (refine A9 hS 0 rfl _ _ rfl _ _ rfl _ _ rfl _ (by first | rfl | assumption) Tryz.underlying27 rfl (by kernel_rfl) ?_) | (refine A9 hS 1 rfl _ _ rfl _ _ rfl _ _ rfl _ (by first | rfl | assumption) Tryz.underlying27 rfl (by kernel_rfl) ?_) | (refine A9 hS 2 rfl _ _ rfl _ _ rfl _ _ rfl _ (by first | rfl | assumption) Tryz.underlying27 rfl (by kernel_rfl) ?_) | (refine A9 hS 3 rfl _ _ rfl _ _ rfl _ _ rfl _ (by first | rfl | assumption) Tryz.underlying27 rfl (by kernel_rfl) ?_) | (refine A9 hS 4 rfl _ _ rfl _ _ rfl _ _ rfl _ (by first | rfl | assumption) Tryz.underlying27 rfl (by kernel_rfl) ?_) | (refine A9 hS 5 rfl _ _ rfl _ _ rfl _ _ rfl _ (by first | rfl | assumption) Tryz.underlying27 rfl (by kernel_rfl) ?_))
        | ((with_reducible refine qK ?_); refine qC hS ?_)
        | (go_at_call 47; refine (Cv _ SM rt _ _ (k61.out _ _ hS.ro)).mono ?_; rw [<- HB1.out]; rintro r_ w_ ⟨_, rfl, rfl, hb_⟩; replace hS := hS.ext hb_; clear hb_)
        )
       refine ⟨⟨j + 1, _, rv, xs, by go_num, rfl, hlj, ?_⟩, by simp [intOf]; omega⟩
       rw [HT1.out, HT2.out]
       exact (hS.sub (List.sublist_cons_self _ _)).mono (KSA.out.and Cf) fun D w h => (kc.out _ _ h).1
      ·have HT1 : Hid (Dn SM (rl.take (j + 1)) = KR ++ [⟨zv, ry, rn, rt, ro⟩]) := Lib.hid (HTR.out.trans (if_pos hb1.symm))
       have HT2 : Hid (DK SM rl (j + 1) = KN ++ [(j : Int)]) := Lib.hid (HTN.out.trans (if_pos hb1.symm))
       clear hb1 hKR hKN HTR HTN
       have hkl1 := HLK.out.1
       have hkl2 := HLK.out.2
       obtain ⟨Arv, crv, rfl, _, _⟩ := Bg (hS.own 1 rfl)
       go_wp2_with (first
        | ((with_reducible refine qB ?_); refine qc ?_ ?_ <;> intro h_ <;> go_prune)
        | ((with_reducible refine qA 42 ?_); refine BigFrame.wpList_want rfl fun _ hK => AY (cs := [.bool zv, .slice Ay my cy, .slice Am mn cm, .int .i64 rt, .int .i64 ro]) rfl rfl (G7 c0 c1 c2 c3 c4) Tryz.underlying58 rfl (by kernel_rfl) (hK _ _ ?_))
        | ((with_reducible refine qA 11 ?_); refine qa hS #[.bool false, .slice none 0 0, .slice none 0 0, .int .i64 0, .int .i64 0] ?_; clear hS; intro g11 w_ hS)
        | ((with_reducible refine qM ?_); (first | refine qS hS ?_ | refine qT hS ?_); clear hS; intro w_ hS; (try simp only [Act.put, Act.eval, zz, Value.cells] at hS))
        | ((with_reducible refine qk 27 ?_); first | (refine A9 hS 0 rfl _ _ rfl _ _ rfl _ _ rfl _ (by first | rfl | assumption) Tryz.underlying27 rfl (by kernel_rfl) ?_) | (refine A9 hS 1 rfl _ _ rfl _ _ rfl _ _ rfl _ (by first | rfl | assumption) Tryz.underlying27 rfl (by kernel_rfl) ?_) | (refine A9 hS 2 rfl _ _ rfl _ _ rfl _ _ rfl _ (by first | rfl | assumption) Tryz.underlying27 rfl (by kernel_rfl) ?_) | (refine A9 hS 3 rfl _ _ rfl _ _ rfl _ _ rfl _ (by first | rfl | assumption) Tryz.underlying27 rfl (by kernel_rfl) ?_) | (refine A9 hS 4 rfl _ _ rfl _ _ rfl _ _ rfl _ (by first | rfl | assumption) Tryz.underlying27 rfl (by kernel_rfl) ?_) | (refine A9 hS 5 rfl _ _ rfl _ _ rfl _ _ rfl _ (by first | rfl | assumption) Tryz.underlying27 rfl (by kernel_rfl) ?_))
        | ((with_reducible refine qK ?_); refine qC hS ?_)
        | (go_at_call 47; refine (Cv _ SM rt _ _ (k61.out _ _ hS.ro)).mono ?_; rw [<- HB1.out]; rintro r_ w_ ⟨_, rfl, rfl, hb_⟩; replace hS := hS.ext hb_; clear hb_)
        | ((with_reducible refine qK ?_); refine qL hS Tryz.underlying58 ?_)
        | ((with_reducible refine qA 50 ?_); refine CT hS 2 rfl rfl _ _ _ _ rfl rfl J6 (.slice Arv KR.length crv) KR.length xs (.agg #[.bool zv, .slice Ay my cy, .slice Am mn cm, .int .i64 rt, .int .i64 ro]) #[.bool zv, .slice Ay my cy, .slice Am mn cm, .int .i64 rt, .int .i64 ro] rfl (by kernel_rfl) rfl rfl rfl rfl (by intro u hu; simp at hu; rcases hu with rfl | rfl | rfl | rfl | rfl <;> rfl) (by omega) (by omega) ?_; clear hS; intro z_ v' w_ hS; (try simp only [Act.put, Act.eval, zz, Value.cells] at hS); obtain ⟨Arv2, crv2, rfl, _, _⟩ := Bg (hS.own 2 rfl))
        | ((with_reducible refine qA 54 ?_); refine CT hS 1 rfl rfl _ _ _ _ rfl rfl DM kv KN.length (AH KN) (.int .i64 (j : Nat)) #[.int .i64 (j : Nat)] rfl (by kernel_rfl) rfl rfl rfl rfl (by intro u hu; simp at hu; subst hu; rfl) (by omega) (by omega) ?_; clear hS; intro z_ kv' w_ hS; (try simp only [Act.put, Act.eval, zz, Value.cells] at hS)))
       have hxl := (hS.own 2 rfl).1
       refine ⟨⟨j + 1, _, .slice Arv2 (KR.length + 1) crv2, xs ++ [.bool zv, .slice Ay my cy, .slice Am mn cm, .int .i64 rt, .int .i64 ro], by go_num, rfl, hlj, ?_⟩, by simp [intOf]; omega⟩
       rw [HT1.out, HT2.out, show (KR ++ [(⟨zv, ry, rn, rt, ro⟩ : AM)]).length = KR.length + 1 by simp, show (KN ++ [(j : Int)]).length = KN.length + 1 by simp, show AH (KN ++ [(j : Int)]) = AH KN ++ [.int .i64 (j : Nat)] by simp [AH]]
       exact (hS.sub (List.sublist_cons_self _ _)).mono (KSA.out.and Cf) fun D w h => ⟨(kc.out _ _ h).1.1, AQ.append (by simp at hxl; omega) (kc.out _ _ h).1.2 (AQ.single (z := ⟨zv, ry, rn, rt, ro⟩) (kc.out _ _ h).2.1 (kc.out _ _ h).2.2)⟩
     ·obtain rfl : rl.length = j := by omega
      rw [List.take_length] at hS
      have HLK : Hid ((Dn SM rl).length <= 100000) := Lib.hid (Nat.le_trans (List.length_filter_le _ _) (by omega))
      go_wp2_with (first | ((with_reducible refine qB ?_); refine qc ?_ ?_ <;> intro h_ <;> go_prune) | ((with_reducible refine qK ?_); refine qC hS ?_))
      obtain ⟨KR, hKR⟩ : ∃ KR, KR = Dn SM rl := ⟨_, rfl⟩
      obtain ⟨KN, hKN⟩ : ∃ KN, KN = DK SM rl rl.length := ⟨_, rfl⟩
      have HKR := Lib.hid hKR
      have HKN := Lib.hid hKN
      rw [<- hKR] at hS HLK
      rw [<- hKN] at hS
      clear hKR hKN
      obtain ⟨Arv, crv, rfl, _, _⟩ := Bg (hS.own 1 rfl)
      obtain ⟨KB, kb, hS2⟩ : ∃ KB : (Nat -> Prop) -> World -> Prop, Hid (∀ D w, KB D w -> KA D w /\ AQ w D xs KR) /\ St w0 wr (.own kv 3 1 KN.length (AH KN) :: .own (.slice Arv KR.length crv) 58 5 KR.length xs :: .box g8 31 #[.int .i64 R, .pointer (some ⟨q7, 0, none⟩), .slice Au nu cu, .slice Arv KR.length crv, .slice none 0 0, .slice Ag7 gl.length cg7] :: (.box g7 31 #[.int .i64 R, .pointer (some ⟨q7, 0, none⟩), .slice C7 m7 d7, .slice Ar7 rl.length cr7, .slice An7 nl.length cn7, .slice Ag7 gl.length cg7] :: .box g6 27 #[.slice A6 n6 c6] :: .box g2 31 #[.int .i64 0, .pointer none, .slice none 0 0, .slice none 0 0, .slice none 0 0, .slice none 0 0] :: .box g1 31 #[.int .i64 R, .pointer (some ⟨q, 0, none⟩), .slice Cs ns cs, .slice Ar rl.length cr, .slice An nl.length cn, .slice Ag gl.length cg] :: F)) KB := ⟨_, Lib.hid fun _ _ h => h, hS⟩
      clear hS
      have hS := hS2.nil 54 2
      clear hS2
      have KSB := Lib.hid hS.stable
      go_loopw [61] (fun i wr => ∃ (j : Nat) (nv : Value) (ys : List Value), i = .int .i64 (j : Nat) /\ j <= nl.length /\ St w0 wr (.own nv 54 2 (keepC L SM (nl.take j)).length ys :: .own kv 3 1 KN.length (AH KN) :: .own (.slice Arv KR.length crv) 58 5 KR.length xs :: .box g8 31 #[.int .i64 R, .pointer (some ⟨q7, 0, none⟩), .slice Au nu cu, .slice Arv KR.length crv, nv, .slice Ag7 gl.length cg7] :: (.box g7 31 #[.int .i64 R, .pointer (some ⟨q7, 0, none⟩), .slice C7 m7 d7, .slice Ar7 rl.length cr7, .slice An7 nl.length cn7, .slice Ag7 gl.length cg7] :: .box g6 27 #[.slice A6 n6 c6] :: .box g2 31 #[.int .i64 0, .pointer none, .slice none 0 0, .slice none 0 0, .slice none 0 0, .slice none 0 0] :: .box g1 31 #[.int .i64 R, .pointer (some ⟨q, 0, none⟩), .slice Cs ns cs, .slice Ar rl.length cr, .slice An nl.length cn, .slice Ag gl.length cg] :: F)) (fun D w => KB D w /\ Ak w D ys (keepC L SM (nl.take j)))) (fun i _ => nl.length - (intOf i).toNat)
      case atStart => exact ⟨0, _, [], rfl, by omega, hS.mono (KSB.out.and CR) fun D w h => ⟨h, fun i y n hi => by simp [keepC] at hi⟩⟩
      case round =>
       clear hS
       obtain ⟨j, nv, ys, rfl, hj, hS⟩ := hrel
       by_cases hlj : j < nl.length
       ·obtain ⟨b, o2, y, n, rfl, _, hb, c0, c1, hy, hn⟩ := (kn7 _ _ (kb.out _ _ hS.ro.1).1).at_ hlj
        obtain ⟨Ay, my, cy, rfl⟩ := hy.shape
        obtain ⟨Am, mn, cm, rfl⟩ := hn.shape
        have HGj := Lib.hid (B9 (0, 0) hlj)
        have HLC : Hid ((keepC L SM (nl.take j)).length <= 100000) := Lib.hid (Nat.le_trans (List.length_filter_le _ _) (by rw [List.length_take]; omega))
        obtain ⟨KC, kc, hS2⟩ : ∃ KC : (Nat -> Prop) -> World -> Prop, Hid (∀ D w, KC D w -> (KB D w /\ Ak w D ys (keepC L SM (nl.take j))) /\ AV w D (.agg #[.slice Ay my cy, .slice Am mn cm]) (nl.getD j (0, 0))) /\ St w0 wr (.own nv 54 2 (keepC L SM (nl.take j)).length ys :: .own kv 3 1 KN.length (AH KN) :: .own (.slice Arv KR.length crv) 58 5 KR.length xs :: .box g8 31 #[.int .i64 R, .pointer (some ⟨q7, 0, none⟩), .slice Au nu cu, .slice Arv KR.length crv, nv, .slice Ag7 gl.length cg7] :: (.box g7 31 #[.int .i64 R, .pointer (some ⟨q7, 0, none⟩), .slice C7 m7 d7, .slice Ar7 rl.length cr7, .slice (some ⟨b, o2, none⟩) nl.length cn7, .slice Ag7 gl.length cg7] :: .box g6 27 #[.slice A6 n6 c6] :: .box g2 31 #[.int .i64 0, .pointer none, .slice none 0 0, .slice none 0 0, .slice none 0 0, .slice none 0 0] :: .box g1 31 #[.int .i64 R, .pointer (some ⟨q, 0, none⟩), .slice Cs ns cs, .slice Ar rl.length cr, .slice An nl.length cn, .slice Ag gl.length cg] :: F)) KC := ⟨_, Lib.hid fun D w h => h, hS.add (D := D6 _) Bw ⟨_, _, rfl, hy, hn⟩ fun _ h _ => h⟩
        clear hS hy hn
        have hS := hS2
        clear hS2
        have HTC := Lib.hid (keepC_step (L := L) (S := SM) HGj.out)
        generalize nl.getD j (0, 0) = z at *
        obtain ⟨b1, hb1⟩ : ∃ b, b = (depC L z &&& SM != 0) := ⟨_, rfl⟩
        have HB1 := Lib.hid hb1
        have HDZ : Hid (depM L (z.1 ||| z.2) = depC L z) := Lib.hid rfl
        generalize hKC : keepC L SM (nl.take j) = KCL at *
        have k62 : Hid (∀ D w, KC D w -> K7 D w) := Lib.hid fun D w h => (ka.out _ _ (kb.out _ _ (kc.out _ _ h).1.1).1).1
        go_wp2_with (first
         | ((with_reducible refine qB ?_); refine qc ?_ ?_ <;> intro h_ <;> go_prune)
         | ((with_reducible refine qA 64 ?_); refine BigFrame.wpList_want rfl fun _ hK => AY (cs := [.slice Ay my cy, .slice Am mn cm]) rfl rfl (Jr c0 c1) Tryz.underlying54 rfl (by kernel_rfl) (hK _ _ ?_))
         | ((with_reducible refine qA 13 ?_); refine qa hS #[.slice none 0 0, .slice none 0 0] ?_; clear hS; intro g13 w_ hS)
         | ((with_reducible refine qM ?_); (first | refine qS hS ?_ | refine qT hS ?_); clear hS; intro w_ hS; (try simp only [Act.put, Act.eval, zz, Value.cells] at hS)))
        refine CH [.i (.agg #[.int .i64 R, .pointer (some ⟨q, 0, none⟩), .slice Cs ns cs, .slice Ar rl.length cr, .slice An nl.length cn, .slice Ag gl.length cg]), .i (.agg #[.slice Ay my cy, .slice Am mn cm]), .s (fun v w => A7 w (fun _ => True) v (depC L z)) fun v w w' h hb => h.ext hb, .i (.agg #[.slice A6 n6 c6]), .i (.bool b1)] ⟨uR (h := fun w hW hN => (hS.ext hW).box 8 rfl), uR (h := fun w hW hN => (hS.ext hW).box 0 rfl), ?_, uR (h := fun w hW hN => (hS.ext hW).box 6 rfl), ?_, trivial⟩ ?_
        ·refine uT fun b__ w hW hE K hK => ?_
         have e65 := hE 65
         have e66 := hE 66
         refine AB rfl (by kernel_rfl) (by simp only [List.map_cons, List.map_nil, e65, e66]) (DF (kp _ _ (k0 _ _ (k62.out _ _ (hS.ext hW).ro))) rfl HH.out (kt _ _ (k0 _ _ (k62.out _ _ (hS.ext hW).ro))) (kc.out _ _ (hS.ext hW).ro).2) fun v w' h hb => ?_
         exact hK v w' (by rw [<- HDZ.out]; exact h.imp fun _ _ _ => trivial) hb
        ·refine uT fun b__ w hW hE K hK => ?_
         have e67 := hE 67
         have e68 := hE 68
         exact AB rfl (by kernel_rfl) (by simp only [List.map_cons, List.map_nil, e68]) (EH _ _ (depC L z) SM _ _ _ e67 (k6 _ _ (k62.out _ _ (hS.ext hW).ro))) fun v w' h hb => hK v w' (h.trans (by rw [HB1.out])) hb
        ·intro vs wz hW hT
         obtain ⟨e65, e66, e67, e68, e69, -⟩ := hT
         have bx : (fun _ : Nat => True) 0 := trivial
         simp only [AF, Act.put, zz, ze]
         rw [e69]
         replace hS := hS.ext hW
         clear hW e65 e66 e67 e68 e69
         cases b1
         ·have HT1 : Hid (keepC L SM (nl.take (j + 1)) = KCL) := Lib.hid (HTC.out.trans (if_neg (by rw [<- hb1]; exact Bool.false_ne_true)))
          clear hb1 hKC HTC
          go_wp2_with fail
          refine ⟨⟨j + 1, nv, ys, by go_num, hlj, ?_⟩, by simp [intOf]; omega⟩
          rw [HT1.out]
          exact (hS.sub (List.sublist_cons_self _ _)).mono (KSB.out.and CR) fun D w h => (kc.out _ _ h).1
         ·have HT1 : Hid (keepC L SM (nl.take (j + 1)) = KCL ++ [z]) := Lib.hid (HTC.out.trans (if_pos hb1.symm))
          clear hb1 hKC HTC
          have hcl := HLC.out
          obtain ⟨Anv, cnv, rfl, _, _⟩ := Bg (hS.own 1 rfl)
          go_wp2_with (first
           | ((with_reducible refine qA 71 ?_); refine st_cell hS 4 rfl _ _ rfl g8 4 rfl _ _ rfl (by decide +kernel) _ rfl ?_)
           | ((with_reducible refine qK ?_); refine qL hS Tryz.underlying54 ?_)
           | ((with_reducible refine qA 73 ?_); refine CT hS 1 rfl rfl _ _ _ _ rfl rfl DT (.slice Anv KCL.length cnv) KCL.length ys (.agg #[.slice Ay my cy, .slice Am mn cm]) #[.slice Ay my cy, .slice Am mn cm] rfl (by kernel_rfl) rfl rfl rfl rfl (by intro u hu; simp at hu; rcases hu with rfl | rfl <;> rfl) (by omega) (by omega) ?_; clear hS; intro z_ v' w_ hS; (try simp only [Act.put, Act.eval, zz, Value.cells] at hS); obtain ⟨Anv2, cnv2, rfl, _, _⟩ := Bg (hS.own 1 rfl))
           | ((with_reducible show wpList _ _ _ (⟨none, .store 29 _ _, _, _, _, _⟩ :: _) _ _); refine qT hS ?_; clear hS; intro w_ hS; (try simp only [Act.put, Act.eval, zz, Value.cells] at hS)))
          have hxl := (hS.own 1 rfl).1
          refine ⟨⟨j + 1, .slice Anv2 (KCL.length + 1) cnv2, ys ++ [.slice Ay my cy, .slice Am mn cm], by go_num, hlj, ?_⟩, by simp [intOf]; omega⟩
          rw [HT1.out, show (KCL ++ [z]).length = KCL.length + 1 by simp]
          exact (hS.sub (List.sublist_cons_self _ _)).mono (KSB.out.and CR) fun D w h => ⟨(kc.out _ _ h).1.1, by obtain ⟨_, _, he, hy, hn⟩ := (kc.out _ _ h).2; injection he with he; injection he with he; injection he with e1 he; injection he with e2 he; subst e1 e2; exact (kc.out _ _ h).1.2.push (by simp at hxl; omega) hy hn⟩
       ·obtain rfl : nl.length = j := by omega
        rw [List.take_length] at hS
        obtain ⟨Anv, cnv, rfl, _, _⟩ := Bg (hS.own 0 rfl)
        go_wp2_with (first
         | ((with_reducible refine qB ?_); refine qc ?_ ?_ <;> intro h_ <;> go_prune)
         | ((with_reducible refine qA 77 ?_); refine BigFrame.wpList_want rfl fun _ hK => AK rfl rfl (hS.box 3 rfl) Tryz.underlying31 rfl (by kernel_rfl) (hK _ _ ?_))
         | ((with_reducible show wpList _ _ _ (⟨none, .store 31 _ _, _, _, _, _⟩ :: _) _ _); refine qS hS ?_; clear hS; intro w_ hS; (try simp only [Act.put, Act.eval, zz, Value.cells] at hS)))
        have hS1 := ((hS.freeze 0 (by decide) rfl).freeze 0 (by decide) rfl).freeze 0 (by decide) rfl
        refine ret3_cell Tryz.results41 rfl (hS.box 6 rfl) Tryz.underlying31 rfl (by kernel_rfl) rfl rfl rfl ?_
        refine ⟨_, _, rfl, (hS1.sub (F' := F) (((((List.sublist_cons_self _ _).trans (List.sublist_cons_self _ _)).trans (List.sublist_cons_self _ _)).trans (List.sublist_cons_self _ _)).trans (List.sublist_cons_self _ _))).mono ((KS.out.and BX).and (Aq (by decide))) fun D w h => ?_⟩
        obtain ⟨⟨⟨⟨hB, hC⟩, hN⟩, hI⟩, hRl⟩ := h
        obtain ⟨hA, hRC⟩ := kb.out _ _ hB
        obtain ⟨h7, hSt⟩ := ka.out _ _ hA
        obtain ⟨p1, -, -, -, p5⟩ := (kq _ _ h7).parts
        rw [HOF.out, HON.out, <- HKN.out]
        refine ⟨⟨k0 _ _ h7, _, _, _, _, _, rfl, p1, hSt, ?_, ?_, p5⟩, hI⟩
        ·rw [<- HKR.out]; exact ⟨xs, hRl, hRC⟩
        ·exact ⟨ys, hN, hC⟩
 ·have HOF : Hid (ofP ⟨R, lk, st, rl, nl, gl⟩ = zeroP) := Lib.hid (by unfold ofP; rw [if_neg (fun h => h0 (HE.out.trans h))])
  have HON : Hid (ofKept ⟨R, lk, st, rl, nl, gl⟩ = []) := Lib.hid (by unfold ofKept; rw [if_neg (fun h => h0 (HE.out.trans h))])
  go_enter Tryz.func41, Tryz.ntmps41
  go_wp2_with (first
   | ((with_reducible refine qA 1 ?_); refine Az hS rfl _ _ rfl (.agg #[.int .i64 R, lp, .slice Cs ns cs, .slice Ar rl.length cr, .slice An nl.length cn, .slice Ag gl.length cg]) _ rfl rfl ?_; clear hS; intro g1 w_ hS; (try simp only [Act.put, Act.eval, zz, Value.cells] at hS))
   | ((with_reducible refine qA 2 ?_); refine qa hS #[.int .i64 0, .pointer none, .slice none 0 0, .slice none 0 0, .slice none 0 0, .slice none 0 0] ?_; clear hS; intro g2 w_ hS)
   | ((with_reducible refine qB ?_); refine qc ?_ ?_ <;> intro h_ <;> go_prune)
   | ((with_reducible refine qK ?_); refine qL hS Tryz.underlying31 ?_)
   | ((with_reducible show wpList _ _ _ (⟨_, .build _ _, _, _, _, _⟩ :: _) _ _); refine AL rfl _ _ rfl #[.int .i64 0, .pointer none, .slice none 0 0, .slice none 0 0, .slice none 0 0, .slice none 0 0] (by kernel_rfl) ?_)
   | ((with_reducible refine qM ?_); (first | refine qS hS ?_ | refine qT hS ?_); clear hS; intro w_ hS; (try simp only [Act.put, Act.eval, zz, Value.cells] at hS))
   | (go_at_call 31; refine (CA (kp _ _ hS.ro) HP.out (kt _ _ hS.ro)).mono ?_; rw [<- HE.out]; rintro r_ w_ ⟨_, rfl, rfl, hb_⟩; replace hS := hS.ext hb_; clear hb_))
  refine ret3_cell Tryz.results41 rfl (hS.box 0 rfl) Tryz.underlying31 rfl (by kernel_rfl) rfl rfl rfl ?_
  refine ⟨_, _, rfl, (hS.sub (F' := F) ((List.sublist_cons_self _ _).trans (List.sublist_cons_self _ _))).mono ((KS.out.and BX).and (Aq (by decide))) fun D w h => ?_⟩
  rw [HOF.out, HON.out]
  exact ⟨⟨h, _, _, _, _, _, rfl, rfl, A7.empty, ⟨[], Sl.none_, fun i z hi => by simp [zeroP] at hi⟩, ⟨[], Sl.none_, fun i y n hi => by simp [zeroP] at hi⟩, [], Sl.none_, fun i y n hi => by simp [zeroP] at hi⟩, Sl.none_⟩
end
section
open Go.RowKit
attribute [local go_sem ↓] Go.wp_at_zero Go.wp_at_succ
set_option maxRecDepth 20000
set_option exponentiation.threshold 5000
structure Fits (p : Ah) : Prop where
 start : p.start < Bc
 rules : ∀ z ∈ p.rules, z.yes < Bc /\ z.no < Bc
 rlen : p.rules.length <= 1000
 never : Small p.never
 nlen : p.never.length <= 1000
 goal : Small p.goal
 glen : p.goal.length <= 1000
theorem Cp {w : World} {D : Nat -> Prop} {v : Value} {l : List (Nat × Nat)} (h : AA w D v l) : ∃ A c, v = .slice A l.length c := by
 obtain ⟨xs, h1, -⟩ := h
 obtain ⟨A, c, e, _, _⟩ := h1.shape
 exact ⟨A, c, e⟩
theorem Jt {P : Program} {fn : Func} {p t2 : Tmp} {ty : TypeId} {R : Ending -> World -> Prop} {a : Act} {w : World} {g : Nat} {t : TypeId} {cs : Array Value} {d : TypeDesc} {v : Value} (h : fn.results = #[.cell p ty, .tmp t2]) (hp : a.eval (.tmp p) = .pointer (some ⟨g, 0, none⟩)) (hb : Co w g t cs)
  (hu : P.underlying ty = some d) (hd : (match d with | .struct _ | .array _ _ => true | _ => false) = true) (hi : (P.info? ty).map (·.size) = some cs.size) (hv : a.eval (.tmp t2) = v) (hdf : a.defers = []) (hR : R (.returned (.tuple #[.agg cs, v])) w) : bodyPost P fn R .ret a w := by
 have hr : (results fn a.tmps).run P w = .ok (.tuple #[.agg cs, v]) w := by
  have hp' : a.tmps[p]?.getD undef = .pointer (some ⟨g, 0, none⟩) := by simpa [Act.eval] using hp
  have hv' : a.tmps[t2]?.getD undef = v := by simpa [Act.eval] using hv
  simp [results, h, hp', hv', asAddr, run_loadVar_row w g t ty cs (0, 0) d hb hu hd hi]
 exact bodyPost_ret hr hdf hR
theorem cube_sets {w : World} {D : Nat -> Prop} {a b : Value} {z : Nat × Nat} (h : AV w D (.agg #[a, b]) z) : A7 w D (.agg #[a]) z.1 /\ A7 w D (.agg #[b]) z.2 := by
 obtain ⟨_, _, he, h1, h2⟩ := h
 injection he with he; injection he with he; injection he with e1 he; injection he with e2 _
 subst e1 e2
 exact ⟨h1, h2⟩
theorem Io {w : World} {D : Nat -> Prop} {l : List AM} {A : Option Addr} {c : Nat} (h : Sl w D 5 (.slice A l.length c) l.length (B6 l)) {k : Nat} (hk : k < l.length) :
  ∃ b o, A = some ⟨b, o, none⟩ /\ w.cell? ⟨b, o + k * 5, none⟩ = some (.bool (l.getD k AC).revoke) /\ w.cell? ⟨b, o + k * 5 + 1, none⟩ = some (.int .u64 ((l.getD k AC).yes : Nat)) /\ w.cell? ⟨b, o + k * 5 + 2, none⟩ = some (.int .u64 ((l.getD k AC).no : Nat)) /\ w.cell? ⟨b, o + k * 5 + 3, none⟩ = some (.int .i64 (l.getD k AC).target) /\ w.cell? ⟨b, o + k * 5 + 4, none⟩ = some (.int .i64 (l.getD k AC).origin) := by
 obtain ⟨_, A', c', e, h1, h2, h3⟩ := h
 injection e with e1 e2 e3
 subst e1
 obtain ⟨b, o, h4, _, _, h5⟩ := h3 (by omega)
 obtain ⟨q0, q1, q2, q3, q4⟩ := rrcells_at l k _ (B9 AC hk)
 exact ⟨b, o, h4, h5 _ _ q0, by rw [Nat.add_assoc]; exact h5 _ _ q1, by rw [Nat.add_assoc]; exact h5 _ _ q2, by rw [Nat.add_assoc]; exact h5 _ _ q3, by rw [Nat.add_assoc]; exact h5 _ _ q4⟩
set_option maxHeartbeats 4000000 in
theorem Hj {w0 w : World} {F : List Ai} {K : (Nat -> Prop) -> World -> Prop} {v : Value} {p : Ah} {L : List (Nat × Nat)} (hl : p.links = some L) (hH : Fd L) (hlen : L.length <= 1000) (hB : Fits p) (hS : St w0 w F K) (kp : ∀ D w, K D w -> Bi w D v p) (kt : ∀ D w, K D w -> Bu w /\ D 0) :
  Calls Tryz.prog 52 #[v] w fun e w' => ∃ u, e = .returned (.tuple #[u, .bool true]) /\ St w0 w' F fun D w => K D w /\ Bn w D u p := by
 obtain ⟨pr, lk, ps, rl, nl, gl⟩ := p
 dsimp only at hl
 subst hl
 obtain ⟨lv, rv, nv, gv, L', rfl, hl', h1, h2, h3, h4⟩ := kp _ _ hS.ro
 dsimp only at hl' h1 h2 h3 h4
 obtain rfl : L = L' := by injection hl'
 clear hl'
 obtain ⟨Al, cl, rfl, _, _⟩ := h1.shape
 obtain ⟨Ar, cr, rfl, _, _⟩ := h2.shape
 obtain ⟨An, cn, rfl, _, _⟩ := Sl.shape (h3 : Sl _ _ _ _ _ _)
 obtain ⟨Ag, cg, rfl, _, _⟩ := Sl.shape (h4 : Sl _ _ _ _ _ _)
 clear h1 h2 h3 h4
 have KSt := Lib.hid hS.stable
 have k1 : ∀ D w, K D w -> Sl w D 2 (.slice Al L.length cl) L.length (Af L) := fun D w h => by
  obtain ⟨_, _, _, _, L', e, e2, h1, _, _, _⟩ := kp D w h
  injection e2 with e2; subst e2
  injection e with e; injection e with e; injection e with _ e; injection e with e1 _; subst e1; exact h1
 have k2 : ∀ D w, K D w -> Sl w D 5 (.slice Ar rl.length cr) rl.length (B6 rl) := fun D w h => by
  obtain ⟨_, _, _, _, L', e, e2, _, h1, _, _⟩ := kp D w h
  injection e with e; injection e with e; injection e with _ e; injection e with _ e; injection e with _ e; injection e with e1 _; subst e1; exact h1
 have k3 : ∀ D w, K D w -> BJ w D (.slice An nl.length cn) nl := fun D w h => by
  obtain ⟨_, _, _, _, L', e, e2, _, _, h1, _⟩ := kp D w h
  injection e with e; injection e with e; injection e with _ e; injection e with _ e; injection e with _ e; injection e with _ e; injection e with e1 _; subst e1; exact h1
 have k4 : ∀ D w, K D w -> BJ w D (.slice Ag gl.length cg) gl := fun D w h => by
  obtain ⟨_, _, _, _, L', e, e2, _, _, _, h1⟩ := kp D w h
  injection e with e; injection e with e; injection e with _ e; injection e with _ e; injection e with _ e; injection e with _ e; injection e with _ e; injection e with e1 _; subst e1; exact h1
 have HF := Lib.hid hB
 have HH := Lib.hid hH
 have hrl1 := HF.out.rlen
 clear hB hH kp
 dsimp only at hrl1
 go_enter Tryz.func52, Tryz.ntmps52
 go_wp2_with (first
  | ((with_reducible refine qA 1 ?_); refine Az hS rfl _ _ rfl (.agg #[.int .i64 pr, .slice Al L.length cl, .int .u64 (ps : Nat), .slice Ar rl.length cr, .slice An nl.length cn, .slice Ag gl.length cg]) _ rfl rfl ?_; clear hS; intro g1 w_ hS; (try simp only [Act.put, Act.eval, zz, Value.cells] at hS))
  | ((with_reducible refine qA 2 ?_); refine qa hS #[.int .i64 0, .pointer none, .slice none 0 0, .slice none 0 0, .slice none 0 0, .slice none 0 0] ?_; clear hS; intro g2 w_ hS))
 have hJ0 : GJ w0 (.box g2 31 #[.int .i64 0, .pointer none, .slice none 0 0, .slice none 0 0, .slice none 0 0, .slice none 0 0] :: .box g1 37 #[.int .i64 pr, .slice Al L.length cl, .int .u64 (ps : Nat), .slice Ar rl.length cr, .slice An nl.length cn, .slice Ag gl.length cg] :: F) 31 #[.int .i64 0, .pointer none, .slice none 0 0, .slice none 0 0, .slice none 0 0, .slice none 0 0] (w_.drew, ⟨none, K⟩) := hS.drew
 have hRr := @GR.refl w0 (.box g2 31 #[.int .i64 0, .pointer none, .slice none 0 0, .slice none 0 0, .slice none 0 0, .slice none 0 0] :: .box g1 37 #[.int .i64 pr, .slice Al L.length cl, .int .u64 (ps : Nat), .slice Ar rl.length cr, .slice An nl.length cn, .slice Ag gl.length cg] :: F) 31 #[.int .i64 0, .pointer none, .slice none 0 0, .slice none 0 0, .slice none 0 0, .slice none 0 0]
 have hRt := @GR.trans w0 (.box g2 31 #[.int .i64 0, .pointer none, .slice none 0 0, .slice none 0 0, .slice none 0 0, .slice none 0 0] :: .box g1 37 #[.int .i64 pr, .slice Al L.length cl, .int .u64 (ps : Nat), .slice Ar rl.length cr, .slice An nl.length cn, .slice Ag gl.length cg] :: F) 31 #[.int .i64 0, .pointer none, .slice none 0 0, .slice none 0 0, .slice none 0 0, .slice none 0 0]
 have hN0 := @GN.start 13 14 w_.drew K
 clear hS
 refine Ga (GR w0 (.box g2 31 #[.int .i64 0, .pointer none, .slice none 0 0, .slice none 0 0, .slice none 0 0, .slice none 0 0] :: .box g1 37 #[.int .i64 pr, .slice Al L.length cl, .int .u64 (ps : Nat), .slice Ar rl.length cr, .slice An nl.length cn, .slice Ag gl.length cg] :: F) 31 #[.int .i64 0, .pointer none, .slice none 0 0, .slice none 0 0, .slice none 0 0, .slice none 0 0]) (GN 13 14) (⟨none, K⟩) hRr hRt [.q g1 0, .n pr, .s (fun v w => ∃ q, v = .pointer (some ⟨q, 0, none⟩) /\ ∀ D w1, w.2.K D w1 -> IsH w1 D (.pointer (some ⟨q, 0, none⟩)) []) fun v w w' h hb => by obtain ⟨q, e, h⟩ := h; exact ⟨q, e, fun D w1 h1 => h D w1 (hb.2.1 D w1 h1)⟩, .q g1 2, .i (.int .u64 (ps : Nat)), .s (fun v w => ∃ u, v = .agg #[u] /\ u.oneCell' = true /\ ∀ D w1, w.2.K D w1 -> A7 w1 D (.agg #[u]) ps) fun v w w' h hb => by obtain ⟨u, e, e2, h⟩ := h; exact ⟨u, e, e2, fun D w1 h1 => h D w1 (hb.2.1 D w1 h1)⟩, .q g1 4, .i (.slice An nl.length cn), .s (fun v w => (∃ A c, v = .slice A nl.length c) /\ ∀ D w1, w.2.K D w1 -> AA w1 D v nl) fun v w w' h hb => ⟨h.1, fun D w1 h1 => h.2 D w1 (hb.2.1 D w1 h1)⟩, .q g1 5, .i (.slice Ag gl.length cg), .s (fun v w => (∃ A c, v = .slice A gl.length c) /\ ∀ D w1, w.2.K D w1 -> AA w1 D v gl) fun v w w' h hb => ⟨h.1, fun D w1 h1 => h.2 D w1 (hb.2.1 D w1 h1)⟩, .s (fun v w => ∃ q u A c B d, v = .agg #[.int .i64 pr, .pointer (some ⟨q, 0, none⟩), u, .slice none 0 0, .slice A nl.length c, .slice B gl.length d] /\ u.oneCell' = true /\ ∀ D w1, w.2.K D w1 -> IsH w1 D (.pointer (some ⟨q, 0, none⟩)) [] /\ A7 w1 D (.agg #[u]) ps /\ AA w1 D (.slice A nl.length c) nl /\ AA w1 D (.slice B gl.length d) gl) fun v w w' h hb => by obtain ⟨q, u, A, c, B, d, e, e2, h⟩ := h; exact ⟨q, u, A, c, B, d, e, e2, fun D w1 h1 => h D w1 (hb.2.1 D w1 h1)⟩, .s (fun v w => ∃ g o, v = .pointer (some ⟨g, 0, none⟩) /\ w.2.b = some (g, o)) fun v w w' h hb => hb.var h, .s (fun v w => ∃ g q u A c B d, w.2.b = some (g, some #[.int .i64 pr, .pointer (some ⟨q, 0, none⟩), u, .slice none 0 0, .slice A nl.length c, .slice B gl.length d]) /\ ∀ D w1, w.2.K D w1 -> IsH w1 D (.pointer (some ⟨q, 0, none⟩)) [] /\ A7 w1 D (.agg #[u]) ps /\ AA w1 D (.slice A nl.length c) nl /\ AA w1 D (.slice B gl.length d) gl) fun v w w' h hb => by obtain ⟨g, q, u, A, c, B, d, e, h⟩ := h; exact ⟨g, q, u, A, c, B, d, hb.2.2.2 _ _ e, fun D w1 h1 => h D w1 (hb.2.1 D w1 h1)⟩] ?_ ⟨uF, uC (h := fun w hW hN => (hW.1 hJ0).cell 1 rfl 0 rfl), ?_, uF, uC (h := fun w hW hN => (hW.1 hJ0).cell 1 rfl 2 rfl), ?_, uF, uC (h := fun w hW hN => (hW.1 hJ0).cell 1 rfl 4 rfl), ?_, uF, uC (h := fun w hW hN => (hW.1 hJ0).cell 1 rfl 5 rfl), ?_, ?_, ?_, ?_, trivial⟩ ?_
 ·first | assumption | (intro i; (try dsimp only); split <;> first | trivial | assumption | (left; assumption))
 ·refine uG fun b__ w hW hN hE K hK => ?_
  refine Cb rfl (by kernel_rfl) (by simp only [List.map_nil]) (hnew_any (hW.1 hJ0) fun D w1 h => kt D w1 (hW.2.1 D w1 h)) fun e w' ⟨p, he, hs⟩ => ⟨p, he, ?_⟩
  obtain ⟨q, o, rfl, -⟩ := id hs.ro.2
  exact hK _ (w', { w.2 with K := _ }) ⟨q, rfl, fun D w1 h => h.2⟩ (GK.more hs fun D w1 h => h.1)
 ·refine uG fun b__ w hW hN hE K hK => ?_
  have e15 := hE 15
  refine Cb rfl (by kernel_rfl) (by simp only [List.map_cons, List.map_nil, e15]) (JI ps HF.out.start w.1) fun e w' ⟨x, he, hx, hb⟩ => ⟨x, he, ?_⟩
  obtain ⟨u, rfl, h1⟩ := Ch hx
  exact hK _ (w', { w.2 with K := _ }) ⟨u, rfl, h1, fun D w1 h => h.2⟩ (GK.more ((hW.1 hJ0).ret hb A5 hx) fun D w1 h => h.1)
 ·refine uG fun b__ w hW hN hE K hK => ?_
  have e18 := hE 18
  refine Cb rfl (by kernel_rfl) (by simp only [List.map_cons, List.map_nil, e18]) (Iz _ nl w.1 _ (k3 _ _ (hW.2.1 _ _ (hW.1 hJ0).ro)) HF.out.never (by have := HF.out.nlen; dsimp only at this; omega)) fun e w' ⟨x, he, hx, hb⟩ => ⟨x, he, ?_⟩
  exact hK _ (w', { w.2 with K := _ }) ⟨Cp hx, fun D w1 h => h.2⟩ (GK.more ((hW.1 hJ0).ret hb AX hx) fun D w1 h => h.1)
 ·refine uG fun b__ w hW hN hE K hK => ?_
  have e21 := hE 21
  refine Cb rfl (by kernel_rfl) (by simp only [List.map_cons, List.map_nil, e21]) (Iz _ gl w.1 _ (k4 _ _ (hW.2.1 _ _ (hW.1 hJ0).ro)) HF.out.goal (by have := HF.out.glen; dsimp only at this; omega)) fun e w' ⟨x, he, hx, hb⟩ => ⟨x, he, ?_⟩
  exact hK _ (w', { w.2 with K := _ }) ⟨Cp hx, fun D w1 h => h.2⟩ (GK.more ((hW.1 hJ0).ret hb AX hx) fun D w1 h => h.1)
 ·refine uG fun b__ w hW hN hE K hK => ?_
  have e12 := hE 12
  have e13 := hE 13
  have e16 := hE 16
  have e19 := hE 19
  have e22 := hE 22
  obtain ⟨q, hq, h1⟩ := e13
  obtain ⟨u, hu, hu1, h2⟩ := e16
  obtain ⟨⟨A, c, ha⟩, h3⟩ := e19
  obtain ⟨⟨B, d, hbb⟩, h4⟩ := e22
  rw [ha] at h3
  rw [hbb] at h4
  exact CW rfl (ps := [(0, .int .i64 pr), (1, .pointer (some ⟨q, 0, none⟩)), (2, .agg #[u]), (4, .slice A nl.length c), (5, .slice B gl.length d)]) (cells := #[.int .i64 pr, .pointer (some ⟨q, 0, none⟩), u, .slice none 0 0, .slice A nl.length c, .slice B gl.length d]) (by simp [e12, hq, hu, ha, hbb]) (by kernel_rfl) (hK _ _ ⟨q, u, A, c, B, d, rfl, hu1, fun D w1 h => ⟨h1 D w1 h, h2 D w1 h, h3 D w1 h, h4 D w1 h⟩⟩ ⟨hRr _, fun _ _ h => h⟩)
 ·refine uG fun b__ w hW hN hE K hK => ?_
  exact gk_alloc rfl (by kernel_rfl) (by kernel_rfl) (hW.1 hJ0) (hN.1 rfl) fun g w' hs => hK _ (w', { w.2 with b := some (g, none) }) ⟨g, none, rfl, rfl⟩ (GK.made (hN.1 rfl) hs)
 ·refine uG fun b__ w hW hN hE K hK => ?_
  have e4 := hE 4
  have e23 := hE 23
  obtain ⟨g, o, hg, hgb⟩ := e4
  obtain ⟨q, u, A, c, B, d, hv, hu1, h1⟩ := e23
  obtain rfl : o = none := (by cases o with | none => rfl | some cs => exact absurd hgb (hN.2 rfl g cs))
  exact gk_store rfl hg hv (hW.1 hJ0) hgb (by kernel_rfl) rfl (by simpa [Value.oneCell'] using hu1) fun w' hs => hK undef (w', { w.2 with b := some (g, some #[.int .i64 pr, .pointer (some ⟨q, 0, none⟩), u, .slice none 0 0, .slice A nl.length c, .slice B gl.length d]) }) ⟨g, q, u, A, c, B, d, rfl, h1⟩ (GK.put hgb hs)
 ·intro vs wz hW hT
  obtain ⟨e11, e12, e13, e14, e15, e16, e17, e18, e19, e20, e21, e22, e23, e4, z14, -⟩ := hT
  have bx : (fun _ : Nat => True) 0 := trivial
  simp only [AF, Act.put, zz, ze]
  obtain ⟨_, g4, q, u, A4, c4, B4, d4, hb4, hK4⟩ := z14
  obtain ⟨g, o, hg, hgb⟩ := e4
  obtain rfl : g = g4 := by rw [hb4] at hgb; injection hgb with h; injection h with h _; exact h.symm
  have hS : St w0 wz.1 (.box g 31 #[.int .i64 pr, .pointer (some ⟨q, 0, none⟩), u, .slice none 0 0, .slice A4 nl.length c4, .slice B4 gl.length d4] :: .box g2 31 #[.int .i64 0, .pointer none, .slice none 0 0, .slice none 0 0, .slice none 0 0, .slice none 0 0] :: .box g1 37 #[.int .i64 pr, .slice Al L.length cl, .int .u64 (ps : Nat), .slice Ar rl.length cr, .slice An nl.length cn, .slice Ag gl.length cg] :: F) wz.2.K := (hW.1 hJ0).some hb4
  obtain ⟨K4, wf, k0, kq, kc, hwf, hS2⟩ : ∃ (K4 : (Nat -> Prop) -> World -> Prop) (wf : World), (∀ D w, K4 D w -> K D w) /\ (∀ D w1, K4 D w1 -> IsH w1 D (.pointer (some ⟨q, 0, none⟩)) []) /\ Hid (∀ D w1, K4 D w1 -> A7 w1 D (.agg #[u]) ps /\ AA w1 D (.slice A4 nl.length c4) nl /\ AA w1 D (.slice B4 gl.length d4) gl) /\ wz.1 = wf /\ St w0 wf (.box g 31 #[.int .i64 pr, .pointer (some ⟨q, 0, none⟩), u, .slice none 0 0, .slice A4 nl.length c4, .slice B4 gl.length d4] :: .box g2 31 #[.int .i64 0, .pointer none, .slice none 0 0, .slice none 0 0, .slice none 0 0, .slice none 0 0] :: .box g1 37 #[.int .i64 pr, .slice Al L.length cl, .int .u64 (ps : Nat), .slice Ar rl.length cr, .slice An nl.length cn, .slice Ag gl.length cg] :: F) K4 := ⟨_, _, hW.2.1, fun D w1 h => (hK4 D w1 h).1, Lib.hid fun D w1 h => (hK4 D w1 h).2, rfl, hS⟩
  rw [hwf]
  simp only [show vs (4 : Nat) = _ from hg]
  clear hS hW hJ0 hRr hRt hN0 e11 e12 e13 e14 e15 e16 e17 e18 e19 e20 e21 e22 e23 hb4 hgb hK4 hg hwf
  have hS := hS2
  clear hS2
  generalize vs 11 = s11, vs 12 = s12, vs 13 = s13, vs 14 = s14, vs 15 = s15, vs 16 = s16, vs 17 = s17, vs 18 = s18, vs 19 = s19, vs 20 = s20, vs 21 = s21, vs 22 = s22, vs 23 = s23
  obtain ⟨Au, cu, lu, hvu, -⟩ := (kc.out _ _ hS.ro).1.parts
  obtain rfl : u = .slice Au lu.length cu := by injection hvu with hvu; simpa using hvu
  clear hvu
  generalize lu.length = nu at *
  have KS4 := Lib.hid hS.stable
  go_wp2_with (first | ((with_reducible refine qK ?_); refine qC hS ?_))
  have HNX : Hid (∀ (j : Nat) (x : Nat × Nat) (L' : List (Nat × Nat)), L[j]? = some x -> Part L j L' -> ∀ (F : List Ai) (K : (Nat -> Prop) -> World -> Prop) (w : World) (r : Value) (z : Int), LinkP w0 F K L' (x.1 : Nat) (x.2 : Nat) r z w -> z = 0 /\ ∃ L'', Part L (j + 1) L'' /\ St w0 w F fun D w => K D w /\ IsH w D r L'') := Lib.hid fun j x L' hx hP F K w r z h => by
   obtain ⟨h1, L'', h2, h3, h4⟩ := h.next hx hP.2 HH.out.asc.nodup HH.out.role HH.out.acyc
   exact ⟨h1, L'', ⟨h2, h3⟩, h4⟩
  have HLF : Hid (∀ L', Part L L.length L' -> L' = L) := Lib.hid fun L' h => h.full HH.out.asc
  have hP0 : Part L 0 [] := ⟨Fd.nil, by simp⟩
  have k1' : ∀ D w, K4 D w -> Sl w D 2 (.slice Al L.length cl) L.length (Af L) := fun D w h => k1 D w (k0 D w h)
  go_loopw [27] (fun i wr => ∃ (j q' : Nat) (L' : List (Nat × Nat)), i = .int .i64 (j : Nat) /\ j <= L.length /\ Hid (Part L j L') /\ St w0 wr (.box g 31 #[.int .i64 pr, .pointer (some ⟨q', 0, none⟩), .slice Au nu cu, .slice none 0 0, .slice A4 nl.length c4, .slice B4 gl.length d4] :: .box g2 31 #[.int .i64 0, .pointer none, .slice none 0 0, .slice none 0 0, .slice none 0 0, .slice none 0 0] :: .box g1 37 #[.int .i64 pr, .slice Al L.length cl, .int .u64 (ps : Nat), .slice Ar rl.length cr, .slice An nl.length cn, .slice Ag gl.length cg] :: F) fun D w => K4 D w /\ IsH w D (.pointer (some ⟨q', 0, none⟩)) L') (fun i _ => L.length - (intOf i).toNat)
  case atStart => exact ⟨0, q, [], rfl, by omega, Lib.hid hP0, hS.mono (KS4.out.and DW) fun D w h => ⟨h, kq D w h⟩⟩
  case round =>
   clear hS hP0
   obtain ⟨j, q', L', rfl, hj, HP, hS⟩ := hrel
   by_cases hlj : j < L.length
   ·obtain ⟨f1, f2⟩ := BL L j hlj
    have HNY := Lib.hid (HNX.out j _ L' (B9 (0, 0) hlj) HP.out)
    have HLL : Hid (L'.length <= 900000) := Lib.hid (by have := HP.out.len; omega)
    generalize L.getD j (0, 0) = z at *
    obtain ⟨za, zb⟩ := z
    dsimp only at f1 f2 HNY
    have kp2 : ∀ D w, (K4 D w /\ IsH w D (.pointer (some ⟨q', 0, none⟩)) L') -> Sl w D 2 (.slice Al L.length cl) L.length (Af L) := fun D w h => k1' D w h.1
    go_wp2_with (first
     | ((with_reducible refine qB ?_); refine qc ?_ ?_ <;> intro h_ <;> go_prune)
     | ((with_reducible refine qI ?_); refine qj hS Tryz.underlying32 ?_; intro b_ j_ hc0_ hc1_)
     | ((with_reducible refine qA 6 ?_); refine Bl hS rfl _ rfl (by kernel_rfl) ?_; clear hS; intro g6 w_ hS; (try simp only [Act.put, Act.eval, zz, Value.cells] at hS))
     | (go_at_call 94; refine (hlink_any (.pointer (some ⟨q', 0, none⟩)) L' (za : Nat) (zb : Nat) HP.out.1 HLL.out hS (fun D w h => h.2) (fun D w h => kt D w (k0 D w h.1))).mono ?_; clear hS; rintro e w_ ⟨r, z, rfl, hP⟩; obtain ⟨rfl, L'', hP2, hS⟩ := HNY.out _ _ _ _ _ hP; replace hP2 := Lib.hid hP2; clear hP; obtain ⟨q2, _, rfl, -⟩ := id hS.ro.2)
     | ((with_reducible refine qM ?_); (first | refine qS hS ?_ | refine qT hS ?_); clear hS; intro w_ hS; (try simp only [Act.put, Act.eval, zz, Value.cells] at hS))
     | ((with_reducible refine qK ?_); refine qC hS ?_))
    exact ⟨⟨j + 1, q2, L'', by go_num, hlj, hP2, (hS.sub (List.sublist_cons_self _ _)).mono (KS4.out.and DW) fun D w h => ⟨h.1.1, h.2⟩⟩, by simp [intOf]; omega⟩
   ·obtain rfl : L.length = j := by omega
    rw [HLF.out _ HP.out] at hS
    clear HP HNX HLF
    go_wp2_with (first | ((with_reducible refine qB ?_); refine qc ?_ ?_ <;> intro h_ <;> go_prune) | ((with_reducible refine qK ?_); refine qC hS ?_))
    obtain ⟨K5, k5, kh, hS2⟩ : ∃ K5 : (Nat -> Prop) -> World -> Prop, (∀ D w, K5 D w -> K4 D w) /\ Hid (∀ D w, K5 D w -> IsH w D (.pointer (some ⟨q', 0, none⟩)) L) /\ St w0 wr (.box g 31 #[.int .i64 pr, .pointer (some ⟨q', 0, none⟩), .slice Au nu cu, .slice none 0 0, .slice A4 nl.length c4, .slice B4 gl.length d4] :: .box g2 31 #[.int .i64 0, .pointer none, .slice none 0 0, .slice none 0 0, .slice none 0 0, .slice none 0 0] :: .box g1 37 #[.int .i64 pr, .slice Al L.length cl, .int .u64 (ps : Nat), .slice Ar rl.length cr, .slice An nl.length cn, .slice Ag gl.length cg] :: F) K5 := ⟨_, fun _ _ h => h.1, Lib.hid fun _ _ h => h.2, hS⟩
    clear hS
    have hS := hS2.nil 58 5
    clear hS2
    have KS5 := Lib.hid hS.stable
    have kr : ∀ D w, K5 D w -> Sl w D 5 (.slice Ar rl.length cr) rl.length (B6 rl) := fun D w h => k2 D w (k0 D w (k5 D w h))
    go_loopw [50] (fun i wr => ∃ (j : Nat) (rv : Value) (xs : List Value), i = .int .i64 (j : Nat) /\ j <= rl.length /\ St w0 wr (.own rv 58 5 j xs :: .box g 31 #[.int .i64 pr, .pointer (some ⟨q', 0, none⟩), .slice Au nu cu, rv, .slice A4 nl.length c4, .slice B4 gl.length d4] :: .box g2 31 #[.int .i64 0, .pointer none, .slice none 0 0, .slice none 0 0, .slice none 0 0, .slice none 0 0] :: .box g1 37 #[.int .i64 pr, .slice Al L.length cl, .int .u64 (ps : Nat), .slice Ar rl.length cr, .slice An nl.length cn, .slice Ag gl.length cg] :: F) fun D w => K5 D w /\ AQ w D xs (rl.take j)) (fun i _ => rl.length - (intOf i).toNat)
    case atStart => exact ⟨0, _, [], rfl, by omega, hS.mono (KS5.out.and Cf) fun D w h => ⟨h, fun i z hi => by simp at hi⟩⟩
    case round =>
     clear hS
     obtain ⟨j, rv, xs, rfl, hj2, hS⟩ := hrel
     obtain ⟨Arv, crv, rfl, _, _⟩ := Bg (hS.own 0 rfl)
     by_cases hlj : j < rl.length
     ·obtain ⟨bk, o, rfl, c0, c1, c2, c3, c4'⟩ := Io (kr _ _ hS.ro.1) hlj
      have HT : Hid (rl.take (j + 1) = rl.take j ++ [rl.getD j AC]) := Lib.hid (FQ rl j AC hlj)
      have HZ : Hid ((rl.getD j AC).yes < Bc /\ (rl.getD j AC).no < Bc) := Lib.hid (HF.out.rules _ (by rw [List.getD_eq_getElem?_getD, List.getElem?_eq_getElem hlj]; exact List.getElem_mem hlj))
      have HLT : Hid ((rl.take j).length = j) := Lib.hid (by rw [List.length_take]; omega)
      generalize rl.getD j AC = z at *
      obtain ⟨zr, zy, zn, zt, zo⟩ := z
      dsimp only at c0 c1 c2 c3 c4' HZ
      go_wp2_with (first
       | ((with_reducible refine qB ?_); refine qc ?_ ?_ <;> intro h_ <;> go_prune)
       | ((with_reducible refine qA 53 ?_); refine BigFrame.wpList_want rfl fun _ hK => AY (cs := [.bool zr, .int .u64 (zy : Nat), .int .u64 (zn : Nat), .int .i64 zt, .int .i64 zo]) rfl rfl (G7 c0 c1 c2 c3 c4') Tryz.underlying96 rfl (by kernel_rfl) (hK _ _ ?_))
       | ((with_reducible refine qA 10 ?_); refine qa hS #[.bool false, .int .u64 0, .int .u64 0, .int .i64 0, .int .i64 0] ?_; clear hS; intro g10 w_ hS)
       | ((with_reducible refine qM ?_); (first | refine qS hS ?_ | refine qT hS ?_); clear hS; intro w_ hS; (try simp only [Act.put, Act.eval, zz, Value.cells] at hS)))
      obtain ⟨K6, k6, hS2⟩ : ∃ K6 : (Nat -> Prop) -> World -> Prop, Hid (∀ D w, K6 D w -> K5 D w /\ AQ w D xs (rl.take j)) /\ St w0 w_ (.box g10 96 #[.bool zr, .int .u64 (zy : Nat), .int .u64 (zn : Nat), .int .i64 zt, .int .i64 zo] :: .own (.slice Arv j crv) 58 5 j xs :: .box g 31 #[.int .i64 pr, .pointer (some ⟨q', 0, none⟩), .slice Au nu cu, .slice Arv j crv, .slice A4 nl.length c4, .slice B4 gl.length d4] :: .box g2 31 #[.int .i64 0, .pointer none, .slice none 0 0, .slice none 0 0, .slice none 0 0, .slice none 0 0] :: .box g1 37 #[.int .i64 pr, .slice Al L.length cl, .int .u64 (ps : Nat), .slice (some ⟨bk, o, none⟩) rl.length cr, .slice An nl.length cn, .slice Ag gl.length cg] :: F) K6 := ⟨_, Lib.hid fun _ _ h => h, hS⟩
      clear hS
      have hS := hS2
      clear hS2
      have KS6 := Lib.hid hS.stable
      have h0d := hS.drew
      refine wp_zS [6, 11, 12, 13, 15] [some (.pointer (some ⟨g, 3, none⟩)), some (.slice Arv j crv), some (.pointer (some ⟨g10, 0, none⟩)), some (.bool zr), some (.pointer (some ⟨g10, 1, none⟩)), some (.agg #[.int .u64 (zy : Nat), .int .u64 (zn : Nat)]), none, some (.pointer (some ⟨g10, 3, none⟩)), some (.int .i64 zt), some (.pointer (some ⟨g10, 4, none⟩)), some (.int .i64 zo), none, none, none, some (.pointer (some ⟨g, 3, none⟩)), none] (fun vs w => match vs with | [] => St w0 w (.box g10 96 #[.bool zr, .int .u64 (zy : Nat), .int .u64 (zn : Nat), .int .i64 zt, .int .i64 zo] :: .own (.slice Arv j crv) 58 5 j xs :: .box g 31 #[.int .i64 pr, .pointer (some ⟨q', 0, none⟩), .slice Au nu cu, .slice Arv j crv, .slice A4 nl.length c4, .slice B4 gl.length d4] :: .box g2 31 #[.int .i64 0, .pointer none, .slice none 0 0, .slice none 0 0, .slice none 0 0, .slice none 0 0] :: .box g1 37 #[.int .i64 pr, .slice Al L.length cl, .int .u64 (ps : Nat), .slice (some ⟨bk, o, none⟩) rl.length cr, .slice An nl.length cn, .slice Ag gl.length cg] :: F) K6 | [z] => ∃ a b : Value, z = .agg #[a, b] /\ St w0 w (.box g10 96 #[.bool zr, .int .u64 (zy : Nat), .int .u64 (zn : Nat), .int .i64 zt, .int .i64 zo] :: .own (.slice Arv j crv) 58 5 j xs :: .box g 31 #[.int .i64 pr, .pointer (some ⟨q', 0, none⟩), .slice Au nu cu, .slice Arv j crv, .slice A4 nl.length c4, .slice B4 gl.length d4] :: .box g2 31 #[.int .i64 0, .pointer none, .slice none 0 0, .slice none 0 0, .slice none 0 0, .slice none 0 0] :: .box g1 37 #[.int .i64 pr, .slice Al L.length cl, .int .u64 (ps : Nat), .slice (some ⟨bk, o, none⟩) rl.length cr, .slice An nl.length cn, .slice Ag gl.length cg] :: F) (fun D w => K6 D w /\ AV w D (.agg #[a, b]) (zy, zn)) | [_, z] => ∃ a b : Value, z = .agg #[.bool zr, a, b, .int .i64 zt, .int .i64 zo] /\ St w0 w (.box g10 96 #[.bool zr, .int .u64 (zy : Nat), .int .u64 (zn : Nat), .int .i64 zt, .int .i64 zo] :: .own (.slice Arv j crv) 58 5 j xs :: .box g 31 #[.int .i64 pr, .pointer (some ⟨q', 0, none⟩), .slice Au nu cu, .slice Arv j crv, .slice A4 nl.length c4, .slice B4 gl.length d4] :: .box g2 31 #[.int .i64 0, .pointer none, .slice none 0 0, .slice none 0 0, .slice none 0 0, .slice none 0 0] :: .box g1 37 #[.int .i64 pr, .slice Al L.length cl, .int .u64 (ps : Nat), .slice (some ⟨bk, o, none⟩) rl.length cr, .slice An nl.length cn, .slice Ag gl.length cg] :: F) (fun D w => K6 D w /\ AV w D (.agg #[a, b]) (zy, zn)) | [_, _, z] => ∃ a b : Value, St w0 w (.box g10 96 #[.bool zr, .int .u64 (zy : Nat), .int .u64 (zn : Nat), .int .i64 zt, .int .i64 zo] :: .own (.slice Arv j crv) 58 5 j xs :: .box g 31 #[.int .i64 pr, .pointer (some ⟨q', 0, none⟩), .slice Au nu cu, .slice Arv j crv, .slice A4 nl.length c4, .slice B4 gl.length d4] :: .box g2 31 #[.int .i64 0, .pointer none, .slice none 0 0, .slice none 0 0, .slice none 0 0, .slice none 0 0] :: .box g1 37 #[.int .i64 pr, .slice Al L.length cl, .int .u64 (ps : Nat), .slice (some ⟨bk, o, none⟩) rl.length cr, .slice An nl.length cn, .slice Ag gl.length cg] :: F) (fun D w => (K6 D w /\ AV w D (.agg #[a, b]) (zy, zn)) /\ Sl w D 5 z 1 [.bool zr, a, b, .int .i64 zt, .int .i64 zo]) | [_, _, _, p'] => ∃ a b : Value, St w0 w (.box g10 96 #[.bool zr, .int .u64 (zy : Nat), .int .u64 (zn : Nat), .int .i64 zt, .int .i64 zo] :: .own p' 58 5 (j + 1) (xs ++ [.bool zr, a, b, .int .i64 zt, .int .i64 zo]) :: .box g 31 #[.int .i64 pr, .pointer (some ⟨q', 0, none⟩), .slice Au nu cu, .slice Arv j crv, .slice A4 nl.length c4, .slice B4 gl.length d4] :: .box g2 31 #[.int .i64 0, .pointer none, .slice none 0 0, .slice none 0 0, .slice none 0 0, .slice none 0 0] :: .box g1 37 #[.int .i64 pr, .slice Al L.length cl, .int .u64 (ps : Nat), .slice (some ⟨bk, o, none⟩) rl.length cr, .slice An nl.length cn, .slice Ag gl.length cg] :: F) (fun D w => K6 D w /\ AV w D (.agg #[a, b]) (zy, zn)) | [_, _, _, p', _] => ∃ a b : Value, St w0 w (.box g10 96 #[.bool zr, .int .u64 (zy : Nat), .int .u64 (zn : Nat), .int .i64 zt, .int .i64 zo] :: .own p' 58 5 (j + 1) (xs ++ [.bool zr, a, b, .int .i64 zt, .int .i64 zo]) :: .box g 31 #[.int .i64 pr, .pointer (some ⟨q', 0, none⟩), .slice Au nu cu, p', .slice A4 nl.length c4, .slice B4 gl.length d4] :: .box g2 31 #[.int .i64 0, .pointer none, .slice none 0 0, .slice none 0 0, .slice none 0 0, .slice none 0 0] :: .box g1 37 #[.int .i64 pr, .slice Al L.length cl, .int .u64 (ps : Nat), .slice (some ⟨bk, o, none⟩) rl.length cr, .slice An nl.length cn, .slice Ag gl.length cg] :: F) (fun D w => K6 D w /\ AV w D (.agg #[a, b]) (zy, zn)) | _ => False) ?_ ⟨vF, ?_, vF, ?_, vF, ?_, ?_, vF, ?_, vF, ?_, ?_, ?_, ?_, vF, ?_, trivial⟩ ?_
      ·first | assumption | (dsimp only; assumption)
      ·refine vR 0 3 fun b__ w vs hS h1 h2 hE K hK => ?_
       rcases vs with _ | ⟨x0, _ | ⟨x1, _ | ⟨x2, _ | ⟨x3, vs⟩⟩⟩⟩ <;> first | (exfalso; first | exact hS | (revert h1 h2; simp <;> omega); done) | ((have e54 := hE 54); (first | exact At rfl e54 (by kernel_rfl) (hS.shut 2 rfl 3 rfl) (hK _ rfl) | (obtain ⟨_, _, hS⟩ := hS; exact At rfl e54 (by kernel_rfl) (hS.shut 2 rfl 3 rfl) (hK _ rfl)) | (obtain ⟨_, _, _, hS⟩ := hS; exact At rfl e54 (by kernel_rfl) (hS.shut 2 rfl 3 rfl) (hK _ rfl))))
      ·refine vR 0 1 fun b__ w vs hS h1 h2 hE K hK => ?_
       rcases vs with _ | ⟨x0, _ | ⟨x1, vs⟩⟩ <;> first | (exfalso; first | exact hS | (revert h1 h2; simp <;> omega); done) | ((have e56 := hE 56); (first | exact At rfl e56 (by kernel_rfl) (hS.shut 0 rfl 0 rfl) (hK _ rfl) | (obtain ⟨_, _, _, hS⟩ := hS; exact At rfl e56 (by kernel_rfl) (hS.shut 0 rfl 0 rfl) (hK _ rfl))))
      ·refine vR 0 0 fun b__ w vs hS h1 h2 hE K hK => ?_
       rcases vs with _ | ⟨x0, vs⟩ <;> first | (exfalso; first | exact hS | (revert h1 h2; simp <;> omega); done) | ((have e58 := hE 58); (exact AY (cs := [.int .u64 (zy : Nat), .int .u64 (zn : Nat)]) rfl e58 (Jr (hS.shut 0 rfl 1 rfl) (hS.shut 0 rfl 2 rfl)) Tryz.underlying94 rfl (by kernel_rfl) (hK _ rfl)))
      ·refine vX 0 fun b__ w vs hS hl hE K hK => ?_
       obtain rfl := IR hl
       have e59 := hE 59
       refine Cb rfl (by kernel_rfl) (by simp only [List.map_cons, List.map_nil, e59]) (lmake_any zy zn HZ.out.1 HZ.out.2 _) fun e w' ⟨z, he, hx, hb_⟩ => ⟨z, he, ?_⟩
       obtain ⟨a, b, rfl, -, -⟩ := id hx
       exact hK _ w' ⟨a, b, rfl, hS.ret hb_ Bw hx⟩
      ·refine vR 0 1 fun b__ w vs hS h1 h2 hE K hK => ?_
       rcases vs with _ | ⟨x0, _ | ⟨x1, vs⟩⟩ <;> first | (exfalso; first | exact hS | (revert h1 h2; simp <;> omega); done) | ((have e61 := hE 61); (first | exact At rfl e61 (by kernel_rfl) (hS.shut 0 rfl 3 rfl) (hK _ rfl) | (obtain ⟨_, _, _, hS⟩ := hS; exact At rfl e61 (by kernel_rfl) (hS.shut 0 rfl 3 rfl) (hK _ rfl))))
      ·refine vR 0 1 fun b__ w vs hS h1 h2 hE K hK => ?_
       rcases vs with _ | ⟨x0, _ | ⟨x1, vs⟩⟩ <;> first | (exfalso; first | exact hS | (revert h1 h2; simp <;> omega); done) | ((have e63 := hE 63); (first | exact At rfl e63 (by kernel_rfl) (hS.shut 0 rfl 4 rfl) (hK _ rfl) | (obtain ⟨_, _, _, hS⟩ := hS; exact At rfl e63 (by kernel_rfl) (hS.shut 0 rfl 4 rfl) (hK _ rfl))))
      ·refine vX 1 fun b__ w vs hS hl hE K hK => ?_
       obtain ⟨x0, rfl⟩ := GG hl
       have e57 := hE 57
       have e60 := hE 60
       have e62 := hE 62
       have e64 := hE 64
       obtain ⟨a, b, rfl, hS⟩ := hS
       exact CW rfl (ps := [(0, .bool zr), (1, .agg #[a, b]), (2, .int .i64 zt), (3, .int .i64 zo)]) (cells := #[.bool zr, a, b, .int .i64 zt, .int .i64 zo]) (by simp [e57, e60, e62, e64]) (by kernel_rfl) (hK _ _ ⟨a, b, rfl, hS⟩)
      ·refine vX 2 fun b__ w vs hS hl hE K hK => ?_
       obtain ⟨x0, x1, rfl⟩ := GF hl
       have e65 := hE 65
       obtain ⟨a, b, rfl, hS⟩ := hS
       refine BE (ps := [(0, .agg #[.bool zr, a, b, .int .i64 zt, .int .i64 zo])]) (cells := #[.bool zr, a, b, .int .i64 zt, .int .i64 zo]) rfl Tryz.underlying28 (by simp [e65]) (by kernel_rfl) ?_
       intro w' hbx hbel
       exact hK _ w' ⟨a, b, hS.ret hbel (Aq (by decide)) (⟨by simp, _, 1, rfl, by omega, by unfold maxLen; omega, fun _ => ⟨w.heap.size, 0, rfl, Nat.le_refl _, hbx.lt, fun j x hj => by rw [Nat.zero_add]; exact (hbx.cell j).trans (by simpa using hj)⟩⟩ : Sl w' (w.heap.size <= ·) 5 (.slice (some ⟨w.heap.size, 0, none⟩) 1 1) 1 [.bool zr, a, b, .int .i64 zt, .int .i64 zo])⟩
      ·refine vX 3 fun b__ w vs hS hl hE K hK => ?_
       obtain ⟨x0, x1, x2, rfl⟩ := GE hl
       have e55 := hE 55
       have e66 := hE 66
       obtain ⟨a, b, h3⟩ := hS
       refine EZ rfl J6 e55 (h3.own 1 rfl) e66 h3.ro.2 (by obtain ⟨_, _, he, hy, hn⟩ := h3.ro.1.2; injection he with he; injection he with he; injection he with e1 he; injection he with e2 he; subst e1 e2; obtain ⟨A8, m8, c8, rfl⟩ := hy.shape; obtain ⟨B8, k8, d8, rfl⟩ := hn.shape; intro u hu; simp at hu; rcases hu with rfl | rfl | rfl | rfl | rfl <;> rfl) (by omega) (by omega) h3.size ?_
       intro v' w' ho hg hat
       exact hK v' w' ⟨a, b, (h3.upd 1 rfl (.own v' 58 5 (j + 1) (xs ++ [.bool zr, a, b, .int .i64 zt, .int .i64 zo])) hg ho hat).mono (KS6.out.and Bw) fun D w h => h.1⟩
      ·refine vX 4 fun b__ w vs hS hl hE K hK => ?_
       obtain ⟨x0, x1, x2, x3, rfl⟩ := IQ hl
       have e68 := hE 68
       have e67 := hE 67
       obtain ⟨a, b, h3⟩ := hS
       refine Cu rfl e68 e67 (h3.box 2 rfl) (by simp) (Ig (h3.own 1 rfl)) (own_one (h3.own 1 rfl)) (by kernel_rfl) ?_
       intro w' hbx hup
       exact hK _ w' ⟨a, b, h3.upd 2 rfl (.box g 31 #[.int .i64 pr, .pointer (some ⟨q', 0, none⟩), .slice Au nu cu, x3, .slice A4 nl.length c4, .slice B4 gl.length d4]) (Bj hup) ⟨(h3.holds _ (List.mem_of_getElem? (i := 2) rfl)).1, hbx⟩ fun _ e => .inl e⟩
      ·intro us wz vs hS hl hT
       obtain ⟨x0, x1, x2, x3, x4, rfl⟩ := vs_len5 hl
       obtain ⟨e54, e55, e56, e57, e58, e59, e60, e61, e62, e63, e64, e65, e66, e67, e68, -⟩ := hT
       clear hl
       simp only [AF, Act.put, zz, ze]
       obtain ⟨a, b, hS⟩ := hS
       clear h0d
       go_wp2_with fail
       have hxl := HLT.out
       refine ⟨⟨j + 1, _, xs ++ [.bool zr, a, b, .int .i64 zt, .int .i64 zo], by go_num, hlj, (hS.sub (List.sublist_cons_self _ _)).mono (KS5.out.and Cf) fun D w h => ⟨(k6.out _ _ h.1).1, ?_⟩⟩, by simp [intOf]; omega⟩
       rw [HT.out]
       have hz := (hS.own 1 rfl).1
       exact AQ.append (by simp at hz; omega) (k6.out _ _ h.1).2 (AQ.single (z := ⟨zr, zy, zn, zt, zo⟩) (cube_sets h.2).1 (cube_sets h.2).2)
     ·obtain rfl : rl.length = j := by omega
      rw [List.take_length] at hS
      go_wp2_with (first | ((with_reducible refine qB ?_); refine qc ?_ ?_ <;> intro h_ <;> go_prune))
      obtain ⟨K7, k7, ks7, hS2⟩ : ∃ K7 : (Nat -> Prop) -> World -> Prop, Hid (∀ D w, K7 D w -> (K5 D w /\ AQ w D xs rl) /\ Sl w D 5 (.slice Arv rl.length crv) rl.length xs) /\ AO K7 /\ St w0 wr (.box g 31 #[.int .i64 pr, .pointer (some ⟨q', 0, none⟩), .slice Au nu cu, .slice Arv rl.length crv, .slice A4 nl.length c4, .slice B4 gl.length d4] :: .box g2 31 #[.int .i64 0, .pointer none, .slice none 0 0, .slice none 0 0, .slice none 0 0, .slice none 0 0] :: .box g1 37 #[.int .i64 pr, .slice Al L.length cl, .int .u64 (ps : Nat), .slice Ar rl.length cr, .slice An nl.length cn, .slice Ag gl.length cg] :: F) K7 := ⟨_, Lib.hid fun _ _ h => h, (hS.freeze 0 (by decide) rfl).stable, hS.freeze 0 (by decide) rfl⟩
      clear hS
      have hS := hS2
      clear hS2
      have hJ0 : St w0 wr.drew (.box g 31 #[.int .i64 pr, .pointer (some ⟨q', 0, none⟩), .slice Au nu cu, .slice Arv rl.length crv, .slice A4 nl.length c4, .slice B4 gl.length d4] :: .box g2 31 (cond (false, false).1 #[.int .i64 pr, .pointer (some ⟨q', 0, none⟩), .slice Au nu cu, .slice Arv rl.length crv, .slice A4 nl.length c4, .slice B4 gl.length d4] #[.int .i64 0, .pointer none, .slice none 0 0, .slice none 0 0, .slice none 0 0, .slice none 0 0]) :: .box g1 37 #[.int .i64 pr, .slice Al L.length cl, .int .u64 (ps : Nat), .slice Ar rl.length cr, .slice An nl.length cn, .slice Ag gl.length cg] :: F) K7 := hS.drew
      have hRr := @SR.refl w0 (fun s => .box g 31 #[.int .i64 pr, .pointer (some ⟨q', 0, none⟩), .slice Au nu cu, .slice Arv rl.length crv, .slice A4 nl.length c4, .slice B4 gl.length d4] :: .box g2 31 (cond s.1 #[.int .i64 pr, .pointer (some ⟨q', 0, none⟩), .slice Au nu cu, .slice Arv rl.length crv, .slice A4 nl.length c4, .slice B4 gl.length d4] #[.int .i64 0, .pointer none, .slice none 0 0, .slice none 0 0, .slice none 0 0, .slice none 0 0]) :: .box g1 37 #[.int .i64 pr, .slice Al L.length cl, .int .u64 (ps : Nat), .slice Ar rl.length cr, .slice An nl.length cn, .slice Ag gl.length cg] :: F) K7
      have hRt := @SR.trans w0 (fun s => .box g 31 #[.int .i64 pr, .pointer (some ⟨q', 0, none⟩), .slice Au nu cu, .slice Arv rl.length crv, .slice A4 nl.length c4, .slice B4 gl.length d4] :: .box g2 31 (cond s.1 #[.int .i64 pr, .pointer (some ⟨q', 0, none⟩), .slice Au nu cu, .slice Arv rl.length crv, .slice A4 nl.length c4, .slice B4 gl.length d4] #[.int .i64 0, .pointer none, .slice none 0 0, .slice none 0 0, .slice none 0 0, .slice none 0 0]) :: .box g1 37 #[.int .i64 pr, .slice Al L.length cl, .int .u64 (ps : Nat), .slice Ar rl.length cr, .slice An nl.length cn, .slice Ag gl.length cg] :: F) K7
      have hN0 : ∀ _ : Nat, True := fun _ => trivial
      clear hS
      refine Ga (SR w0 (fun s => .box g 31 #[.int .i64 pr, .pointer (some ⟨q', 0, none⟩), .slice Au nu cu, .slice Arv rl.length crv, .slice A4 nl.length c4, .slice B4 gl.length d4] :: .box g2 31 (cond s.1 #[.int .i64 pr, .pointer (some ⟨q', 0, none⟩), .slice Au nu cu, .slice Arv rl.length crv, .slice A4 nl.length c4, .slice B4 gl.length d4] #[.int .i64 0, .pointer none, .slice none 0 0, .slice none 0 0, .slice none 0 0, .slice none 0 0]) :: .box g1 37 #[.int .i64 pr, .slice Al L.length cl, .int .u64 (ps : Nat), .slice Ar rl.length cr, .slice An nl.length cn, .slice Ag gl.length cg] :: F) K7) (fun _ _ => True) ((false, false)) hRr hRt [.i (.agg #[.int .i64 pr, .pointer (some ⟨q', 0, none⟩), .slice Au nu cu, .slice Arv rl.length crv, .slice A4 nl.length c4, .slice B4 gl.length d4]), .q g 1, .q q' 0, .b true, .s (fun v w => w.2.1 = true) fun v w w' h hb => hb.2.1 h, .b true] ?_ ⟨uR (h := fun w hW hN => (hW.1 hJ0).box 0 rfl), uF, uC (h := fun w hW hN => (hW.1 hJ0).shut 0 rfl 1 rfl), uB (h := fun w hW hN => Jm _ _), ?_, uA, trivial⟩ ?_
      ·first | assumption | (intro i; (try dsimp only); split <;> first | trivial | assumption | (left; assumption))
      ·refine uG fun b__ w hW hN hE K hK => ?_
       have e2 : b__.eval (.tmp 2) = .pointer (some ⟨g2, 0, none⟩) := hE 2
       have e70 := hE 70
       have hS := hW.1 hJ0
       exact BO rfl e2 e70 (hS.box 1 rfl) (by kernel_rfl) (by cases w.2.1 <;> rfl) (by simp [Value.oneCell']) fun w4 h1 hU => hK undef (w4, (true, w.2.2)) rfl ⟨⟨fun _ => hS.upd 1 rfl (.box g2 31 #[.int .i64 pr, .pointer (some ⟨q', 0, none⟩), .slice Au nu cu, .slice Arv rl.length crv, .slice A4 nl.length c4, .slice B4 gl.length d4]) (Bj hU) ⟨(hS.holds _ (List.mem_of_getElem? (i := 1) rfl)).1, h1⟩ fun _ e => .inl e, fun _ => rfl, id⟩, fun _ _ h => h⟩
      ·intro vs wz hW hT
       obtain ⟨e70, e71, e72, e73, z4, e3, -⟩ := hT
       have bx : (fun _ : Nat => True) 0 := trivial
       simp only [AF, Act.put, zz, ze]
       obtain ⟨_, hst⟩ := z4
       have hS : St w0 wz.1 (.box g 31 #[.int .i64 pr, .pointer (some ⟨q', 0, none⟩), .slice Au nu cu, .slice Arv rl.length crv, .slice A4 nl.length c4, .slice B4 gl.length d4] :: .box g2 31 (cond wz.2.1 #[.int .i64 pr, .pointer (some ⟨q', 0, none⟩), .slice Au nu cu, .slice Arv rl.length crv, .slice A4 nl.length c4, .slice B4 gl.length d4] #[.int .i64 0, .pointer none, .slice none 0 0, .slice none 0 0, .slice none 0 0, .slice none 0 0]) :: .box g1 37 #[.int .i64 pr, .slice Al L.length cl, .int .u64 (ps : Nat), .slice Ar rl.length cr, .slice An nl.length cn, .slice Ag gl.length cg] :: F) K7 := hW.1 hJ0
       rw [show wz.2.1 = true from hst] at hS
       dsimp only [cond] at hS
       clear hW hJ0 hRr hRt hN0 hst
       generalize wz.1 = wf at *
       simp only [show vs (3 : Nat) = _ from e3]
       go_wp2_with fail
       refine Jt Tryz.results52 rfl (hS.box 1 rfl) Tryz.underlying31 rfl (by kernel_rfl) rfl rfl ?_
       refine ⟨_, rfl, (hS.sub (F' := F) (((List.sublist_cons_self _ _).trans (List.sublist_cons_self _ _)).trans (List.sublist_cons_self _ _))).mono (KSt.out.and BX) fun D w h => ?_⟩
       have h := k7.out _ _ h
       have h2 := kc.out _ _ (k5 _ _ h.1.1)
       exact ⟨k0 _ _ (k5 _ _ h.1.1), _, _, _, _, _, rfl, kh.out _ _ h.1.1, h2.1, ⟨_, h.2, h.1.2⟩, h2.2.1, h2.2.2⟩
theorem Bp.fits {p : Ah} {L : List (Nat × Nat)} {R : Nat} (h : Bp p L R) : Fits p := by
 have hm : Be R < Bc := by
  have : 2 ^ (R + 1) <= 2 ^ 6 := Nat.pow_le_pow_right (by decide) (by have := h.r5; omega)
  unfold Be Bc; omega
 refine ⟨?_, fun z hz => ?_, by have := h.rlen; omega, fun z hz => ?_, by have := h.nlen; omega, fun z hz => ?_, by have := h.glen; omega⟩
 ·rw [<- h.start]; exact Nat.lt_of_le_of_lt Nat.and_le_right hm
 ·have := (h.rules z hz).2.2.2.2.2
  unfold Bc; omega
 ·have := (h.never z hz).1.2.2.2
  unfold Bc; omega
 ·have := (h.goal z hz).2.2.2
  unfold Bc; omega
theorem Bp.ok {p : Ah} {L : List (Nat × Nat)} {R : Nat} (h : Bp p L R) : p.Ok :=
 ⟨by have := h.rlen; omega, by have := h.nlen; omega, by have := h.glen; omega, fun L' e => by rw [h.links] at e; injection e with e; subst e; exact ⟨h.hok, by have := h.len; omega⟩⟩
end
section
open Go.RowKit
attribute [local go_sem ↓] Go.wp_at_zero Go.wp_at_succ
set_option maxRecDepth 20000
set_option exponentiation.threshold 5000
theorem isH_ptr {w : World} {D : Nat -> Prop} {v : Value} {o : Option (List (Nat × Nat))} (h : Gx w D v o) : ∃ p, v = .pointer p := by
 cases o with
 | none => exact ⟨_, h⟩
 | some L => obtain ⟨q, o, h, _⟩ := h; exact ⟨_, h⟩
theorem Bn.cells {w : World} {D : Nat -> Prop} {v : Value} {p : Ah} (h : Bn w D v p) : ∃ cs, v = .agg cs /\ cs.size = 6 /\ cs.all (·.oneCell') = true := by
 obtain ⟨lp, s, rv, nv, gv, rfl, h1, h2, h3, h4, h5⟩ := h
 obtain ⟨_, rfl⟩ := isH_ptr h1
 obtain ⟨_, _, _, rfl⟩ := h2.shape
 obtain ⟨_, _, rfl, _, _⟩ := h3.shape
 obtain ⟨_, _, rfl⟩ := Cp h4
 obtain ⟨_, _, rfl⟩ := Cp h5
 exact ⟨_, rfl, rfl, by simp [Value.oneCell']⟩
theorem Bi.cells {w : World} {D : Nat -> Prop} {v : Value} {p : Ah} (h : Bi w D v p) : ∃ cs, v = .agg cs /\ cs.size = 6 /\ cs.all (·.oneCell') = true := by
 obtain ⟨lv, rv, nv, gv, L, rfl, _, h1, h2, h3, h4⟩ := h
 obtain ⟨_, _, rfl, _, _⟩ := h1.shape
 obtain ⟨_, _, rfl, _, _⟩ := h2.shape
 obtain ⟨_, _, rfl, _, _⟩ := Sl.shape (h3 : Sl _ _ _ _ _ _)
 obtain ⟨_, _, rfl, _, _⟩ := Sl.shape (h4 : Sl _ _ _ _ _ _)
 exact ⟨_, rfl, rfl, by simp [Value.oneCell']⟩
theorem ret_cct {P : Program} {fn : Func} {p p2 t3 : Tmp} {ty ty2 : TypeId} {R : Ending -> World -> Prop} {a : Act} {w : World} {g g2 : Nat} {t t2 : TypeId} {cs cs2 : Array Value} {d d2 : TypeDesc} {v : Value} (h : fn.results = #[.cell p ty, .cell p2 ty2, .tmp t3]) (hp : a.eval (.tmp p) = .pointer (some ⟨g, 0, none⟩)) (hb : Co w g t cs)
  (hu : P.underlying ty = some d) (hd : (match d with | .struct _ | .array _ _ => true | _ => false) = true) (hi : (P.info? ty).map (·.size) = some cs.size)
  (hp2 : a.eval (.tmp p2) = .pointer (some ⟨g2, 0, none⟩)) (hb2 : Co w g2 t2 cs2) (hu2 : P.underlying ty2 = some d2) (hd2 : (match d2 with | .struct _ | .array _ _ => true | _ => false) = true) (hi2 : (P.info? ty2).map (·.size) = some cs2.size)
  (hv : a.eval (.tmp t3) = v) (hdf : a.defers = []) (hR : R (.returned (.tuple #[.agg cs, .agg cs2, v])) w) : bodyPost P fn R .ret a w := by
 have hr : (results fn a.tmps).run P w = .ok (.tuple #[.agg cs, .agg cs2, v]) w := by
  have hp' : a.tmps[p]?.getD undef = .pointer (some ⟨g, 0, none⟩) := by simpa [Act.eval] using hp
  have hp2' : a.tmps[p2]?.getD undef = .pointer (some ⟨g2, 0, none⟩) := by simpa [Act.eval] using hp2
  have hv' : a.tmps[t3]?.getD undef = v := by simpa [Act.eval] using hv
  simp [results, h, hp', hp2', hv', asAddr, run_loadVar_row w g t ty cs (0, 0) d hb hu hd hi, run_loadVar_row w g2 t2 ty2 cs2 (0, 0) d2 hb2 hu2 hd2 hi2]
 exact bodyPost_ret hr hdf hR
end
section
open Go.RowKit
attribute [local go_sem ↓] Go.wp_at_zero Go.wp_at_succ
set_option maxRecDepth 20000
set_option exponentiation.threshold 5000
theorem tc_role {L : List (Nat × Nat)} (hH : Fd L) {a b : Nat} (h : TC L a b) : (1 <= a /\ a < 64) /\ 1 <= b /\ b < 64 := by
 obtain ⟨y, h1, _⟩ := h.first
 obtain ⟨z, h2, _⟩ := h.last
 exact ⟨(hH.role _ h1).1, (hH.role _ h2).2⟩
theorem tb_senR {L : List (Nat × Nat)} {r : Int} {i : Nat} : (senR L r).testBit i = true ↔ i < 64 /\ Ej L (i : Nat) r := by
 unfold senR senTo; exact Bf ..
theorem sen_same {L : List (Nat × Nat)} (hH : Fd L) (r : Int) : (if 1 <= r /\ r <= 63 then senM L r.toNat else 0) = senR L r := AZ fun i => by
 rw [tb_senR]
 split
 ·rename_i hr
  rw [Fi hH.inr]
  constructor
  ·rintro (rfl | h)
   ·exact ⟨by omega, _, r.toNat, rfl, by omega, by omega, by omega, .inl rfl⟩
   ·have := tc_role hH h
    exact ⟨by omega, i, r.toNat, rfl, by omega, by omega, by omega, .inr h⟩
  ·rintro ⟨_, a, b, h1, h2, _, _, h3⟩
   obtain rfl : i = a := by omega
   obtain rfl : r.toNat = b := by omega
   exact h3
 ·rename_i hr
  rw [Nat.zero_testBit]
  constructor
  ·intro h; cases h
  ·rintro ⟨_, a, b, h1, h2, _, h3, _⟩
   omega
theorem senR_lt (L : List (Nat × Nat)) (r : Int) : senR L r < Bc := by rw [BC]; exact FY _ _
end
section
open Go.RowKit
attribute [local go_sem ↓] Go.wp_at_zero Go.wp_at_succ
set_option maxRecDepth 20000
set_option exponentiation.threshold 5000
noncomputable def depTo (L : List (Nat × Nat)) (N k : Nat) : Nat := maskOf 64 fun i => ∃ r : Nat, 1 <= r /\ r < k /\ N.testBit r = true /\ (senR L (r : Nat)).testBit i = true
theorem depTo_lt (L : List (Nat × Nat)) (N k : Nat) : depTo L N k < Bc := by rw [BC]; exact FY _ _
theorem senR_64 {L : List (Nat × Nat)} {r : Int} {i : Nat} (h : (senR L r).testBit i = true) : i < 64 := (tb_senR.1 h).1
theorem depTo_step (L : List (Nat × Nat)) (N k : Nat) (hk : 1 <= k) : depTo L N (k + 1) = if N.testBit k = true then depTo L N k ||| senR L (k : Nat) else depTo L N k := AZ fun i => by
 have key : (depTo L N (k + 1)).testBit i = true ↔ (depTo L N k).testBit i = true \/ N.testBit k = true /\ (senR L (k : Nat)).testBit i = true := by
  unfold depTo
  rw [Bf, Bf]
  constructor
  ·rintro ⟨h, r, h1, h2, h3, h4⟩
   by_cases e : r = k
   ·subst e; exact .inr ⟨h3, h4⟩
   ·exact .inl ⟨h, r, h1, by omega, h3, h4⟩
  ·rintro (⟨h, r, h1, h2, h3, h4⟩ | ⟨h1, h2⟩)
   ·exact ⟨h, r, h1, by omega, h3, h4⟩
   ·exact ⟨senR_64 h2, k, hk, by omega, h1, h2⟩
 rw [key]
 split
 ·rename_i h; rw [Cx]; simp [h]
 ·rename_i h; simp [h]
theorem depTo_one (L : List (Nat × Nat)) (N : Nat) : depTo L N 1 = 0 := AZ fun i => by
 unfold depTo
 rw [Bf, Nat.zero_testBit]
 constructor
 ·rintro ⟨_, r, h1, h2, _⟩; omega
 ·intro h; cases h
theorem depTo_full {L : List (Nat × Nat)} (hH : Fd L) {N R : Nat} (hR : R <= 63) (hb : ∀ i, N.testBit i = true -> i <= R) : depTo L N (R + 1) = depM L N := AZ fun i => by
 unfold depTo
 rw [Bf, Gm hH.inr]
 constructor
 ·rintro ⟨_, r, h1, h2, h3, h4⟩
  rw [<- sen_same hH, if_pos (by omega), Int.toNat_natCast] at h4
  exact ⟨r, h1, by omega, h3, h4⟩
 ·rintro ⟨r, h1, h2, h3, h4⟩
  have h5 : (senR L (r : Nat)).testBit i = true := by rw [<- sen_same hH, if_pos (by omega), Int.toNat_natCast]; exact h4
  exact ⟨senR_64 h5, r, h1, by have := hb r h3; omega, h3, h5⟩
theorem BZ {w0 : World} {D : Nat -> Prop} {v : Value} {R : Nat} {L : List (Nat × Nat)} {st : Nat} {rl : List AM} {nl gl : List (Nat × Nat)} (h : Bi w0 D v ⟨R, some L, st, rl, nl, gl⟩) :
  ∃ Al cl Ar cr An cn Ag cg, v = .agg #[.int .i64 (R : Nat), .slice Al L.length cl, .int .u64 (st : Nat), .slice Ar rl.length cr, .slice An nl.length cn, .slice Ag gl.length cg] := by
 obtain ⟨lv, rv, nv, gv, L', rfl, hl', h1, h2, h3, h4⟩ := h
 injection hl' with e; subst e
 obtain ⟨Al, cl, rfl, _, _⟩ := h1.shape
 obtain ⟨Ar, cr, rfl, _, _⟩ := h2.shape
 obtain ⟨An, cn, rfl, _, _⟩ := Sl.shape (h3 : Sl _ _ _ _ _ _)
 obtain ⟨Ag, cg, rfl, _, _⟩ := Sl.shape (h4 : Sl _ _ _ _ _ _)
 exact ⟨_, _, _, _, _, _, _, _, rfl⟩
theorem C4 {w0 : World} {D : Nat -> Prop} {lv sv rv nv gv : Value} {R : Nat} {L : List (Nat × Nat)} {st : Nat} {rl : List AM} {nl gl : List (Nat × Nat)} (h : Bi w0 D (.agg #[.int .i64 (R : Nat), lv, sv, rv, nv, gv]) ⟨R, some L, st, rl, nl, gl⟩) :
  Sl w0 D 2 lv L.length (Af L) /\ Sl w0 D 5 rv rl.length (B6 rl) /\ Sl w0 D 2 nv nl.length (Bb nl) /\ Sl w0 D 2 gv gl.length (Bb gl) := by
 obtain ⟨lv, rv, nv, gv, L', e, hl', h1, h2, h3, h4⟩ := h
 injection hl' with e2; subst e2
 injection e with e; injection e with e; injection e with _ e; injection e with a e; injection e with _ e; injection e with b e; injection e with c e; injection e with d _
 subst a b c d
 exact ⟨h1, h2, h3, h4⟩
set_option maxHeartbeats 1000000 in
theorem rdep_any {w0 : World} {D : Nat -> Prop} {v : Value} {R st : Nat} {L : List (Nat × Nat)} {rl : List AM} {nl gl : List (Nat × Nat)} {y n : Nat} (hp : Bi w0 D v ⟨R, some L, st, rl, nl, gl⟩) (hR : R <= 63) (hH : Fd L) (hlen : L.length <= 1000000) (hy : y < Bc) (hn : n < Bc) (hb : ∀ i, (y ||| n).testBit i = true -> i <= R) :
  Calls Tryz.prog 114 #[v, .agg #[.int .u64 (y : Nat), .int .u64 (n : Nat)]] w0 (AP (fun x _ => x = .int .u64 (depC L (y, n) : Nat)) w0) := by
 obtain ⟨Al, cl, Ar, cr, An, cn, Ag, cg, rfl⟩ := BZ hp
 obtain ⟨K, k1, hS⟩ : ∃ K : (Nat -> Prop) -> World -> Prop, (∀ D w, K D w -> Sl w D 2 (.slice Al L.length cl) L.length (Af L)) /\ St w0 w0 [] K := ⟨_, fun _ _ h => (C4 h).1, St.start Bo hp⟩
 have HJ := Lib.hid (fun D w (h : K D w) (r : Int) => rsen_any (k1 D w h) hH.inr hlen r)
 have HFu := Lib.hid (depTo_full hH hR hb)
 clear hp hb hH
 go_enter Tryz.func114, Tryz.ntmps114
 go_wp2_with (first
  | ((with_reducible refine qA 2 ?_); refine Az hS rfl _ _ rfl (.agg #[.int .i64 (R : Nat), .slice Al L.length cl, .int .u64 (st : Nat), .slice Ar rl.length cr, .slice An nl.length cn, .slice Ag gl.length cg]) _ rfl rfl ?_; clear hS; intro g2 w_ hS; (try simp only [Act.put, Act.eval, zz, Value.cells] at hS))
  | ((with_reducible refine qA 3 ?_); refine Az hS rfl _ _ rfl (.agg #[.int .u64 (y : Nat), .int .u64 (n : Nat)]) _ rfl rfl ?_; clear hS; intro g3 w_ hS; (try simp only [Act.put, Act.eval, zz, Value.cells] at hS)))
 go_loopw [5, 6] (fun m i wr => ∃ k : Nat, 1 <= k /\ k <= R + 1 /\ i = .int .i64 (k : Nat) /\ m = .int .u64 (depTo L (y ||| n) k : Nat) /\ St w0 wr (.box g3 94 #[.int .u64 (y : Nat), .int .u64 (n : Nat)] :: .box g2 37 #[.int .i64 (R : Nat), .slice Al L.length cl, .int .u64 (st : Nat), .slice Ar rl.length cr, .slice An nl.length cn, .slice Ag gl.length cg] :: []) K) (fun _ i _ => R + 1 - (intOf i).toNat)
 case atStart => exact ⟨1, by omega, by omega, rfl, by rw [depTo_one]; rfl, hS⟩
 case round =>
  clear hS
  obtain ⟨k, hk1, hk2, rfl, rfl, hS⟩ := hrel
  have hM : depTo L (y ||| n) k < Bc := depTo_lt _ _ _
  by_cases hk : k <= R
  ·have HSt := Lib.hid (depTo_step L (y ||| n) k hk1)
   have hJ2 : senR L (k : Nat) < Bc := senR_lt _ _
   generalize depTo L (y ||| n) k = M at *
   cases hbit : (y ||| n).testBit k
   ·rw [hbit] at HSt
    have HE := Lib.hid (HSt.out.trans (if_neg (by simp)))
    go_wp2_with (first
     | ((with_reducible refine qK ?_); refine qC hS ?_)
     | ((with_reducible refine qA 17 ?_); refine DX rfl _ _ _ _ rfl _ _ rfl rfl hy hn ?_)
     | ((with_reducible refine qb .shr ?_); refine D7 rfl _ _ _ _ rfl _ _ rfl rfl (by omega) ?_)
     | ((with_reducible refine qb .rem ?_); refine D8 rfl _ _ _ _ rfl _ rfl rfl ?_)
     | ((with_reducible refine qA 21 ?_); refine Cz rfl _ _ _ _ rfl _ _ rfl rfl hbit ?_)
     | ((with_reducible refine qB ?_); refine qc ?_ ?_ <;> intro h_ <;> go_prune))
    exact ⟨⟨k + 1, by omega, by omega, by go_num, by rw [HE.out], hS⟩, by simp [intOf]; omega⟩
   ·rw [hbit] at HSt
    have HE := Lib.hid (HSt.out.trans (if_pos rfl))
    go_wp2_with (first
     | ((with_reducible refine qK ?_); refine qC hS ?_)
     | ((with_reducible refine qA 17 ?_); refine DX rfl _ _ _ _ rfl _ _ rfl rfl hy hn ?_)
     | ((with_reducible refine qA 27 ?_); refine DX rfl _ _ _ _ rfl _ _ rfl rfl hM hJ2 ?_)
     | ((with_reducible refine qb .shr ?_); refine D7 rfl _ _ _ _ rfl _ _ rfl rfl (by omega) ?_)
     | ((with_reducible refine qb .rem ?_); refine D8 rfl _ _ _ _ rfl _ rfl rfl ?_)
     | ((with_reducible refine qA 21 ?_); refine Cz rfl _ _ _ _ rfl _ _ rfl rfl hbit ?_)
     | (go_at_call 136; refine (HJ.out _ _ hS.ro _).mono ?_; rintro r_ w2 ⟨_, rfl, rfl, hb2⟩; replace hS := hS.ext hb2; clear hb2)
     | ((with_reducible refine qB ?_); refine qc ?_ ?_ <;> intro h_ <;> go_prune))
    exact ⟨⟨k + 1, by omega, by omega, by go_num, by rw [HE.out], hS⟩, by simp [intOf]; omega⟩
  ·obtain rfl : k = R + 1 := by omega
   go_wp2_with (first | ((with_reducible refine qB ?_); refine qc ?_ ?_ <;> intro h_ <;> go_prune) | ((with_reducible refine qK ?_); refine qC hS ?_))
   go_ret
   exact AP.mk (by rw [HFu.out]; rfl) hS.below
theorem CX.ruleS {L : List (Nat × Nat)} {p : Ah} {B N i j : Nat} (h : CX L p B N i j) {r : AM} (hi : p.rules[i]? = some r) (h1 : r.revoke = true \/ Bk B r.target = false) : CX L p B N (i + 1) j :=
 ⟨h.low, h.sub, h.goal, fun x hx a b => (Di hi hx).elim (fun hx => h.rules x hx a b) fun e => (by
  subst e
  rcases h1 with h1 | h1
  ·rw [h1] at a; cases a
  ·rw [b] at h1; cases h1), h.never⟩
theorem CX.neverS {L : List (Nat × Nat)} {p : Ah} {B N i j : Nat} (h : CX L p B N i j) {c : Nat × Nat} (hj : p.never[j]? = some c) (h2 : (depC L c &&& B != 0) = false) : CX L p B N i (j + 1) :=
 ⟨h.low, h.sub, h.goal, h.rules, fun x hx a => (Di hj hx).elim (fun hx => h.never x hx a) fun e => by
  subst e
  rw [a] at h2; cases h2⟩
theorem mask_le {R y m : Nat} (hm : m = Be R) (h : y &&& m = y) : ∀ i, y.testBit i = true -> i <= R := fun i hi => by
 rw [<- h, Nat.testBit_and, hm] at hi
 have h2 : (Be R).testBit i = true := by
  cases e : (Be R).testBit i with
  | true => rfl
  | false => rw [e] at hi; simp at hi
 rcases Nat.lt_or_ge R i with h3 | h3
 ·have : Be R < 2 ^ i := Nat.lt_of_lt_of_le (by unfold Be; have := Nat.two_pow_pos (R + 1); omega) (Nat.pow_le_pow_right (by decide) h3)
  rw [Nat.testBit_lt_two_pow this] at h2; cases h2
 ·exact h3
theorem or_le {R y n : Nat} (h1 : y &&& Be R = y) (h2 : n &&& Be R = n) : ∀ i, (y ||| n).testBit i = true -> i <= R := fun i hi => (Cx.1 hi).elim (mask_le rfl h1 i) (mask_le rfl h2 i)
end
end Go.Proofs.YtjjhcdkamohgnaaGreatDoor
