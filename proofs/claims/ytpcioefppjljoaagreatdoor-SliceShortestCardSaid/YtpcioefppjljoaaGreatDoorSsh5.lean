/-
  What the statement needs, part 5.
-/
import Derived.Maps.Views
import Derived.Laws.BytesArg
import Derived.StringKeys
import Derived.Test.YtpcioefppjljoaaGreatDoorSsh4
namespace Go.Proofs.YtpcioefppjljoaaGreatDoor
section
open Go.RowKit
attribute [local go_sem ↓] Go.wp_at_zero Go.wp_at_succ
set_option maxRecDepth 20000
set_option exponentiation.threshold 5000
set_option maxHeartbeats 4000000 in
theorem useless_any {w0 : World} {D : Nat -> Prop} {v : Value} {p : Ac} (hp : Ba w0 D v p) (hP : p.Ok) (hT : BH w0) : Calls Tryz.prog 82 #[v] w0 fun e w' => ∃ u, e = .returned u /\ St w0 w' [.own u 3 1 (useN p).length (AX (useN p))] fun _ _ => True := by
 obtain ⟨R, lk, st, rl, nl, gl⟩ := p
 have HP := Lib.hid hP
 have hP1 := hP.rules
 dsimp only at hP1
 clear hP
 obtain ⟨lp, s, rv, nv, gv, rfl, h1, h2, h3, h4, h5⟩ := hp
 dsimp only at h1 h2 h3 h4 h5 ⊢
 obtain ⟨Cs, ns, cs, rfl⟩ := h2.shape
 obtain ⟨Ar, cr, rfl, _, _⟩ := h3.shape
 obtain ⟨An, cn, rfl, _, _⟩ := h4.shape
 obtain ⟨Ag, cg, rfl, _, _⟩ := h5.shape
 obtain ⟨K, kp, kho, ks, kr, kt, hS⟩ : ∃ K : (Nat -> Prop) -> World -> Prop, (∀ D w, K D w -> Ba w D (.agg #[.int .i64 R, lp, .slice Cs ns cs, .slice Ar rl.length cr, .slice An nl.length cn, .slice Ag gl.length cg]) ⟨R, lk, st, rl, nl, gl⟩) /\ (∀ D w, K D w -> EH w D lp lk) /\ (∀ D w, K D w -> A7 w D (.agg #[.slice Cs ns cs]) st) /\ (∀ D w, K D w -> Bm w D (.slice Ar rl.length cr) rl) /\ (∀ D w, K D w -> BH w) /\ St w0 w0 [] K :=
  ⟨fun D w => ((EH w D lp lk /\ A7 w D (.agg #[.slice Cs ns cs]) st) /\ Bm w D (.slice Ar rl.length cr) rl /\ AH w D (.slice An nl.length cn) nl /\ AH w D (.slice Ag gl.length cg) gl) /\ (BH w /\ D 0), fun _ _ h => ⟨_, _, _, _, _, rfl, h.1.1.1, h.1.1.2, h.1.2.1, h.1.2.2.1, h.1.2.2.2⟩, fun _ _ h => h.1.1.1, fun _ _ h => h.1.1.2, fun _ _ h => h.1.2.1, fun _ _ h => h.2.1,
   St.start (D := fun _ => True) (((BB.and A5).and (B6.and (AW.and AW))).and Cd) ⟨⟨⟨BB D _ w0 w0 h1 (Nat.le_refl _) (fun _ _ _ _ h => h) fun _ _ _ _ => trivial, h2.imp fun _ _ _ => trivial⟩, B6 D _ w0 w0 h3 (Nat.le_refl _) (fun _ _ _ _ h => h) fun _ _ _ _ => trivial, h4.imp fun _ _ _ => trivial, h5.imp fun _ _ _ => trivial⟩, hT, trivial⟩⟩
 clear h1 h2 h3 h4 h5 hT
 have KS := Lib.hid hS.stable
 obtain ⟨e, he⟩ : ∃ e, e = checkE ⟨R, lk, st, rl, nl, gl⟩ := ⟨_, rfl⟩
 have HE := Lib.hid he
 clear he
 by_cases h0 : e = 0
 ·subst h0
  cases lk with
  | none => have := HE.out; cases this
  | some L =>
   have HH := Lib.hid (HP.out.links L rfl).1
   have HTG := Lib.hid fun (r : AP) (hr : r ∈ rl) => target_nat HE.out.symm rfl (r := r) hr
   have HUS : Hid (useN ⟨R, some L, st, rl, nl, gl⟩ = uslN (closM L (uppM L ⟨R, some L, st, rl, nl, gl⟩)) rl rl.length) := Lib.hid (by unfold useN; rw [if_pos HE.out.symm])
   rw [HUS.out]
   obtain ⟨q, o, rfl, -⟩ := id (kho _ _ hS.ro)
   have kh : ∀ D w, K D w -> IsH w D (.pointer (some ⟨q, 0, none⟩)) L := fun D w h => kho D w h
   go_enter Tryz.func82, Tryz.ntmps82
   go_wp2_with (first
    | ((with_reducible refine qA 1 ?_); refine AE hS rfl _ _ rfl (.agg #[.int .i64 R, .pointer (some ⟨q, 0, none⟩), .slice Cs ns cs, .slice Ar rl.length cr, .slice An nl.length cn, .slice Ag gl.length cg]) _ rfl rfl ?_; clear hS; intro g1 w_ hS; (try simp only [Act.put, Act.eval, zz, Value.cells] at hS))
    | ((with_reducible refine qA 3 ?_); refine qa hS #[.slice none 0 0] ?_; clear hS; intro g3 w_ hS)
    | ((with_reducible refine qB ?_); refine qc ?_ ?_ <;> intro h_ <;> go_prune)
    | ((with_reducible refine qK ?_); refine qL hS Tryz.underlying31 ?_)
    | ((with_reducible refine qk 27 ?_); first | (refine Aa hS 0 rfl _ _ rfl _ _ rfl _ _ rfl _ (by first | rfl | assumption) Tryz.underlying27 rfl (by kernel_rfl) ?_) | (refine Aa hS 1 rfl _ _ rfl _ _ rfl _ _ rfl _ (by first | rfl | assumption) Tryz.underlying27 rfl (by kernel_rfl) ?_) | (refine Aa hS 2 rfl _ _ rfl _ _ rfl _ _ rfl _ (by first | rfl | assumption) Tryz.underlying27 rfl (by kernel_rfl) ?_) | (refine Aa hS 3 rfl _ _ rfl _ _ rfl _ _ rfl _ (by first | rfl | assumption) Tryz.underlying27 rfl (by kernel_rfl) ?_) | (refine Aa hS 4 rfl _ _ rfl _ _ rfl _ _ rfl _ (by first | rfl | assumption) Tryz.underlying27 rfl (by kernel_rfl) ?_) | (refine Aa hS 5 rfl _ _ rfl _ _ rfl _ _ rfl _ (by first | rfl | assumption) Tryz.underlying27 rfl (by kernel_rfl) ?_))
    | ((with_reducible refine qM ?_); (first | refine qS hS ?_ | refine qT hS ?_); clear hS; intro w_ hS; (try simp only [Act.put, Act.eval, zz, Value.cells] at hS))
    | (go_at_call 39; refine (Do (kp _ _ hS.ro) HP.out (kt _ _ hS.ro)).mono ?_; rw [<- HE.out]; rintro r_ w_ ⟨_, rfl, rfl, hb_⟩; replace hS := hS.ext hb_; clear hb_))
   go_loopg [4] (2 * H8 st rl + 1) (fun k mv wr => ∃ (mb : Bool) (u : Value) (N : Nat), mv = .bool mb /\ 2 * H8 N rl + (if mb = true then 1 else 0) <= k /\ Hid (ULow L ⟨R, some L, st, rl, nl, gl⟩ N /\ (mb = false -> ∀ r ∈ rl, r.revoke = false -> (r.yes &&& closM L N == r.yes) = true -> B5 N r.target = true)) /\ St w0 wr [.box g3 27 #[u], .box g1 31 #[.int .i64 R, .pointer (some ⟨q, 0, none⟩), .slice Cs ns cs, .slice Ar rl.length cr, .slice An nl.length cn, .slice Ag gl.length cg]] (fun D w => K D w /\ A7 w D (.agg #[u]) N))
   case atStart => exact ⟨true, _, st, rfl, by simp, Lib.hid ⟨⟨CI.refl _, fun T hT => hT.start⟩, nofun⟩, hS.mono (KS.out.and A5) fun D w h => ⟨h, ks _ _ h⟩⟩
   case round =>
    clear hS
    obtain ⟨mb, u, B, rfl, hgk, HI, hS⟩ := hrel
    have HGK := Lib.hid hgk
    clear hgk
    cases mb
    ·have HU : Hid (B = uppM L ⟨R, some L, st, rl, nl, gl⟩) := Lib.hid (Gj.eq ⟨⟨HI.out.1.1, HI.out.2 rfl⟩, HI.out.1.2⟩)
     obtain ⟨N0, rfl⟩ : ∃ N0, N0 = B := ⟨_, rfl⟩
     clear HI HGK
     go_wp2_with (first | ((with_reducible refine qK ?_); refine qC hS ?_))
     have hSn := hS.nil 3 1
     clear hS
     have hS := hSn
     clear hSn
     go_loopw [7, 51] (fun kw i wr => ∃ (j : Nat) (kv : Value), i = .int .i64 (j : Nat) /\ kv = kw /\ j <= rl.length /\ St w0 wr (.own kv 3 1 (uslN (closM L N0) rl j).length (AX (uslN (closM L N0) rl j)) :: [.box g3 27 #[u], .box g1 31 #[.int .i64 R, .pointer (some ⟨q, 0, none⟩), .slice Cs ns cs, .slice Ar rl.length cr, .slice An nl.length cn, .slice Ag gl.length cg]]) (fun D w => K D w /\ A7 w D (.agg #[u]) N0)) (fun _ i _ => rl.length - (intOf i).toNat)
     case atStart => exact ⟨0, _, rfl, rfl, by omega, hS⟩
     case round =>
      clear hS
      obtain ⟨j, kv, rfl, rfl, hj, hS⟩ := hrel
      by_cases hlj : j < rl.length
      ·obtain ⟨b, o2, y, n, rfl, _, hb, c0, c1, c2, c3, c4, hy, hn⟩ := (kr _ _ hS.ro.1).at_ hlj
       obtain ⟨Ay, my, cy, rfl⟩ := hy.shape
       obtain ⟨Am, mn, cm, rfl⟩ := hn.shape
       have HTN := Lib.hid (uslN_step (C := closM L N0) (Bz AL hlj))
       have HLK : Hid ((uslN (closM L N0) rl j).length <= 100000) := Lib.hid (by unfold uslN; rw [List.length_map]; exact Nat.le_trans (List.length_filter_le _ _) (by rw [List.length_range]; omega))
       obtain ⟨KC, kc, hS2⟩ : ∃ KC : (Nat -> Prop) -> World -> Prop, Hid (∀ D w, KC D w -> K D w /\ A7 w D (.agg #[u]) N0 /\ A7 w D (.agg #[.slice Ay my cy]) (rl.getD j AL).yes /\ A7 w D (.agg #[.slice Am mn cm]) (rl.getD j AL).no) /\ St w0 wr (.own kv 3 1 (uslN (closM L N0) rl j).length (AX (uslN (closM L N0) rl j)) :: [.box g3 27 #[u], .box g1 31 #[.int .i64 R, .pointer (some ⟨q, 0, none⟩), .slice Cs ns cs, .slice (some ⟨b, o2, none⟩) rl.length cr, .slice An nl.length cn, .slice Ag gl.length cg]]) KC := ⟨_, Lib.hid fun D w h => ⟨h.1.1, h.1.2, h.2.1, h.2.2⟩, hS.add (D := Da _) (A5.and A5) ⟨hy, hn⟩ fun _ h _ => h⟩
       clear hS hy hn
       have hS := hS2
       clear hS2
       generalize rl.getD j AL = z at *
       obtain ⟨rv, ry, rn, rt, ro⟩ := z
       dsimp only at kc c0 c1 c2 c3 c4 HTN
       obtain ⟨b2, hb2⟩ : ∃ b, b = (ry &&& closM L N0 == ry) := ⟨_, rfl⟩
       have HB2 := Lib.hid hb2
       rw [<- hb2] at HTN
       clear hb2
       generalize hKN : uslN (closM L N0) rl j = KN at *
       clear hKN
       cases rv
       ·cases b2
        ·obtain ⟨b2, hb2'⟩ : ∃ b, b = false := ⟨_, rfl⟩
         rw [<- hb2'] at HB2
         have hkl := HLK.out
         go_wp2_with (first
          | ((with_reducible refine qB ?_); refine qc ?_ ?_ <;> intro h_ <;> go_prune)
          | ((with_reducible refine qA 55 ?_); refine BigFrame.wpList_want rfl fun _ hK => AQ (cs := [.bool _, .slice Ay my cy, .slice Am mn cm, .int .i64 rt, .int .i64 ro]) rfl rfl (EO c0 c1 c2 c3 c4) Tryz.underlying83 rfl (by kernel_rfl) (hK _ _ ?_))
          | ((with_reducible refine qA 9 ?_); refine qa hS #[.bool false, .slice none 0 0, .slice none 0 0, .int .i64 0, .int .i64 0] ?_; clear hS; intro g9 w_ hS)
          | ((with_reducible refine qM ?_); (first | refine qS hS ?_ | refine qT hS ?_); clear hS; intro w_ hS; (try simp only [Act.put, Act.eval, zz, Value.cells] at hS)))
         refine BF [.q g9 0, .b false, .b true, .b true, .q g9 1, .q g9 1, .i (.agg #[.slice Ay my cy]), .q g1 1, .q q 0, .i (.agg #[u]), .s (fun v w => A7 w (fun _ => True) v (closM L N0)) fun v w w' h hb => h.ext hb, .i (.bool b2), .i (.bool (!b2)), .i (.bool (!b2))] ⟨uF, uC (h := fun w hW hN => ((hS.ext hW).box 0 rfl).cell 0), uU, uM, uF, uF, ?_, uF, uC (h := fun w hW hN => ((hS.ext hW).box 3 rfl).cell 1), uR (h := fun w hW hN => (hS.ext hW).box 2 rfl), ?_, ?_, uU, uP, trivial⟩ ?_
         ·refine uT fun b__ w hW hE K hK => ?_
          have e61 := hE 61
          exact Ds rfl e61 ((hS.ext hW).box 0 rfl) rfl Tryz.underlying27 (by kernel_rfl) (by kernel_rfl) (hK _ _ rfl (Below.refl _ _))
         ·refine uT fun b__ w hW hE K hK => ?_
          have e64 := hE 64
          have e65 := hE 65
          exact Az rfl (by kernel_rfl) (by simp only [List.map_cons, List.map_nil, e64, e65]) (D3 (kh _ _ (kc.out _ _ (hS.ext hW).ro).1) (kt _ _ (kc.out _ _ (hS.ext hW).ro).1) HH.out (kc.out _ _ (hS.ext hW).ro).2.1) fun v w' h hb => hK v w' (h.imp fun _ _ _ => trivial) hb
         ·refine uT fun b__ w hW hE K hK => ?_
          have e62 := hE 62
          have e66 := hE 66
          exact Az rfl (by kernel_rfl) (by simp only [List.map_cons, List.map_nil, e62]) (CP _ _ ry (closM L N0) _ _ _ (kc.out _ _ (hS.ext hW).ro).2.2.1 e66) fun v w' h hb => hK v w' (h.trans (by rw [HB2.out])) hb
         ·intro vs wz hW hT
          obtain ⟨e56, e57, e58, e59, e60, e61, e62, e63, e64, e65, e66, e67, e68, e69, -⟩ := hT
          have bx : (fun _ : Nat => True) 0 := trivial
          simp only [AC, Act.put, zz, ze]
          rw [hb2'] at e69
          rw [e69]
          replace hS := hS.ext hW
          clear hW
          go_wp2_with (first
           | ((with_reducible refine qA 72 ?_); refine Cq hS 1 rfl rfl _ _ _ _ rfl rfl Dh kv KN.length (AX KN) (.int .i64 (j : Nat)) #[.int .i64 (j : Nat)] rfl (by kernel_rfl) rfl rfl rfl rfl (by intro u hu; simp at hu; subst hu; rfl) (by omega) (by omega) ?_; clear hS; intro z_ kv' w_ hS; (try simp only [Act.put, Act.eval, zz, Value.cells] at hS)))
          refine ⟨⟨j + 1, _, by go_num, rfl, hlj, ?_⟩, by simp [intOf]; omega⟩
          rw [HTN.out.trans (if_pos rfl), show (KN ++ [(j : Int)]).length = KN.length + 1 by simp, show AX (KN ++ [(j : Int)]) = AX KN ++ [.int .i64 (j : Nat)] by simp [AX]]
          exact (hS.sub (List.sublist_cons_self _ _)).mono (KS.out.and A5) fun D w h => ⟨(kc.out _ _ h).1, (kc.out _ _ h).2.1⟩
        ·obtain ⟨b2, hb2'⟩ : ∃ b, b = true := ⟨_, rfl⟩
         rw [<- hb2'] at HB2
         go_wp2_with (first
          | ((with_reducible refine qB ?_); refine qc ?_ ?_ <;> intro h_ <;> go_prune)
          | ((with_reducible refine qA 55 ?_); refine BigFrame.wpList_want rfl fun _ hK => AQ (cs := [.bool _, .slice Ay my cy, .slice Am mn cm, .int .i64 rt, .int .i64 ro]) rfl rfl (EO c0 c1 c2 c3 c4) Tryz.underlying83 rfl (by kernel_rfl) (hK _ _ ?_))
          | ((with_reducible refine qA 9 ?_); refine qa hS #[.bool false, .slice none 0 0, .slice none 0 0, .int .i64 0, .int .i64 0] ?_; clear hS; intro g9 w_ hS)
          | ((with_reducible refine qM ?_); (first | refine qS hS ?_ | refine qT hS ?_); clear hS; intro w_ hS; (try simp only [Act.put, Act.eval, zz, Value.cells] at hS)))
         refine BF [.q g9 0, .b false, .b true, .b true, .q g9 1, .q g9 1, .i (.agg #[.slice Ay my cy]), .q g1 1, .q q 0, .i (.agg #[u]), .s (fun v w => A7 w (fun _ => True) v (closM L N0)) fun v w w' h hb => h.ext hb, .i (.bool b2), .i (.bool (!b2)), .i (.bool (!b2))] ⟨uF, uC (h := fun w hW hN => ((hS.ext hW).box 0 rfl).cell 0), uU, uM, uF, uF, ?_, uF, uC (h := fun w hW hN => ((hS.ext hW).box 3 rfl).cell 1), uR (h := fun w hW hN => (hS.ext hW).box 2 rfl), ?_, ?_, uU, uP, trivial⟩ ?_
         ·refine uT fun b__ w hW hE K hK => ?_
          have e61 := hE 61
          exact Ds rfl e61 ((hS.ext hW).box 0 rfl) rfl Tryz.underlying27 (by kernel_rfl) (by kernel_rfl) (hK _ _ rfl (Below.refl _ _))
         ·refine uT fun b__ w hW hE K hK => ?_
          have e64 := hE 64
          have e65 := hE 65
          exact Az rfl (by kernel_rfl) (by simp only [List.map_cons, List.map_nil, e64, e65]) (D3 (kh _ _ (kc.out _ _ (hS.ext hW).ro).1) (kt _ _ (kc.out _ _ (hS.ext hW).ro).1) HH.out (kc.out _ _ (hS.ext hW).ro).2.1) fun v w' h hb => hK v w' (h.imp fun _ _ _ => trivial) hb
         ·refine uT fun b__ w hW hE K hK => ?_
          have e62 := hE 62
          have e66 := hE 66
          exact Az rfl (by kernel_rfl) (by simp only [List.map_cons, List.map_nil, e62]) (CP _ _ ry (closM L N0) _ _ _ (kc.out _ _ (hS.ext hW).ro).2.2.1 e66) fun v w' h hb => hK v w' (h.trans (by rw [HB2.out])) hb
         ·intro vs wz hW hT
          obtain ⟨e56, e57, e58, e59, e60, e61, e62, e63, e64, e65, e66, e67, e68, e69, -⟩ := hT
          have bx : (fun _ : Nat => True) 0 := trivial
          simp only [AC, Act.put, zz, ze]
          rw [hb2'] at e69
          rw [e69]
          replace hS := hS.ext hW
          clear hW
          go_wp2_with fail
          refine ⟨⟨j + 1, kv, by go_num, rfl, hlj, ?_⟩, by simp [intOf]; omega⟩
          rw [HTN.out.trans (if_neg (by decide))]
          exact (hS.sub (List.sublist_cons_self _ _)).mono (KS.out.and A5) fun D w h => ⟨(kc.out _ _ h).1, (kc.out _ _ h).2.1⟩
       ·skip
        go_wp2_with (first
         | ((with_reducible refine qB ?_); refine qc ?_ ?_ <;> intro h_ <;> go_prune)
         | ((with_reducible refine qA 55 ?_); refine BigFrame.wpList_want rfl fun _ hK => AQ (cs := [.bool _, .slice Ay my cy, .slice Am mn cm, .int .i64 rt, .int .i64 ro]) rfl rfl (EO c0 c1 c2 c3 c4) Tryz.underlying83 rfl (by kernel_rfl) (hK _ _ ?_))
         | ((with_reducible refine qA 9 ?_); refine qa hS #[.bool false, .slice none 0 0, .slice none 0 0, .int .i64 0, .int .i64 0] ?_; clear hS; intro g9 w_ hS)
         | ((with_reducible refine qM ?_); (first | refine qS hS ?_ | refine qT hS ?_); clear hS; intro w_ hS; (try simp only [Act.put, Act.eval, zz, Value.cells] at hS)))
        refine BF [.q g9 0, .b true, .b false, .b false, .t, .t, .t, .t, .t, .t, .t, .t, .t, .b false] ⟨uF, uC (h := fun w hW hN => ((hS.ext hW).box 0 rfl).cell 0), uU, uM, uW, uW, uW, uW, uW, uW, uW, uW, uW, uP, trivial⟩ ?_
        ·intro vs wz hW hT
         obtain ⟨e56, e57, e58, e59, e69, -⟩ := hT
         simp only [AC, Act.put, zz, ze]
         rw [e69]
         replace hS := hS.ext hW
         clear hW
         go_wp2_with fail
         refine ⟨⟨j + 1, kv, by go_num, rfl, hlj, ?_⟩, by simp [intOf]; omega⟩
         rw [HTN.out.trans (if_neg (by cases b2 <;> decide))]
         exact (hS.sub (List.sublist_cons_self _ _)).mono (KS.out.and A5) fun D w h => ⟨(kc.out _ _ h).1, (kc.out _ _ h).2.1⟩
      ·obtain rfl : rl.length = j := by omega
       go_wp2_with (first | ((with_reducible refine qB ?_); refine qc ?_ ?_ <;> intro h_ <;> go_prune))
       go_ret
       rw [<- HU.out]
       exact ⟨_, rfl, (hS.sub (F' := [_]) ((List.nil_sublist _).cons_cons _)).mono (AF.pure True) fun _ _ _ => trivial⟩
    ·go_wp2_with (first | ((with_reducible refine qK ?_); refine qC hS ?_))
     go_loopw [4, 19] (fun mv i wr => ∃ (j : Nat) (mb : Bool) (u : Value) (N : Nat), i = .int .i64 (j : Nat) /\ mv = .bool mb /\ j <= rl.length /\ Hid (URnd L ⟨R, some L, st, rl, nl, gl⟩ B N mb j) /\ St w0 wr [.box g3 27 #[u], .box g1 31 #[.int .i64 R, .pointer (some ⟨q, 0, none⟩), .slice Cs ns cs, .slice Ar rl.length cr, .slice An nl.length cn, .slice Ag gl.length cg]] (fun D w => K D w /\ A7 w D (.agg #[u]) N)) (fun _ i _ => rl.length - (intOf i).toNat)
     case atStart => exact ⟨0, false, u, B, rfl, rfl, by omega, Lib.hid ⟨HI.out.1, nofun, fun _ => ⟨rfl, fun r hr => by simp at hr⟩⟩, hS⟩
     case round =>
      clear hS HI
      obtain ⟨j, mb, u, N0, rfl, rfl, hj, HI, hS⟩ := hrel
      by_cases hlj : j < rl.length
      ·obtain ⟨b, o2, y, n, rfl, _, hb, c0, c1, c2, c3, c4, hy, hn⟩ := (kr _ _ hS.ro.1).at_ hlj
       obtain ⟨Ay, my, cy, rfl⟩ := hy.shape
       obtain ⟨Am, mn, cm, rfl⟩ := hn.shape
       have HGj := Lib.hid (Bz AL hlj)
       have HTj := Lib.hid (HTG.out _ (List.mem_of_getElem? HGj.out))
       obtain ⟨KC, kc, hS2⟩ : ∃ KC : (Nat -> Prop) -> World -> Prop, Hid (∀ D w, KC D w -> K D w /\ A7 w D (.agg #[u]) N0 /\ A7 w D (.agg #[.slice Ay my cy]) (rl.getD j AL).yes /\ A7 w D (.agg #[.slice Am mn cm]) (rl.getD j AL).no) /\ St w0 wr [.box g3 27 #[u], .box g1 31 #[.int .i64 R, .pointer (some ⟨q, 0, none⟩), .slice Cs ns cs, .slice (some ⟨b, o2, none⟩) rl.length cr, .slice An nl.length cn, .slice Ag gl.length cg]] KC := ⟨_, Lib.hid fun D w h => ⟨h.1.1, h.1.2, h.2.1, h.2.2⟩, hS.add (D := Da _) (A5.and A5) ⟨hy, hn⟩ fun _ h _ => h⟩
       clear hS hy hn
       have hS := hS2
       clear hS2
       generalize rl.getD j AL = z at *
       obtain ⟨rv, ry, rn, rt, ro⟩ := z
       dsimp only at kc c0 c1 c2 c3 c4
       obtain ⟨b1, hb1⟩ : ∃ b, b = B5 N0 rt := ⟨_, rfl⟩
       have HB1 := Lib.hid hb1
       obtain ⟨b2, hb2⟩ : ∃ b, b = (ry &&& closM L N0 == ry) := ⟨_, rfl⟩
       have HB2 := Lib.hid hb2
       cases rv
       ·cases b1
        ·cases b2
         ·have HI2 := Lib.hid (HI.out.skip HGj.out (.inr (.inr hb2.symm)))
          obtain ⟨b2, hb2'⟩ : ∃ b, b = false := ⟨_, rfl⟩
          rw [<- hb2'] at HB2
          clear hb1 hb2 HI
          go_wp2_with (first
           | ((with_reducible refine qB ?_); refine qc ?_ ?_ <;> intro h_ <;> go_prune)
           | ((with_reducible refine qA 22 ?_); refine BigFrame.wpList_want rfl fun _ hK => AQ (cs := [.bool _, .slice Ay my cy, .slice Am mn cm, .int .i64 rt, .int .i64 ro]) rfl rfl (EO c0 c1 c2 c3 c4) Tryz.underlying83 rfl (by kernel_rfl) (hK _ _ ?_))
           | ((with_reducible refine qA 6 ?_); refine qa hS #[.bool false, .slice none 0 0, .slice none 0 0, .int .i64 0, .int .i64 0] ?_; clear hS; intro g6 w_ hS)
           | ((with_reducible refine qM ?_); (first | refine qS hS ?_ | refine qT hS ?_); clear hS; intro w_ hS; (try simp only [Act.put, Act.eval, zz, Value.cells] at hS)))
          refine BF [.q g6 0, .b false, .b true, .b true, .i (.agg #[u]), .q g6 3, .n rt, .b false, .b true, .b true, .b true, .q g6 1, .q g6 1, .i (.agg #[.slice Ay my cy]), .q g1 1, .q q 0, .i (.agg #[u]), .s (fun v w => A7 w (fun _ => True) v (closM L N0)) fun v w w' h hb => h.ext hb, .i (.bool b2), .i (.bool b2)] ⟨uF, uC (h := fun w hW hN => ((hS.ext hW).box 0 rfl).cell 0), uU, uM, uR (h := fun w hW hN => (hS.ext hW).box 1 rfl), uF, uC (h := fun w hW hN => ((hS.ext hW).box 0 rfl).cell 3), ?_, uU, uP, uM, uF, uF, ?_, uF, uC (h := fun w hW hN => ((hS.ext hW).box 2 rfl).cell 1), uR (h := fun w hW hN => (hS.ext hW).box 1 rfl), ?_, ?_, uP, trivial⟩ ?_
          ·refine uT fun b__ w hW hE K hK => ?_
           have e27 := hE 27
           have e29 := hE 29
           exact Az rfl (by kernel_rfl) (by simp only [List.map_cons, List.map_nil, e27, e29]) (BP _ N0 rt _ _ (kc.out _ _ (hS.ext hW).ro).2.1) fun v w' h hb => hK v w' (h.trans (by rw [<- HB1.out])) hb
          ·refine uT fun b__ w hW hE K hK => ?_
           have e35 := hE 35
           exact Ds rfl e35 ((hS.ext hW).box 0 rfl) rfl Tryz.underlying27 (by kernel_rfl) (by kernel_rfl) (hK _ _ rfl (Below.refl _ _))
          ·refine uT fun b__ w hW hE K hK => ?_
           have e38 := hE 38
           have e39 := hE 39
           exact Az rfl (by kernel_rfl) (by simp only [List.map_cons, List.map_nil, e38, e39]) (D3 (kh _ _ (kc.out _ _ (hS.ext hW).ro).1) (kt _ _ (kc.out _ _ (hS.ext hW).ro).1) HH.out (kc.out _ _ (hS.ext hW).ro).2.1) fun v w' h hb => hK v w' (h.imp fun _ _ _ => trivial) hb
          ·refine uT fun b__ w hW hE K hK => ?_
           have e36 := hE 36
           have e40 := hE 40
           exact Az rfl (by kernel_rfl) (by simp only [List.map_cons, List.map_nil, e36]) (CP _ _ ry (closM L N0) _ _ _ (kc.out _ _ (hS.ext hW).ro).2.2.1 e40) fun v w' h hb => hK v w' (h.trans (by rw [HB2.out])) hb
          ·intro vs wz hW hT
           obtain ⟨e23, e24, e25, e26, e27, e28, e29, e30, e31, e32, e33, e34, e35, e36, e37, e38, e39, e40, e41, e42, -⟩ := hT
           have bx : (fun _ : Nat => True) 0 := trivial
           simp only [AC, Act.put, zz, ze]
           rw [hb2'] at e42
           rw [e42]
           replace hS := hS.ext hW
           clear hW
           go_wp2_with fail
           exact ⟨⟨j + 1, mb, u, N0, by go_num, rfl, hlj, HI2, (hS.sub (List.sublist_cons_self _ _)).mono (KS.out.and A5) fun D w h => ⟨(kc.out _ _ h).1, (kc.out _ _ h).2.1⟩⟩, by simp [intOf]; omega⟩
         ·obtain ⟨t, ht, ht64⟩ := HTj.out
          dsimp only at ht
          have HI2 := Lib.hid (HI.out.add HGj.out rfl hb1.symm hb2.symm ht)
          have HWT : Hid (Cx N0 rt = N0 ||| 2 ^ t) := Lib.hid (by rw [ht]; exact Hw ht64)
          obtain ⟨b2, hb2'⟩ : ∃ b, b = true := ⟨_, rfl⟩
          rw [<- hb2'] at HB2
          clear hb1 hb2 HI ht ht64
          go_wp2_with (first
           | ((with_reducible refine qB ?_); refine qc ?_ ?_ <;> intro h_ <;> go_prune)
           | ((with_reducible refine qA 22 ?_); refine BigFrame.wpList_want rfl fun _ hK => AQ (cs := [.bool _, .slice Ay my cy, .slice Am mn cm, .int .i64 rt, .int .i64 ro]) rfl rfl (EO c0 c1 c2 c3 c4) Tryz.underlying83 rfl (by kernel_rfl) (hK _ _ ?_))
           | ((with_reducible refine qA 6 ?_); refine qa hS #[.bool false, .slice none 0 0, .slice none 0 0, .int .i64 0, .int .i64 0] ?_; clear hS; intro g6 w_ hS)
           | ((with_reducible refine qM ?_); (first | refine qS hS ?_ | refine qT hS ?_); clear hS; intro w_ hS; (try simp only [Act.put, Act.eval, zz, Value.cells] at hS)))
          refine BF [.q g6 0, .b false, .b true, .b true, .i (.agg #[u]), .q g6 3, .n rt, .b false, .b true, .b true, .b true, .q g6 1, .q g6 1, .i (.agg #[.slice Ay my cy]), .q g1 1, .q q 0, .i (.agg #[u]), .s (fun v w => A7 w (fun _ => True) v (closM L N0)) fun v w w' h hb => h.ext hb, .i (.bool b2), .i (.bool b2)] ⟨uF, uC (h := fun w hW hN => ((hS.ext hW).box 0 rfl).cell 0), uU, uM, uR (h := fun w hW hN => (hS.ext hW).box 1 rfl), uF, uC (h := fun w hW hN => ((hS.ext hW).box 0 rfl).cell 3), ?_, uU, uP, uM, uF, uF, ?_, uF, uC (h := fun w hW hN => ((hS.ext hW).box 2 rfl).cell 1), uR (h := fun w hW hN => (hS.ext hW).box 1 rfl), ?_, ?_, uP, trivial⟩ ?_
          ·refine uT fun b__ w hW hE K hK => ?_
           have e27 := hE 27
           have e29 := hE 29
           exact Az rfl (by kernel_rfl) (by simp only [List.map_cons, List.map_nil, e27, e29]) (BP _ N0 rt _ _ (kc.out _ _ (hS.ext hW).ro).2.1) fun v w' h hb => hK v w' (h.trans (by rw [<- HB1.out])) hb
          ·refine uT fun b__ w hW hE K hK => ?_
           have e35 := hE 35
           exact Ds rfl e35 ((hS.ext hW).box 0 rfl) rfl Tryz.underlying27 (by kernel_rfl) (by kernel_rfl) (hK _ _ rfl (Below.refl _ _))
          ·refine uT fun b__ w hW hE K hK => ?_
           have e38 := hE 38
           have e39 := hE 39
           exact Az rfl (by kernel_rfl) (by simp only [List.map_cons, List.map_nil, e38, e39]) (D3 (kh _ _ (kc.out _ _ (hS.ext hW).ro).1) (kt _ _ (kc.out _ _ (hS.ext hW).ro).1) HH.out (kc.out _ _ (hS.ext hW).ro).2.1) fun v w' h hb => hK v w' (h.imp fun _ _ _ => trivial) hb
          ·refine uT fun b__ w hW hE K hK => ?_
           have e36 := hE 36
           have e40 := hE 40
           exact Az rfl (by kernel_rfl) (by simp only [List.map_cons, List.map_nil, e36]) (CP _ _ ry (closM L N0) _ _ _ (kc.out _ _ (hS.ext hW).ro).2.2.1 e40) fun v w' h hb => hK v w' (h.trans (by rw [HB2.out])) hb
          ·intro vs wz hW hT
           obtain ⟨e23, e24, e25, e26, e27, e28, e29, e30, e31, e32, e33, e34, e35, e36, e37, e38, e39, e40, e41, e42, -⟩ := hT
           have bx : (fun _ : Nat => True) 0 := trivial
           simp only [AC, Act.put, zz, ze]
           rw [hb2'] at e42
           rw [e42]
           replace hS := hS.ext hW
           clear hW
           go_wp2_with (first
            | ((with_reducible refine qk 27 ?_); first | (refine Aa hS 0 rfl _ _ rfl _ _ rfl _ _ rfl _ (by first | rfl | assumption) Tryz.underlying27 rfl (by kernel_rfl) ?_) | (refine Aa hS 1 rfl _ _ rfl _ _ rfl _ _ rfl _ (by first | rfl | assumption) Tryz.underlying27 rfl (by kernel_rfl) ?_) | (refine Aa hS 2 rfl _ _ rfl _ _ rfl _ _ rfl _ (by first | rfl | assumption) Tryz.underlying27 rfl (by kernel_rfl) ?_) | (refine Aa hS 3 rfl _ _ rfl _ _ rfl _ _ rfl _ (by first | rfl | assumption) Tryz.underlying27 rfl (by kernel_rfl) ?_) | (refine Aa hS 4 rfl _ _ rfl _ _ rfl _ _ rfl _ (by first | rfl | assumption) Tryz.underlying27 rfl (by kernel_rfl) ?_) | (refine Aa hS 5 rfl _ _ rfl _ _ rfl _ _ rfl _ (by first | rfl | assumption) Tryz.underlying27 rfl (by kernel_rfl) ?_))
            | ((with_reducible refine qK ?_); refine qC hS ?_)
            | (go_at_call 32; refine (DJ _ N0 rt _ _ (kc.out _ _ hS.ro).2.1).mono ?_; rw [HWT.out]; rintro r_ w_ ⟨_, rfl, hM, hb_⟩; obtain ⟨A4, c4, l4, rfl, -⟩ := hM.parts; replace hS := hS.ret2 hb_ A5 hM; clear hb_ hM)
            | ((with_reducible refine qM ?_); (first | refine qS hS ?_ | refine qT hS ?_); clear hS; intro w_ hS; (try simp only [Act.put, Act.eval, zz, Value.cells] at hS)))
           exact ⟨⟨j + 1, true, _, N0 ||| 2 ^ t, by go_num, rfl, hlj, HI2, (hS.sub (List.sublist_cons_self _ _)).mono (KS.out.and A5) fun D w h => ⟨(kc.out _ _ h.1).1, h.2⟩⟩, by simp [intOf]; omega⟩
        ·have HI2 := Lib.hid (HI.out.skip HGj.out (.inr (.inl hb1.symm)))
         clear hb1 hb2 HI
         go_wp2_with (first
          | ((with_reducible refine qB ?_); refine qc ?_ ?_ <;> intro h_ <;> go_prune)
          | ((with_reducible refine qA 22 ?_); refine BigFrame.wpList_want rfl fun _ hK => AQ (cs := [.bool _, .slice Ay my cy, .slice Am mn cm, .int .i64 rt, .int .i64 ro]) rfl rfl (EO c0 c1 c2 c3 c4) Tryz.underlying83 rfl (by kernel_rfl) (hK _ _ ?_))
          | ((with_reducible refine qA 6 ?_); refine qa hS #[.bool false, .slice none 0 0, .slice none 0 0, .int .i64 0, .int .i64 0] ?_; clear hS; intro g6 w_ hS)
          | ((with_reducible refine qM ?_); (first | refine qS hS ?_ | refine qT hS ?_); clear hS; intro w_ hS; (try simp only [Act.put, Act.eval, zz, Value.cells] at hS)))
         refine BF [.q g6 0, .b false, .b true, .b true, .i (.agg #[u]), .q g6 3, .n rt, .b true, .b false, .b false, .b false, .t, .t, .t, .t, .t, .t, .t, .t, .b false] ⟨uF, uC (h := fun w hW hN => ((hS.ext hW).box 0 rfl).cell 0), uU, uM, uR (h := fun w hW hN => (hS.ext hW).box 1 rfl), uF, uC (h := fun w hW hN => ((hS.ext hW).box 0 rfl).cell 3), ?_, uU, uP, uM, uW, uW, uW, uW, uW, uW, uW, uW, uP, trivial⟩ ?_
         ·refine uT fun b__ w hW hE K hK => ?_
          have e27 := hE 27
          have e29 := hE 29
          exact Az rfl (by kernel_rfl) (by simp only [List.map_cons, List.map_nil, e27, e29]) (BP _ N0 rt _ _ (kc.out _ _ (hS.ext hW).ro).2.1) fun v w' h hb => hK v w' (h.trans (by rw [<- HB1.out])) hb
         ·intro vs wz hW hT
          obtain ⟨e23, e24, e25, e26, e27, e28, e29, e30, e31, e32, e33, e42, -⟩ := hT
          simp only [AC, Act.put, zz, ze]
          rw [e42]
          replace hS := hS.ext hW
          clear hW
          go_wp2_with fail
          exact ⟨⟨j + 1, mb, u, N0, by go_num, rfl, hlj, HI2, (hS.sub (List.sublist_cons_self _ _)).mono (KS.out.and A5) fun D w h => ⟨(kc.out _ _ h).1, (kc.out _ _ h).2.1⟩⟩, by simp [intOf]; omega⟩
       ·have HI2 := Lib.hid (HI.out.skip HGj.out (.inl rfl))
        clear hb1 hb2 HI
        go_wp2_with (first
         | ((with_reducible refine qB ?_); refine qc ?_ ?_ <;> intro h_ <;> go_prune)
         | ((with_reducible refine qA 22 ?_); refine BigFrame.wpList_want rfl fun _ hK => AQ (cs := [.bool _, .slice Ay my cy, .slice Am mn cm, .int .i64 rt, .int .i64 ro]) rfl rfl (EO c0 c1 c2 c3 c4) Tryz.underlying83 rfl (by kernel_rfl) (hK _ _ ?_))
         | ((with_reducible refine qA 6 ?_); refine qa hS #[.bool false, .slice none 0 0, .slice none 0 0, .int .i64 0, .int .i64 0] ?_; clear hS; intro g6 w_ hS)
         | ((with_reducible refine qM ?_); (first | refine qS hS ?_ | refine qT hS ?_); clear hS; intro w_ hS; (try simp only [Act.put, Act.eval, zz, Value.cells] at hS)))
        refine BF [.q g6 0, .b true, .b false, .b false, .t, .t, .t, .t, .t, .b false, .b false, .t, .t, .t, .t, .t, .t, .t, .t, .b false] ⟨uF, uC (h := fun w hW hN => ((hS.ext hW).box 0 rfl).cell 0), uU, uM, uW, uW, uW, uW, uW, uP, uM, uW, uW, uW, uW, uW, uW, uW, uW, uP, trivial⟩ ?_
        ·intro vs wz hW hT
         obtain ⟨e23, e24, e25, e26, e32, e33, e42, -⟩ := hT
         simp only [AC, Act.put, zz, ze]
         rw [e42]
         replace hS := hS.ext hW
         clear hW
         go_wp2_with fail
         exact ⟨⟨j + 1, mb, u, N0, by go_num, rfl, hlj, HI2, (hS.sub (List.sublist_cons_self _ _)).mono (KS.out.and A5) fun D w h => ⟨(kc.out _ _ h).1, (kc.out _ _ h).2.1⟩⟩, by simp [intOf]; omega⟩
      ·obtain rfl : rl.length = j := by omega
       have HI2 : Hid (ULow L ⟨R, some L, st, rl, nl, gl⟩ N0 /\ (mb = false -> ∀ r ∈ rl, r.revoke = false -> (r.yes &&& closM L N0 == r.yes) = true -> B5 N0 r.target = true)) := Lib.hid ⟨HI.out.low, fun e r hr => (HI.out.no e).2 r (by rw [List.take_length]; exact hr)⟩
       have HLK : Hid (2 * H8 N0 rl + (if mb = true then 1 else 0) < 2 * H8 B rl + 1) := Lib.hid (by
        cases mb with
        | true => have h := HI.out.yes rfl; dsimp only at h; simp; omega
        | false => have h := (HI.out.no rfl).1; rw [h]; simp)
       clear HI
       go_wp2_with (first | ((with_reducible refine qB ?_); refine qc ?_ ?_ <;> intro h_ <;> go_prune))
       go_roundg (2 * H8 N0 rl + (if mb = true then 1 else 0))
       case measure => have h2 := HGK.out; simp only [if_true] at h2; exact Nat.lt_of_lt_of_le HLK.out h2
       case rel => exact ⟨mb, u, N0, rfl, Nat.le_refl _, HI2, hS⟩
 ·have HUS : Hid (useN ⟨R, lk, st, rl, nl, gl⟩ = []) := Lib.hid (by unfold useN; rw [if_neg (fun h => h0 (HE.out.trans h))])
  rw [HUS.out]
  go_enter Tryz.func82, Tryz.ntmps82
  go_wp2_with (first
   | ((with_reducible refine qA 1 ?_); refine AE hS rfl _ _ rfl (.agg #[.int .i64 R, lp, .slice Cs ns cs, .slice Ar rl.length cr, .slice An nl.length cn, .slice Ag gl.length cg]) _ rfl rfl ?_; clear hS; intro g1 w_ hS; (try simp only [Act.put, Act.eval, zz, Value.cells] at hS))
   | ((with_reducible refine qB ?_); refine qc ?_ ?_ <;> intro h_ <;> go_prune)
   | ((with_reducible refine qK ?_); refine qL hS Tryz.underlying31 ?_)
   | (go_at_call 39; refine (Do (kp _ _ hS.ro) HP.out (kt _ _ hS.ro)).mono ?_; rw [<- HE.out]; rintro r_ w_ ⟨_, rfl, rfl, hb_⟩; replace hS := hS.ext hb_; clear hb_))
  go_ret
  exact ⟨_, rfl, ((hS.sub (List.nil_sublist _)).nil 3 1).mono (AF.pure True) fun _ _ _ => trivial⟩
end
section
open Go.RowKit
attribute [local go_sem ↓] Go.wp_at_zero Go.wp_at_succ
set_option maxRecDepth 20000
set_option exponentiation.threshold 5000
def DY (m : List Int) (k : Int) : Bool := decide (0 <= k /\ k < m.length)
def Gc (m : List Int) (k : Int) : Int := m.getD k.toNat 0
theorem intsG {l : List Int} {k : Nat} (h : k < l.length) : (AX l)[k]? = some (.int .i64 (l.getD k 0)) := by
 unfold AX
 rw [List.getElem?_map, List.getElem?_eq_getElem h, List.getD_eq_getElem?_getD, List.getElem?_eq_getElem h]; rfl
def BackR (w0 : World) (l m : List Int) (e : Ending) (w' : World) : Prop :=
 (l.all (DY m) = false /\ e = .returned (.tuple #[.slice none 0 0, .int .i64 2]) /\ Below w0.heap.size w0 w') \/
 (l.all (DY m) = true /\ ∃ x, e = .returned (.tuple #[x, .int .i64 0]) /\ St w0 w' [.own x 3 1 (l.map (Gc m)).length (AX (l.map (Gc m)))] fun _ _ => True)
theorem back_any {w0 : World} {D E : Nat -> Prop} {u v : Value} {l m : List Int} (hu : Sl w0 D 1 u l.length (AX l)) (hv : Sl w0 E 1 v m.length (AX m)) (hl : l.length <= 1000000) : Calls Tryz.prog 43 #[u, v] w0 (BackR w0 l m) := by
 obtain ⟨A, c, rfl, _, _⟩ := hu.shape
 obtain ⟨B, d, rfl, _, _⟩ := hv.shape
 obtain ⟨K, k1, k2, hS⟩ : ∃ K : (Nat -> Prop) -> World -> Prop, (∀ D w, K D w -> Sl w D 1 (.slice A l.length c) l.length (AX l)) /\ (∀ D w, K D w -> Sl w D 1 (.slice B m.length d) m.length (AX m)) /\ St w0 w0 [] K := ⟨_, fun _ _ h => h.1, fun _ _ h => h.2, St.start (D := fun _ => True) ((At (by decide)).and (At (by decide))) ⟨hu.imp fun _ _ _ => trivial, hv.imp fun _ _ _ => trivial⟩⟩
 have KS := Lib.hid hS.stable
 clear hu hv
 go_enter Tryz.func43, Tryz.ntmps43
 go_wp2_with fail
 replace hS := hS.nil 3 1
 go_loopw [6, 11] (fun ow i wr => ∃ (j : Nat) (ov : Value), i = .int .i64 (j : Nat) /\ ov = ow /\ j <= l.length /\ Hid (∀ x ∈ l.take j, DY m x = true) /\ St w0 wr [.own ov 3 1 j (AX ((l.take j).map (Gc m)))] K) (fun _ i _ => l.length - (intOf i).toNat)
 case atStart => exact ⟨0, _, rfl, rfl, by omega, Lib.hid (by simp), hS⟩
 case round =>
  clear hS
  obtain ⟨j, ov, rfl, rfl, hj, HG, hS⟩ := hrel
  by_cases hlj : j < l.length
  ·have f1 := intsG hlj
   have hM : l.getD j 0 ∈ l := by rw [List.getD_eq_getElem?_getD, List.getElem?_eq_getElem hlj]; exact List.getElem_mem hlj
   have HT : Hid (l.take (j + 1) = l.take j ++ [l.getD j 0]) := Lib.hid (Fn l j 0 hlj)
   have HB : Hid (DY m (l.getD j 0) = false -> l.all (DY m) = false) := Lib.hid fun h => by
    rw [List.all_eq_false]; exact ⟨_, hM, by rw [h]; decide⟩
   clear hM
   generalize l.getD j 0 = x at *
   by_cases h0 : x < 0
   ·have HB2 := Lib.hid (HB.out (by unfold DY; simp; omega))
    clear HB HT
    go_wp2_with (first | ((with_reducible refine qB ?_); refine qc ?_ ?_ <;> intro h_ <;> go_prune) | ((with_reducible refine qI ?_); refine Eh hS rfl _ _ _ rfl _ rfl rfl (by assumption) Tryz.underlying40 (by kernel_rfl) (by first | assumption | omega) _ (by assumption) ?_; intro p_ hc_) | ((with_reducible refine qK ?_); refine qC hS ?_))
    go_ret2
    exact .inl ⟨HB2.out, rfl, hS.below⟩
   ·by_cases h1 : x < m.length
    ·obtain ⟨t, rfl⟩ : ∃ t : Nat, x = (t : Int) := ⟨x.toNat, by omega⟩
     have htm : t < m.length := by omega
     have f2 := intsG htm
     have HG2 : Hid (∀ x ∈ l.take (j + 1), DY m x = true) := Lib.hid fun y hy => by
      rw [HT.out, List.mem_append] at hy
      rcases hy with hy | hy
      ·exact HG.out y hy
      ·rw [List.mem_singleton] at hy; subst hy; unfold DY; simp; omega
     have HT2 : Hid (AX ((l.take (j + 1)).map (Gc m)) = AX ((l.take j).map (Gc m)) ++ [.int .i64 (m.getD t 0)]) := Lib.hid (by rw [HT.out]; simp [AX, Gc])
     clear HB HT HG
     generalize AX ((l.take j).map (Gc m)) = xs at *
     generalize m.getD t 0 = y at *
     go_wp2_with (first
      | ((with_reducible refine qB ?_); refine qc ?_ ?_ <;> intro h_ <;> go_prune)
      | ((with_reducible refine qI ?_); refine Eh hS rfl _ _ _ rfl _ rfl rfl (by assumption) Tryz.underlying40 (by kernel_rfl) (by first | assumption | omega) _ (by assumption) ?_; intro p_ hc_)
      | ((with_reducible refine qA 44 ?_); refine Cq hS 0 rfl rfl _ _ _ _ rfl rfl Dh ov j xs (.int .i64 y) #[.int .i64 y] rfl (by kernel_rfl) rfl rfl rfl rfl (by intro u hu; simp at hu; subst hu; rfl) (by omega) (by omega) ?_; clear hS; intro z_ v' w_ hS; (try simp only [Act.put, Act.eval, zz, Value.cells] at hS))
      | ((with_reducible show wpList _ _ _ (⟨_, .buildSlice _ 1 _, _, _, _, _⟩ :: _) _ _); refine Cq hS 0 rfl rfl _ _ _ _ rfl rfl Dh _ _ _ (.int .i64 y) #[.int .i64 y] rfl (by kernel_rfl) rfl rfl rfl rfl (by intro u hu; simp at hu; first | (subst hu; rfl) | (rcases hu with rfl | rfl <;> rfl)) (by omega) (by omega) ?_; clear hS; intro z_ v_ w_ hS; (try simp only [Act.put, Act.eval, zz, Value.cells] at hS))
      | ((with_reducible refine qK ?_); refine BigFrame.wpList_want rfl fun _ hK => Ah rfl rfl (by kernel_rfl) (by assumption) (hK _ _ ?_)))
     refine ⟨⟨j + 1, _, by go_num, rfl, hlj, HG2, ?_⟩, by simp [intOf]; omega⟩
     rw [HT2.out]
     exact hS
    ·have HB2 := Lib.hid (HB.out (by unfold DY; simp; omega))
     have h2 : (m.length : Int) <= x := by omega
     clear HB HT
     go_wp2_with (first | ((with_reducible refine qB ?_); refine qc ?_ ?_ <;> intro h_ <;> go_prune) | ((with_reducible refine qI ?_); refine Eh hS rfl _ _ _ rfl _ rfl rfl (by assumption) Tryz.underlying40 (by kernel_rfl) (by first | assumption | omega) _ (by assumption) ?_; intro p_ hc_) | ((with_reducible refine qK ?_); refine BigFrame.wpList_want rfl fun _ hK => Ah rfl rfl (by kernel_rfl) (by assumption) (hK _ _ ?_)))
     go_ret2
     exact .inl ⟨HB2.out, rfl, hS.below⟩
  ·obtain rfl : l.length = j := by omega
   have HA : Hid (l.all (DY m) = true) := Lib.hid (List.all_eq_true.2 fun x hx => HG.out x (by rw [List.take_length]; exact hx))
   rw [List.take_length] at hS
   go_wp2_with (first | ((with_reducible refine qB ?_); refine qc ?_ ?_ <;> intro h_ <;> go_prune))
   go_ret2
   refine .inr ⟨HA.out, _, rfl, ?_⟩
   rw [List.length_map]
   exact hS.mono (AF.pure True) fun _ _ _ => trivial
end
section
open Go.RowKit
set_option exponentiation.threshold 5000
def kepL (S : Nat) (l : List AP) : List Nat := (List.range l.length).filter fun k => B5 S (l.getD k AL).target
theorem keepN_eq (S : Nat) (l : List AP) : Db S l l.length = (kepL S l).map fun k : Nat => (k : Int) := rfl
theorem Jq (S : Nat) (l : List AP) : C8 S l = (kepL S l).map fun k => l.getD k AL := by
 have h : l = (List.range l.length).map fun k => l.getD k AL := by
  apply List.ext_getElem
  ·simp
  ·intro i h1 h2
   simp [List.getD_eq_getElem?_getD, List.getElem?_eq_getElem h1]
 unfold kepL C8
 conv => lhs; rw [h]
 rw [List.filter_map]
 rfl
theorem kepL_at {S : Nat} {l : List AP} {i k : Nat} (h : (kepL S l)[i]? = some k) : k < l.length /\ B5 S (l.getD k AL).target = true /\ i < (C8 S l).length /\ (C8 S l).getD i AL = l.getD k AL := by
 have hm := List.mem_of_getElem? h
 obtain ⟨h1, h2⟩ := List.mem_filter.1 hm
 have hi := (List.getElem?_eq_some_iff.1 h).1
 refine ⟨List.mem_range.1 h1, h2, by rw [Jq]; simpa using hi, ?_⟩
 rw [Jq, List.getD_eq_getElem?_getD, List.getElem?_map, h]; rfl
section
variable {p : Ac} {L : List (Nat × Nat)} {R A k i : Nat}
theorem goal_sub {z : Nat × Nat} (hz : z ∈ p.goal) : CI (depC L z) (relM L p) := (Gf L p).goal z hz
theorem agr (S A : Nat) : ∀ i, S.testBit i = true -> (A.testBit i = true ↔ (A &&& S).testBit i = true) := fun i hi => by rw [Nat.testBit_and, hi]; simp
theorem Dr (hM : Bq p L R) : reachB p A = reachB (ofP p) (A &&& relM L p) := by
 unfold reachB
 rw [hM.links, hM.slice.links, ofE' hM]
 exact any_agree hM.hok (agr _ _) fun z hz => goal_sub hz
theorem has_slice {S : Nat} {i : Int} (h : B5 S i = true) : B5 (A &&& S) i = B5 A i := by
 unfold B5 at *
 simp only [Bool.and_eq_true] at h
 rw [Nat.testBit_and, h.2, Bool.and_true]
theorem next_slice {S : Nat} {r : AP} (h1 : 0 <= r.target /\ r.target < 64) (h : B5 S r.target = true) : Dt (A &&& S) r = Dt A r &&& S := by
 obtain ⟨t, ht⟩ : ∃ t : Nat, r.target = (t : Int) := ⟨r.target.toNat, by omega⟩
 have h64 : t < 64 := by omega
 unfold Dt
 rw [ht] at h ⊢
 rw [Em] at h
 cases r.revoke
 ·rw [if_neg (by simp), if_neg (by simp), <- Fw h64, <- Fw h64]
  refine B3 fun i => ?_
  rw [Nat.testBit_or, Nat.testBit_and, Nat.testBit_and, Nat.testBit_or, Nat.testBit_two_pow]
  by_cases e : t = i
  ·subst e; simp [h]
  ·simp [e]
 ·rw [if_pos rfl, if_pos rfl]
  unfold del
  rw [has_slice (by rw [Em]; exact h), Int.toNat_natCast]
  split
  ·refine B3 fun i => ?_
   rw [Nat.testBit_xor, Nat.testBit_and, Nat.testBit_and, Nat.testBit_xor, Nat.testBit_two_pow]
   by_cases e : t = i
   ·subst e; simp [h]
   ·simp [e]
  ·rfl
theorem good_next {A A' : Nat} (hM : Bq p L R) (hg : goodB p A = true) (hd : ∀ i, (relM L p).testBit i = false -> (A'.testBit i = true ↔ A.testBit i = true)) : goodB p A' = goodB (ofP p) (A' &&& relM L p) := by
 unfold goodB at *
 rw [hM.links] at hg ⊢
 rw [hM.slice.links, ofE' hM]
 dsimp only at hg ⊢
 rw [<- any_agree hM.hok (agr (relM L p) A') (l := keepC L (relM L p) p.never) keptN]
 congr 1
 rw [Bool.not_eq_true', List.any_eq_false] at hg
 refine Bool.eq_iff_iff.2 ?_
 rw [List.any_eq_true, List.any_eq_true]
 constructor
 ·rintro ⟨z, hz, h⟩
  refine ⟨z, List.mem_filter.2 ⟨hz, ?_⟩, h⟩
  cases hk : (depC L z &&& relM L p != 0) with
  | true => rfl
  | false =>
   have h2 := DX hM.hok (S := depC L z) (s := A') (t := A) (z := z) (fun i hi => hd i (by
    cases hb : (relM L p).testBit i with
    | false => rfl
    | true =>
     have := Fz.2 ⟨i, hi, hb⟩
     rw [hk] at this; cases this)) (CI.refl _)
   rw [h2] at h
   exact absurd h (hg z hz)
 ·rintro ⟨z, hz, h⟩
  exact ⟨z, (List.mem_filter.1 hz).1, h⟩
theorem next_off {A : Nat} {r : AP} {S : Nat} (h1 : 0 <= r.target /\ r.target < 64) : ∀ i, i ≠ r.target.toNat -> ((Dt A r).testBit i = true ↔ A.testBit i = true) := fun i hi => by
 obtain ⟨t, ht⟩ : ∃ t : Nat, r.target = (t : Int) := ⟨r.target.toNat, by omega⟩
 have hne : ¬ t = i := fun e => hi (by rw [ht, Int.toNat_natCast]; exact e.symm)
 unfold Dt
 rw [ht]
 cases r.revoke
 ·rw [if_neg (by simp), <- Fw (by omega), Nat.testBit_or, Nat.testBit_two_pow]; simp [hne]
 ·rw [if_pos rfl]
  unfold del
  rw [Int.toNat_natCast]
  split
  ·rw [Nat.testBit_xor, Nat.testBit_two_pow]; simp [hne]
  ·rfl
theorem target_64 (hM : Bq p L R) (hk : k < p.rules.length) : 0 <= (p.rules.getD k AL).target /\ (p.rules.getD k AL).target < 64 := by
 have := (hM.rules _ (List.mem_of_getElem? (Bz AL hk))).1
 have := hM.r5
 omega
theorem sim_kept (hM : Bq p L R) (hg : goodB p A = true) (h : (kepL (relM L p) p.rules)[i]? = some k) : stepM (ofP p) (A &&& relM L p) (i : Nat) = (stepM p A (k : Nat)).map (· &&& relM L p) := by
 obtain ⟨h1, h2, h3, h4⟩ := kepL_at h
 have ht := target_64 hM h1
 have hq : (ofP p).rules = C8 (relM L p) p.rules := by rw [ofE' hM]
 rw [EZ hM.links h1, EZ hM.slice.links (by rw [hq]; exact h3), hq, h4]
 have hkr : p.rules.getD k AL ∈ C8 (relM L p) p.rules := List.mem_filter.2 ⟨List.mem_of_getElem? (Bz AL h1), h2⟩
 generalize p.rules.getD k AL = r at *
 have hn := next_slice (A := A) ht h2
 have hgd := good_next (A' := Dt A r) hM hg fun i hi => next_off (S := relM L p) ht i fun e => by
  unfold B5 at h2
  simp only [Bool.and_eq_true] at h2
  rw [<- e, hi] at h2; cases h2.2
 have hh : B9 (r.yes, r.no) (closP (ofP p) (A &&& relM L p)) = B9 (r.yes, r.no) (closP p A) := by
  unfold closP
  rw [hM.links, hM.slice.links]
  exact (DX hM.hok (agr _ _) (hM.keptR r hkr)).symm
 have hs : stepB (ofP p) (A &&& relM L p) r = stepB p A r := by
  unfold stepB
  rw [has_slice h2, hh, hn, <- hgd]
 rw [hs, hn]
 split <;> rfl
theorem J1 {k : Int} {A' : Nat} (h : stepM p A k = some A') : goodB p A' = true := by
 unfold stepM at h
 split at h
 ·split at h
  ·rename_i hb
   injection h with h
   subst h
   unfold stepB at hb
   rw [Bool.not_eq_true', Bool.or_eq_false_iff] at hb
   simpa using hb.2
  ·cases h
 ·cases h
theorem sim_left (hM : Bq p L R) (hk : k < p.rules.length) (h : B5 (relM L p) (p.rules.getD k AL).target = false) {A' : Nat} (hs : stepM p A (k : Nat) = some A') : A' &&& relM L p = A &&& relM L p := by
 have ht := target_64 hM hk
 rw [EZ hM.links hk] at hs
 split at hs
 ·injection hs with hs
  subst hs
  refine B3 fun i => ?_
  rw [Nat.testBit_and, Nat.testBit_and, Bool.and_eq_true, Bool.and_eq_true]
  refine and_congr_left fun hi => next_off (S := relM L p) ht i fun e => ?_
  unfold B5 at h
  simp only [Bool.and_eq_false_iff, decide_eq_false_iff_not] at h
  rcases h with h | h
  ·exact h (by omega)
  ·rw [<- e, hi] at h; cases h
 ·cases hs
end
noncomputable def runTo (p : Ac) : Nat -> Nat -> List Int -> Nat × Nat × Bool
 | N, n, [] => (N, n, true)
 | N, n, k :: r => match stepM p N k with
  | none => (N, n, false)
  | some M => runTo p M (n + 1) r
theorem BK {p : Ac} {N M n : Nat} {k : Int} {r : List Int} (h : stepM p N k = some M) : runTo p N n (k :: r) = runTo p M (n + 1) r := by rw [runTo, h]
theorem CT {p : Ac} {N n : Nat} {k : Int} {r : List Int} (h : stepM p N k = none) : runTo p N n (k :: r) = (N, n, false) := by rw [runTo, h]
theorem G5 {p : Ac} {k : Int} {M M' : Nat} : ∀ {l : List Int} {N n m : Nat}, runTo p N n l = (M, m, true) -> stepM p M k = some M' -> runTo p N n (l ++ [k]) = (M', m + 1, true)
 | [], N, n, m, h, hk => by
  simp only [runTo, Prod.mk.injEq] at h
  obtain ⟨rfl, rfl, _⟩ := h
  show runTo p N n [k] = _
  rw [BK hk]; rfl
 | j :: r, N, n, m, h, hk => by
  cases hj : stepM p N j with
  | none => rw [CT hj] at h; simp at h
  | some N' =>
   rw [BK hj] at h
   show runTo p N n (j :: (r ++ [k])) = _
   rw [BK hj]
   exact G5 h hk
theorem EY {p : Ac} {N M : Nat} {k : Int} (h : stepM p N k = some M) : ∃ j : Nat, k = (j : Int) /\ j < p.rules.length := by
 unfold stepM at h
 split at h
 ·rename_i hk
  exact ⟨k.toNat, by omega, by omega⟩
 ·cases h
section
variable {p : Ac} {L : List (Nat × Nat)} {R : Nat}
theorem FA (hM : Bq p L R) : ofKept p = (kepL (relM L p) p.rules).map fun k : Nat => (k : Int) := by
 rw [<- keepN_eq]
 unfold ofKept
 rw [if_pos hM.check, hM.links]
theorem sim_fwd (hM : Bq p L R) : ∀ {pl : List Int} {A n B m : Nat}, goodB p A = true -> runTo (ofP p) (A &&& relM L p) n pl = (B, m, true) -> ∃ A', runTo p A n (pl.map (Gc (ofKept p))) = (A', m, true) /\ A' &&& relM L p = B /\ goodB p A' = true /\ pl.all (DY (ofKept p)) = true
 | [], A, n, B, m, hg, h => by
  simp only [runTo, Prod.mk.injEq] at h
  obtain ⟨rfl, rfl, _⟩ := h
  exact ⟨A, rfl, rfl, hg, rfl⟩
 | k :: r, A, n, B, m, hg, h => by
  cases hk : stepM (ofP p) (A &&& relM L p) k with
  | none => rw [CT hk] at h; simp at h
  | some B1 =>
   obtain ⟨i, rfl, hi⟩ := EY hk
   have hq : (ofP p).rules = C8 (relM L p) p.rules := by rw [ofE' hM]
   rw [hq, Jq, List.length_map] at hi
   obtain ⟨j, hj⟩ : ∃ j, (kepL (relM L p) p.rules)[i]? = some j := ⟨_, List.getElem?_eq_getElem hi⟩
   have hs := sim_kept (A := A) hM hg hj
   rw [hk] at hs
   cases ha : stepM p A (j : Nat) with
   | none => rw [ha] at hs; cases hs
   | some A1 =>
    rw [ha] at hs
    injection hs with hs
    subst hs
    rw [BK hk] at h
    obtain ⟨A', h1, h2, h3, h4⟩ := sim_fwd hM (J1 ha) h
    have hget : Gc (ofKept p) (i : Nat) = (j : Int) := by
     unfold Gc
     rw [FA hM, Int.toNat_natCast, List.getD_eq_getElem?_getD, List.getElem?_map, hj]; rfl
    refine ⟨A', ?_, h2, h3, ?_⟩
    ·rw [List.map_cons, hget, BK ha]; exact h1
    ·rw [List.all_cons, h4, Bool.and_true]
     unfold DY
     rw [FA hM, List.length_map]
     simpa using hi
def JG (m : List Int) (l : List Int) : List Int := l.flatMap fun k => if 0 <= Ha m k then [Ha m k] else []
theorem sim_bwd (hM : Bq p L R) : ∀ {l : List Int} {A n A' m : Nat} (n' : Nat), goodB p A = true -> runTo p A n l = (A', m, true) -> ∃ m', runTo (ofP p) (A &&& relM L p) n' (JG (ofKept p) l) = (A' &&& relM L p, m', true)
 | [], A, n, A', m, n', hg, h => by
  simp only [runTo, Prod.mk.injEq] at h
  obtain ⟨rfl, rfl, _⟩ := h
  exact ⟨n', rfl⟩
 | k :: r, A, n, A', m, n', hg, h => by
  cases hk : stepM p A k with
  | none => rw [CT hk] at h; simp at h
  | some A1 =>
   rw [BK hk] at h
   obtain ⟨j, rfl, hj⟩ := EY hk
   have hb : JG (ofKept p) ((j : Int) :: r) = (if 0 <= Ha (ofKept p) (j : Int) then [Ha (ofKept p) (j : Int)] else []) ++ JG (ofKept p) r := by
    unfold JG; rw [List.flatMap_cons]
   rw [hb]
   rcases Jr (ofKept p) (j : Int) with ⟨i, hi, he, hv⟩ | ⟨he, hno⟩
   ·rw [he, if_pos (by omega)]
    rw [FA hM, List.length_map] at hi
    obtain ⟨j2, hj2⟩ : ∃ j, (kepL (relM L p) p.rules)[i]? = some j := ⟨_, List.getElem?_eq_getElem hi⟩
    rw [FA hM, List.getD_eq_getElem?_getD, List.getElem?_map, hj2] at hv
    have hv2 : ((j2 : Nat) : Int) = (j : Int) := by simpa using hv
    have e2 : j2 = j := by omega
    subst e2
    have hs := sim_kept (A := A) hM hg hj2
    rw [hk] at hs
    obtain ⟨m', h1⟩ := sim_bwd hM (n' + 1) (J1 hk) h
    exact ⟨m', by rw [List.singleton_append, BK hs]; exact h1⟩
   ·rw [he, if_neg (by omega), List.nil_append]
    have hout : B5 (relM L p) (p.rules.getD j AL).target = false := by
     cases hx : B5 (relM L p) (p.rules.getD j AL).target with
     | false => rfl
     | true =>
      have hm : j ∈ kepL (relM L p) p.rules := List.mem_filter.2 ⟨List.mem_range.2 hj, hx⟩
      obtain ⟨i, hi⟩ := List.mem_iff_getElem?.1 hm
      exact absurd (by rw [FA hM, List.getD_eq_getElem?_getD, List.getElem?_map, hi]; rfl) (hno i (by rw [FA hM, List.length_map]; exact (List.getElem?_eq_some_iff.1 hi).1))
    rw [<- sim_left hM hj hout hk]
    exact sim_bwd hM n' (J1 hk) h
theorem G3 (hM : Bq p L R) : goodB p p.start = true := by
 unfold goodB
 rw [hM.links]
 dsimp only
 rw [Bool.not_eq_true', List.any_eq_false]
 intro z hz
 rw [(hM.never z hz).2]; exact Bool.false_ne_true
theorem F3 (hM : Bq p L R) : (ofP p).start = p.start &&& relM L p := by rw [ofE' hM]
end
end
section
open Go.RowKit
attribute [local go_sem ↓] Go.wp_at_zero Go.wp_at_succ
set_option maxRecDepth 20000
def EP (a b : Nat) : Int := if a < b then -1 else if b < a then 1 else 0
def DF : List Nat -> List Nat -> Int
 | [], [] => 0
 | [], _ :: _ => -1
 | _ :: _, [] => 1
 | a :: r, b :: s => if EP a b = 0 then DF r s else EP a b
theorem cmpL_at {l m : List Nat} {i a b : Nat} (h1 : l[i]? = some a) (h2 : m[i]? = some b) : DF (l.drop i) (m.drop i) = if EP a b = 0 then DF (l.drop (i + 1)) (m.drop (i + 1)) else EP a b := by
 obtain ⟨h3, rfl⟩ := List.getElem?_eq_some_iff.1 h1
 obtain ⟨h4, rfl⟩ := List.getElem?_eq_some_iff.1 h2
 rw [List.drop_eq_getElem_cons h3, List.drop_eq_getElem_cons h4]
 rfl
theorem cmpL_end1 {l m : List Nat} {i : Nat} (h1 : i < l.length) (h2 : m.length <= i) : DF (l.drop i) (m.drop i) = 1 := by
 rw [List.drop_eq_getElem_cons h1, List.drop_eq_nil_of_le h2]; rfl
theorem cmpL_end2 {l m : List Nat} (h2 : l.length < m.length) : DF (l.drop l.length) (m.drop l.length) = -1 := by
 rw [List.drop_eq_getElem_cons h2, List.drop_eq_nil_of_le (Nat.le_refl _)]; rfl
theorem cmpL_end3 {l m : List Nat} (h2 : l.length = m.length) : DF (l.drop l.length) (m.drop l.length) = 0 := by
 rw [List.drop_eq_nil_of_le (Nat.le_refl _), List.drop_eq_nil_of_le (Nat.le_of_eq h2.symm)]; rfl
theorem nan_any (a : Int) (w0 : World) : Calls Tryz.prog 132 #[.int .i64 a] w0 (AO (fun x _ => x = .bool false) w0) := by
 go_enter Tryz.func132, Tryz.ntmps132
 go_wp2_with (first | ((with_reducible refine qB ?_); refine qc ?_ ?_ <;> intro h_ <;> go_prune))
 go_ret
 exact AO.mk rfl (Below.refl _ _)
theorem ccmp_any (a b : Nat) (w0 : World) : Calls Tryz.prog 99 #[.int .i64 (a : Nat), .int .i64 (b : Nat)] w0 (AO (fun x _ => x = .int .i64 (EP a b)) w0) := by
 obtain ⟨hS⟩ : Nonempty (St w0 w0 [] fun _ _ => True) := ⟨St.start (D := fun _ => True) (fun _ _ _ _ _ _ _ _ => trivial) trivial⟩
 obtain ⟨z, hz⟩ : ∃ z, EP a b = z := ⟨_, rfl⟩
 rw [hz]
 go_enter Tryz.func99, Tryz.ntmps99
 rcases Nat.lt_trichotomy a b with h | h | h
 ·obtain rfl : z = -1 := by rw [<- hz]; unfold EP; rw [if_pos h]
  clear hz
  go_wp2_with (first
   | ((with_reducible refine qB ?_); refine qc ?_ ?_ <;> intro h_ <;> go_prune)
   | (go_at_call 132; refine (nan_any _ _).mono ?_; rintro r_ w_ ⟨_, rfl, rfl, hb_⟩; replace hS := hS.ext hb_; clear hb_))
  go_ret
  exact AO.mk rfl hS.below
 ·obtain rfl : z = 0 := by rw [<- hz]; unfold EP; rw [if_neg (by omega), if_neg (by omega)]
  clear hz
  go_wp2_with (first
   | ((with_reducible refine qB ?_); refine qc ?_ ?_ <;> intro h_ <;> go_prune)
   | (go_at_call 132; refine (nan_any _ _).mono ?_; rintro r_ w_ ⟨_, rfl, rfl, hb_⟩; replace hS := hS.ext hb_; clear hb_))
  go_ret
  exact AO.mk rfl hS.below
 ·obtain rfl : z = 1 := by rw [<- hz]; unfold EP; rw [if_neg (by omega), if_pos h]
  clear hz
  go_wp2_with (first
   | ((with_reducible refine qB ?_); refine qc ?_ ?_ <;> intro h_ <;> go_prune)
   | (go_at_call 132; refine (nan_any _ _).mono ?_; rintro r_ w_ ⟨_, rfl, rfl, hb_⟩; replace hS := hS.ext hb_; clear hb_))
  go_ret
  exact AO.mk rfl hS.below
set_option maxHeartbeats 1000000 in
theorem scmp_any {w0 : World} {D E : Nat -> Prop} {u v : Value} {l m : List Nat} (hu : Sl w0 D 1 u l.length (Bw l)) (hv : Sl w0 E 1 v m.length (Bw m)) (hl : l.length <= 1000000) (hm : m.length <= 1000000) :
  Calls Tryz.prog 49 #[u, v] w0 (AO (fun x _ => x = .int .i64 (DF l m)) w0) := by
 obtain ⟨A, c, rfl, _, _⟩ := hu.shape
 obtain ⟨B, d, rfl, _, _⟩ := hv.shape
 obtain ⟨K, k1, k2, hS⟩ : ∃ K : (Nat -> Prop) -> World -> Prop, (∀ D w, K D w -> Sl w D 1 (.slice A l.length c) l.length (Bw l)) /\ (∀ D w, K D w -> Sl w D 1 (.slice B m.length d) m.length (Bw m)) /\ St w0 w0 [] K := ⟨fun D w => Sl w D 1 (.slice A l.length c) l.length (Bw l) /\ Sl w D 1 (.slice B m.length d) m.length (Bw m), fun _ _ h => h.1, fun _ _ h => h.2, St.start (D := fun _ => True) ((At (by decide)).and (At (by decide))) ⟨hu.imp fun _ _ _ => trivial, hv.imp fun _ _ _ => trivial⟩⟩
 clear hu hv
 obtain ⟨z, hz⟩ : ∃ z, DF l m = z := ⟨_, rfl⟩
 rw [hz]
 go_enter Tryz.func49, Tryz.ntmps49
 go_wp2_with fail
 go_loopw [11] (fun iv wr => ∃ i : Nat, iv = .int .i64 (i : Nat) /\ i <= l.length /\ i <= m.length /\ Hid (DF (l.drop i) (m.drop i) = z) /\ St w0 wr [] K) (fun i _ => l.length - (intOf i).toNat)
 case atStart => exact ⟨0, rfl, by omega, by omega, Lib.hid hz, hS⟩
 case round =>
  clear hS hz
  obtain ⟨i, rfl, hi, hj, HZ, hS⟩ := hrel
  by_cases hil : i < l.length
  ·obtain ⟨b, o, rfl⟩ := sl_pos (k1 _ _ hS.ro) (by omega)
   obtain ⟨y, hy⟩ : ∃ y, l[i]? = some y := ⟨_, List.getElem?_eq_getElem hil⟩
   have HX : Hid ((Bw l)[i]? = some (.int .i64 (y : Nat))) := Lib.hid (by unfold Bw; rw [List.getElem?_map, hy]; rfl)
   have HY := Lib.hid hy
   clear hy
   by_cases him : i < m.length
   ·obtain ⟨b2, o2, rfl⟩ := sl_pos (k2 _ _ hS.ro) (by omega)
    obtain ⟨x, hx⟩ : ∃ x, m[i]? = some x := ⟨_, List.getElem?_eq_getElem him⟩
    have HX2 : Hid ((Bw m)[i]? = some (.int .i64 (x : Nat))) := Lib.hid (by unfold Bw; rw [List.getElem?_map, hx]; rfl)
    have HE := Lib.hid (cmpL_at HY.out hx)
    rw [HZ.out] at HE
    clear hx HZ
    by_cases e : EP y x = 0
    ·have HC := Lib.hid e
     have HE2 : Hid (DF (l.drop (i + 1)) (m.drop (i + 1)) = z) := Lib.hid (by rw [HE.out, if_pos e])
     clear e HE
     go_wp2_with (first
      | ((with_reducible refine qB ?_); refine qc ?_ ?_ <;> intro h_ <;> go_prune)
      | ((with_reducible refine qA 15 ?_); refine BigFrame.wpList_want rfl fun _ hK => Ah rfl rfl (by kernel_rfl) (D6 (k1 _ _ hS.ro) HX.out) (hK _ _ ?_))
      | ((with_reducible refine qA 23 ?_); refine BigFrame.wpList_want rfl fun _ hK => Ah rfl rfl (by kernel_rfl) (D6 (k2 _ _ hS.ro) HX2.out) (hK _ _ ?_))
      | (go_at_call 99; refine (ccmp_any _ _ _).mono ?_; rw [HC.out]; rintro r_ w_ ⟨_, rfl, rfl, hb_⟩; replace hS := hS.ext hb_; clear hb_))
     exact ⟨⟨i + 1, by go_num, hil, him, HE2, hS⟩, by simp [intOf]; omega⟩
    ·have HE2 : Hid (EP y x = z) := Lib.hid (by rw [HE.out, if_neg e])
     have hz0 : z ≠ 0 := by rw [<- HE2.out]; exact e
     clear e HE
     go_wp2_with (first
      | ((with_reducible refine qB ?_); refine qc ?_ ?_ <;> intro h_ <;> go_prune)
      | ((with_reducible refine qA 15 ?_); refine BigFrame.wpList_want rfl fun _ hK => Ah rfl rfl (by kernel_rfl) (D6 (k1 _ _ hS.ro) HX.out) (hK _ _ ?_))
      | ((with_reducible refine qA 23 ?_); refine BigFrame.wpList_want rfl fun _ hK => Ah rfl rfl (by kernel_rfl) (D6 (k2 _ _ hS.ro) HX2.out) (hK _ _ ?_))
      | (go_at_call 99; refine (ccmp_any _ _ _).mono ?_; rw [HE2.out]; rintro r_ w_ ⟨_, rfl, rfl, hb_⟩; replace hS := hS.ext hb_; clear hb_))
     go_ret
     exact AO.mk rfl hS.below
   ·have HE : Hid (z = 1) := Lib.hid (by rw [<- HZ.out]; exact cmpL_end1 hil (by omega))
    go_wp2_with (first
     | ((with_reducible refine qB ?_); refine qc ?_ ?_ <;> intro h_ <;> go_prune)
     | ((with_reducible refine qA 15 ?_); refine BigFrame.wpList_want rfl fun _ hK => Ah rfl rfl (by kernel_rfl) (D6 (k1 _ _ hS.ro) HX.out) (hK _ _ ?_)))
    go_ret
    exact AO.mk (by rw [HE.out]; rfl) hS.below
  ·obtain rfl : i = l.length := by omega
   by_cases e : l.length < m.length
   ·have HE : Hid (z = -1) := Lib.hid (by rw [<- HZ.out]; exact cmpL_end2 e)
    go_wp2_with (first | ((with_reducible refine qB ?_); refine qc ?_ ?_ <;> intro h_ <;> go_prune))
    go_ret
    exact AO.mk (by rw [HE.out]; rfl) hS.below
   ·have HE : Hid (z = 0) := Lib.hid (by rw [<- HZ.out]; exact cmpL_end3 (by omega))
    go_wp2_with (first | ((with_reducible refine qB ?_); refine qc ?_ ?_ <;> intro h_ <;> go_prune))
    go_ret
    exact AO.mk (by rw [HE.out]; rfl) hS.below
end
section
open Go.RowKit
set_option exponentiation.threshold 5000
def AtD (p : Ac) (n s : Nat) : Prop := ∃ l : List Int, l.length = n /\ ∃ m, runTo p p.start 0 l = (s, m, true)
def Eo (p : Ac) (d : Nat) : Prop := (∃ s, AtD p d s /\ reachB p s = true) /\ ∀ n, n < d -> ∀ s, AtD p n s -> reachB p s = false
def CD (p : Ac) (d s : Nat) : Prop := ∃ n, n <= d /\ AtD p n s
section
variable {p : Ac}
theorem nodup_sub : ∀ {l m : List Nat}, l.Nodup -> (∀ x ∈ l, x ∈ m) -> l.length <= m.length
 | [], _, _, _ => Nat.zero_le _
 | x :: r, m, h, hs => by
  have hx := hs x (by simp)
  have ih := nodup_sub (l := r) (m := m.erase x) (List.nodup_cons.1 h).2 fun y hy => (List.mem_erase_of_ne (fun e : y = x => (List.nodup_cons.1 h).1 (by rw [<- e]; exact hy))).2 (hs y (by simp [hy]))
  have h1 := List.length_erase_of_mem hx
  have h2 := List.length_pos_of_mem hx
  rw [List.length_cons]
  omega
theorem at_zero : AtD p 0 p.start := ⟨[], rfl, 0, by rw [runTo]⟩
theorem IG {n s t : Nat} {k : Int} (h : AtD p n s) (hk : stepM p s k = some t) : AtD p (n + 1) t := by
 obtain ⟨l, rfl, m, hr⟩ := h
 exact ⟨l ++ [k], by simp, _, G5 hr hk⟩
theorem run_rch : ∀ {l : List Int} {N n s m : Nat}, Rch p N -> runTo p N n l = (s, m, true) -> Rch p s
 | [], N, n, s, m, h, hr => by
  rw [runTo] at hr
  obtain rfl : N = s := by injection hr
  exact h
 | k :: r, N, n, s, m, h, hr => by
  cases hk : stepM p N k with
  | none => rw [CT hk] at hr; simp at hr
  | some M => rw [BK hk] at hr; exact run_rch (.step h hk) hr
theorem at_rch {n s : Nat} (h : AtD p n s) : Rch p s := by
 obtain ⟨l, _, m, hr⟩ := h
 exact run_rch .start hr
theorem GH {k : Int} : ∀ {l : List Int} {N n t m : Nat}, runTo p N n (l ++ [k]) = (t, m, true) -> ∃ s m', runTo p N n l = (s, m', true) /\ stepM p s k = some t
 | [], N, n, t, m, hr => by
  rw [List.nil_append] at hr
  cases hk : stepM p N k with
  | none => rw [CT hk] at hr; simp at hr
  | some M =>
   rw [BK hk, runTo] at hr
   obtain rfl : M = t := by injection hr
   exact ⟨N, n, by rw [runTo], hk⟩
 | j :: r, N, n, t, m, hr => by
  rw [List.cons_append] at hr
  cases hk : stepM p N j with
  | none => rw [CT hk] at hr; simp at hr
  | some M =>
   rw [BK hk] at hr
   obtain ⟨s, m', h1, h2⟩ := GH hr
   exact ⟨s, m', by rw [BK hk]; exact h1, h2⟩
theorem at_pred {n t : Nat} (h : AtD p (n + 1) t) : ∃ s k, AtD p n s /\ stepM p s k = some t := by
 obtain ⟨l, hl, m, hr⟩ := h
 obtain ⟨r, k, rfl⟩ : ∃ r k, l = r ++ [k] := ⟨l.dropLast, l.getLast (by intro e; simp [e] at hl), (List.dropLast_concat_getLast _).symm⟩
 obtain ⟨s, m', h1, h2⟩ := GH hr
 exact ⟨s, k, ⟨r, by simpa using hl, m', h1⟩, h2⟩
theorem near_all {d : Nat} (h : ∀ s, CD p (d + 1) s -> CD p d s) {s : Nat} (hs : Rch p s) : CD p d s := by
 induction hs with
 | start => exact ⟨0, Nat.zero_le _, at_zero⟩
 | step _ hk ih => obtain ⟨n, hn, h1⟩ := ih; exact h _ ⟨n + 1, by omega, IG h1 hk⟩
theorem near_mono {d e s : Nat} (h : CD p d s) (hd : d <= e) : CD p e s := by obtain ⟨n, hn, h⟩ := h; exact ⟨n, by omega, h⟩
theorem near_zero {s : Nat} : CD p 0 s ↔ s = p.start := by
 constructor
 ·rintro ⟨n, hn, l, hl, m, hr⟩
  obtain rfl := List.length_eq_zero_iff.1 (by omega : l.length = 0)
  rw [runTo] at hr
  injection hr with h1 _
  exact h1.symm
 ·rintro rfl
  exact ⟨0, Nat.le_refl _, at_zero⟩
theorem near_succ {d t : Nat} : CD p (d + 1) t ↔ CD p d t \/ ∃ s k, CD p d s /\ (∀ e, e < d -> ¬ CD p e s) /\ stepM p s k = some t := by
 constructor
 ·rintro ⟨n, hn, h⟩
  rcases Nat.lt_or_ge d n with h1 | h1
  ·obtain rfl : n = d + 1 := by omega
   obtain ⟨s, k, h2, h3⟩ := at_pred h
   by_cases h4 : ∃ e, e < d /\ CD p e s
   ·obtain ⟨e, he, i, hi, h4⟩ := h4
    exact .inl ⟨i + 1, by omega, IG h4 h3⟩
   ·exact .inr ⟨s, k, ⟨d, Nat.le_refl _, h2⟩, fun e he h5 => h4 ⟨e, he, h5⟩, h3⟩
  ·exact .inl ⟨n, h1, h⟩
 ·rintro (h | ⟨s, k, ⟨n, hn, h⟩, _, hk⟩)
  ·exact near_mono h (by omega)
  ·exact ⟨n + 1, by omega, IG h hk⟩
theorem goal_near {d : Nat} : Eo p d ↔ (∃ s, CD p d s /\ reachB p s = true) /\ ∀ n, n < d -> ∀ s, CD p n s -> reachB p s = false := by
 constructor
 ·rintro ⟨⟨s, h1, h2⟩, h3⟩
  exact ⟨⟨s, ⟨d, Nat.le_refl _, h1⟩, h2⟩, fun n hn s ⟨i, hi, hs⟩ => h3 i (by omega) s hs⟩
 ·rintro ⟨⟨s, ⟨i, hi, h1⟩, h2⟩, h3⟩
  obtain rfl : i = d := by
   rcases Nat.lt_or_ge i d with h | h
   ·have := h3 i h s ⟨i, Nat.le_refl _, h1⟩
    rw [h2] at this; cases this
   ·omega
  exact ⟨⟨s, h1, h2⟩, fun n hn s hs => h3 n hn s ⟨n, Nat.le_refl _, hs⟩⟩
theorem goal_uniq {d e : Nat} (h1 : Eo p d) (h2 : Eo p e) : d = e := by
 obtain ⟨⟨s, a1, a2⟩, a3⟩ := h1
 obtain ⟨⟨t, b1, b2⟩, b3⟩ := h2
 rcases Nat.lt_trichotomy d e with h | h | h
 ·have := b3 d h s a1; rw [a2] at this; cases this
 ·exact h
 ·have := a3 e h t b1; rw [b2] at this; cases this
end
abbrev DP := Nat × Int × Int
def Bf : DP := (0, -1, -1)
noncomputable def addR (p : Ac) (l : List DP) (i k : Nat) : List DP := match stepM p (l.getD i Bf).1 (k : Nat) with
 | none => l
 | some t => if t ∈ l.map (·.1) then l else l ++ [(t, (i : Int), (k : Int))]
noncomputable def rowR (p : Ac) (l : List DP) (i m : Nat) : List DP := (List.range m).foldl (fun l k => addR p l i k) l
noncomputable def lvlR (p : Ac) (l : List DP) (a n : Nat) : List DP := (List.range n).foldl (fun l j => rowR p l (a + j) p.rules.length) l
theorem Dd (p : Ac) (l : List DP) (i m : Nat) : rowR p l i (m + 1) = addR p (rowR p l i m) i m := by
 unfold rowR; rw [List.range_succ, List.foldl_append]; rfl
theorem Df (p : Ac) (l : List DP) (a n : Nat) : lvlR p l a (n + 1) = rowR p (lvlR p l a n) (a + n) p.rules.length := by
 unfold lvlR; rw [List.range_succ, List.foldl_append]; rfl
theorem Dg (p : Ac) (l : List DP) (i k : Nat) : (addR p l i k = l /\ ∀ t, stepM p (l.getD i Bf).1 (k : Nat) = some t -> t ∈ l.map (·.1)) \/ ∃ t, stepM p (l.getD i Bf).1 (k : Nat) = some t /\ ¬ t ∈ l.map (·.1) /\ addR p l i k = l ++ [(t, (i : Int), (k : Int))] := by
 unfold addR
 cases h : stepM p (l.getD i Bf).1 (k : Nat) with
 | none => exact .inl ⟨rfl, fun t ht => by cases ht⟩
 | some t =>
  by_cases h2 : t ∈ l.map (·.1)
  ·exact .inl ⟨by dsimp only; rw [if_pos h2], fun t' ht => by obtain rfl := Option.some.inj ht; exact h2⟩
  ·exact .inr ⟨t, rfl, h2, by dsimp only; rw [if_neg h2]⟩
theorem addR_pre (p : Ac) (l : List DP) (i k : Nat) : l <+: addR p l i k := by
 rcases Dg p l i k with ⟨h, _⟩ | ⟨t, _, _, h⟩
 ·rw [h]; exact List.prefix_refl _
 ·rw [h]; exact List.prefix_append _ _
theorem Dp (p : Ac) (l : List DP) (i : Nat) : ∀ m, l <+: rowR p l i m
 | 0 => List.prefix_refl _
 | m + 1 => by rw [Dd]; exact (Dp p l i m).trans (addR_pre _ _ _ _)
theorem Du (p : Ac) (l : List DP) (a : Nat) : ∀ n, l <+: lvlR p l a n
 | 0 => List.prefix_refl _
 | n + 1 => by rw [Df]; exact (Du p l a n).trans (Dp _ _ _ _)
theorem rowR_mono (p : Ac) (l : List DP) (i : Nat) {m n : Nat} (h : m <= n) : rowR p l i m <+: rowR p l i n := by
 induction h with
 | refl => exact List.prefix_refl _
 | step _ ih => rw [Dd]; exact ih.trans (addR_pre _ _ _ _)
theorem lvlR_mono (p : Ac) (l : List DP) (a : Nat) {m n : Nat} (h : m <= n) : lvlR p l a m <+: lvlR p l a n := by
 induction h with
 | refl => exact List.prefix_refl _
 | step _ ih => rw [Df]; exact ih.trans (Dp _ _ _ _)
theorem GV {l m : List DP} (h : l <+: m) {i : Nat} (hi : i < l.length) : m.getD i Bf = l.getD i Bf := by
 obtain ⟨t, rfl⟩ := h
 rw [List.getD_eq_getElem?_getD, List.getD_eq_getElem?_getD, List.getElem?_append_left hi]
theorem mem_addR {p : Ac} {l : List DP} {i k s : Nat} : s ∈ (addR p l i k).map (·.1) ↔ s ∈ l.map (·.1) \/ stepM p (l.getD i Bf).1 (k : Nat) = some s := by
 rcases Dg p l i k with ⟨h, h2⟩ | ⟨t, h1, _, h⟩
 ·rw [h]; exact ⟨.inl, fun h => h.elim id (h2 s)⟩
 ·rw [h, h1, List.map_append, List.mem_append]
  constructor
  ·rintro (h | h)
   ·exact .inl h
   ·right; rw [List.map_cons, List.map_nil, List.mem_singleton] at h; rw [h]
  ·rintro (h | h)
   ·exact .inl h
   ·right; obtain rfl := Option.some.inj h; simp
theorem mem_rowR {p : Ac} {l : List DP} {i s : Nat} (hi : i < l.length) : ∀ {m : Nat}, s ∈ (rowR p l i m).map (·.1) ↔ s ∈ l.map (·.1) \/ ∃ k, k < m /\ stepM p (l.getD i Bf).1 (k : Nat) = some s
 | 0 => by
  constructor
  ·exact .inl
  ·rintro (h | ⟨k, hk, _⟩)
   ·exact h
   ·omega
 | m + 1 => by
  rw [Dd, mem_addR, mem_rowR hi, GV (Dp p l i m) hi]
  constructor
  ·rintro ((h | ⟨k, hk, h⟩) | h)
   ·exact .inl h
   ·exact .inr ⟨k, by omega, h⟩
   ·exact .inr ⟨m, by omega, h⟩
  ·rintro (h | ⟨k, hk, h⟩)
   ·exact .inl (.inl h)
   ·rcases Nat.lt_or_ge k m with h1 | h1
    ·exact .inl (.inr ⟨k, h1, h⟩)
    ·obtain rfl : k = m := by omega
     exact .inr h
theorem mem_lvlR {p : Ac} {l : List DP} {a s : Nat} : ∀ {n : Nat}, a + n <= l.length -> (s ∈ (lvlR p l a n).map (·.1) ↔ s ∈ l.map (·.1) \/ ∃ j, a <= j /\ j < a + n /\ ∃ k, k < p.rules.length /\ stepM p (l.getD j Bf).1 (k : Nat) = some s)
 | 0, _ => by
  constructor
  ·exact .inl
  ·rintro (h | ⟨k, hk, h, _⟩)
   ·exact h
   ·omega
 | n + 1, hn => by
  have hp := Du p l a n
  rw [Df, mem_rowR (by have := hp.length_le; omega), mem_lvlR (by omega), GV hp (by omega)]
  constructor
  ·rintro ((h | ⟨j, h1, h2, h⟩) | h)
   ·exact .inl h
   ·exact .inr ⟨j, h1, by omega, h⟩
   ·exact .inr ⟨a + n, by omega, by omega, h⟩
  ·rintro (h | ⟨j, h1, h2, h⟩)
   ·exact .inl (.inl h)
   ·rcases Nat.lt_or_ge j (a + n) with h3 | h3
    ·exact .inl (.inr ⟨j, h1, h3, h⟩)
    ·obtain rfl : j = a + n := by omega
     exact .inr h
structure WfR (p : Ac) (l : List DP) : Prop where
 head : l[0]? = some (p.start, -1, -1)
 nodup : (l.map (·.1)).Nodup
 link : ∀ (j : Nat) (z : DP), l[j]? = some z -> 0 < j -> ∃ (i k : Nat) (y : DP), z.2.1 = (i : Int) /\ z.2.2 = (k : Int) /\ i < j /\ k < p.rules.length /\ l[i]? = some y /\ stepM p y.1 (k : Nat) = some z.1
def Dx (l : List DP) : Nat -> Nat -> List Nat
 | 0, _ => []
 | n + 1, i => if 0 <= (l.getD i Bf).2.1 then (l.getD i Bf).2.2.toNat :: Dx l n (l.getD i Bf).2.1.toNat else []
def BI (l : List DP) (i : Nat) : List Nat := (Dx l (i + 1) i).reverse
section
variable {p : Ac} {l m : List DP}
theorem WfR.pos (h : WfR p l) : 0 < l.length := (List.getElem?_eq_some_iff.1 h.head).1
theorem FK {i : Nat} (hi : i < l.length) : l[i]? = some (l.getD i Bf) := by rw [List.getD_eq_getElem?_getD, List.getElem?_eq_getElem hi]; rfl
theorem Hc {i : Nat} {z : DP} (h : l[i]? = some z) : l.getD i Bf = z := by rw [List.getD_eq_getElem?_getD, h]; rfl
theorem WfR.from0 (h : WfR p l) {i : Nat} (hi : i < l.length) : (0 <= (l.getD i Bf).2.1 ↔ 0 < i) /\ ((l.getD i Bf).2.1.toNat < i \/ i = 0) := by
 rcases Nat.eq_zero_or_pos i with h0 | h0
 ·subst h0
  have e : l.getD 0 Bf = (p.start, -1, -1) := Hc h.head
  rw [e]; exact ⟨by simp, .inr rfl⟩
 ·obtain ⟨j, k, y, h1, -, h3, -⟩ := h.link i _ (FK hi) h0
  rw [h1]; exact ⟨by simp; omega, .inl (by omega)⟩
theorem Gi (h : WfR p l) : ∀ (m i n : Nat), i < m -> i < l.length -> i < n -> Dx l n i = Dx l (i + 1) i
 | 0, _, _, h1, _, _ => by omega
 | m + 1, i, n, h1, hi, hn => by
  obtain ⟨n, rfl⟩ : ∃ k, n = k + 1 := ⟨n - 1, by omega⟩
  unfold Dx
  obtain ⟨h2, h3⟩ := h.from0 hi
  split
  ·rename_i h4
   have h5 := h2.1 h4
   have h6 : (l.getD i Bf).2.1.toNat < i := by omega
   rw [Gi h m _ n (by omega) (by omega) (by omega)]
   obtain ⟨i, rfl⟩ : ∃ k, i = k + 1 := ⟨i - 1, by omega⟩
   rw [Gi h m _ (i + 1) (by omega) (by omega) (by omega)]
  ·rfl
theorem JF (h : WfR p l) {i : Nat} (hi : i < l.length) (h0 : 0 <= (l.getD i Bf).2.1) : Dx l (i + 1) i = (l.getD i Bf).2.2.toNat :: Dx l ((l.getD i Bf).2.1.toNat + 1) (l.getD i Bf).2.1.toNat := by
 obtain ⟨h2, h3⟩ := h.from0 hi
 have h5 := h2.1 h0
 have h6 : (l.getD i Bf).2.1.toNat < i := by omega
 conv => lhs; unfold Dx
 rw [if_pos h0, Gi h (i + 1) _ i (by omega) (by omega) h6]
theorem backR_end {i : Nat} (h0 : ¬ 0 <= (l.getD i Bf).2.1) : Dx l (i + 1) i = [] := by
 unfold Dx
 rw [if_neg h0]
theorem backR_len : ∀ (n i : Nat), (Dx l n i).length <= n
 | 0, _ => Nat.le_refl _
 | n + 1, i => by
  unfold Dx
  split
  ·have := backR_len n (l.getD i Bf).2.1.toNat
   rw [List.length_cons]; omega
  ·simp
theorem backR_pre (h : l <+: m) (hw : WfR p l) : ∀ (n i : Nat), i < l.length -> Dx m n i = Dx l n i
 | 0, _, _ => rfl
 | n + 1, i, hi => by
  unfold Dx
  rw [GV h hi]
  split
  ·rename_i h0
   obtain ⟨h2, h3⟩ := hw.from0 hi
   have := h2.1 h0
   rw [backR_pre h hw n _ (by omega)]
  ·rfl
theorem planR_pre (h : l <+: m) (hw : WfR p l) {i : Nat} (hi : i < l.length) : BI m i = BI l i := by
 unfold BI
 rw [backR_pre h hw _ _ hi]
theorem G9 (hw : WfR p l) {j i k : Nat} (hj : j < l.length) (h1 : (l.getD j Bf).2.1 = (i : Int)) (h2 : (l.getD j Bf).2.2 = (k : Int)) : BI l j = BI l i ++ [k] := by
 unfold BI
 rw [JF hw hj (by rw [h1]; omega), h1, h2, Int.toNat_natCast, Int.toNat_natCast, List.reverse_cons]
theorem G8 (hw : WfR p l) : BI l 0 = [] := by
 unfold BI
 rw [backR_end (by rw [Hc hw.head]; exact of_decide_eq_true rfl)]; rfl
def CB (l : List Nat) : List Int := l.map fun k : Nat => (k : Int)
theorem planR_run (hw : WfR p l) : ∀ (n i : Nat), i < n -> i < l.length -> runTo p p.start 0 (CB (BI l i)) = ((l.getD i Bf).1, (BI l i).length, true)
 | 0, _, h, _ => by omega
 | n + 1, i, hn, hi => by
  rcases Nat.eq_zero_or_pos i with h0 | h0
  ·subst h0
   rw [G8 hw, Hc hw.head]; rfl
  ·obtain ⟨j, k, y, h1, h2, h3, _, h5, h6⟩ := hw.link i _ (FK hi) h0
   rw [G9 hw hi h1 h2]
   have ih := planR_run hw n j (by omega) (by omega)
   rw [Hc h5] at ih
   have := G5 ih h6
   simpa [CB] using this
theorem GX (hw : WfR p l) : ∀ (n i : Nat), i < n -> i < l.length -> (BI l i).length <= i
 | 0, _, h, _ => by omega
 | n + 1, i, hn, hi => by
  rcases Nat.eq_zero_or_pos i with h0 | h0
  ·subst h0
   rw [G8 hw]; exact Nat.le_refl _
  ·obtain ⟨j, k, y, h1, h2, h3, h4, h5, h6⟩ := hw.link i _ (FK hi) h0
   rw [G9 hw hi h1 h2, List.length_append]
   have := GX hw n j (by omega) (by omega)
   simp; omega
theorem wf_one : WfR p [(p.start, -1, -1)] := ⟨rfl, by simp, fun j z h h0 => by
 obtain ⟨j, rfl⟩ : ∃ k, j = k + 1 := ⟨j - 1, by omega⟩
 simp at h⟩
theorem wf_addR (hw : WfR p l) {i k : Nat} (hi : i < l.length) (hk : k < p.rules.length) : WfR p (addR p l i k) := by
 rcases Dg p l i k with ⟨h, _⟩ | ⟨t, h1, h2, h⟩
 ·rw [h]; exact hw
 rw [h]
 have hp := hw.pos
 refine ⟨by rw [List.getElem?_append_left hp]; exact hw.head, ?_, fun j z hz h0 => ?_⟩
 ·rw [List.map_append, List.nodup_append]
  refine ⟨hw.nodup, by simp, fun x hx y hy => ?_⟩
  simp only [List.map_cons, List.map_nil, List.mem_singleton] at hy
  subst hy
  rintro rfl
  exact h2 hx
 ·rcases Nat.lt_or_ge j l.length with h3 | h3
  ·rw [List.getElem?_append_left h3] at hz
   obtain ⟨i', k', y, q1, q2, q3, q4, q5, q6⟩ := hw.link j z hz h0
   exact ⟨i', k', y, q1, q2, q3, q4, by rw [List.getElem?_append_left (by omega)]; exact q5, q6⟩
  ·have h4 := (List.getElem?_eq_some_iff.1 hz).1
   rw [List.length_append, List.length_singleton] at h4
   obtain rfl : j = l.length := by omega
   rw [List.getElem?_append_right (Nat.le_refl _), Nat.sub_self] at hz
   obtain rfl := Option.some.inj hz
   exact ⟨i, k, _, rfl, rfl, hi, hk, by rw [List.getElem?_append_left hi]; exact FK hi, h1⟩
theorem wf_rowR (hw : WfR p l) {i : Nat} (hi : i < l.length) : ∀ {m : Nat}, m <= p.rules.length -> WfR p (rowR p l i m)
 | 0, _ => hw
 | m + 1, hm => by
  rw [Dd]
  exact wf_addR (wf_rowR hw hi (by omega)) (by have := (Dp p l i m).length_le; omega) (by omega)
theorem IA (hw : WfR p l) {a : Nat} : ∀ {n : Nat}, a + n <= l.length -> WfR p (lvlR p l a n)
 | 0, _ => hw
 | n + 1, hn => by
  rw [Df]
  exact wf_rowR (IA hw (by omega)) (by have := (Du p l a n).length_le; omega) (Nat.le_refl _)
def AscR (l : List DP) (b : Nat) : Prop := ∀ i j y z, b <= i -> i < j -> l[i]? = some y -> l[j]? = some z -> y.2.1 < z.2.1 \/ y.2.1 = z.2.1 /\ y.2.2 < z.2.2
def BndR (l : List DP) (b a i k : Nat) : Prop := ∀ j z, b <= j -> l[j]? = some z -> (a : Int) <= z.2.1 /\ (z.2.1 < i \/ z.2.1 = i /\ z.2.2 < k)
theorem asc_addR {b a i k : Nat} (ha : a <= i) (h1 : AscR l b) (h2 : BndR l b a i k) : AscR (addR p l i k) b /\ BndR (addR p l i k) b a i (k + 1) := by
 have up : ∀ {z : DP}, ((a : Int) <= z.2.1 /\ (z.2.1 < (i : Int) \/ z.2.1 = (i : Int) /\ z.2.2 < (k : Int))) -> ((a : Int) <= z.2.1 /\ (z.2.1 < (i : Int) \/ z.2.1 = (i : Int) /\ z.2.2 < ((k + 1 : Nat) : Int))) := fun h => by omega
 rcases Dg p l i k with ⟨h, _⟩ | ⟨t, _, _, h⟩
 ·rw [h]; exact ⟨h1, fun j z hj hz => up (h2 j z hj hz)⟩
 rw [h]
 have last : ∀ j z, (l ++ [(t, (i : Int), (k : Int))])[j]? = some z -> l[j]? = some z \/ z = (t, (i : Int), (k : Int)) /\ j = l.length := fun j z hz => by
  rcases Nat.lt_or_ge j l.length with h3 | h3
  ·rw [List.getElem?_append_left h3] at hz; exact .inl hz
  ·have h4 := (List.getElem?_eq_some_iff.1 hz).1
   rw [List.length_append, List.length_singleton] at h4
   obtain rfl : j = l.length := by omega
   rw [List.getElem?_append_right (Nat.le_refl _), Nat.sub_self] at hz
   exact .inr ⟨(Option.some.inj hz).symm, rfl⟩
 constructor
 ·intro i' j y z hb hij hy hz
  rcases last _ _ hy with hy | ⟨rfl, rfl⟩
  ·rcases last _ _ hz with hz | ⟨rfl, rfl⟩
   ·exact h1 i' j y z hb hij hy hz
   ·have := (h2 i' y hb hy).2
    exact this
  ·rcases last _ _ hz with hz | ⟨rfl, rfl⟩
   ·have := (List.getElem?_eq_some_iff.1 hz).1; omega
   ·omega
 ·intro j z hj hz
  rcases last _ _ hz with hz | ⟨rfl, rfl⟩
  ·exact up (h2 j z hj hz)
  ·exact ⟨by dsimp only; omega, .inr ⟨rfl, by dsimp only; omega⟩⟩
theorem asc_rowR {b a i : Nat} (ha : a <= i) (h1 : AscR l b) (h2 : BndR l b a i 0) : ∀ m, AscR (rowR p l i m) b /\ BndR (rowR p l i m) b a i m
 | 0 => ⟨h1, h2⟩
 | m + 1 => by
  rw [Dd]
  obtain ⟨h3, h4⟩ := asc_rowR ha h1 h2 m
  exact asc_addR ha h3 h4
theorem asc_lvlR {a : Nat} : ∀ n, AscR (lvlR p l a n) l.length /\ BndR (lvlR p l a n) l.length a (a + n) 0
 | 0 => ⟨fun i j y z hb hij hy _ => by have := (List.getElem?_eq_some_iff.1 hy).1; change i < l.length at this; omega, fun j z hj hz => by have := (List.getElem?_eq_some_iff.1 hz).1; change j < l.length at this; omega⟩
 | n + 1 => by
  obtain ⟨h1, h2⟩ := asc_lvlR n
  rw [Df]
  obtain ⟨h3, h4⟩ := asc_rowR (p := p) (by omega) h1 h2 p.rules.length
  exact ⟨h3, fun j z hj hz => by have := h4 j z hj hz; omega⟩
theorem FT : ∀ (P : List Nat) {A B : List Nat}, DF (P ++ A) (P ++ B) = DF A B
 | [], _, _ => rfl
 | x :: P, A, B => by
  rw [List.cons_append, List.cons_append, DF, if_pos (by simp [EP])]
  exact FT P
theorem Ir : ∀ {P Q A B : List Nat}, P.length = Q.length -> DF P Q = -1 -> DF (P ++ A) (Q ++ B) = -1
 | [], [], _, _, _, h => by exact absurd h (by decide)
 | x :: P, y :: Q, A, B, e, h => by
  rw [List.cons_append, List.cons_append, DF]
  rw [DF] at h
  split at h
  ·rename_i h0
   rw [if_pos h0]; exact Ir (by simpa using e) h
  ·rename_i h0
   rw [if_neg h0]; exact h
structure LvR (p : Ac) (d : Nat) (l : List DP) (a : Nat) : Prop where
 wf : WfR p l
 mem : ∀ s, s ∈ l.map (·.1) ↔ CD p d s
 old : ∀ s, s ∈ (l.take a).map (·.1) ↔ ∃ e, e < d /\ CD p e s
 le : a <= l.length
 len : ∀ j, a <= j -> j < l.length -> (BI l j).length = d
 asc : ∀ i j, a <= i -> i < j -> j < l.length -> DF (BI l i) (BI l j) = -1
theorem lv_zero : LvR p 0 [(p.start, -1, -1)] 0 where
 wf := wf_one
 mem s := by simp [near_zero]
 old s := by simp
 le := by simp
 len j _ h := by
  obtain rfl : j = 0 := by simp at h; exact h
  rw [G8 (p := p) wf_one]; rfl
 asc i j _ h1 h2 := by simp at h2; omega
theorem mem_at {s : Nat} (h : s ∈ l.map (·.1)) : ∃ j, j < l.length /\ (l.getD j Bf).1 = s := by
 obtain ⟨z, hz, rfl⟩ := List.mem_map.1 h
 obtain ⟨j, hj⟩ := List.mem_iff_getElem?.1 hz
 exact ⟨j, (List.getElem?_eq_some_iff.1 hj).1, by rw [Hc hj]⟩
theorem at_mem {j : Nat} (h : j < l.length) : (l.getD j Bf).1 ∈ l.map (·.1) := List.mem_map.2 ⟨_, List.mem_of_getElem? (FK h), rfl⟩
theorem lv_succ {d a : Nat} (h : LvR p d l a) : LvR p (d + 1) (lvlR p l a (l.length - a)) l.length := by
 have hle := h.le
 have hn : a + (l.length - a) <= l.length := by omega
 have hpre := Du p l a (l.length - a)
 have hwf := IA h.wf hn
 obtain ⟨hasc, hbnd⟩ := asc_lvlR (p := p) (l := l) (a := a) (l.length - a)
 have hmem : ∀ s, s ∈ (lvlR p l a (l.length - a)).map (·.1) ↔ CD p (d + 1) s := fun s => by
  rw [mem_lvlR hn, near_succ, h.mem]
  constructor
  ·rintro (h1 | ⟨j, h1, h2, k, h3, h4⟩)
   ·exact .inl h1
   ·obtain ⟨n, hn, h5⟩ := (h.mem _).1 (at_mem (l := l) (j := j) (by omega))
    exact near_succ.1 ⟨n + 1, by omega, IG h5 h4⟩
  ·rintro (h1 | ⟨t, k, h1, h2, h3⟩)
   ·exact .inl h1
   ·obtain ⟨j, hj, rfl⟩ := mem_at ((h.mem _).2 h1)
    obtain ⟨k', rfl, hk⟩ := EY h3
    refine .inr ⟨j, Nat.le_of_not_lt fun hja => ?_, by omega, k', hk, h3⟩
    obtain ⟨e, he, h4⟩ := (h.old (l.getD j Bf).1).1 (by
     refine List.mem_map.2 ⟨l.getD j Bf, ?_, rfl⟩
     refine List.mem_of_getElem? (i := j) ?_
     rw [List.getElem?_take, if_pos hja]
     exact FK hj)
    exact h2 e he h4
 have new : ∀ j, l.length <= j -> j < (lvlR p l a (l.length - a)).length -> ∃ i k : Nat, a <= i /\ i < l.length /\ ((lvlR p l a (l.length - a)).getD j Bf).2.1 = (i : Int) /\ ((lvlR p l a (l.length - a)).getD j Bf).2.2 = (k : Int) /\ BI (lvlR p l a (l.length - a)) j = BI l i ++ [k] := fun j hj hj2 => by
  have hb := hbnd j _ hj (FK hj2)
  obtain ⟨i, k, y, q1, q2, q3, -⟩ := hwf.link j _ (FK hj2) (by have := h.wf.pos; omega)
  rw [q1] at hb
  exact ⟨i, k, by omega, by omega, q1, q2, by rw [G9 hwf hj2 q1 q2, planR_pre hpre h.wf (by omega)]⟩
 refine ⟨hwf, hmem, fun s => ?_, hpre.length_le, fun j h1 h2 => ?_, fun i j h1 h2 h3 => ?_⟩
 ·obtain ⟨t, ht⟩ := hpre
  rw [<- ht, List.take_left, h.mem]
  constructor
  ·intro h1; exact ⟨d, by omega, h1⟩
  ·rintro ⟨e, he, h1⟩; exact near_mono h1 (by omega)
 ·obtain ⟨i, k, q1, q2, -, -, q3⟩ := new j h1 h2
  rw [q3, List.length_append, h.len i q1 q2]; rfl
 ·obtain ⟨i1, k1, q1, q2, e1, f1, q3⟩ := new i h1 (by omega)
  obtain ⟨i2, k2, r1, r2, e2, f2, r3⟩ := new j (by omega) h3
  have := hasc i j _ _ h1 h2 (FK (by omega)) (FK h3)
  rw [e1, e2, f1, f2] at this
  rw [q3, r3]
  rcases Nat.lt_trichotomy i1 i2 with h4 | h4 | h4
  ·exact Ir (by rw [h.len _ q1 q2, h.len _ r1 r2]) (h.asc i1 i2 q1 h4 r2)
  ·subst h4
   rw [FT]
   have : k1 < k2 := by omega
   simp [DF, EP, this]
  ·omega
end
noncomputable def srchN (p : Ac) : Nat -> List DP × Nat
 | 0 => ([(p.start, -1, -1)], 0)
 | d + 1 => (lvlR p (srchN p d).1 (srchN p d).2 ((srchN p d).1.length - (srchN p d).2), (srchN p d).1.length)
theorem BU (p : Ac) : ∀ d, LvR p d (srchN p d).1 (srchN p d).2
 | 0 => lv_zero
 | d + 1 => lv_succ (BU p d)
theorem GA (p : Ac) (d : Nat) : (srchN p d).1 <+: (srchN p (d + 1)).1 := Du _ _ _ _
theorem IW {p : Ac} {d j : Nat} (h : j < (srchN p d).1.length) : Rch p ((srchN p d).1.getD j Bf).1 := by
 obtain ⟨n, _, h1⟩ := ((BU p d).mem _).1 (at_mem h)
 exact at_rch h1
theorem GC {p : Ac} {d : Nat} (h : (srchN p (d + 1)).1.length = (srchN p d).1.length) {s : Nat} (hs : Rch p s) : s ∈ (srchN p d).1.map (·.1) := by
 refine ((BU p d).mem s).2 (near_all (fun t ht => ?_) hs)
 rw [<- (BU p (d + 1)).mem] at ht
 rw [<- (BU p d).mem, (GA p d).eq_of_length h.symm]
 exact ht
noncomputable def endsN (p : Ac) (d : Nat) : List Nat := (List.range (d + 1)).map fun e => (srchN p e).1.length
def HitR (p : Ac) (l : List DP) (a j : Nat) : Prop := a <= j /\ j < l.length /\ reachB p (l.getD j Bf).1 = true /\ ∀ i, a <= i -> i < j -> reachB p (l.getD i Bf).1 = false
def Fi (p : Ac) (l : List DP) (a : Nat) : Prop := ∀ i, a <= i -> i < l.length -> reachB p (l.getD i Bf).1 = false
def FwdOut (p : Ac) (lim : Int) (n : Nat) (f : Bool) (pl : List Nat) (e : Int) : Prop :=
 (lim < 1 /\ n = 0 /\ f = false /\ pl = [] /\ e = 1) \/ (¬ lim < 1 /\ ¬ checkE p = 0 /\ n = 0 /\ f = false /\ pl = [] /\ e = checkE p) \/
 (¬ lim < 1 /\ checkE p = 0 /\ ∃ d, (∀ i, i < d -> Fi p (srchN p i).1 (srchN p i).2) /\ ((srchN p d).1.length : Int) <= lim /\
  ((∃ j, HitR p (srchN p d).1 (srchN p d).2 j /\ n = (srchN p d).1.length /\ f = true /\ pl = BI (srchN p d).1 j /\ e = 0) \/
   (Fi p (srchN p d).1 (srchN p d).2 /\ (srchN p (d + 1)).1.length = (srchN p d).1.length /\ n = (srchN p d).1.length /\ f = false /\ pl = [] /\ e = 0) \/
   (Fi p (srchN p d).1 (srchN p d).2 /\ lim < ((srchN p (d + 1)).1.length : Int) /\ n = 0 /\ f = false /\ pl = [] /\ e = 3)))
end
section
open Go.RowKit
attribute [local go_sem ↓] Go.wp_at_zero Go.wp_at_succ
set_option maxRecDepth 20000
set_option exponentiation.threshold 5000
open Classical in
noncomputable def rchB (p : Ac) : Bool := decide (∃ s, Rch p s /\ reachB p s = true)
open Classical in
theorem rchB_true {p : Ac} (h : ∃ s, Rch p s /\ reachB p s = true) : rchB p = true := by unfold rchB; exact decide_eq_true h
open Classical in
theorem rchB_false {p : Ac} (h : ∀ s, Rch p s -> reachB p s = false) : rchB p = false := by
 unfold rchB
 exact decide_eq_false fun ⟨s, h1, h2⟩ => by rw [h s h1] at h2; cases h2
end
section
open Go.RowKit
set_option exponentiation.threshold 5000
section
variable {p : Ac} {L : List (Nat × Nat)} {R : Nat}
theorem DS (hM : Bq p L R) (d : Nat) : (srchN p d).1.length <= 64 := by
 have h := I6 64 ((srchN p d).1.map (·.1)) (BU p d).wf.nodup fun x hx => by
  obtain ⟨j, hj, rfl⟩ := mem_at hx
  exact mask_lt hM.r5 ((IW hj).mask hM)
 rwa [List.length_map] at h
theorem no_hit {d : Nat} (h : ∀ i, i < d -> Fi p (srchN p i).1 (srchN p i).2) : ∀ n, n < d -> ∀ s, CD p n s -> reachB p s = false
 | n, hn, s, hs => by
  by_cases ho : ∃ e, e < n /\ CD p e s
  ·obtain ⟨e, he, h2⟩ := ho
   exact no_hit h e (by omega) s h2
  ·have hv := BU p n
   obtain ⟨j, hj, rfl⟩ := mem_at ((hv.mem s).2 hs)
   refine h n hn j (Nat.le_of_not_lt fun hja => ho ((hv.old _).1 ?_)) hj
   refine List.mem_map.2 ⟨(srchN p n).1.getD j Bf, List.mem_of_getElem? (i := j) ?_, rfl⟩
   rw [List.getElem?_take, if_pos hja]
   exact FK hj
termination_by n => n
def E7 (p : Ac) (n : Nat) (f : Bool) (pl : List Nat) : Prop := ∃ d, (∀ i, i < d -> Fi p (srchN p i).1 (srchN p i).2) /\
 ((∃ j, HitR p (srchN p d).1 (srchN p d).2 j /\ n = (srchN p d).1.length /\ f = true /\ pl = BI (srchN p d).1 j) \/
  (Fi p (srchN p d).1 (srchN p d).2 /\ (srchN p (d + 1)).1.length = (srchN p d).1.length /\ n = (srchN p d).1.length /\ f = false /\ pl = []))
theorem fwd_well (hM : Bq p L R) (hc : checkE p = 0) {lim : Int} (hl : 64 <= lim) {n : Nat} {f : Bool} {pl : List Nat} {e : Int} (h : FwdOut p lim n f pl e) : e = 0 /\ E7 p n f pl := by
 rcases h with ⟨h, _⟩ | ⟨_, h, _⟩ | ⟨_, _, d, h1, h2, h3⟩
 ·omega
 ·exact absurd hc h
 ·rcases h3 with ⟨j, q1, q2, q3, q4, q5⟩ | ⟨q1, q2, q3, q4, q5, q6⟩ | ⟨_, q2, _⟩
  ·exact ⟨q5, d, h1, .inl ⟨j, q1, q2, q3, q4⟩⟩
  ·exact ⟨q6, d, h1, .inr ⟨q1, q2, q3, q4, q5⟩⟩
  ·have := DS hM (d + 1); omega
theorem hit_goal {d j : Nat} (h : ∀ i, i < d -> Fi p (srchN p i).1 (srchN p i).2) (hj : HitR p (srchN p d).1 (srchN p d).2 j) :
  Eo p d /\ (BI (srchN p d).1 j).length = d /\ (∃ s, runTo p p.start 0 (CB (BI (srchN p d).1 j)) = (s, d, true) /\ reachB p s = true) /\ Rch p ((srchN p d).1.getD j Bf).1 := by
 obtain ⟨h1, h2, h3, h4⟩ := hj
 have hv := BU p d
 have hlen := hv.len j h1 h2
 have hrun := planR_run hv.wf (j + 1) j (by omega) h2
 rw [hlen] at hrun
 refine ⟨goal_near.2 ⟨⟨_, (hv.mem _).1 (at_mem h2), h3⟩, no_hit h⟩, hlen, ⟨_, hrun, h3⟩, IW h2⟩
theorem CQ {n : Nat} {f : Bool} {pl : List Nat} (h : E7 p n f pl) : f = rchB p /\ (f = false -> pl = [] /\ (∀ s, Rch p s -> ∃ d, s ∈ (srchN p d).1.map (·.1) /\ n = (srchN p d).1.length) /\ ∀ d, ¬ Eo p d) /\ (f = true -> Eo p pl.length /\ ∃ s, runTo p p.start 0 (CB pl) = (s, pl.length, true) /\ reachB p s = true) := by
 obtain ⟨d, h1, ⟨j, q1, q2, rfl, rfl⟩ | ⟨q1, q2, q3, rfl, rfl⟩⟩ := h
 ·obtain ⟨g1, g2, g3, g4⟩ := hit_goal h1 q1
  refine ⟨(rchB_true ⟨_, g4, q1.2.2.1⟩).symm, fun h => (by cases h), fun _ => ?_⟩
  rw [g2]
  exact ⟨g1, g3⟩
 ·have hno : ∀ s, Rch p s -> reachB p s = false := fun s hs => by
   have hm := (BU p d).mem s
   refine no_hit (d := d + 1) (fun i hi => ?_) d (by omega) s (hm.1 (GC q2 hs))
   rcases Nat.lt_or_ge i d with h | h
   ·exact h1 i h
   ·obtain rfl : i = d := by omega
    exact q1
  refine ⟨(rchB_false hno).symm, fun _ => ⟨rfl, fun s hs => ⟨d, GC q2 hs, q3⟩, fun e ⟨⟨s, h2, h3⟩, _⟩ => ?_⟩, fun h => by cases h⟩
  rw [hno s (at_rch h2)] at h3; cases h3
end
end
section
open Go.RowKit
attribute [local go_sem ↓] Go.wp_at_zero Go.wp_at_succ
set_option maxRecDepth 20000
set_option exponentiation.threshold 5000
set_option maxHeartbeats 4000000 in
theorem I1 {w0 w : World} {F : List Aj} {K : (Nat -> Prop) -> World -> Prop} {v z : Value} {p : Ac} {N : Nat} (k : Int) (hP : p.Ok) (hS : St w0 w F K) (kp : ∀ D w, K D w -> Ba w D v p) (ku : ∀ D w, K D w -> A7 w D z N) (kt : ∀ D w, K D w -> BH w) :
  Calls Tryz.prog 29 #[v, z, .int .i64 k] w fun e w' => ∃ x, e = .returned (.tuple #[x, .bool (stepM p N k).isSome]) /\ St w0 w' F fun D w => K D w /\ A7 w D x ((stepM p N k).getD 0) := by
 obtain ⟨R, lk, st, rl, nl, gl⟩ := p
 obtain ⟨lp, s, rv, nv, gv, rfl, h1, h2, h3, h4, h5⟩ := kp _ _ hS.ro
 dsimp only at h1 h2 h3 h4 h5
 obtain ⟨la, rfl⟩ : ∃ la, lp = .pointer la := by
  cases lk with
  | none => exact ⟨none, h1⟩
  | some L => obtain ⟨q, o, rfl, -⟩ := h1; exact ⟨_, rfl⟩
 obtain ⟨Cs, ns, cs, rfl⟩ := h2.shape
 obtain ⟨Ar, cr, rfl, _, _⟩ := h3.shape
 obtain ⟨An, cn, rfl, _, _⟩ := h4.shape
 obtain ⟨Ag, cg, rfl, _, _⟩ := h5.shape
 obtain ⟨u, rfl⟩ : ∃ u, z = .agg #[u] := by
  obtain ⟨A, c, l, rfl, -⟩ := (ku _ _ hS.ro).parts
  exact ⟨_, rfl⟩
 obtain ⟨KC, kc, hS2⟩ : ∃ KC : (Nat -> Prop) -> World -> Prop, Hid (∀ D w, KC D w -> K D w /\ EH w D (.pointer la) lk /\ Bm w D (.slice Ar rl.length cr) rl) /\ St w0 w F KC := ⟨_, Lib.hid fun D w h => ⟨h.1, h.2.1, h.2.2⟩, hS.add (D := Da F) (BB.and B6) ⟨h1, h3⟩ fun _ h _ => h⟩
 have KS := Lib.hid hS.stable
 clear hS h1 h2 h3 h4 h5
 have hS := hS2
 clear hS2
 have HP := Lib.hid hP
 have hrl : rl.length <= 100000 := hP.rules
 clear hP
 have HK := Lib.hid kp
 have HU := Lib.hid ku
 have HT := Lib.hid kt
 clear kp ku kt
 by_cases hk : 0 <= k /\ k < rl.length /\ lk.isSome = true
 ·obtain ⟨hk0, hk1, hk2⟩ := hk
  cases lk with
  | none => cases hk2
  | some L =>
   clear hk2
   obtain ⟨j, rfl⟩ : ∃ j : Nat, k = (j : Int) := ⟨k.toNat, by omega⟩
   have hlj : j < rl.length := by omega
   clear hk0 hk1
   obtain ⟨q, o, e, -⟩ := id (kc.out _ _ hS.ro).2.1
   injection e with e
   subst e
   obtain ⟨b, o2, _, _, rfl, -⟩ := (kc.out _ _ hS.ro).2.2.at_ hlj
   rw [EZ (p := ⟨R, some L, st, rl, nl, gl⟩) (N := N) rfl hlj]
   dsimp only
   obtain ⟨z, hz⟩ : ∃ z, rl.getD j AL = z := ⟨_, rfl⟩
   rw [hz]
   have HZ := Lib.hid hz
   clear hz
   obtain ⟨zr, ry, rn, rt, ro⟩ := z
   obtain ⟨V, hV⟩ : ∃ V, V = if stepB ⟨R, some L, st, rl, nl, gl⟩ N ⟨zr, ry, rn, rt, ro⟩ = true then some (Dt N ⟨zr, ry, rn, rt, ro⟩) else none := ⟨_, rfl⟩
   rw [<- hV]
   have HV := Lib.hid hV
   clear hV
   cases zr
   ·go_enter Tryz.func29, Tryz.ntmps29
    go_wp2_with (first | ((with_reducible refine qA 3 ?_); refine AE hS rfl _ _ rfl (.agg #[.int .i64 R, .pointer (some ⟨q, 0, none⟩), .slice Cs ns cs, .slice (some ⟨b, o2, none⟩) rl.length cr, .slice An nl.length cn, .slice Ag gl.length cg]) _ rfl rfl ?_; clear hS; intro g3 w_ hS; (try simp only [Act.put, Act.eval, zz, Value.cells] at hS)) | ((with_reducible refine qA 4 ?_); refine AE hS rfl _ _ rfl (.agg #[u]) _ rfl rfl ?_; clear hS; intro g4 w_ hS; (try simp only [Act.put, Act.eval, zz, Value.cells] at hS)) | ((with_reducible refine qA 6 ?_); refine qa hS #[.slice none 0 0] ?_; clear hS; intro g6 w_ hS) | ((with_reducible refine qA 12 ?_); refine BigFrame.wpList_want rfl fun _ hK => AU (v := .bool false) rfl rfl rfl rfl rfl (hK _ _ ?_)) | ((with_reducible refine qB ?_); refine qc ?_ ?_ <;> intro h_ <;> go_prune) | ((with_reducible refine qA 29 ?_); obtain ⟨b', o', y, n, e', _, _, c0, c1, c2, c3, c4, hy, hn⟩ := (kc.out _ _ hS.ro).2.2.at_ hlj; injection e' with e'; injection e' with e1 e2; subst e1 e2; rw [HZ.out] at c0 c3 c4 hy hn; dsimp only at c0 c3 c4 hy hn; obtain ⟨Ay, my, cy, rfl⟩ := hy.shape; obtain ⟨Am, mn, cm, rfl⟩ := hn.shape; replace hS := hS.add (D := Da _) (A5.and A5) ⟨hy, hn⟩ (fun _ h _ => h); refine BigFrame.wpList_want rfl fun _ hK => AQ (cs := [.bool false, .slice Ay my cy, .slice Am mn cm, .int .i64 rt, .int .i64 ro]) rfl rfl (EO c0 c1 c2 c3 c4) Tryz.underlying83 rfl (by kernel_rfl) (hK _ _ ?_)) | ((with_reducible refine qA 8 ?_); refine qa hS #[.bool false, .slice none 0 0, .slice none 0 0, .int .i64 0, .int .i64 0] ?_; clear hS; intro g8 w_ hS) | ((with_reducible refine qA 9 ?_); refine qa hS #[.slice none 0 0] ?_; clear hS; intro g9 w_ hS) | ((with_reducible refine qK ?_); refine qL hS Tryz.underlying27 ?_) | ((with_reducible refine qM ?_); (first | refine qS hS ?_ | refine qT hS ?_); clear hS; intro w_ hS; (try simp only [Act.put, Act.eval, zz, Value.cells] at hS)) | (go_at_call 32; refine (DJ _ N rt _ _ (HU.out _ _ (kc.out _ _ hS.ro.1).1)).mono ?_; rintro r_ w_ ⟨_, rfl, hM, hb_⟩; obtain ⟨A9, n9, l9, rfl, -⟩ := hM.parts; replace hS := hS.ret2 hb_ A5 hM; clear hb_ hM) | (go_at_call 65; refine (ES _ N rt _ _ (HU.out _ _ (kc.out _ _ hS.ro.1.1).1)).mono ?_; rintro r_ w_ ⟨_, rfl, hM, hb_⟩; obtain ⟨A10, n10, l10, rfl, -⟩ := hM.parts; replace hS := hS.ret2 hb_ A5 hM; clear hb_ hM) | ((with_reducible refine qK ?_); refine qC hS ?_))
    simp only [Act.put, List.setIfInBounds_toArray, List.set_cons_zero, List.set_cons_succ, List.getElem_toArray, List.getElem_cons_zero]
    have HH := Lib.hid (HP.out.links L rfl).1
    obtain ⟨K7, x9, k7, hS2⟩ : ∃ (K7 : (Nat -> Prop) -> World -> Prop) (x9 : Value), Hid (∀ D w, K7 D w -> K D w /\ EH w D (.pointer (some ⟨q, 0, none⟩)) (some L) /\ A7 w D (.agg #[.slice Ay my cy]) ry /\ A7 w D (.agg #[.slice Am mn cm]) rn /\ A7 w D (.agg #[x9]) (Dt N ⟨false, ry, rn, rt, ro⟩)) /\ St w0 w_ (.box g9 27 #[x9] :: .box g8 83 #[.bool false, .slice Ay my cy, .slice Am mn cm, .int .i64 rt, .int .i64 ro] :: .box g6 27 #[.slice none 0 0] :: .box g4 27 #[u] :: .box g3 31 #[.int .i64 R, .pointer (some ⟨q, 0, none⟩), .slice Cs ns cs, .slice (some ⟨b, o2, none⟩) rl.length cr, .slice An nl.length cn, .slice Ag gl.length cg] :: F) K7 := ⟨_, _, Lib.hid fun D w h => ⟨(kc.out _ _ h.1.1).1, (kc.out _ _ h.1.1).2.1, h.1.2.1, h.1.2.2, h.2⟩, hS⟩
    have hx9 : x9.oneCell' = true := by
     obtain ⟨A, c, l, e, -⟩ := (k7.out _ _ hS2.ro).2.2.2.2.parts
     injection e with e; injection e with e; injection e with e
     subst e; rfl
    clear hS
    have hS := hS2
    clear hS2
    obtain ⟨rb, hrb⟩ : ∃ rb, rb = false := ⟨_, rfl⟩
    have HRB := Lib.hid hrb
    rw [<- hrb] at k7
    clear hrb
    obtain ⟨hb, hhb⟩ : ∃ hb, B5 N rt = hb := ⟨_, rfl⟩
    obtain ⟨ho, hho⟩ : ∃ ho, B9 (ry, rn) (closM L N) = ho := ⟨_, rfl⟩
    obtain ⟨M, hM⟩ : ∃ M, Dt N ⟨rb, ry, rn, rt, ro⟩ = M := ⟨_, rfl⟩
    obtain ⟨gd, hgd⟩ : ∃ gd, goodB ⟨R, some L, st, rl, nl, gl⟩ M = gd := ⟨_, rfl⟩
    have HSB : Hid (stepB ⟨R, some L, st, rl, nl, gl⟩ N ⟨rb, ry, rn, rt, ro⟩ = !(((hb != rb) || (!rb && !ho)) || !gd)) := Lib.hid (by rw [<- hhb, <- hho, <- hgd, <- hM]; rfl)
    have HHB := Lib.hid hhb
    have HHO := Lib.hid hho
    have HGD := Lib.hid hgd
    have HNM := Lib.hid hM
    rw [HNM.out] at k7
    have HVV : Hid (V = if (!(((hb != rb) || (!rb && !ho)) || !gd)) = true then some M else none) := Lib.hid (by rw [HV.out, <- HRB.out, HNM.out, HSB.out])
    clear hhb hho hgd hM HV HSB HNM
    refine BF [.i (.agg #[u]), .q g8 3, .n rt, .i (.bool hb), .q g8 0, .i (.bool rb), .i (.bool (hb != rb)), .i (.bool (hb != rb)), .g (!(hb != rb)) (.pointer (some ⟨g8, 0, none⟩)), .g (!(hb != rb)) (.bool rb), .g (!(hb != rb)) (.bool (!rb)), .g (!(hb != rb)) (.bool (!rb)), .g ((!(hb != rb)) && (!rb)) (.pointer (some ⟨g8, 1, none⟩)), .g ((!(hb != rb)) && (!rb)) (.agg #[.slice Ay my cy, .slice Am mn cm]), .g ((!(hb != rb)) && (!rb)) (.pointer (some ⟨g3, 1, none⟩)), .g ((!(hb != rb)) && (!rb)) (.pointer (some ⟨q, 0, none⟩)), .g ((!(hb != rb)) && (!rb)) (.agg #[u]), (.s (fun v w => ((!(hb != rb)) && (!rb)) = true -> A7 w (fun _ => True) v (closM L N)) fun v w w' h hb hc => by replace h := h hc; exact h.ext hb), .g ((!(hb != rb)) && (!rb)) (.bool ho), .g ((!(hb != rb)) && (!rb)) (.bool (!ho)), .g (!(hb != rb)) (.bool ((!rb) && (!ho))), .i (.bool ((hb != rb) || ((!rb) && (!ho)))), .i (.bool ((hb != rb) || ((!rb) && (!ho)))), .g (!((hb != rb) || ((!rb) && (!ho)))) (.agg #[.int .i64 R, .pointer (some ⟨q, 0, none⟩), .slice Cs ns cs, .slice (some ⟨b, o2, none⟩) rl.length cr, .slice An nl.length cn, .slice Ag gl.length cg]), .g (!((hb != rb) || ((!rb) && (!ho)))) (.agg #[x9]), .g (!((hb != rb) || ((!rb) && (!ho)))) (.bool gd), .g (!((hb != rb) || ((!rb) && (!ho)))) (.bool (!gd)), .i (.bool (((hb != rb) || ((!rb) && (!ho))) || (!gd)))] ⟨uR (h := fun w hW hN => (hS.ext hW).box 3 rfl), uF, uC (h := fun w hW hN => (hS.ext hW).shut 1 rfl 3 rfl), ?_, uF, uC (h := fun w hW hN => by rw [HRB.out]; exact (hS.ext hW).shut 1 rfl 0 rfl), uB (h := fun w hW hN => by cases hb <;> cases rb <;> rfl), uM, (by cases hb <;> cases rb <;> first | exact uY | exact uX | exact uF), (by cases hb <;> cases rb <;> first | exact uY | exact uX | exact uC (h := fun w hW hN => by first | (rw [HRB.out]; exact (hS.ext hW).shut 1 rfl 0 rfl) | (rw [<- HRB.out]; exact (hS.ext hW).shut 1 rfl 0 rfl) | exact (hS.ext hW).shut 1 rfl 0 rfl)), (by cases hb <;> cases rb <;> first | exact uY | exact uX | exact uU), (by cases hb <;> cases rb <;> first | exact uY | exact uX | exact uM), (by cases hb <;> cases rb <;> first | exact uY | exact uX | exact uF), (by cases hb <;> cases rb <;> first | exact uY | exact uX | exact uD (h := fun w hW hN => Jd ((hS.ext hW).shut 1 rfl 1 rfl) ((hS.ext hW).shut 1 rfl 2 rfl))), (by cases hb <;> cases rb <;> first | exact uY | exact uX | exact uF), (by cases hb <;> cases rb <;> first | exact uY | exact uX | exact uC (h := fun w hW hN => (hS.ext hW).shut 4 rfl 1 rfl)), (by cases hb <;> cases rb <;> first | exact uY | exact uX | exact uR (h := fun w hW hN => (hS.ext hW).box 3 rfl)), ?_, ?_, (by cases hb <;> cases rb <;> first | exact uY | exact uX | exact uU), (by cases hb <;> cases rb <;> first | exact uY | exact uX | exact uP), (by cases hb <;> cases rb <;> exact uP), uM, (by cases hb <;> cases rb <;> cases ho <;> first | exact uY | exact uX | exact uR (h := fun w hW hN => (hS.ext hW).box 4 rfl)), (by cases hb <;> cases rb <;> cases ho <;> first | exact uY | exact uX | exact uR (h := fun w hW hN => (hS.ext hW).box 0 rfl)), ?_, (by cases hb <;> cases rb <;> cases ho <;> first | exact uY | exact uX | exact uU), (by cases hb <;> cases rb <;> cases ho <;> exact uP), trivial⟩ ?_
    ·refine uT fun b__ w hW hE K hK => ?_
     have e40 := hE 40
     have e42 := hE 42
     exact Az rfl (by kernel_rfl) (by simp only [List.map_cons, List.map_nil, e40, e42]) (BP _ N rt w _ (HU.out _ _ (k7.out _ _ (hS.ext hW).ro).1)) fun v w' h hb_ => hK v w' (h.trans (by rw [HHB.out])) hb_
    ·cases hb <;> cases rb <;> first | exact uY | exact uX | (refine uT fun b__ w hW hE K hK => ?_; have e55 : b__.eval (.tmp 55) = .pointer (some ⟨q, 0, none⟩) := hE 55; have e56 : b__.eval (.tmp 56) = .agg #[u] := hE 56; (exact Az rfl (by kernel_rfl) (by simp only [List.map_cons, List.map_nil, e55, e56]) (D3 (show IsH _ _ _ L from (k7.out _ _ (hS.ext hW).ro).2.1) (HT.out _ _ (k7.out _ _ (hS.ext hW).ro).1) HH.out (HU.out _ _ (k7.out _ _ (hS.ext hW).ro).1)) fun v w' h hb => hK v w' (fun _ => h.imp fun _ _ _ => trivial) hb))
    ·cases hb <;> cases rb <;> first | exact uY | exact uX | (refine uT fun b__ w hW hE K hK => ?_; have e53 : b__.eval (.tmp 53) = .agg #[.slice Ay my cy, .slice Am mn cm] := hE 53; have e57 := hE 57; have e57 := e57 rfl; (exact Az rfl (by kernel_rfl) (by simp only [List.map_cons, List.map_nil, e53]) (I8 (z := (ry, rn)) ⟨_, _, rfl, (k7.out _ _ (hS.ext hW).ro).2.2.1, (k7.out _ _ (hS.ext hW).ro).2.2.2.1⟩ e57) fun v w' h hb => hK v w' (h.trans (by rw [HHO.out]; rfl)) hb))
    ·cases hb <;> cases rb <;> cases ho <;> first | exact uY | exact uX | (refine uT fun b__ w hW hE K hK => ?_; have e63 : b__.eval (.tmp 63) = .agg #[.int .i64 R, .pointer (some ⟨q, 0, none⟩), .slice Cs ns cs, .slice (some ⟨b, o2, none⟩) rl.length cr, .slice An nl.length cn, .slice Ag gl.length cg] := hE 63; have e64 : b__.eval (.tmp 64) = .agg #[x9] := hE 64; (exact Az rfl (by kernel_rfl) (by simp only [List.map_cons, List.map_nil, e63, e64]) (Ju (HK.out _ _ (k7.out _ _ (hS.ext hW).ro).1) HP.out (HT.out _ _ (k7.out _ _ (hS.ext hW).ro).1) (k7.out _ _ (hS.ext hW).ro).2.2.2.2) fun v w' h hb => hK v w' (h.trans (by rw [HGD.out]; rfl)) hb))
    ·intro vs wz hW hT
     obtain ⟨e40, e41, e42, e43, e44, e45, e46, e47, -, -, -, -, -, -, -, -, -, -, -, -, -, e61, e62, -, -, -, -, e67, -⟩ := hT
     have bx : (fun _ : Nat => True) 0 := trivial
     simp only [AC, Act.put, zz, ze]
     rw [e67]
     replace hS := hS.ext hW
     clear hW e67
     obtain ⟨E, hE⟩ : ∃ E : Bool, (((hb != rb) || (!rb && !ho)) || !gd) = E := ⟨_, rfl⟩
     rw [hE] at HVV ⊢
     clear hE HHB HHO HGD
     cases E
     ·go_wp2_with (first
       | ((with_reducible refine qK ?_); refine qL hS Tryz.underlying27 ?_)
       | ((with_reducible refine qm 27 ?_); refine Bt hS 2 rfl _ _ _ rfl _ _ rfl rfl _ _ rfl (by kernel_rfl) (by kernel_rfl) (by simpa using hx9) ?_; clear hS; intro w_ hS; (try simp only [Act.put, Act.eval, zz, Value.cells] at hS)))
      refine BL Tryz.results29 rfl (hS.box 2 rfl) Tryz.underlying27 rfl (by kernel_rfl) rfl rfl ?_
      rw [show V = some M from HVV.out]
      exact ⟨_, rfl, (hS.sub (List.sublist_append_right [_, _, _, _, _] F)).mono (KS.out.and A5) fun D w h => ⟨(k7.out _ _ h).1, (k7.out _ _ h).2.2.2.2⟩⟩
     ·go_wp2_with (first
       | ((with_reducible refine qA 68 ?_); refine Av rfl _ _ rfl #[.slice none 0 0] (by kernel_rfl) ?_; (try simp only [Act.put, List.setIfInBounds_toArray, List.set_cons_zero, List.set_cons_succ]))
       | ((with_reducible refine qM ?_); (first | refine qS hS ?_ | refine qT hS ?_); clear hS; intro w_ hS; (try simp only [Act.put, Act.eval, zz, Value.cells] at hS)))
      refine BL Tryz.results29 rfl (hS.box 2 rfl) Tryz.underlying27 rfl (by kernel_rfl) rfl rfl ?_
      rw [show V = none from HVV.out]
      exact ⟨_, rfl, (hS.sub (List.sublist_append_right [_, _, _, _, _] F)).mono (KS.out.and A5) fun D w h => ⟨(k7.out _ _ h).1, A7.empty⟩⟩
   ·go_enter Tryz.func29, Tryz.ntmps29
    go_wp2_with (first | ((with_reducible refine qA 3 ?_); refine AE hS rfl _ _ rfl (.agg #[.int .i64 R, .pointer (some ⟨q, 0, none⟩), .slice Cs ns cs, .slice (some ⟨b, o2, none⟩) rl.length cr, .slice An nl.length cn, .slice Ag gl.length cg]) _ rfl rfl ?_; clear hS; intro g3 w_ hS; (try simp only [Act.put, Act.eval, zz, Value.cells] at hS)) | ((with_reducible refine qA 4 ?_); refine AE hS rfl _ _ rfl (.agg #[u]) _ rfl rfl ?_; clear hS; intro g4 w_ hS; (try simp only [Act.put, Act.eval, zz, Value.cells] at hS)) | ((with_reducible refine qA 6 ?_); refine qa hS #[.slice none 0 0] ?_; clear hS; intro g6 w_ hS) | ((with_reducible refine qA 12 ?_); refine BigFrame.wpList_want rfl fun _ hK => AU (v := .bool false) rfl rfl rfl rfl rfl (hK _ _ ?_)) | ((with_reducible refine qB ?_); refine qc ?_ ?_ <;> intro h_ <;> go_prune) | ((with_reducible refine qA 29 ?_); obtain ⟨b', o', y, n, e', _, _, c0, c1, c2, c3, c4, hy, hn⟩ := (kc.out _ _ hS.ro).2.2.at_ hlj; injection e' with e'; injection e' with e1 e2; subst e1 e2; rw [HZ.out] at c0 c3 c4 hy hn; dsimp only at c0 c3 c4 hy hn; obtain ⟨Ay, my, cy, rfl⟩ := hy.shape; obtain ⟨Am, mn, cm, rfl⟩ := hn.shape; replace hS := hS.add (D := Da _) (A5.and A5) ⟨hy, hn⟩ (fun _ h _ => h); refine BigFrame.wpList_want rfl fun _ hK => AQ (cs := [.bool true, .slice Ay my cy, .slice Am mn cm, .int .i64 rt, .int .i64 ro]) rfl rfl (EO c0 c1 c2 c3 c4) Tryz.underlying83 rfl (by kernel_rfl) (hK _ _ ?_)) | ((with_reducible refine qA 8 ?_); refine qa hS #[.bool false, .slice none 0 0, .slice none 0 0, .int .i64 0, .int .i64 0] ?_; clear hS; intro g8 w_ hS) | ((with_reducible refine qA 9 ?_); refine qa hS #[.slice none 0 0] ?_; clear hS; intro g9 w_ hS) | ((with_reducible refine qK ?_); refine qL hS Tryz.underlying27 ?_) | ((with_reducible refine qM ?_); (first | refine qS hS ?_ | refine qT hS ?_); clear hS; intro w_ hS; (try simp only [Act.put, Act.eval, zz, Value.cells] at hS)) | (go_at_call 32; refine (DJ _ N rt _ _ (HU.out _ _ (kc.out _ _ hS.ro.1).1)).mono ?_; rintro r_ w_ ⟨_, rfl, hM, hb_⟩; obtain ⟨A9, n9, l9, rfl, -⟩ := hM.parts; replace hS := hS.ret2 hb_ A5 hM; clear hb_ hM) | (go_at_call 65; refine (ES _ N rt _ _ (HU.out _ _ (kc.out _ _ hS.ro.1.1).1)).mono ?_; rintro r_ w_ ⟨_, rfl, hM, hb_⟩; obtain ⟨A10, n10, l10, rfl, -⟩ := hM.parts; replace hS := hS.ret2 hb_ A5 hM; clear hb_ hM) | ((with_reducible refine qK ?_); refine qC hS ?_))
    simp only [Act.put, List.setIfInBounds_toArray, List.set_cons_zero, List.set_cons_succ, List.getElem_toArray, List.getElem_cons_zero]
    have HH := Lib.hid (HP.out.links L rfl).1
    obtain ⟨K7, x9, k7, hS2⟩ : ∃ (K7 : (Nat -> Prop) -> World -> Prop) (x9 : Value), Hid (∀ D w, K7 D w -> K D w /\ EH w D (.pointer (some ⟨q, 0, none⟩)) (some L) /\ A7 w D (.agg #[.slice Ay my cy]) ry /\ A7 w D (.agg #[.slice Am mn cm]) rn /\ A7 w D (.agg #[x9]) (Dt N ⟨true, ry, rn, rt, ro⟩)) /\ St w0 w_ (.box g9 27 #[x9] :: .box g8 83 #[.bool true, .slice Ay my cy, .slice Am mn cm, .int .i64 rt, .int .i64 ro] :: .box g6 27 #[.slice none 0 0] :: .box g4 27 #[u] :: .box g3 31 #[.int .i64 R, .pointer (some ⟨q, 0, none⟩), .slice Cs ns cs, .slice (some ⟨b, o2, none⟩) rl.length cr, .slice An nl.length cn, .slice Ag gl.length cg] :: F) K7 := ⟨_, _, Lib.hid fun D w h => ⟨(kc.out _ _ h.1.1.1).1, (kc.out _ _ h.1.1.1).2.1, h.1.1.2.1, h.1.1.2.2, h.2⟩, hS⟩
    have hx9 : x9.oneCell' = true := by
     obtain ⟨A, c, l, e, -⟩ := (k7.out _ _ hS2.ro).2.2.2.2.parts
     injection e with e; injection e with e; injection e with e
     subst e; rfl
    clear hS
    have hS := hS2
    clear hS2
    obtain ⟨rb, hrb⟩ : ∃ rb, rb = true := ⟨_, rfl⟩
    have HRB := Lib.hid hrb
    rw [<- hrb] at k7
    clear hrb
    obtain ⟨hb, hhb⟩ : ∃ hb, B5 N rt = hb := ⟨_, rfl⟩
    obtain ⟨ho, hho⟩ : ∃ ho, B9 (ry, rn) (closM L N) = ho := ⟨_, rfl⟩
    obtain ⟨M, hM⟩ : ∃ M, Dt N ⟨rb, ry, rn, rt, ro⟩ = M := ⟨_, rfl⟩
    obtain ⟨gd, hgd⟩ : ∃ gd, goodB ⟨R, some L, st, rl, nl, gl⟩ M = gd := ⟨_, rfl⟩
    have HSB : Hid (stepB ⟨R, some L, st, rl, nl, gl⟩ N ⟨rb, ry, rn, rt, ro⟩ = !(((hb != rb) || (!rb && !ho)) || !gd)) := Lib.hid (by rw [<- hhb, <- hho, <- hgd, <- hM]; rfl)
    have HHB := Lib.hid hhb
    have HHO := Lib.hid hho
    have HGD := Lib.hid hgd
    have HNM := Lib.hid hM
    rw [HNM.out] at k7
    have HVV : Hid (V = if (!(((hb != rb) || (!rb && !ho)) || !gd)) = true then some M else none) := Lib.hid (by rw [HV.out, <- HRB.out, HNM.out, HSB.out])
    clear hhb hho hgd hM HV HSB HNM
    refine BF [.i (.agg #[u]), .q g8 3, .n rt, .i (.bool hb), .q g8 0, .i (.bool rb), .i (.bool (hb != rb)), .i (.bool (hb != rb)), .g (!(hb != rb)) (.pointer (some ⟨g8, 0, none⟩)), .g (!(hb != rb)) (.bool rb), .g (!(hb != rb)) (.bool (!rb)), .g (!(hb != rb)) (.bool (!rb)), .g ((!(hb != rb)) && (!rb)) (.pointer (some ⟨g8, 1, none⟩)), .g ((!(hb != rb)) && (!rb)) (.agg #[.slice Ay my cy, .slice Am mn cm]), .g ((!(hb != rb)) && (!rb)) (.pointer (some ⟨g3, 1, none⟩)), .g ((!(hb != rb)) && (!rb)) (.pointer (some ⟨q, 0, none⟩)), .g ((!(hb != rb)) && (!rb)) (.agg #[u]), (.s (fun v w => ((!(hb != rb)) && (!rb)) = true -> A7 w (fun _ => True) v (closM L N)) fun v w w' h hb hc => by replace h := h hc; exact h.ext hb), .g ((!(hb != rb)) && (!rb)) (.bool ho), .g ((!(hb != rb)) && (!rb)) (.bool (!ho)), .g (!(hb != rb)) (.bool ((!rb) && (!ho))), .i (.bool ((hb != rb) || ((!rb) && (!ho)))), .i (.bool ((hb != rb) || ((!rb) && (!ho)))), .g (!((hb != rb) || ((!rb) && (!ho)))) (.agg #[.int .i64 R, .pointer (some ⟨q, 0, none⟩), .slice Cs ns cs, .slice (some ⟨b, o2, none⟩) rl.length cr, .slice An nl.length cn, .slice Ag gl.length cg]), .g (!((hb != rb) || ((!rb) && (!ho)))) (.agg #[x9]), .g (!((hb != rb) || ((!rb) && (!ho)))) (.bool gd), .g (!((hb != rb) || ((!rb) && (!ho)))) (.bool (!gd)), .i (.bool (((hb != rb) || ((!rb) && (!ho))) || (!gd)))] ⟨uR (h := fun w hW hN => (hS.ext hW).box 3 rfl), uF, uC (h := fun w hW hN => (hS.ext hW).shut 1 rfl 3 rfl), ?_, uF, uC (h := fun w hW hN => by rw [HRB.out]; exact (hS.ext hW).shut 1 rfl 0 rfl), uB (h := fun w hW hN => by cases hb <;> cases rb <;> rfl), uM, (by cases hb <;> cases rb <;> first | exact uY | exact uX | exact uF), (by cases hb <;> cases rb <;> first | exact uY | exact uX | exact uC (h := fun w hW hN => by first | (rw [HRB.out]; exact (hS.ext hW).shut 1 rfl 0 rfl) | (rw [<- HRB.out]; exact (hS.ext hW).shut 1 rfl 0 rfl) | exact (hS.ext hW).shut 1 rfl 0 rfl)), (by cases hb <;> cases rb <;> first | exact uY | exact uX | exact uU), (by cases hb <;> cases rb <;> first | exact uY | exact uX | exact uM), (by cases hb <;> cases rb <;> first | exact uY | exact uX | exact uF), (by cases hb <;> cases rb <;> first | exact uY | exact uX | exact uD (h := fun w hW hN => Jd ((hS.ext hW).shut 1 rfl 1 rfl) ((hS.ext hW).shut 1 rfl 2 rfl))), (by cases hb <;> cases rb <;> first | exact uY | exact uX | exact uF), (by cases hb <;> cases rb <;> first | exact uY | exact uX | exact uC (h := fun w hW hN => (hS.ext hW).shut 4 rfl 1 rfl)), (by cases hb <;> cases rb <;> first | exact uY | exact uX | exact uR (h := fun w hW hN => (hS.ext hW).box 3 rfl)), ?_, ?_, (by cases hb <;> cases rb <;> first | exact uY | exact uX | exact uU), (by cases hb <;> cases rb <;> first | exact uY | exact uX | exact uP), (by cases hb <;> cases rb <;> exact uP), uM, (by cases hb <;> cases rb <;> cases ho <;> first | exact uY | exact uX | exact uR (h := fun w hW hN => (hS.ext hW).box 4 rfl)), (by cases hb <;> cases rb <;> cases ho <;> first | exact uY | exact uX | exact uR (h := fun w hW hN => (hS.ext hW).box 0 rfl)), ?_, (by cases hb <;> cases rb <;> cases ho <;> first | exact uY | exact uX | exact uU), (by cases hb <;> cases rb <;> cases ho <;> exact uP), trivial⟩ ?_
    ·refine uT fun b__ w hW hE K hK => ?_
     have e40 := hE 40
     have e42 := hE 42
     exact Az rfl (by kernel_rfl) (by simp only [List.map_cons, List.map_nil, e40, e42]) (BP _ N rt w _ (HU.out _ _ (k7.out _ _ (hS.ext hW).ro).1)) fun v w' h hb_ => hK v w' (h.trans (by rw [HHB.out])) hb_
    ·cases hb <;> cases rb <;> first | exact uY | exact uX | (refine uT fun b__ w hW hE K hK => ?_; have e55 : b__.eval (.tmp 55) = .pointer (some ⟨q, 0, none⟩) := hE 55; have e56 : b__.eval (.tmp 56) = .agg #[u] := hE 56; (exact Az rfl (by kernel_rfl) (by simp only [List.map_cons, List.map_nil, e55, e56]) (D3 (show IsH _ _ _ L from (k7.out _ _ (hS.ext hW).ro).2.1) (HT.out _ _ (k7.out _ _ (hS.ext hW).ro).1) HH.out (HU.out _ _ (k7.out _ _ (hS.ext hW).ro).1)) fun v w' h hb => hK v w' (fun _ => h.imp fun _ _ _ => trivial) hb))
    ·cases hb <;> cases rb <;> first | exact uY | exact uX | (refine uT fun b__ w hW hE K hK => ?_; have e53 : b__.eval (.tmp 53) = .agg #[.slice Ay my cy, .slice Am mn cm] := hE 53; have e57 := hE 57; have e57 := e57 rfl; (exact Az rfl (by kernel_rfl) (by simp only [List.map_cons, List.map_nil, e53]) (I8 (z := (ry, rn)) ⟨_, _, rfl, (k7.out _ _ (hS.ext hW).ro).2.2.1, (k7.out _ _ (hS.ext hW).ro).2.2.2.1⟩ e57) fun v w' h hb => hK v w' (h.trans (by rw [HHO.out]; rfl)) hb))
    ·cases hb <;> cases rb <;> cases ho <;> first | exact uY | exact uX | (refine uT fun b__ w hW hE K hK => ?_; have e63 : b__.eval (.tmp 63) = .agg #[.int .i64 R, .pointer (some ⟨q, 0, none⟩), .slice Cs ns cs, .slice (some ⟨b, o2, none⟩) rl.length cr, .slice An nl.length cn, .slice Ag gl.length cg] := hE 63; have e64 : b__.eval (.tmp 64) = .agg #[x9] := hE 64; (exact Az rfl (by kernel_rfl) (by simp only [List.map_cons, List.map_nil, e63, e64]) (Ju (HK.out _ _ (k7.out _ _ (hS.ext hW).ro).1) HP.out (HT.out _ _ (k7.out _ _ (hS.ext hW).ro).1) (k7.out _ _ (hS.ext hW).ro).2.2.2.2) fun v w' h hb => hK v w' (h.trans (by rw [HGD.out]; rfl)) hb))
    ·intro vs wz hW hT
     obtain ⟨e40, e41, e42, e43, e44, e45, e46, e47, -, -, -, -, -, -, -, -, -, -, -, -, -, e61, e62, -, -, -, -, e67, -⟩ := hT
     have bx : (fun _ : Nat => True) 0 := trivial
     simp only [AC, Act.put, zz, ze]
     rw [e67]
     replace hS := hS.ext hW
     clear hW e67
     obtain ⟨E, hE⟩ : ∃ E : Bool, (((hb != rb) || (!rb && !ho)) || !gd) = E := ⟨_, rfl⟩
     rw [hE] at HVV ⊢
     clear hE HHB HHO HGD
     cases E
     ·go_wp2_with (first
       | ((with_reducible refine qK ?_); refine qL hS Tryz.underlying27 ?_)
       | ((with_reducible refine qm 27 ?_); refine Bt hS 2 rfl _ _ _ rfl _ _ rfl rfl _ _ rfl (by kernel_rfl) (by kernel_rfl) (by simpa using hx9) ?_; clear hS; intro w_ hS; (try simp only [Act.put, Act.eval, zz, Value.cells] at hS)))
      refine BL Tryz.results29 rfl (hS.box 2 rfl) Tryz.underlying27 rfl (by kernel_rfl) rfl rfl ?_
      rw [show V = some M from HVV.out]
      exact ⟨_, rfl, (hS.sub (List.sublist_append_right [_, _, _, _, _] F)).mono (KS.out.and A5) fun D w h => ⟨(k7.out _ _ h).1, (k7.out _ _ h).2.2.2.2⟩⟩
     ·go_wp2_with (first
       | ((with_reducible refine qA 68 ?_); refine Av rfl _ _ rfl #[.slice none 0 0] (by kernel_rfl) ?_; (try simp only [Act.put, List.setIfInBounds_toArray, List.set_cons_zero, List.set_cons_succ]))
       | ((with_reducible refine qM ?_); (first | refine qS hS ?_ | refine qT hS ?_); clear hS; intro w_ hS; (try simp only [Act.put, Act.eval, zz, Value.cells] at hS)))
      refine BL Tryz.results29 rfl (hS.box 2 rfl) Tryz.underlying27 rfl (by kernel_rfl) rfl rfl ?_
      rw [show V = none from HVV.out]
      exact ⟨_, rfl, (hS.sub (List.sublist_append_right [_, _, _, _, _] F)).mono (KS.out.and A5) fun D w h => ⟨(k7.out _ _ h).1, A7.empty⟩⟩
 ·rw [IU (p := ⟨R, lk, st, rl, nl, gl⟩) hk]
  cases lk with
  | none =>
   obtain rfl : la = none := by have := (kc.out _ _ hS.ro).2.1; injection this
   go_enter Tryz.func29, Tryz.ntmps29
   go_wp2_with (first | ((with_reducible refine qA 3 ?_); refine AE hS rfl _ _ rfl (.agg #[.int .i64 R, .pointer none, .slice Cs ns cs, .slice Ar rl.length cr, .slice An nl.length cn, .slice Ag gl.length cg]) _ rfl rfl ?_; clear hS; intro g3 w_ hS; (try simp only [Act.put, Act.eval, zz, Value.cells] at hS)) | ((with_reducible refine qA 4 ?_); refine AE hS rfl _ _ rfl (.agg #[u]) _ rfl rfl ?_; clear hS; intro g4 w_ hS; (try simp only [Act.put, Act.eval, zz, Value.cells] at hS)) | ((with_reducible refine qA 6 ?_); refine qa hS #[.slice none 0 0] ?_; clear hS; intro g6 w_ hS) | ((with_reducible refine qA 12 ?_); refine BigFrame.wpList_want rfl fun _ hK => AU (v := .bool true) rfl rfl rfl rfl rfl (hK _ _ ?_)) | ((with_reducible refine qA 24 ?_); refine Av rfl _ _ rfl #[.slice none 0 0] (by kernel_rfl) ?_; (try simp only [Act.put, List.setIfInBounds_toArray, List.set_cons_zero, List.set_cons_succ])) | ((with_reducible refine qB ?_); refine qc ?_ ?_ <;> intro h_ <;> go_prune) | ((with_reducible refine qM ?_); (first | refine qS hS ?_ | refine qT hS ?_); clear hS; intro w_ hS; (try simp only [Act.put, Act.eval, zz, Value.cells] at hS)) | ((with_reducible refine qK ?_); refine qC hS ?_))
   refine BL Tryz.results29 rfl (hS.box 0 rfl) Tryz.underlying27 rfl (by kernel_rfl) rfl rfl ?_; exact ⟨_, rfl, (hS.sub (List.sublist_append_right [_, _, _] F)).mono (KS.out.and A5) fun D w h => ⟨(kc.out _ _ h).1, A7.empty⟩⟩
  | some L =>
   obtain ⟨q, o, e, -⟩ := id (kc.out _ _ hS.ro).2.1
   injection e with e
   subst e
   have hk' : k < 0 \/ rl.length <= k := by
    rcases Int.lt_or_le k 0 with h | h
    ·exact .inl h
    ·exact .inr (by rcases Int.lt_or_le k rl.length with h2 | h2; exact absurd ⟨h, h2, rfl⟩ hk; exact h2)
   clear hk
   go_enter Tryz.func29, Tryz.ntmps29
   go_wp2_with (first | ((with_reducible refine qA 3 ?_); refine AE hS rfl _ _ rfl (.agg #[.int .i64 R, .pointer (some ⟨q, 0, none⟩), .slice Cs ns cs, .slice Ar rl.length cr, .slice An nl.length cn, .slice Ag gl.length cg]) _ rfl rfl ?_; clear hS; intro g3 w_ hS; (try simp only [Act.put, Act.eval, zz, Value.cells] at hS)) | ((with_reducible refine qA 4 ?_); refine AE hS rfl _ _ rfl (.agg #[u]) _ rfl rfl ?_; clear hS; intro g4 w_ hS; (try simp only [Act.put, Act.eval, zz, Value.cells] at hS)) | ((with_reducible refine qA 6 ?_); refine qa hS #[.slice none 0 0] ?_; clear hS; intro g6 w_ hS) | ((with_reducible refine qA 12 ?_); refine BigFrame.wpList_want rfl fun _ hK => AU (v := .bool false) rfl rfl rfl rfl rfl (hK _ _ ?_)) | ((with_reducible refine qA 24 ?_); refine Av rfl _ _ rfl #[.slice none 0 0] (by kernel_rfl) ?_; (try simp only [Act.put, List.setIfInBounds_toArray, List.set_cons_zero, List.set_cons_succ])) | ((with_reducible refine qB ?_); refine qc ?_ ?_ <;> intro h_ <;> go_prune) | ((with_reducible refine qM ?_); (first | refine qS hS ?_ | refine qT hS ?_); clear hS; intro w_ hS; (try simp only [Act.put, Act.eval, zz, Value.cells] at hS)) | ((with_reducible refine qK ?_); refine qC hS ?_))
   all_goals
    refine BL Tryz.results29 rfl (hS.box 0 rfl) Tryz.underlying27 rfl (by kernel_rfl) rfl rfl ?_; exact ⟨_, rfl, (hS.sub (List.sublist_append_right [_, _, _] F)).mono (KS.out.and A5) fun D w h => ⟨(kc.out _ _ h).1, A7.empty⟩⟩
end
section
open Go.RowKit
attribute [local go_sem ↓] Go.wp_at_zero Go.wp_at_succ
set_option maxRecDepth 20000
set_option exponentiation.threshold 5000
def RunR (w0 : World) (F : List Aj) (K : (Nat -> Prop) -> World -> Prop) (p : Ac) (l : List Int) (e : Ending) (w' : World) : Prop :=
 ∃ (x : Value) (N n : Nat) (b : Bool), e = .returned (.tuple #[x, .int .i64 (n : Nat), .bool b]) /\ Hid (runTo p p.start 0 l = (N, n, b)) /\ St w0 w' F fun D w => K D w /\ A7 w D x N
set_option maxHeartbeats 4000000 in
theorem srun_any {w0 w : World} {F : List Aj} {K : (Nat -> Prop) -> World -> Prop} {v pv : Value} {p : Ac} {L : List (Nat × Nat)} {l : List Int} (hl : p.links = some L) (hP : p.Ok) (hlen : l.length <= 1000000) (hS : St w0 w F K) (kp : ∀ D w, K D w -> Ba w D v p) (kv : ∀ D w, K D w -> Sl w D 1 pv l.length (AX l)) (kt : ∀ D w, K D w -> BH w) :
  Calls Tryz.prog 18 #[v, pv] w (RunR w0 F K p l) := by
 obtain ⟨Ap, cp, rfl, _, _⟩ := (kv _ _ hS.ro).shape
 obtain ⟨R, lk, st, rl, nl, gl⟩ := p
 obtain rfl : lk = some L := hl
 obtain ⟨lp, s, rv, nv, gv, rfl, h1, h2, h3, h4, h5⟩ := kp _ _ hS.ro
 dsimp only at h1 h2 h3 h4 h5
 obtain ⟨q, o, rfl, -⟩ := id h1
 obtain ⟨Cs, ns, cs, rfl⟩ := h2.shape
 obtain ⟨Ar, cr, rfl, _, _⟩ := h3.shape
 obtain ⟨An, cn, rfl, _, _⟩ := h4.shape
 obtain ⟨Ag, cg, rfl, _, _⟩ := h5.shape
 obtain ⟨KC, kc, hS2⟩ : ∃ KC : (Nat -> Prop) -> World -> Prop, Hid (∀ D w, KC D w -> K D w /\ A7 w D (.agg #[.slice Cs ns cs]) st) /\ St w0 w F KC := ⟨_, Lib.hid fun D w h => ⟨h.1, h.2⟩, hS.add (D := Da F) A5 h2 fun _ h _ => h⟩
 have KS := Lib.hid hS.stable
 clear hS h1 h2 h3 h4 h5
 have hS := hS2
 clear hS2
 have HP := Lib.hid hP
 have HK := Lib.hid kp
 have HT := Lib.hid kt
 clear hP kp kt
 have HV := Lib.hid kv
 clear kv
 go_enter Tryz.func18, Tryz.ntmps18
 go_wp2_with (first
  | ((with_reducible refine qA 2 ?_); refine AE hS rfl _ _ rfl (.agg #[.int .i64 R, .pointer (some ⟨q, 0, none⟩), .slice Cs ns cs, .slice Ar rl.length cr, .slice An nl.length cn, .slice Ag gl.length cg]) _ rfl rfl ?_; clear hS; intro g2 w_ hS; (try simp only [Act.put, Act.eval, zz, Value.cells] at hS))
  | ((with_reducible refine qA 4 ?_); refine qa hS #[.slice none 0 0] ?_; clear hS; intro g4 w_ hS)
  | ((with_reducible refine qA 14 ?_); refine BigFrame.wpList_want rfl fun _ hK => AU (v := .bool false) rfl rfl rfl rfl rfl (hK _ _ ?_))
  | ((with_reducible refine qA 7 ?_); refine qa hS #[.slice none 0 0] ?_; clear hS; intro g7 w_ hS)
  | ((with_reducible refine qk 27 ?_); first | (refine Aa hS 0 rfl _ _ rfl _ _ rfl _ _ rfl _ (by first | rfl | assumption) Tryz.underlying27 rfl (by kernel_rfl) ?_) | (refine Aa hS 1 rfl _ _ rfl _ _ rfl _ _ rfl _ (by first | rfl | assumption) Tryz.underlying27 rfl (by kernel_rfl) ?_) | (refine Aa hS 2 rfl _ _ rfl _ _ rfl _ _ rfl _ (by first | rfl | assumption) Tryz.underlying27 rfl (by kernel_rfl) ?_) | (refine Aa hS 3 rfl _ _ rfl _ _ rfl _ _ rfl _ (by first | rfl | assumption) Tryz.underlying27 rfl (by kernel_rfl) ?_) | (refine Aa hS 4 rfl _ _ rfl _ _ rfl _ _ rfl _ (by first | rfl | assumption) Tryz.underlying27 rfl (by kernel_rfl) ?_) | (refine Aa hS 5 rfl _ _ rfl _ _ rfl _ _ rfl _ (by first | rfl | assumption) Tryz.underlying27 rfl (by kernel_rfl) ?_))
  | ((with_reducible refine qM ?_); (first | refine qS hS ?_ | refine qT hS ?_); clear hS; intro w_ hS; (try simp only [Act.put, Act.eval, zz, Value.cells] at hS))
  | ((with_reducible refine qK ?_); refine qC hS ?_))
 go_loopw [20] (fun iv wr => ∃ (j N : Nat) (u : Value), iv = .int .i64 (j : Nat) /\ j <= l.length /\ u.oneCell' = true /\ Hid (runTo ⟨R, some L, st, rl, nl, gl⟩ st 0 l = runTo ⟨R, some L, st, rl, nl, gl⟩ N j (l.drop j)) /\ St w0 wr (.box g7 27 #[u] :: .box g4 27 #[.slice none 0 0] :: .box g2 31 #[.int .i64 R, .pointer (some ⟨q, 0, none⟩), .slice Cs ns cs, .slice Ar rl.length cr, .slice An nl.length cn, .slice Ag gl.length cg] :: F) (fun D w => K D w /\ A7 w D (.agg #[u]) N)) (fun i _ => l.length - (intOf i).toNat)
 case atStart => exact ⟨0, st, _, rfl, by omega, rfl, Lib.hid rfl, hS.mono (KS.out.and A5) fun D w h => kc.out D w h⟩
 case round =>
  clear hS
  obtain ⟨j, N, u, rfl, hj, hu, HR, hS⟩ := hrel
  by_cases hjl : j < l.length
  ·obtain ⟨bp, op, rfl⟩ := sl_pos (HV.out _ _ hS.ro.1) (by omega)
   obtain ⟨k, hk⟩ : ∃ k, l[j]? = some k := ⟨_, List.getElem?_eq_getElem hjl⟩
   have HY : Hid ((AX l)[j]? = some (.int .i64 k)) := Lib.hid (by simp [AX, hk])
   have hd : l.drop j = k :: l.drop (j + 1) := by
    rw [List.drop_eq_getElem_cons hjl]
    congr 1
    rw [List.getElem?_eq_getElem hjl] at hk
    exact Option.some.inj hk
   rw [hd] at HR
   obtain ⟨V, hV⟩ : ∃ V, stepM ⟨R, some L, st, rl, nl, gl⟩ N k = V := ⟨_, rfl⟩
   have HVV := Lib.hid hV
   clear hk hd hV
   cases V with
   | none =>
    go_wp2_with (first
     | ((with_reducible refine qB ?_); refine qc ?_ ?_ <;> intro h_ <;> go_prune)
     | ((with_reducible refine qk 3 ?_); refine BigFrame.wpList_want rfl fun _ hK => Ah rfl rfl (by kernel_rfl) (D6 (HV.out _ _ hS.ro.1) HY.out) (hK _ _ ?_))
     | ((with_reducible refine qK ?_); refine qL hS Tryz.underlying31 ?_)
     | ((with_reducible refine qK ?_); refine qL hS Tryz.underlying27 ?_)
     | (go_at_call 29; refine (I1 (N := N) k HP.out hS (fun D w h => HK.out _ _ h.1) (fun D w h => h.2) (fun D w h => HT.out _ _ h.1)).mono ?_; clear hS; rw [HVV.out]; rintro e w_ ⟨x, rfl, hS⟩; obtain ⟨u', rfl, hu'⟩ := Cr hS.ro.2)
     | ((with_reducible refine qA 10 ?_); refine qa hS #[.slice none 0 0] ?_; clear hS; intro g10 w_ hS)
     | ((with_reducible refine qm 27 ?_); (first | refine Bt hS 0 rfl _ _ _ rfl _ _ rfl rfl _ _ rfl (by kernel_rfl) (by kernel_rfl) (by first | (simpa using hu') | (simpa using hu)) ?_ | refine Bt hS 1 rfl _ _ _ rfl _ _ rfl rfl _ _ rfl (by kernel_rfl) (by kernel_rfl) (by first | (simpa using hu') | (simpa using hu)) ?_ | refine Bt hS 2 rfl _ _ _ rfl _ _ rfl rfl _ _ rfl (by kernel_rfl) (by kernel_rfl) (by first | (simpa using hu') | (simpa using hu)) ?_); clear hS; intro w_ hS; (try simp only [Act.put, Act.eval, zz, Value.cells] at hS)))
    refine Fp Tryz.results18 rfl (hS.box 2 rfl) Tryz.underlying27 rfl (by kernel_rfl) rfl rfl rfl ?_
    exact ⟨_, N, j, false, rfl, Lib.hid (by rw [HR.out]; exact CT HVV.out), (hS.sub (List.sublist_append_right [_, _, _, _] F)).mono (KS.out.and A5) fun D w h => ⟨h.1.1, h.1.2⟩⟩
   | some M =>
    go_wp2_with (first
     | ((with_reducible refine qB ?_); refine qc ?_ ?_ <;> intro h_ <;> go_prune)
     | ((with_reducible refine qk 3 ?_); refine BigFrame.wpList_want rfl fun _ hK => Ah rfl rfl (by kernel_rfl) (D6 (HV.out _ _ hS.ro.1) HY.out) (hK _ _ ?_))
     | ((with_reducible refine qK ?_); refine qL hS Tryz.underlying31 ?_)
     | ((with_reducible refine qK ?_); refine qL hS Tryz.underlying27 ?_)
     | (go_at_call 29; refine (I1 (N := N) k HP.out hS (fun D w h => HK.out _ _ h.1) (fun D w h => h.2) (fun D w h => HT.out _ _ h.1)).mono ?_; clear hS; rw [HVV.out]; rintro e w_ ⟨x, rfl, hS⟩; obtain ⟨u', rfl, hu'⟩ := Cr hS.ro.2)
     | ((with_reducible refine qA 10 ?_); refine qa hS #[.slice none 0 0] ?_; clear hS; intro g10 w_ hS)
     | ((with_reducible refine qm 27 ?_); (first | refine Bt hS 0 rfl _ _ _ rfl _ _ rfl rfl _ _ rfl (by kernel_rfl) (by kernel_rfl) (by first | (simpa using hu') | (simpa using hu)) ?_ | refine Bt hS 1 rfl _ _ _ rfl _ _ rfl rfl _ _ rfl (by kernel_rfl) (by kernel_rfl) (by first | (simpa using hu') | (simpa using hu)) ?_ | refine Bt hS 2 rfl _ _ _ rfl _ _ rfl rfl _ _ rfl (by kernel_rfl) (by kernel_rfl) (by first | (simpa using hu') | (simpa using hu)) ?_); clear hS; intro w_ hS; (try simp only [Act.put, Act.eval, zz, Value.cells] at hS)))
    exact ⟨⟨j + 1, M, u', by go_num, hjl, hu', Lib.hid (by rw [HR.out]; exact BK HVV.out), (hS.sub (List.sublist_cons_self _ _)).mono (KS.out.and A5) fun D w h => ⟨h.1.1, h.2⟩⟩, by simp [intOf]; omega⟩
  ·obtain rfl : j = l.length := by omega
   rw [List.drop_length] at HR
   go_wp2_with (first
    | ((with_reducible refine qB ?_); refine qc ?_ ?_ <;> intro h_ <;> go_prune)
    | ((with_reducible refine qK ?_); refine qL hS Tryz.underlying27 ?_)
    | ((with_reducible refine qm 27 ?_); (first | refine Bt hS 0 rfl _ _ _ rfl _ _ rfl rfl _ _ rfl (by kernel_rfl) (by kernel_rfl) (by simpa using hu) ?_ | refine Bt hS 1 rfl _ _ _ rfl _ _ rfl rfl _ _ rfl (by kernel_rfl) (by kernel_rfl) (by simpa using hu) ?_ | refine Bt hS 2 rfl _ _ _ rfl _ _ rfl rfl _ _ rfl (by kernel_rfl) (by kernel_rfl) (by simpa using hu) ?_); clear hS; intro w_ hS; (try simp only [Act.put, Act.eval, zz, Value.cells] at hS)))
   refine Fp Tryz.results18 rfl (hS.box 1 rfl) Tryz.underlying27 rfl (by kernel_rfl) rfl rfl rfl ?_
   exact ⟨_, N, l.length, true, rfl, Lib.hid HR.out, (hS.sub (List.sublist_append_right [_, _, _] F)).mono (KS.out.and A5) fun D w h => h⟩
end
section
open Go.RowKit
set_option exponentiation.threshold 5000
def InR (N : Nat) : Prop := ∀ i, N.testBit i = true -> 1 <= i /\ i < 64
theorem tc_nil {a b : Nat} : ¬ TC [] a b := fun h => by obtain ⟨y, h, _⟩ := h.first; simp at h
theorem Ic {N : Nat} (h : InR N) : closM [] N = N := B3 fun i => by
 rw [EV]
 constructor
 ·rintro ⟨r, h1, h2, h3, h4⟩
  rcases (Hy (by intro x hx; simp at hx) h1).1 h4 with rfl | h5
  ·exact h3
  ·exact absurd h5 tc_nil
 ·intro hi
  exact ⟨i, (h i hi).2, (h i hi).1, hi, (Hy (by intro x hx; simp at hx) (h i hi).2).2 (.inl rfl)⟩
theorem Hg {N : Nat} (h : InR N) : depM [] N = N := B3 fun i => by
 rw [tb_dep (by intro x hx; simp at hx)]
 constructor
 ·rintro ⟨r, h1, h2, h3, h4⟩
  rcases (Hx (by intro x hx; simp at hx)).1 h4 with rfl | h5
  ·exact h3
  ·exact absurd h5 tc_nil
 ·intro hi
  exact ⟨i, (h i hi).1, (h i hi).2, hi, (Hx (by intro x hx; simp at hx)).2 (.inl rfl)⟩
theorem Gb {N : Nat} (h : N < 2 ^ 7) (h0 : N.testBit 0 = false) : InR N := fun i hi => by
 have : i < 7 := by
  rcases Nat.lt_or_ge i 7 with h1 | h1
  ·exact h1
  ·rw [Nat.testBit_lt_two_pow (Nat.lt_of_lt_of_le h (Nat.pow_le_pow_right (by decide) h1))] at hi; cases hi
 refine ⟨?_, by omega⟩
 rcases Nat.eq_zero_or_pos i with rfl | h1
 ·rw [h0] at hi; cases hi
 ·exact h1
def P1 : Ac := ⟨5, some [], 0, [⟨false, 4, 0, 1, 0⟩, ⟨false, 0, 0, 2, 0⟩, ⟨false, 2, 0, 3, 0⟩, ⟨true, 0, 0, 4, 0⟩], [(36, 0)], [(2, 0)]⟩
def P2 : Ac := ⟨5, some [], 4, [⟨false, 12, 0, 1, 0⟩], [], [(2, 0)]⟩
theorem dep2 : depM [] 2 = 2 := Hg (Gb (by decide) (by decide))
theorem dep4 : depM [] 4 = 4 := Hg (Gb (by decide) (by decide))
theorem dep36 : depM [] 36 = 36 := Hg (Gb (by decide) (by decide))
theorem dep0 : depM [] 0 = 0 := Hg (Gb (by decide) (by decide))
theorem JC : checkE P1 = 0 := by
 have hg : goodB P1 0 = true := by
  show (!(P1.never.any fun z => B9 z (closM [] 0))) = true
  rw [Ic (Gb (by decide) (by decide))]; decide
 show (if (5 : Int) < 1 \/ 63 < (5 : Int) then (1 : Int) else if 64 < P1.rules.length \/ 2000 < P1.never.length \/ 2000 < P1.goal.length then 3
  else if DN P1 [] (D7 5) = false then 4 else if (P1.cubes.any fun z => z.1 &&& z.2 != 0) = true \/ P1.rules.all revB = false then 6
  else if goodB P1 0 = false then 7 else 0) = 0
 rw [if_neg (by decide), if_neg (by decide), if_neg (by decide), if_neg (by decide), if_neg (by rw [hg]; decide)]
theorem check2 : checkE P2 = 0 := by
 have hg : goodB P2 4 = true := by
  show (!(P2.never.any fun z => B9 z (closM [] 4))) = true
  rfl
 show (if (5 : Int) < 1 \/ 63 < (5 : Int) then (1 : Int) else if 64 < P2.rules.length \/ 2000 < P2.never.length \/ 2000 < P2.goal.length then 3
  else if DN P2 [] (D7 5) = false then 4 else if (P2.cubes.any fun z => z.1 &&& z.2 != 0) = true \/ P2.rules.all revB = false then 6
  else if goodB P2 4 = false then 7 else 0) = 0
 rw [if_neg (by decide), if_neg (by decide), if_neg (by decide), if_neg (by decide), if_neg (by rw [hg]; decide)]
theorem rel1 : relM [] P1 = 38 := by
 refine (JL.eq ⟨fun T hT => ?_, by decide⟩ ⟨fun c hc => ?_, fun r hr h1 h2 => ?_, fun c hc _ => ?_⟩).symm
 ·have a1 : CI 2 T := by
   have := hT.goal (2, 0) (by simp [P1])
   rw [show depC [] (2, 0) = depM [] 2 from rfl, dep2] at this; exact this
  have a2 : CI 4 T := by
   have := hT.rules ⟨false, 4, 0, 1, 0⟩ (by simp [P1]) rfl (a1.has (by decide))
   rw [show depR [] ⟨false, 4, 0, 1, 0⟩ = depM [] 4 from rfl, dep4] at this; exact this
  have a3 : CI 36 T := by
   have := hT.never (36, 0) (by simp [P1]) (by rw [show depC [] (36, 0) = depM [] 36 from rfl, dep36]; exact Fz.2 ⟨2, by decide, a2 2 (by decide)⟩)
   rw [show depC [] (36, 0) = depM [] 36 from rfl, dep36] at this; exact this
  have e : (38 : Nat) = 2 ||| 36 := by decide
  rw [e]; exact a1.or a3
 ·obtain rfl : c = (2, 0) := by simpa [P1] using hc
  rw [show depC [] (2, 0) = depM [] 2 from rfl, dep2]; exact Dc.1 (by decide)
 ·simp only [P1, List.mem_cons, List.not_mem_nil, or_false] at hr
  rcases hr with rfl | rfl | rfl | rfl
  ·rw [show depR [] ⟨false, 4, 0, 1, 0⟩ = depM [] 4 from rfl, dep4]; exact Dc.1 (by decide)
  ·rw [show depR [] ⟨false, 0, 0, 2, 0⟩ = depM [] 0 from rfl, dep0]; exact Dc.1 (by decide)
  ·exact absurd h2 (by decide)
  ·cases h1
 ·obtain rfl : c = (36, 0) := by simpa [P1] using hc
  rw [show depC [] (36, 0) = depM [] 36 from rfl, dep36]; exact Dc.1 (by decide)
theorem relS1 : relS P1 = 38 := by unfold relS; rw [if_pos JC]; exact rel1
theorem ofP1 : (ofP P1).rules.length = 2 /\ (ofP P1).never.length = 1 := by
 have e : ofP P1 = ⟨5, some [], 0 &&& relM [] P1, C8 (relM [] P1) P1.rules, keepC [] (relM [] P1) P1.never, P1.goal⟩ := by unfold ofP; rw [if_pos JC]; rfl
 rw [e, rel1]
 refine ⟨by decide, ?_⟩
 show (List.filter (fun c => depC [] c &&& 38 != 0) [(36, 0)]).length = 1
 rw [List.filter_cons, show depC [] (36, 0) = depM [] 36 from rfl, dep36]; rfl
theorem ofK1 : ofKept P1 = [0, 1] := by
 have e : ofKept P1 = Db (relM [] P1) P1.rules P1.rules.length := by unfold ofKept; rw [if_pos JC]; rfl
 rw [e, rel1]; decide
theorem upp2 : uppM [] P2 = 4 := by
 refine (Gj.eq ⟨⟨CI.refl _, fun r hr h1 h2 => ?_⟩, fun T hT => hT.start⟩).symm
 obtain rfl : r = ⟨false, 12, 0, 1, 0⟩ := by simpa [P2] using hr
 rw [Ic (Gb (by decide) (by decide))] at h2
 revert h2; decide
theorem use2 : useN P2 = [0] := by
 have e : useN P2 = uslN (closM [] (uppM [] P2)) P2.rules P2.rules.length := by unfold useN; rw [if_pos check2]; rfl
 rw [e, upp2, Ic (Gb (by decide) (by decide))]; rfl
theorem ok1 : P1.Ok := ⟨by decide, by decide, by decide, fun L h => by cases h; exact ⟨FI.nil, by decide⟩⟩
theorem ok2 : P2.Ok := ⟨by decide, by decide, by decide, fun L h => by cases h; exact ⟨FI.nil, by decide⟩⟩
end
section
open Go.RowKit
attribute [local go_sem ↓] Go.wp_at_zero Go.wp_at_succ
set_option maxRecDepth 20000
set_option exponentiation.threshold 5000
theorem Fy {w0 : World} {D : Nat -> Prop} {v : Value} {l : List Int} {N : Nat} (hs : Sl w0 D 1 v l.length (AX l)) (hN : ofN l = N) : Calls Tryz.prog 80 #[v] w0 (AO (fun x w' => Bd w' (w0.heap.size <= ·) x (N, 0)) w0) := by
 obtain ⟨K, k1, hS⟩ : ∃ K : (Nat -> Prop) -> World -> Prop, (∀ D w, K D w -> Sl w D 1 v l.length (AX l)) /\ St w0 w0 [] K := ⟨_, fun _ _ h => h, St.start (At (by decide)) hs⟩
 clear hs
 go_enter Tryz.func80, Tryz.ntmps80
 go_wp2_with (first
  | ((with_reducible refine qA 2 ?_); refine qa hS #[.slice none 0 0, .slice none 0 0] ?_; clear hS; intro g2 w_ hS)
  | (go_at_call 38; have hsW := hS.size; refine (of_any _ l _ _ (k1 _ _ hS.ro)).mono ?_; rw [hN]; rintro r_ w_ ⟨_, rfl, h1, hb_⟩; obtain ⟨A, c, lw, rfl, -⟩ := h1.parts; replace hS := hS.ret hb_ (AV A5 fun z => w0.heap.size <= z) (h1.imp fun z hz _ => ⟨hz, Nat.le_trans hsW hz⟩); clear h1 hb_ hsW)
  | ((with_reducible show wpList _ _ _ (⟨_, .build _ _, _, _, _, _⟩ :: _) _ _); refine Av rfl _ _ rfl #[.slice A lw.length c, .slice none 0 0] (by kernel_rfl) ?_)
  | ((with_reducible refine qM ?_); (first | refine qS hS ?_ | refine qT hS ?_); clear hS; intro w_ hS; (try simp only [Act.put, Act.eval, zz, Value.cells] at hS)))
 refine BG Tryz.results80 rfl (hS.box 0 rfl) Tryz.underlying81 rfl (by kernel_rfl) rfl ?_
 exact AO.mk ⟨_, _, rfl, hS.ro.2.imp fun z hz _ => hz.2, A7.empty⟩ hS.below
theorem st_litg {P : Program} {ops : Array Oper} {rest : List Oper} {o : Oper} {a : Act} {Q : Exit -> Act -> World -> Prop} {w0 w : World} {F : List Aj} {K : (Nat -> Prop) -> World -> Prop} (h : St w0 w F K) (hg : Region.wanted o (yielded ops a.tmps) = true) (t e : TypeId) (len : Nat) (parts : Array (Nat × Operand)) (ho : o.op = .buildSlice t len parts) (ht : P.underlying t = some (.slice e)) (cells : Array Value)
  (hb : BD P e len (parts.map fun (i, x) => (i, a.eval x)).toList = some cells) (size : Nat) (hs : cells.size = len * size) (hm : len <= 1000000000000)
  (hk : ∀ g w', St w0 w' (.own (.slice (some ⟨g, 0, none⟩) len len) e size len cells.toList :: F) K -> wpList P ops Q rest (a.put o.dst (.slice (some ⟨g, 0, none⟩) len len)) w') : wpList P ops Q (o :: rest) a w :=
 BigFrame.wpList_want hg fun _ hK => C5 ho ht rfl hb fun w' hX hB => hK _ _ (hk _ w' (h.new hB _ ⟨by simpa using hs, .inr ⟨w.heap.size, len, cells, rfl, Nat.le_refl _, hX, Nat.le_refl _, by unfold maxLen; omega, hs, by rw [<- hs, show cells.size = cells.toList.length by simp, List.take_length]⟩⟩))
theorem Gw {P : Program} {ops : Array Oper} {rest : List Oper} {o : Oper} {a : Act} {Q : Exit -> Act -> World -> Prop} {w0 w : World} {F : List Aj} {K : (Nat -> Prop) -> World -> Prop} (h : St w0 w F K) (hg : Region.wanted o (yielded ops a.tmps) = true) (t e : TypeId) (len : Nat) (parts : Array (Nat × Operand)) (ho : o.op = .buildSlice t len parts) (ht : P.underlying t = some (.slice e)) (ps : List (Nat × Value)) (hp : (parts.map fun (i, x) => (i, a.eval x)).toList = ps) (cells : Array Value)
  (hb : BD P e len ps = some cells) (size : Nat) (hs : cells.size = len * size) (hm : len <= 1000000000000)
  (hk : ∀ g w', St w0 w' (.own (.slice (some ⟨g, 0, none⟩) len len) e size len cells.toList :: F) K -> wpList P ops Q rest (a.put o.dst (.slice (some ⟨g, 0, none⟩) len len)) w') : wpList P ops Q (o :: rest) a w :=
 BigFrame.wpList_want hg fun _ hK => C5 ho ht hp hb fun w' hX hB => hK _ _ (hk _ w' (h.new hB _ ⟨by simpa using hs, .inr ⟨w.heap.size, len, cells, rfl, Nat.le_refl _, hX, Nat.le_refl _, by unfold maxLen; omega, hs, by rw [<- hs, show cells.size = cells.toList.length by simp, List.take_length]⟩⟩))
theorem Bd.sets {w : World} {D : Nat -> Prop} {a b : Value} {z : Nat × Nat} (h : Bd w D (.agg #[a, b]) z) : A7 w D (.agg #[a]) z.1 /\ A7 w D (.agg #[b]) z.2 := by
 obtain ⟨x, y, he, h1, h2⟩ := h
 have e : a = x /\ b = y := by simpa using he
 obtain ⟨rfl, rfl⟩ := e
 exact ⟨h1, h2⟩
theorem cc1 {w : World} {D : Nat -> Prop} {a b : Value} {z : Nat × Nat} (h : Bd w D (.agg #[a, b]) z) : AB w D [a, b] [z] := fun i y n hi => by
 cases i with
 | zero => obtain rfl := Option.some.inj (show some z = some (y, n) from hi); exact ⟨a, b, rfl, rfl, h.sets.1, h.sets.2⟩
 | succ i => simp at hi
theorem rcells1 {w : World} {D : Nat -> Prop} {a1 b1 a3 b3 : Value} (h1 : Bd w D (.agg #[a1, b1]) (4, 0)) (h3 : Bd w D (.agg #[a3, b3]) (2, 0)) :
  AM w D [.bool false, a1, b1, .int .i64 1, .int .i64 0, .bool false, .slice none 0 0, .slice none 0 0, .int .i64 2, .int .i64 0, .bool false, a3, b3, .int .i64 3, .int .i64 0, .bool true, .slice none 0 0, .slice none 0 0, .int .i64 4, .int .i64 0] P1.rules :=
 AM.append (l := [⟨false, 4, 0, 1, 0⟩]) (xs := [.bool false, a1, b1, .int .i64 1, .int .i64 0]) rfl (AM.single h1.sets.1 h1.sets.2)
  (AM.append (l := [⟨false, 0, 0, 2, 0⟩]) (xs := [.bool false, .slice none 0 0, .slice none 0 0, .int .i64 2, .int .i64 0]) rfl (AM.single A7.empty A7.empty)
   (AM.append (l := [⟨false, 2, 0, 3, 0⟩]) (xs := [.bool false, a3, b3, .int .i64 3, .int .i64 0]) rfl (AM.single h3.sets.1 h3.sets.2) (AM.single (z := ⟨true, 0, 0, 4, 0⟩) A7.empty A7.empty)))
theorem ofL1 : (ofP P1).links = some [] := by unfold ofP; rw [if_pos JC]; rfl
theorem of1_any {w0 w : World} {F : List Aj} {K : (Nat -> Prop) -> World -> Prop} {v : Value} (hS : St w0 w F K) (kp : ∀ D w, K D w -> Ba w D v P1) (kt : ∀ D w, K D w -> BH w) :
  Calls Tryz.prog 41 #[v] w fun e w' => ∃ (R : Int) (q n3 c3 cr3 cn3 ng3 cg3 : Nat) (A3 Ar3 An3 Ag3 : Option Addr) (k : Value), e = .returned (.tuple #[.agg #[.int .i64 R, .pointer (some ⟨q, 0, none⟩), .slice A3 n3 c3, .slice Ar3 2 cr3, .slice An3 1 cn3, .slice Ag3 ng3 cg3], k, .int .i64 0]) /\ St w0 w' F fun D w => K D w /\ Sl w D 1 k ([0, 1] : List Int).length (AX [0, 1]) := by
 have KS := hS.stable
 refine (H5 ok1 hS kp kt).mono ?_
 rintro e w3 ⟨u3, k3, rfl, hS⟩
 obtain ⟨lp3, s3, rv3, nv3, gv3, rfl, hh, hs, hr, hn, hg⟩ := id hS.ro.1.2
 have e1 := ofL1
 have e2 := ofP1
 have e3 := ofK1
 have e4 := JC
 obtain ⟨A3, n3, c3, rfl⟩ := hs.shape
 obtain ⟨Ar3, cr3, rfl, _, _⟩ := hr.shape
 obtain ⟨An3, cn3, rfl, _, _⟩ := hn.shape
 obtain ⟨Ag3, cg3, rfl, _, _⟩ := hg.shape
 rw [e1] at hh
 obtain ⟨q3, o3, rfl, -⟩ := hh
 refine ⟨_, q3, n3, c3, cr3, cn3, _, cg3, A3, Ar3, An3, Ag3, k3, by rw [e2.1, e2.2, e4], ?_⟩
 refine hS.mono (KS.and (At (by decide))) fun D w h => ⟨h.1.1, ?_⟩
 have h2 := h.2
 rw [e3] at h2
 exact h2
set_option maxHeartbeats 4000000 in
theorem lawake33_any {w0 w : World} {F : List Aj} {K : (Nat -> Prop) -> World -> Prop} (hS : St w0 w F K) (kt : ∀ D w, K D w -> BH w /\ D 0) : Calls Tryz.prog 40 #[] w fun e w' => e = .returned (.bool true) /\ St w0 w' F K := by
 have KS := Lib.hid hS.stable
 go_enter Tryz.func40, Tryz.ntmps40
 go_wp2_with (first
  | (go_at_call 44; refine (Js hS kt).mono ?_; clear hS; rintro e w_ ⟨p, rfl, hS⟩; obtain ⟨q, o, rfl, -⟩ := id hS.ro.2)
  | ((with_reducible refine qA 9 ?_); refine Ck hS rfl _ 3 1 _ rfl Tryz.underlying40 #[.int .i64 2] (by kernel_rfl) 1 rfl (by decide) ?_; clear hS; intro g9 w_ hS; (try simp only [Act.put, List.setIfInBounds_toArray, List.set_cons_zero, List.set_cons_succ]))
  | ((with_reducible refine qA 10 ?_); refine BigFrame.wpList_want rfl fun _ hK => BV (f := 80) (first := #[]) (caps := #[]) (vs := [.slice (some ⟨g9, 0, none⟩) 1 1]) rfl rfl (by kernel_rfl) (by simp [Act.eval, Act.put]) (Fy (l := [2]) (N := 4) (Sl.of_own (hS.own 0 rfl)) (by decide)) fun e w' ⟨x_, he_, hx_, hb_⟩ => ⟨x_, he_, hK _ _ ?_⟩; clear hK; obtain ⟨ya_, na_, rfl, hy_, hn_⟩ := id hx_; obtain ⟨A10, m10, c10, rfl⟩ := hy_.shape; obtain ⟨B10, k10, d10, rfl⟩ := hn_.shape; replace hS := hS.ret hb_ Bk hx_; clear hx_ hb_ hy_ hn_ he_; (try simp only [Act.put, List.setIfInBounds_toArray, List.set_cons_zero, List.set_cons_succ]))
  | ((with_reducible refine qA 11 ?_); refine Av rfl _ _ rfl #[.bool false, .slice A10 m10 c10, .slice B10 k10 d10, .int .i64 1, .int .i64 0] (by kernel_rfl) ?_; (try simp only [Act.put, List.setIfInBounds_toArray, List.set_cons_zero, List.set_cons_succ]))
  | ((with_reducible refine qA 12 ?_); refine Av rfl _ _ rfl #[.bool false, .slice none 0 0, .slice none 0 0, .int .i64 2, .int .i64 0] (by kernel_rfl) ?_; (try simp only [Act.put, List.setIfInBounds_toArray, List.set_cons_zero, List.set_cons_succ]))
  | ((with_reducible refine qA 14 ?_); refine Ck hS rfl _ 3 1 _ rfl Tryz.underlying40 #[.int .i64 1] (by kernel_rfl) 1 rfl (by decide) ?_; clear hS; intro g14 w_ hS; (try simp only [Act.put, List.setIfInBounds_toArray, List.set_cons_zero, List.set_cons_succ]))
  | ((with_reducible refine qA 15 ?_); refine BigFrame.wpList_want rfl fun _ hK => BV (f := 80) (first := #[]) (caps := #[]) (vs := [.slice (some ⟨g14, 0, none⟩) 1 1]) rfl rfl (by kernel_rfl) (by simp [Act.eval, Act.put]) (Fy (l := [1]) (N := 2) (Sl.of_own (hS.own 0 rfl)) (by decide)) fun e w' ⟨x_, he_, hx_, hb_⟩ => ⟨x_, he_, hK _ _ ?_⟩; clear hK; obtain ⟨ya_, na_, rfl, hy_, hn_⟩ := id hx_; obtain ⟨A15, m15, c15, rfl⟩ := hy_.shape; obtain ⟨B15, k15, d15, rfl⟩ := hn_.shape; replace hS := hS.ret hb_ Bk hx_; clear hx_ hb_ hy_ hn_ he_; (try simp only [Act.put, List.setIfInBounds_toArray, List.set_cons_zero, List.set_cons_succ]))
  | ((with_reducible refine qA 16 ?_); refine Av rfl _ _ rfl #[.bool false, .slice A15 m15 c15, .slice B15 k15 d15, .int .i64 3, .int .i64 0] (by kernel_rfl) ?_; (try simp only [Act.put, List.setIfInBounds_toArray, List.set_cons_zero, List.set_cons_succ]))
  | ((with_reducible refine qA 17 ?_); refine Av rfl _ _ rfl #[.bool true, .slice none 0 0, .slice none 0 0, .int .i64 4, .int .i64 0] (by kernel_rfl) ?_; (try simp only [Act.put, List.setIfInBounds_toArray, List.set_cons_zero, List.set_cons_succ]))
  | ((with_reducible refine qA 18 ?_); refine Gw hS rfl _ 83 4 _ rfl Tryz.underlying28 [(0, .agg #[.bool false, .slice A10 m10 c10, .slice B10 k10 d10, .int .i64 1, .int .i64 0]), (1, .agg #[.bool false, .slice none 0 0, .slice none 0 0, .int .i64 2, .int .i64 0]), (2, .agg #[.bool false, .slice A15 m15 c15, .slice B15 k15 d15, .int .i64 3, .int .i64 0]), (3, .agg #[.bool true, .slice none 0 0, .slice none 0 0, .int .i64 4, .int .i64 0])] (by simp [Act.eval]) #[.bool false, .slice A10 m10 c10, .slice B10 k10 d10, .int .i64 1, .int .i64 0, .bool false, .slice none 0 0, .slice none 0 0, .int .i64 2, .int .i64 0, .bool false, .slice A15 m15 c15, .slice B15 k15 d15, .int .i64 3, .int .i64 0, .bool true, .slice none 0 0, .slice none 0 0, .int .i64 4, .int .i64 0] (by kernel_rfl) 5 rfl (by decide) ?_; clear hS; intro g18 w_ hS; (try simp only [Act.put, List.setIfInBounds_toArray, List.set_cons_zero, List.set_cons_succ]))
  | ((with_reducible refine qA 20 ?_); refine Ck hS rfl _ 3 2 _ rfl Tryz.underlying40 #[.int .i64 2, .int .i64 5] (by kernel_rfl) 1 rfl (by decide) ?_; clear hS; intro g20 w_ hS; (try simp only [Act.put, List.setIfInBounds_toArray, List.set_cons_zero, List.set_cons_succ]))
  | ((with_reducible refine qA 21 ?_); refine BigFrame.wpList_want rfl fun _ hK => BV (f := 80) (first := #[]) (caps := #[]) (vs := [.slice (some ⟨g20, 0, none⟩) 2 2]) rfl rfl (by kernel_rfl) (by simp [Act.eval, Act.put]) (Fy (l := [2, 5]) (N := 36) (Sl.of_own (hS.own 0 rfl)) (by decide)) fun e w' ⟨x_, he_, hx_, hb_⟩ => ⟨x_, he_, hK _ _ ?_⟩; clear hK; obtain ⟨ya_, na_, rfl, hy_, hn_⟩ := id hx_; obtain ⟨A21, m21, c21, rfl⟩ := hy_.shape; obtain ⟨B21, k21, d21, rfl⟩ := hn_.shape; replace hS := hS.ret hb_ Bk hx_; clear hx_ hb_ hy_ hn_ he_; (try simp only [Act.put, List.setIfInBounds_toArray, List.set_cons_zero, List.set_cons_succ]))
  | ((with_reducible refine qA 22 ?_); refine Gw hS rfl _ 81 1 _ rfl Tryz.underlying29 [(0, .agg #[.slice A21 m21 c21, .slice B21 k21 d21])] (by simp [Act.eval]) #[.slice A21 m21 c21, .slice B21 k21 d21] (by kernel_rfl) 2 rfl (by decide) ?_; clear hS; intro g22 w_ hS; (try simp only [Act.put, List.setIfInBounds_toArray, List.set_cons_zero, List.set_cons_succ]))
  | ((with_reducible refine qA 24 ?_); refine Ck hS rfl _ 3 1 _ rfl Tryz.underlying40 #[.int .i64 1] (by kernel_rfl) 1 rfl (by decide) ?_; clear hS; intro g24 w_ hS; (try simp only [Act.put, List.setIfInBounds_toArray, List.set_cons_zero, List.set_cons_succ]))
  | ((with_reducible refine qA 25 ?_); refine BigFrame.wpList_want rfl fun _ hK => BV (f := 80) (first := #[]) (caps := #[]) (vs := [.slice (some ⟨g24, 0, none⟩) 1 1]) rfl rfl (by kernel_rfl) (by simp [Act.eval, Act.put]) (Fy (l := [1]) (N := 2) (Sl.of_own (hS.own 0 rfl)) (by decide)) fun e w' ⟨x_, he_, hx_, hb_⟩ => ⟨x_, he_, hK _ _ ?_⟩; clear hK; obtain ⟨ya_, na_, rfl, hy_, hn_⟩ := id hx_; obtain ⟨A25, m25, c25, rfl⟩ := hy_.shape; obtain ⟨B25, k25, d25, rfl⟩ := hn_.shape; replace hS := hS.ret hb_ Bk hx_; clear hx_ hb_ hy_ hn_ he_; (try simp only [Act.put, List.setIfInBounds_toArray, List.set_cons_zero, List.set_cons_succ]))
  | ((with_reducible refine qA 26 ?_); refine Gw hS rfl _ 81 1 _ rfl Tryz.underlying29 [(0, .agg #[.slice A25 m25 c25, .slice B25 k25 d25])] (by simp [Act.eval]) #[.slice A25 m25 c25, .slice B25 k25 d25] (by kernel_rfl) 2 rfl (by decide) ?_; clear hS; intro g26 w_ hS; (try simp only [Act.put, List.setIfInBounds_toArray, List.set_cons_zero, List.set_cons_succ]))
  | ((with_reducible refine qA 27 ?_); refine Av rfl _ _ rfl #[.int .i64 5, .pointer (some ⟨q, 0, none⟩), .slice none 0 0, .slice (some ⟨g18, 0, none⟩) 4 4, .slice (some ⟨g22, 0, none⟩) 1 1, .slice (some ⟨g26, 0, none⟩) 1 1] (by kernel_rfl) ?_; (try simp only [Act.put, List.setIfInBounds_toArray, List.set_cons_zero, List.set_cons_succ]))
  | ((with_reducible refine qA 2 ?_); refine qa hS #[.int .i64 0, .pointer none, .slice none 0 0, .slice none 0 0, .slice none 0 0, .slice none 0 0] ?_; clear hS; intro g2 w_ hS)
  | ((with_reducible refine qM ?_); (first | refine qS hS ?_ | refine qT hS ?_); clear hS; intro w_ hS; (try simp only [Act.put, Act.eval, zz, Value.cells] at hS))
  | ((with_reducible refine qA 29 ?_)
     replace hS := ((hS.freeze 1 (by decide) rfl).freeze 2 (by decide) rfl).freeze 3 (by decide) rfl
     obtain ⟨K1, k0, kp1, hS2⟩ : ∃ K1 : (Nat -> Prop) -> World -> Prop, (∀ D w, K1 D w -> K D w) /\ (∀ D w, K1 D w -> Ba w D (.agg #[.int .i64 5, .pointer (some ⟨q, 0, none⟩), .slice none 0 0, .slice (some ⟨g18, 0, none⟩) 4 4, .slice (some ⟨g22, 0, none⟩) 1 1, .slice (some ⟨g26, 0, none⟩) 1 1]) P1) /\ St w0 w_ (.box g2 31 #[.int .i64 5, .pointer (some ⟨q, 0, none⟩), .slice none 0 0, .slice (some ⟨g18, 0, none⟩) 4 4, .slice (some ⟨g22, 0, none⟩) 1 1, .slice (some ⟨g26, 0, none⟩) 1 1] :: F) K1 :=
       ⟨_, fun D w h => h.1.1.1.1.1.1.1.1, fun D w h => ⟨_, _, _, _, _, rfl, h.1.1.1.1.1.1.1.2, A7.empty, ⟨_, h.2, rcells1 h.1.1.1.1.1.1.2 h.1.1.1.1.1.2⟩, ⟨_, h.1.2, cc1 h.1.1.1.1.2⟩, _, h.1.1.2, cc1 h.1.1.1.2⟩, hS.sub (.cons_cons _ ((((List.sublist_cons_self _ _).trans (List.sublist_cons_self _ _)).trans (List.sublist_cons_self _ _)).trans (List.sublist_cons_self _ _)))⟩
     clear hS
     have hS := hS2
     clear hS2
     refine BigFrame.wpList_want rfl fun _ hK => AZ rfl rfl (hS.box 0 rfl) Tryz.underlying31 rfl (by kernel_rfl) (hK _ _ ?_)))
 refine (of1_any hS kp1 (fun D w h => (kt D w (k0 D w h)).1)).mono ?_
 clear hS
 rintro e w3 ⟨R3, q3, n3, c3, cr3, cn3, ng3, cg3, A3, Ar3, An3, Ag3, k3, rfl, hS⟩
 obtain ⟨K3, j0, jk, hS2⟩ : ∃ K3 : (Nat -> Prop) -> World -> Prop, (∀ D w, K3 D w -> K1 D w) /\ (∀ D w, K3 D w -> Sl w D 1 k3 ([0, 1] : List Int).length (AX [0, 1])) /\ St w0 w3 (.box g2 31 #[.int .i64 5, .pointer (some ⟨q, 0, none⟩), .slice none 0 0, .slice (some ⟨g18, 0, none⟩) 4 4, .slice (some ⟨g22, 0, none⟩) 1 1, .slice (some ⟨g26, 0, none⟩) 1 1] :: F) K3 := ⟨_, fun D w h => h.1, fun D w h => h.2, hS⟩
 clear hS
 have hS := hS2
 clear hS2
 have hj := Lib.hid fun D w h => kt D w (k0 D w (j0 D w h))
 go_wp2_with (first
  | ((with_reducible refine qA 3 ?_); refine qa hS #[.int .i64 0, .pointer none, .slice none 0 0, .slice none 0 0, .slice none 0 0, .slice none 0 0] ?_; clear hS; intro g3 w_ hS)
  | (go_at_call 44; refine (Js hS hj.out).mono ?_; clear hS; rintro e w_ ⟨p, rfl, hS⟩; obtain ⟨q4, o4, rfl, -⟩ := id hS.ro.2)
  | ((with_reducible refine qA 35 ?_); refine Ck hS rfl _ 3 1 _ rfl Tryz.underlying40 #[.int .i64 2] (by kernel_rfl) 1 rfl (by decide) ?_; clear hS; intro g35 w_ hS; (try simp only [Act.put, List.setIfInBounds_toArray, List.set_cons_zero, List.set_cons_succ]))
  | (go_at_call 38; refine (of_any _ [2] _ _ (Sl.of_own (hS.own 0 rfl))).mono ?_; rw [show ofN [2] = 4 from by decide]; rintro r_ w_ ⟨_, rfl, h1, hb_⟩; replace hS := hS.ret hb_ A5 h1; clear h1 hb_; obtain ⟨A36, c36, l36, rfl, -⟩ := hS.ro.2.parts; obtain ⟨n36, hn36⟩ : ∃ n, n = l36.length := ⟨_, rfl⟩; rw [<- hn36] at hS ⊢; clear hn36)
  | ((with_reducible refine qA 38 ?_); refine Ck hS rfl _ 3 2 _ rfl Tryz.underlying40 #[.int .i64 2, .int .i64 3] (by kernel_rfl) 1 rfl (by decide) ?_; clear hS; intro g38 w_ hS; (try simp only [Act.put, List.setIfInBounds_toArray, List.set_cons_zero, List.set_cons_succ]))
  | ((with_reducible refine qA 39 ?_); refine BigFrame.wpList_want rfl fun _ hK => BV (f := 80) (first := #[]) (caps := #[]) (vs := [.slice (some ⟨g38, 0, none⟩) 2 2]) rfl rfl (by kernel_rfl) (by simp [Act.eval, Act.put]) (Fy (l := [2, 3]) (N := 12) (Sl.of_own (hS.own 0 rfl)) (by decide)) fun e w' ⟨x_, he_, hx_, hb_⟩ => ⟨x_, he_, hK _ _ ?_⟩; clear hK; obtain ⟨ya_, na_, rfl, hy_, hn_⟩ := id hx_; obtain ⟨A39, m39, c39, rfl⟩ := hy_.shape; obtain ⟨B39, k39, d39, rfl⟩ := hn_.shape; replace hS := hS.ret hb_ Bk hx_; clear hx_ hb_ hy_ hn_ he_; (try simp only [Act.put, List.setIfInBounds_toArray, List.set_cons_zero, List.set_cons_succ]))
  | ((with_reducible refine qA 40 ?_); refine Av rfl _ _ rfl #[.bool false, .slice A39 m39 c39, .slice B39 k39 d39, .int .i64 1, .int .i64 0] (by kernel_rfl) ?_; (try simp only [Act.put, List.setIfInBounds_toArray, List.set_cons_zero, List.set_cons_succ]))
  | ((with_reducible refine qA 41 ?_); refine Gw hS rfl _ 83 1 _ rfl Tryz.underlying28 [(0, .agg #[.bool false, .slice A39 m39 c39, .slice B39 k39 d39, .int .i64 1, .int .i64 0])] (by simp [Act.eval]) #[.bool false, .slice A39 m39 c39, .slice B39 k39 d39, .int .i64 1, .int .i64 0] (by kernel_rfl) 5 rfl (by decide) ?_; clear hS; intro g41 w_ hS; (try simp only [Act.put, List.setIfInBounds_toArray, List.set_cons_zero, List.set_cons_succ]))
  | ((with_reducible refine qA 43 ?_); refine Ck hS rfl _ 3 1 _ rfl Tryz.underlying40 #[.int .i64 1] (by kernel_rfl) 1 rfl (by decide) ?_; clear hS; intro g43 w_ hS; (try simp only [Act.put, List.setIfInBounds_toArray, List.set_cons_zero, List.set_cons_succ]))
  | ((with_reducible refine qA 44 ?_); refine BigFrame.wpList_want rfl fun _ hK => BV (f := 80) (first := #[]) (caps := #[]) (vs := [.slice (some ⟨g43, 0, none⟩) 1 1]) rfl rfl (by kernel_rfl) (by simp [Act.eval, Act.put]) (Fy (l := [1]) (N := 2) (Sl.of_own (hS.own 0 rfl)) (by decide)) fun e w' ⟨x_, he_, hx_, hb_⟩ => ⟨x_, he_, hK _ _ ?_⟩; clear hK; obtain ⟨ya_, na_, rfl, hy_, hn_⟩ := id hx_; obtain ⟨A44, m44, c44, rfl⟩ := hy_.shape; obtain ⟨B44, k44, d44, rfl⟩ := hn_.shape; replace hS := hS.ret hb_ Bk hx_; clear hx_ hb_ hy_ hn_ he_; (try simp only [Act.put, List.setIfInBounds_toArray, List.set_cons_zero, List.set_cons_succ]))
  | ((with_reducible refine qA 45 ?_); refine Gw hS rfl _ 81 1 _ rfl Tryz.underlying29 [(0, .agg #[.slice A44 m44 c44, .slice B44 k44 d44])] (by simp [Act.eval]) #[.slice A44 m44 c44, .slice B44 k44 d44] (by kernel_rfl) 2 rfl (by decide) ?_; clear hS; intro g45 w_ hS; (try simp only [Act.put, List.setIfInBounds_toArray, List.set_cons_zero, List.set_cons_succ]))
  | ((with_reducible refine qA 46 ?_); refine Av rfl _ _ rfl #[.int .i64 5, .pointer (some ⟨q4, 0, none⟩), .slice A36 n36 c36, .slice (some ⟨g41, 0, none⟩) 1 1, .slice none 0 0, .slice (some ⟨g45, 0, none⟩) 1 1] (by kernel_rfl) ?_; (try simp only [Act.put, List.setIfInBounds_toArray, List.set_cons_zero, List.set_cons_succ]))
  | ((with_reducible refine qA 6 ?_); refine qa hS #[.int .i64 0, .pointer none, .slice none 0 0, .slice none 0 0, .slice none 0 0, .slice none 0 0] ?_; clear hS; intro g6 w_ hS)
  | ((with_reducible refine qM ?_); (first | refine qS hS ?_ | refine qT hS ?_); clear hS; intro w_ hS; (try simp only [Act.put, Act.eval, zz, Value.cells] at hS))
  | ((with_reducible refine qA 50 ?_)
     replace hS := (hS.freeze 1 (by decide) rfl).freeze 2 (by decide) rfl
     obtain ⟨K5, m0, kp2, hS2⟩ : ∃ K5 : (Nat -> Prop) -> World -> Prop, (∀ D w, K5 D w -> K3 D w) /\ (∀ D w, K5 D w -> Ba w D (.agg #[.int .i64 5, .pointer (some ⟨q4, 0, none⟩), .slice A36 n36 c36, .slice (some ⟨g41, 0, none⟩) 1 1, .slice none 0 0, .slice (some ⟨g45, 0, none⟩) 1 1]) P2) /\ St w0 w_ (.box g6 31 #[.int .i64 5, .pointer (some ⟨q4, 0, none⟩), .slice A36 n36 c36, .slice (some ⟨g41, 0, none⟩) 1 1, .slice none 0 0, .slice (some ⟨g45, 0, none⟩) 1 1] :: .box g3 31 #[.int .i64 R3, .pointer (some ⟨q3, 0, none⟩), .slice A3 n3 c3, .slice Ar3 2 cr3, .slice An3 1 cn3, .slice Ag3 ng3 cg3] :: .box g2 31 #[.int .i64 5, .pointer (some ⟨q, 0, none⟩), .slice none 0 0, .slice (some ⟨g18, 0, none⟩) 4 4, .slice (some ⟨g22, 0, none⟩) 1 1, .slice (some ⟨g26, 0, none⟩) 1 1] :: F) K5 :=
       ⟨_, fun D w h => h.1.1.1.1.1.1, fun D w h => ⟨_, _, _, _, _, rfl, h.1.1.1.1.1.2, h.1.1.1.1.2, ⟨_, h.2, AM.single (z := ⟨false, 12, 0, 1, 0⟩) h.1.1.1.2.sets.1 h.1.1.1.2.sets.2⟩, ⟨[], Sl.none_, fun i y n hi => by simp [P2] at hi⟩, _, h.1.2, cc1 h.1.1.2⟩, hS.sub (.cons_cons _ (((List.sublist_cons_self _ _).trans (List.sublist_cons_self _ _)).trans (List.sublist_cons_self _ _)))⟩
     clear hS
     have hS := hS2
     clear hS2
     refine BigFrame.wpList_want rfl fun _ hK => AZ rfl rfl (hS.box 2 rfl) Tryz.underlying31 rfl (by kernel_rfl) (hK _ _ ?_)))
 have hkp : ∀ D w, K5 D w -> Ba w D (.agg #[.int .i64 5, .pointer (some ⟨q, 0, none⟩), .slice none 0 0, .slice (some ⟨g18, 0, none⟩) 4 4, .slice (some ⟨g22, 0, none⟩) 1 1, .slice (some ⟨g26, 0, none⟩) 1 1]) P1 := fun D w h => kp1 D w (j0 D w (m0 D w h))
 have hkt : ∀ D w, K5 D w -> BH w := fun D w h => (kt D w (k0 D w (j0 D w (m0 D w h)))).1
 have hjk : ∀ D w, K5 D w -> Sl w D 1 k3 ([0, 1] : List Int).length (AX [0, 1]) := fun D w h => jk D w (m0 D w h)
 refine (GT (hkp _ _ hS.ro) ok1 (hkt _ _ hS.ro)).mono ?_
 rw [relS1]
 rintro r_ w7 ⟨_, rfl, h1, hb_⟩
 replace hS := hS.ret hb_ A5 h1
 clear h1 hb_
 go_wp2_with (first
  | ((with_reducible refine qA 52 ?_); refine st_litg hS rfl _ 3 3 _ rfl Tryz.underlying40 #[.int .i64 1, .int .i64 2, .int .i64 5] (by kernel_rfl) 1 rfl (by decide) ?_; clear hS; intro g52 w_ hS; (try simp only [Act.put, List.setIfInBounds_toArray, List.set_cons_zero, List.set_cons_succ]))
  | (go_at_call 38; refine (of_any _ [1, 2, 5] _ _ (Sl.of_own (hS.own 0 rfl))).mono ?_; rw [show ofN [1, 2, 5] = 38 from by decide]; rintro r_ w_ ⟨_, rfl, h1, hb_⟩; replace hS := hS.ret hb_ A5 h1; clear h1 hb_)
  | (go_at_call 26; refine (Ib _ _ 38 38 _ _ _ hS.ro.1.2 hS.ro.2).mono ?_; rintro r_ w_ ⟨_, rfl, rfl, hb_⟩; rw [show ((38 : Nat) == 38) = true from rfl]; replace hS := hS.ext hb_; clear hb_)
  | ((with_reducible refine qA 58 ?_); refine st_litg hS rfl _ 3 2 _ rfl Tryz.underlying40 #[.int .i64 0, .int .i64 1] (by kernel_rfl) 1 rfl (by decide) ?_; clear hS; intro g58 w_ hS; (try simp only [Act.put, List.setIfInBounds_toArray, List.set_cons_zero, List.set_cons_succ])))
 refine (sleq_any _ _ [0, 1] [0, 1] _ _ _ (hjk _ _ hS.ro.1.1) (Sl.of_own (hS.own 0 rfl))).mono ?_
 rintro r_ w8 ⟨_, rfl, rfl, hb_⟩
 rw [show (([0, 1] : List Int) == [0, 1]) = true from rfl]
 replace hS := hS.ext hb_
 clear hb_
 go_wp2_with (first
  | ((with_reducible refine qK ?_); refine qC hS ?_)
  | ((with_reducible refine qA 74 ?_); refine BigFrame.wpList_want rfl fun _ hK => AZ rfl rfl (hS.box 2 rfl) Tryz.underlying31 rfl (by kernel_rfl) (hK _ _ ?_))
  | (go_at_call 82; refine (useless_any (kp2 _ _ hS.ro.1.1) ok2 (hkt _ _ hS.ro.1.1)).mono ?_; rw [use2]; rintro e_ w_ ⟨u9, rfl, hs⟩; replace hS := hS.new hs.below (.own u9 3 1 ([0] : List Int).length (AX [0])) (hs.own 0 rfl); clear hs)
  | ((with_reducible refine qA 76 ?_); refine st_litg hS rfl _ 3 1 _ rfl Tryz.underlying40 #[.int .i64 0] (by kernel_rfl) 1 rfl (by decide) ?_; clear hS; intro g76 w_ hS; (try simp only [Act.put, List.setIfInBounds_toArray, List.set_cons_zero, List.set_cons_succ]))
  | (go_at_call 17; refine (sleq_any _ _ [0] [0] _ _ _ (Sl.of_own (hS.own 1 rfl)) (Sl.of_own (hS.own 0 rfl))).mono ?_; rintro r_ w_ ⟨_, rfl, rfl, hb_⟩; rw [show (([0] : List Int) == [0]) = true from rfl]; replace hS := hS.ext hb_; clear hb_))
 go_ret
 exact ⟨rfl, (hS.sub (.cons _ (.cons _ (.cons _ (.cons _ (.cons _ (.cons _ (.cons _ (List.Sublist.refl _))))))))).mono KS.out fun D w h => k0 _ _ (j0 _ _ (m0 _ _ h.1.1))⟩
end
section
open Go.RowKit
attribute [local go_sem ↓] Go.wp_at_zero Go.wp_at_succ
set_option maxRecDepth 20000
set_option exponentiation.threshold 5000
theorem start_bytes1 {W : World} {D : Nat -> Prop} {v : Value} {l : List Nat} (h : BH W) (hv : Sl W D 1 v l.length (G1 l)) : ∃ K : (Nat -> Prop) -> World -> Prop, (∀ D w, K D w -> BH w /\ D 0) /\ (∀ D w, K D w -> Sl w D 1 v l.length (G1 l)) /\ St W W [] K :=
 ⟨fun D w => (BH w /\ D 0) /\ Sl w D 1 v l.length (G1 l), fun _ _ h => h.1, fun _ _ h => h.2, St.start (D := fun _ => True) (Cd.and (At (by decide))) ⟨⟨h, trivial⟩, hv.imp fun _ _ _ => trivial⟩⟩
end
section
open Go.RowKit
attribute [local go_sem ↓] Go.wp_at_zero Go.wp_at_succ
set_option maxRecDepth 20000
set_option exponentiation.threshold 5000
theorem BackR.good {w0 w' : World} {l m : List Int} {e : Ending} (h : BackR w0 l m e w') (hg : l.all (DY m) = true) : ∃ x, e = .returned (.tuple #[x, .int .i64 0]) /\ St w0 w' [.own x 3 1 (l.map (Gc m)).length (AX (l.map (Gc m)))] fun _ _ => True := by
 rcases h with ⟨h, -⟩ | h
 ·rw [hg] at h; cases h
 ·exact h.2
end
section
open Go.RowKit
attribute [local go_sem ↓] Go.wp_at_zero Go.wp_at_succ
set_option maxRecDepth 20000
set_option exponentiation.threshold 5000
theorem backL_len (m : List Int) : ∀ l : List Int, (JG m l).length <= l.length
 | [] => by simp [JG]
 | k :: r => by
  have := backL_len m r
  unfold JG at *
  rw [List.flatMap_cons, List.length_append, List.length_cons]
  split
  ·rw [List.length_singleton]; omega
  ·rw [List.length_nil]; omega
theorem run_uniq {p : Ac} {s : Nat} {l : List Int} {N n M m : Nat} {b : Bool} (h : Hid (runTo p s 0 l = (N, n, b))) (k : runTo p s 0 l = (M, m, true)) : N = M /\ b = true := by
 have := h.out.symm.trans k
 simp only [Prod.mk.injEq] at this
 exact ⟨this.1, this.2.2⟩
end
section
open Go.RowKit
set_option exponentiation.threshold 5000
section
variable {p : Ac} {L : List (Nat × Nat)} {R : Nat}
theorem at_down (hM : Bq p L R) {n s : Nat} (h : AtD p n s) : ∃ n', n' <= n /\ AtD (ofP p) n' (s &&& relM L p) := by
 obtain ⟨l, rfl, m, hr⟩ := h
 obtain ⟨m', h2⟩ := sim_bwd hM 0 (G3 hM) hr
 rw [<- F3 hM] at h2
 exact ⟨_, backL_len _ _, _, rfl, _, h2⟩
theorem at_up (hM : Bq p L R) {n s : Nat} (h : AtD (ofP p) n s) : ∃ A, A &&& relM L p = s /\ AtD p n A := by
 obtain ⟨l, rfl, m, hr⟩ := h
 rw [F3 hM] at hr
 obtain ⟨A, h1, h2, _, _⟩ := sim_fwd hM (G3 hM) hr
 exact ⟨A, h2, _, by rw [List.length_map], _, h1⟩
theorem I9 (hM : Bq p L R) {d : Nat} : Eo p d ↔ Eo (ofP p) d := by
 constructor
 ·rintro ⟨⟨s, h1, h2⟩, h3⟩
  have low : ∀ n, n < d -> ∀ s, AtD (ofP p) n s -> reachB (ofP p) s = false := fun n hn s hs => by
   obtain ⟨A, rfl, hA⟩ := at_up hM hs
   rw [<- Dr hM]
   exact h3 n hn A hA
  obtain ⟨n', hn, h4⟩ := at_down hM h1
  have h5 : reachB (ofP p) (s &&& relM L p) = true := by rw [<- Dr hM]; exact h2
  obtain rfl : n' = d := by
   rcases Nat.lt_or_ge n' d with h | h
   ·rw [low n' h _ h4] at h5; cases h5
   ·omega
  exact ⟨⟨_, h4, h5⟩, low⟩
 ·rintro ⟨⟨s, h1, h2⟩, h3⟩
  obtain ⟨A, rfl, hA⟩ := at_up hM h1
  refine ⟨⟨A, hA, by rw [Dr hM]; exact h2⟩, fun n hn s hs => ?_⟩
  obtain ⟨n', hn', h4⟩ := at_down hM hs
  rw [Dr hM]
  exact h3 n' (by omega) _ h4
theorem near_up (hM : Bq p L R) {d s : Nat} (h : CD (ofP p) d s) : ∃ A, A &&& relM L p = s /\ CD p d A := by
 obtain ⟨n, hn, h⟩ := h
 obtain ⟨A, h1, h2⟩ := at_up hM h
 exact ⟨A, h1, n, hn, h2⟩
theorem near_count (hM : Bq p L R) {d : Nat} {la lb : List Nat} (ha : ∀ s, CD p d s -> s ∈ la) (hb : ∀ s ∈ lb, CD (ofP p) d s) (hn : lb.Nodup) : lb.length <= la.length := by
 have e : (la.map (· &&& relM L p)).length = la.length := List.length_map ..
 rw [<- e]
 refine nodup_sub hn fun s hs => ?_
 obtain ⟨A, rfl, h⟩ := near_up hM (hb s hs)
 exact List.mem_map.2 ⟨A, ha A h, rfl⟩
end
end
section
open Go.RowKit
attribute [local go_sem ↓] Go.wp_at_zero Go.wp_at_succ
set_option maxRecDepth 20000
set_option exponentiation.threshold 5000
theorem Jf {w0 : World} {D : Nat -> Prop} {u : Value} {l : List Nat} {s : Nat} (hu : Sl w0 D 1 u l.length (Bc l)) (hl : l.length <= 1000000) :
  Calls Tryz.prog 86 #[u, .int .u64 (s : Nat)] w0 (AO (fun x _ => x = .bool (l.contains s)) w0) := by
 obtain ⟨A, c, rfl, _, _⟩ := hu.shape
 obtain ⟨K, k1, hS⟩ : ∃ K : (Nat -> Prop) -> World -> Prop, (∀ D w, K D w -> Sl w D 1 (.slice A l.length c) l.length (Bc l)) /\ St w0 w0 [] K := ⟨_, fun _ _ h => h, St.start (At (by decide)) hu⟩
 clear hu
 obtain ⟨cc, hcc⟩ : ∃ cc, l.contains s = cc := ⟨_, rfl⟩
 rw [hcc]
 have HCC := Lib.hid hcc
 clear hcc
 go_enter Tryz.func86, Tryz.ntmps86
 go_wp2_with fail
 go_loopw [9] (fun iv wr => ∃ i : Nat, iv = .int .i64 (i : Nat) /\ i <= l.length /\ Hid ((l.take i).contains s = false) /\ St w0 wr [] K) (fun i _ => l.length - (intOf i).toNat)
 case atStart => exact ⟨0, rfl, by omega, Lib.hid (by simp), hS⟩
 case round =>
  clear hS
  obtain ⟨i, rfl, hi, HZ, hS⟩ := hrel
  by_cases hil : i < l.length
  ·obtain ⟨b, o, rfl⟩ := sl_pos (k1 _ _ hS.ro) (by omega)
   have HX : Hid ((Bc l)[i]? = some (.int .u64 (l.getD i 0 : Nat))) := Lib.hid (CN l i hil)
   have hym : l.getD i 0 ∈ l := by rw [List.getD_eq_getElem?_getD, List.getElem?_eq_getElem hil]; exact List.getElem_mem hil
   have HYM := Lib.hid hym
   have HST : Hid ((l.take (i + 1)).contains s = ((l.take i).contains s || l.getD i 0 == s)) := Lib.hid (by
    rw [List.take_add_one, List.getD_eq_getElem?_getD, List.getElem?_eq_getElem hil]
    simp only [Option.toList_some, Option.getD_some, List.contains_eq_any_beq, List.any_append, List.any_cons, List.any_nil, Bool.or_false]
    congr 1
    exact Bool.eq_iff_iff.2 (by simp only [beq_iff_eq]; exact eq_comm))
   generalize l.getD i 0 = y at *
   rw [HZ.out, Bool.false_or] at HST
   by_cases e : y = s
   ·subst e
    obtain rfl : cc = true := HCC.out.symm.trans (List.contains_iff_mem.2 HYM.out)
    go_wp2_with (first
     | ((with_reducible refine qB ?_); refine qc ?_ ?_ <;> intro h_ <;> go_prune)
     | ((with_reducible refine qk 33 ?_); refine BigFrame.wpList_want rfl fun _ hK => Ah rfl rfl (by kernel_rfl) (D6 (k1 _ _ hS.ro) HX.out) (hK _ _ ?_)))
    go_ret
    exact AO.mk rfl hS.below
   ·have he : ¬ ((y : Nat) : Int) = ((s : Nat) : Int) := by omega
    go_wp2_with (first
     | ((with_reducible refine qB ?_); refine qc ?_ ?_ <;> intro h_ <;> go_prune)
     | ((with_reducible refine qk 33 ?_); refine BigFrame.wpList_want rfl fun _ hK => Ah rfl rfl (by kernel_rfl) (D6 (k1 _ _ hS.ro) HX.out) (hK _ _ ?_)))
    exact ⟨⟨i + 1, by go_num, hil, Lib.hid (by rw [HST.out]; simpa using e), hS⟩, by simp [intOf]; omega⟩
  ·obtain rfl : i = l.length := by omega
   rw [List.take_length] at HZ
   obtain rfl : cc = false := HCC.out.symm.trans HZ.out
   go_wp2_with (first | ((with_reducible refine qB ?_); refine qc ?_ ?_ <;> intro h_ <;> go_prune))
   go_ret
   exact AO.mk rfl hS.below
def ShortR (p : Ac) (z : Int) : Prop := (∃ d : Nat, Eo p d /\ z = d) \/ (z = -1 /\ ∀ d, ¬ Eo p d)
def BW (l : List DP) : List Nat := l.map (·.1)
theorem GE {l : List DP} : (BW l).length = l.length := List.length_map ..
theorem sets_at {l : List DP} {i : Nat} (h : i < l.length) : (Bc (BW l))[i]? = some (.int .u64 ((l.getD i Bf).1 : Nat)) := by
 rw [CN _ _ (by rw [GE]; exact h)]
 unfold BW
 rw [List.getD_eq_getElem?_getD, List.getElem?_map, FK h]; rfl
theorem short_none {p : Ac} {d : Nat} (h : (srchN p d).1.length <= (srchN p d).2) (hn : ∀ i, i < d -> Fi p (srchN p i).1 (srchN p i).2) : ∀ e, ¬ Eo p e := by
 cases d with
 | zero => exact absurd (show 1 <= 0 from h) (by omega)
 | succ d =>
  have h1 := (GA p d).length_le
  have h2 : (srchN p (d + 1)).1.length = (srchN p d).1.length := by change (srchN p (d + 1)).1.length <= (srchN p d).1.length at h; omega
  intro e ⟨⟨s, hs, hr⟩, _⟩
  have := no_hit hn d (by omega) s (((BU p d).mem s).1 (GC h2 (at_rch hs)))
  rw [hr] at this; cases this
set_option maxHeartbeats 4000000 in
theorem Ja {w0 w : World} {F : List Aj} {K : (Nat -> Prop) -> World -> Prop} {v : Value} {p : Ac} {L : List (Nat × Nat)} {R : Nat} (hM : Bq p L R) (hS : St w0 w F K) (kp : ∀ D w, K D w -> C4 w D v p) :
  Calls Tryz.prog 42 #[v] w fun e w' => ∃ z, e = .returned (.int .i64 z) /\ ShortR p z /\ St w0 w' F K := by
 obtain ⟨R', lk, st, rl, nl, gl⟩ := p
 obtain rfl : lk = some L := hM.links
 obtain rfl : R' = (R : Int) := hM.roles
 obtain ⟨Al, cl, Ar, cr, An, cn, Ag, cg, rfl⟩ := DT (kp _ _ hS.ro)
 have HM := Lib.hid hM
 have KS := Lib.hid hS.stable
 have HK := Lib.hid kp
 have hr6 : rl.length <= 6 := hM.rlen
 clear hM kp
 obtain ⟨p, hp⟩ : ∃ p : Ac, ⟨(R : Int), some L, st, rl, nl, gl⟩ = p := ⟨_, rfl⟩
 rw [hp] at HM HK ⊢
 have HPR : Hid (p.rules = rl) := Lib.hid (by rw [<- hp])
 have HPS : Hid (p.start = st) := Lib.hid (by rw [<- hp])
 clear hp
 go_enter Tryz.func42, Tryz.ntmps42
 go_wp2_with (first
  | ((with_reducible refine qA 1 ?_); refine AE hS rfl _ _ rfl (.agg #[.int .i64 (R : Nat), .slice Al L.length cl, .int .u64 (st : Nat), .slice Ar rl.length cr, .slice An nl.length cn, .slice Ag gl.length cg]) _ rfl rfl ?_; clear hS; intro g1 w_ hS; (try simp only [Act.put, Act.eval, zz, Value.cells] at hS))
  | ((with_reducible refine qK ?_); refine qC hS ?_)
  | ((with_reducible refine qA 14 ?_); refine Ck hS rfl _ _ _ _ rfl Tryz.underlying25 #[.int .u64 (st : Nat)] (by kernel_rfl) 1 rfl (by decide) ?_; clear hS; intro g14 w_ hS)
  | ((with_reducible refine qA 17 ?_); refine Ck hS rfl _ _ _ _ rfl Tryz.underlying25 #[.int .u64 (st : Nat)] (by kernel_rfl) 1 rfl (by decide) ?_; clear hS; intro g17 w_ hS))
 replace hS := hS.swap
 go_loopg [3, 4, 5] 200 (fun k sv yv nv wr => ∃ (d : Nat), nv = .int .i64 (d : Nat) /\ d <= 100 /\ 2 * (64 - (srchN p d).1.length) + (if (srchN p d).2 < (srchN p d).1.length then 1 else 0) <= k /\ Hid ((∀ i, i < d -> Fi p (srchN p i).1 (srchN p i).2) /\ d <= (srchN p d).1.length /\ ((srchN p d).2 < (srchN p d).1.length -> d + 1 <= (srchN p d).1.length)) /\ Hid (St w0 wr (.own sv 33 1 (srchN p d).1.length (Bc (BW (srchN p d).1)) :: .own yv 33 1 ((srchN p d).1.length - (srchN p d).2) (Bc (BW ((srchN p d).1.drop (srchN p d).2))) :: .box g1 37 #[.int .i64 (R : Nat), .slice Al L.length cl, .int .u64 (st : Nat), .slice Ar rl.length cr, .slice An nl.length cn, .slice Ag gl.length cg] :: F) K))
 case atStart =>
  refine ⟨0, rfl, by omega, ?_, Lib.hid ⟨fun i h => by omega, by show 0 <= 1; omega, fun _ => by show 1 <= 1; omega⟩, Lib.hid ?_⟩
  ·show 2 * (64 - 1) + _ <= 200
   split <;> omega
  ·show St _ _ (.own _ _ 1 1 [.int .u64 (p.start : Nat)] :: .own _ _ 1 1 [.int .u64 (p.start : Nat)] :: _) _
   rw [HPS.out]
   exact hS
 case round =>
  clear hS
  obtain ⟨d, rfl, hd, hmk, HI, HS⟩ := hrel
  have hv := BU p d
  have hsm := DS HM.out d
  have hsm1 := DS HM.out (d + 1)
  have HNX := Lib.hid (show (srchN p (d + 1)).1 = lvlR p (srchN p d).1 (srchN p d).2 ((srchN p d).1.length - (srchN p d).2) from rfl)
  have HNA := Lib.hid (show (srchN p (d + 1)).2 = (srchN p d).1.length from rfl)
  have HPN := Lib.hid (GA p d).length_le
  have hRC := Lib.hid fun j (h : j < (srchN p d).1.length) => mask_lt HM.out.r5 ((IW h).mask HM.out)
  have HNONE := Lib.hid (short_none (p := p) (d := d))
  obtain ⟨l, hl⟩ : ∃ l, (srchN p d).1 = l := ⟨_, rfl⟩
  obtain ⟨a, ha⟩ : ∃ a, (srchN p d).2 = a := ⟨_, rfl⟩
  have HLQ := Lib.hid hl
  have HAQ := Lib.hid ha
  rw [hl, ha] at hv HNX HS HI hmk HNONE
  rw [hl] at hsm HNA HPN hRC
  clear hl ha
  have hlp := hv.wf.pos
  have hal := hv.le
  have HV := Lib.hid hv
  have hS := HS.out
  clear HS hv
  obtain ⟨As, cs, rfl, _, _⟩ := B7 (hS.own 0 rfl)
  obtain ⟨Ay, cy, rfl, _, _⟩ := B7 (hS.own 1 rfl)
  by_cases hlay : a < l.length
  ·rw [if_pos hlay] at hmk
   obtain ⟨By, cyy, hyy, _, _⟩ := BE (hS.own 1 rfl) (by omega)
   injection hyy with hyy _ hcy
   subst hyy hcy
   go_wp2_with (first | ((with_reducible refine qB ?_); refine qc ?_ ?_ <;> intro h_ <;> go_prune))
   replace hS := hS.nil 33 1
   have hS3 : Hid (St w0 wr (.own (.slice none 0 0) 33 1 ((lvlR p l a 0).length - l.length) (Bc (BW ((lvlR p l a 0).drop l.length))) :: .own (.slice As l.length cs) 33 1 (lvlR p l a 0).length (Bc (BW (lvlR p l a 0))) :: .own (.slice (some ⟨By, 0, none⟩) (l.length - a) cy) 33 1 (l.length - a) (Bc (BW (l.drop a))) :: .box g1 37 #[.int .i64 (R : Nat), .slice Al L.length cl, .int .u64 (st : Nat), .slice Ar rl.length cr, .slice An nl.length cn, .slice Ag gl.length cg] :: F) K) := Lib.hid (by
    show St w0 _ (.own _ _ 1 (l.length - l.length) (Bc (BW (l.drop l.length))) :: .own _ _ 1 l.length _ :: _) K
    rw [Nat.sub_self, List.drop_length]
    exact hS)
   clear hS
   go_loopw [3, 6, 25] (fun sv xv iv wr => ∃ i : Nat, iv = .int .i64 (i : Nat) /\ a + i <= l.length /\ Hid (∀ m, a <= m -> m < a + i -> reachB p (l.getD m Bf).1 = false) /\ Hid (St w0 wr (.own xv 33 1 ((lvlR p l a i).length - l.length) (Bc (BW ((lvlR p l a i).drop l.length))) :: .own sv 33 1 (lvlR p l a i).length (Bc (BW (lvlR p l a i))) :: .own (.slice (some ⟨By, 0, none⟩) (l.length - a) cy) 33 1 (l.length - a) (Bc (BW (l.drop a))) :: .box g1 37 #[.int .i64 (R : Nat), .slice Al L.length cl, .int .u64 (st : Nat), .slice Ar rl.length cr, .slice An nl.length cn, .slice Ag gl.length cg] :: F) K)) (fun _ _ iv _ => l.length - a - (intOf iv).toNat)
   case atStart => exact ⟨0, rfl, hal, Lib.hid fun m h1 h2 => by omega, hS3⟩
   case round =>
    clear hS3
    obtain ⟨i, rfl, hi, HNH, HS⟩ := hrel
    by_cases hil : a + i < l.length
    ·have hwl := IA HV.out.wf (p := p) (l := l) (a := a) (n := i) hi
     have hpl := (Du p l a i).length_le
     have HLV := Lib.hid (Df p l a i)
     have HPRE := Lib.hid (GV (Du p l a i) hil)
     have HMN := Lib.hid (lvlR_mono p l a (m := i + 1) (n := l.length - a) (by omega))
     obtain ⟨l2, hl2⟩ : ∃ l2, lvlR p l a i = l2 := ⟨_, rfl⟩
     rw [hl2] at HS hwl hpl HLV HPRE
     clear hl2
     have HWL := Lib.hid hwl
     clear hwl
     have hS := HS.out
     clear HS
     obtain ⟨Ax, cx, rfl, _, _⟩ := B7 (hS.own 0 rfl)
     obtain ⟨As, cs, rfl, _, _⟩ := B7 (hS.own 1 rfl)
     have HX : Hid ((Bc (BW (l.drop a)))[i]? = some (.int .u64 ((l.getD (a + i) Bf).1 : Nat))) := Lib.hid (by
      rw [sets_at (by rw [List.length_drop]; omega), List.getD_eq_getElem?_getD, List.getElem?_drop, <- List.getD_eq_getElem?_getD])
     have hs6 := hRC.out (a + i) hil
     have hs64 : (l.getD (a + i) Bf).1 < Bu := by unfold Bu; omega
     obtain ⟨z, hz⟩ : ∃ z, l.getD (a + i) Bf = z := ⟨_, rfl⟩
     have HZQ := Lib.hid hz
     rw [hz] at HX HPRE hs64
     clear hz hs6
     obtain ⟨s, zf, zr⟩ := z
     dsimp only at HX hs64
     obtain ⟨rb, hrb⟩ : ∃ rb, reachB p s = rb := ⟨_, rfl⟩
     have HRB := Lib.hid hrb
     clear hrb
     cases rb
     ·go_wp2_with (first
       | ((with_reducible refine qB ?_); refine qc ?_ ?_ <;> intro h_ <;> go_prune)
       | ((with_reducible refine qk 33 ?_); refine BigFrame.wpList_want rfl fun _ hK => Ah rfl rfl (by kernel_rfl) (Bj (hS.own 2 rfl) _ _ HX.out) (hK _ _ ?_))
       | ((with_reducible refine qk 37 ?_); refine BigFrame.wpList_want rfl fun _ hK => AZ rfl rfl (hS.box 3 rfl) Tryz.underlying37 rfl (by kernel_rfl) (hK _ _ ?_))
       | (go_at_call 51; refine (GP (HK.out _ _ hS.ro) HM.out).mono ?_; rw [HRB.out]; rintro r_ w_ ⟨_, rfl, rfl, hb_⟩; replace hS := hS.ext hb_; clear hb_)
       | ((with_reducible refine qK ?_); refine qC hS ?_))
      have hS4 : Hid (St w0 w_ (.own (.slice Ax (l2.length - l.length) cx) 33 1 ((rowR p l2 (a + i) 0).length - l.length) (Bc (BW ((rowR p l2 (a + i) 0).drop l.length))) :: .own (.slice As l2.length cs) 33 1 (rowR p l2 (a + i) 0).length (Bc (BW (rowR p l2 (a + i) 0))) :: .own (.slice (some ⟨By, 0, none⟩) (l.length - a) cy) 33 1 (l.length - a) (Bc (BW (l.drop a))) :: .box g1 37 #[.int .i64 (R : Nat), .slice Al L.length cl, .int .u64 (st : Nat), .slice Ar rl.length cr, .slice An nl.length cn, .slice Ag gl.length cg] :: F) K) := Lib.hid hS
      clear hS
      go_loopw [3, 6, 36] (fun sv xv kv wr => ∃ k : Nat, kv = .int .i64 (k : Nat) /\ k <= rl.length /\ Hid (St w0 wr (.own xv 33 1 ((rowR p l2 (a + i) k).length - l.length) (Bc (BW ((rowR p l2 (a + i) k).drop l.length))) :: .own sv 33 1 (rowR p l2 (a + i) k).length (Bc (BW (rowR p l2 (a + i) k))) :: .own (.slice (some ⟨By, 0, none⟩) (l.length - a) cy) 33 1 (l.length - a) (Bc (BW (l.drop a))) :: .box g1 37 #[.int .i64 (R : Nat), .slice Al L.length cl, .int .u64 (st : Nat), .slice Ar rl.length cr, .slice An nl.length cn, .slice Ag gl.length cg] :: F) K)) (fun _ _ kv _ => rl.length - (intOf kv).toNat)
      case atStart => exact ⟨0, rfl, Nat.zero_le _, hS4⟩
      case round =>
       clear hS4
       obtain ⟨k, rfl, hk, HS⟩ := hrel
       by_cases hkr : k < rl.length
       ·have hS := HS.out
        clear HS
        have hp3 := (Dp p l2 (a + i) k).length_le
        have HRS := Lib.hid (Dd p l2 (a + i) k)
        have HAD := Dg p (rowR p l2 (a + i) k) (a + i) k
        have hm1 := (rowR_mono p l2 (a + i) (m := k) (n := p.rules.length) (by rw [HPR.out]; omega)).length_le
        rw [<- HLV.out] at hm1
        have hm2 := HMN.out.length_le
        rw [<- HNX.out] at hm2
        rw [GV (Dp p l2 (a + i) k) (by omega), HPRE.out] at HAD
        replace HAD := Lib.hid HAD
        obtain ⟨l3, hl3⟩ : ∃ l3, rowR p l2 (a + i) k = l3 := ⟨_, rfl⟩
        rw [hl3] at hS hp3 HRS HAD hm1
        clear hl3
        have hl64 : l3.length <= 64 := by omega
        clear hm1 hm2
        obtain ⟨Ax, cx, rfl, _, _⟩ := B7 (hS.own 0 rfl)
        obtain ⟨As, cs, rfl, _, _⟩ := B7 (hS.own 1 rfl)
        obtain ⟨V, hV⟩ : ∃ V, stepM p s (k : Nat) = V := ⟨_, rfl⟩
        have HV := Lib.hid hV
        dsimp only at HAD
        rw [hV] at HAD
        clear hV
        have hsl : (BW l3).length = l3.length := GE
        cases V with
        | none =>
         have HA : Hid (addR p l3 (a + i) k = l3) := Lib.hid (by rcases HAD.out with ⟨h, _⟩ | ⟨t, h, _⟩; exact h; cases h)
         go_wp2_with (first
          | ((with_reducible refine qB ?_); refine qc ?_ ?_ <;> intro h_ <;> go_prune)
          | ((with_reducible refine qk 37 ?_); refine BigFrame.wpList_want rfl fun _ hK => AZ rfl rfl (hS.box 3 rfl) Tryz.underlying37 rfl (by kernel_rfl) (hK _ _ ?_))
          | (go_at_call 69; refine (F6 (N := s) (k : Nat) (HK.out _ _ hS.ro) HM.out hs64).mono ?_; rw [HV.out]; rintro r_ w_ ⟨_, rfl, rfl, hb_⟩; replace hS := hS.ext hb_; clear hb_)
          | ((with_reducible refine qK ?_); refine qC hS ?_))
         exact ⟨⟨k + 1, by go_num, hkr, by rw [HRS.out, HA.out]; exact Lib.hid hS⟩, by simp [intOf]; omega⟩
        | some t =>
         obtain ⟨cb, hcb⟩ : ∃ cb, (BW l3).contains t = cb := ⟨_, rfl⟩
         have HCB := Lib.hid hcb
         clear hcb
         cases cb
         ·have HA : Hid (addR p l3 (a + i) k = l3 ++ [(t, ((a + i : Nat) : Int), (k : Int))]) := Lib.hid (by
           rcases HAD.out with ⟨_, h⟩ | ⟨t', h, _, h2⟩
           ·have := List.contains_iff_mem.2 (h t rfl)
            rw [show (List.map (fun x => x.fst) l3).contains t = (BW l3).contains t from rfl, HCB.out] at this; cases this
           ·obtain rfl := Option.some.inj h; exact h2)
          go_wp2_with (first
           | ((with_reducible refine qB ?_); refine qc ?_ ?_ <;> intro h_ <;> go_prune)
           | ((with_reducible refine qk 37 ?_); refine BigFrame.wpList_want rfl fun _ hK => AZ rfl rfl (hS.box 3 rfl) Tryz.underlying37 rfl (by kernel_rfl) (hK _ _ ?_))
           | (go_at_call 69; refine (F6 (N := s) (k : Nat) (HK.out _ _ hS.ro) HM.out hs64).mono ?_; rw [HV.out]; rintro r_ w_ ⟨_, rfl, rfl, hb_⟩; replace hS := hS.ext hb_; clear hb_)
           | (go_at_call 86; refine (Jf (D := fun _ => True) (u := .slice As l3.length cs) (l := BW l3) (by rw [GE]; exact (Sl.of_own (hS.own 1 rfl)).imp fun _ _ _ => trivial) (by omega)).mono ?_; rw [HCB.out]; rintro r_ w_ ⟨_, rfl, rfl, hb_⟩; replace hS := hS.ext hb_; clear hb_)
           | ((with_reducible refine qA 55 ?_); refine Cq hS 1 rfl rfl _ _ _ _ rfl rfl ET (.slice As l3.length cs) l3.length (Bc (BW l3)) (.int .u64 (t : Nat)) #[.int .u64 (t : Nat)] rfl (by kernel_rfl) rfl rfl rfl rfl (by intro u hu; simp at hu; subst hu; rfl) (by omega) (by omega) ?_; clear hS; intro z_ v55 w_ hS; (try simp only [Act.put, Act.eval, zz, Value.cells] at hS))
           | ((with_reducible refine qA 59 ?_); refine Cq hS 0 rfl rfl _ _ _ _ rfl rfl ET (.slice Ax (l3.length - l.length) cx) (l3.length - l.length) (Bc (BW (l3.drop l.length))) (.int .u64 (t : Nat)) #[.int .u64 (t : Nat)] rfl (by kernel_rfl) rfl rfl rfl rfl (by intro u hu; simp at hu; subst hu; rfl) (by omega) (by omega) ?_; clear hS; intro z_ v59 w_ hS; (try simp only [Act.put, Act.eval, zz, Value.cells] at hS))
           | ((with_reducible refine qK ?_); refine qC hS ?_))
          refine ⟨⟨k + 1, by go_num, hkr, ?_⟩, by simp [intOf]; omega⟩
          rw [HRS.out, HA.out, show (l3 ++ [(t, ((a + i : Nat) : Int), (k : Int))]).drop l.length = l3.drop l.length ++ [(t, ((a + i : Nat) : Int), (k : Int))] from List.drop_append_of_le_length (by omega)]
          refine Lib.hid ?_
          rw [show (l3 ++ [(t, ((a + i : Nat) : Int), (k : Int))]).length = l3.length + 1 by simp, show l3.length + 1 - l.length = l3.length - l.length + 1 by omega]
          have e1 : ∀ q : List DP, Bc (BW (q ++ [(t, ((a + i : Nat) : Int), (k : Int))])) = Bc (BW q) ++ [.int .u64 (t : Nat)] := fun q => by simp [BW, Bc]
          rw [e1, e1]
          exact hS
         ·have HA : Hid (addR p l3 (a + i) k = l3) := Lib.hid (by
           rcases HAD.out with ⟨h, _⟩ | ⟨t', h, h2, _⟩
           ·exact h
           ·obtain rfl := Option.some.inj h; exact absurd (List.contains_iff_mem.1 HCB.out) h2)
          go_wp2_with (first
           | ((with_reducible refine qB ?_); refine qc ?_ ?_ <;> intro h_ <;> go_prune)
           | ((with_reducible refine qk 37 ?_); refine BigFrame.wpList_want rfl fun _ hK => AZ rfl rfl (hS.box 3 rfl) Tryz.underlying37 rfl (by kernel_rfl) (hK _ _ ?_))
           | (go_at_call 69; refine (F6 (N := s) (k : Nat) (HK.out _ _ hS.ro) HM.out hs64).mono ?_; rw [HV.out]; rintro r_ w_ ⟨_, rfl, rfl, hb_⟩; replace hS := hS.ext hb_; clear hb_)
           | (go_at_call 86; refine (Jf (D := fun _ => True) (u := .slice As l3.length cs) (l := BW l3) (by rw [GE]; exact (Sl.of_own (hS.own 1 rfl)).imp fun _ _ _ => trivial) (by omega)).mono ?_; rw [HCB.out]; rintro r_ w_ ⟨_, rfl, rfl, hb_⟩; replace hS := hS.ext hb_; clear hb_)
           | ((with_reducible refine qK ?_); refine qC hS ?_))
          exact ⟨⟨k + 1, by go_num, hkr, by rw [HRS.out, HA.out]; exact Lib.hid hS⟩, by simp [intOf]; omega⟩
       ·obtain rfl : k = rl.length := by omega
        go_wp2_with (first | ((with_reducible refine qB ?_); refine qc ?_ ?_ <;> intro h_ <;> go_prune))
        refine ⟨⟨i + 1, by go_num, hil, Lib.hid fun m h1 h2 => ?_, ?_⟩, by simp [intOf]; omega⟩
        ·rcases Nat.lt_or_ge m (a + i) with h3 | h3
         ·exact HNH.out m h1 h3
         ·obtain rfl : m = a + i := by omega
          rw [HZQ.out]; exact HRB.out
        ·rw [HLV.out, HPR.out]; exact HS
     ·go_wp2_with (first
       | ((with_reducible refine qB ?_); refine qc ?_ ?_ <;> intro h_ <;> go_prune)
       | ((with_reducible refine qk 33 ?_); refine BigFrame.wpList_want rfl fun _ hK => Ah rfl rfl (by kernel_rfl) (Bj (hS.own 2 rfl) _ _ HX.out) (hK _ _ ?_))
       | ((with_reducible refine qk 37 ?_); refine BigFrame.wpList_want rfl fun _ hK => AZ rfl rfl (hS.box 3 rfl) Tryz.underlying37 rfl (by kernel_rfl) (hK _ _ ?_))
       | (go_at_call 51; refine (GP (HK.out _ _ hS.ro) HM.out).mono ?_; rw [HRB.out]; rintro r_ w_ ⟨_, rfl, rfl, hb_⟩; replace hS := hS.ext hb_; clear hb_)
       | ((with_reducible refine qK ?_); refine qC hS ?_))
      go_ret
      refine ⟨_, rfl, .inl ⟨d, (hit_goal (j := a + i) HI.out.1 ?_).1, rfl⟩, hS.sub (by repeat (first | exact List.Sublist.refl _ | apply List.Sublist.cons))⟩
      rw [HLQ.out, HAQ.out]
      exact ⟨by omega, hil, by rw [HZQ.out]; exact HRB.out, HNH.out⟩
    ·obtain rfl : i = l.length - a := by omega
     have hS := HS.out
     clear HS
     rw [<- HNX.out] at hS
     have HPN2 := HPN.out
     obtain ⟨l4, hl4⟩ : ∃ l4, (srchN p (d + 1)).1 = l4 := ⟨_, rfl⟩
     have HLQ4 := Lib.hid hl4
     rw [hl4] at hS hsm1 HPN2
     clear hl4
     go_wp2_with (first | ((with_reducible refine qB ?_); refine qc ?_ ?_ <;> intro h_ <;> go_prune))
     go_roundg (2 * (64 - l4.length) + (if l.length < l4.length then 1 else 0))
     case measure => split <;> omega
     case rel =>
      refine ⟨d + 1, by go_num, by have := HI.out.2.2 hlay; omega, by rw [HLQ4.out, HNA.out]; exact Nat.le_refl _, Lib.hid ⟨fun j hj => ?_, ?_, ?_⟩, Lib.hid ?_⟩
      ·rcases Nat.lt_or_ge j d with h3 | h3
       ·exact HI.out.1 j h3
       ·obtain rfl : j = d := by omega
        rw [HLQ.out, HAQ.out]
        exact fun m h1 h2 => HNH.out m h1 (by omega)
      ·rw [HLQ4.out]; have := HI.out.2.2 hlay; omega
      ·rw [HLQ4.out, HNA.out]; have := HI.out.2.2 hlay; omega
      ·rw [HLQ4.out, HNA.out]
       exact (hS.perm (by exact (List.Perm.swap _ _ _))).sub (.cons_cons _ (.cons_cons _ (.cons _ (List.Sublist.refl _))))
  ·have hg0 : l.length - a = 0 := by omega
   rw [hg0] at hS ⊢
   go_wp2_with (first | ((with_reducible refine qB ?_); refine qc ?_ ?_ <;> intro h_ <;> go_prune))
   go_ret
   exact ⟨_, rfl, .inr ⟨rfl, HNONE.out (by omega) HI.out.1⟩, hS.sub (by repeat (first | exact List.Sublist.refl _ | apply List.Sublist.cons))⟩
end
section
open Go.RowKit
set_option exponentiation.threshold 5000
theorem well_len {p : Ac} {n : Nat} {f : Bool} {pl : List Nat} (h : E7 p n f pl) : ∃ d, n = (srchN p d).1.length /\ (f = true -> d = pl.length) /\ (f = false -> ∀ s, Rch p s -> s ∈ (srchN p d).1.map (·.1)) := by
 obtain ⟨d, h1, ⟨j, q1, rfl, rfl, rfl⟩ | ⟨q1, q2, rfl, rfl, rfl⟩⟩ := h
 ·exact ⟨d, rfl, fun _ => ((BU p d).len j q1.1 q1.2.1).symm, fun h => by cases h⟩
 ·exact ⟨d, rfl, fun h => (by cases h), fun _ s hs => GC q2 hs⟩
section
variable {p : Ac} {L : List (Nat × Nat)} {R : Nat}
theorem Jw {n : Nat} {f : Bool} {pl : List Nat} (h : E7 p n f pl) : f = true ↔ ∃ d, Eo p d := by
 obtain ⟨h1, h2, h3⟩ := CQ h
 cases f with
 | true => exact ⟨fun _ => ⟨_, (h3 rfl).1⟩, fun _ => rfl⟩
 | false => exact ⟨fun h => (by cases h), fun ⟨d, hd⟩ => absurd hd ((h2 rfl).2.2 d)⟩
theorem well_slice (hM : Bq p L R) {na nb : Nat} {fa fb : Bool} {pa pb : List Nat} (ha : E7 p na fa pa) (hb : E7 (ofP p) nb fb pb) : fa = fb /\ pa.length = pb.length /\ nb <= na := by
 have hf : fa = fb := by
  have e : (fa = true ↔ fb = true) := by
   rw [Jw ha, Jw hb]
   exact ⟨fun ⟨d, hd⟩ => ⟨d, (I9 hM).1 hd⟩, fun ⟨d, hd⟩ => ⟨d, (I9 hM).2 hd⟩⟩
  cases fa <;> cases fb <;> simp_all
 subst hf
 obtain ⟨da, rfl, a1, a2⟩ := well_len ha
 obtain ⟨db, rfl, b1, b2⟩ := well_len hb
 have hlen : pa.length = pb.length := by
  cases fa with
  | true => exact goal_uniq ((CQ ha).2.2 rfl).1 ((I9 hM).2 ((CQ hb).2.2 rfl).1)
  | false => rw [((CQ ha).2.1 rfl).1, ((CQ hb).2.1 rfl).1]
 refine ⟨rfl, hlen, ?_⟩
 have key : ∀ s, CD p db s -> s ∈ (srchN p da).1.map (·.1) := fun s hs => by
  cases fa with
  | true =>
   obtain rfl : da = db := by rw [a1 rfl, b1 rfl, hlen]
   exact ((BU p da).mem s).2 hs
  | false => obtain ⟨n, _, h⟩ := hs; exact a2 rfl s (at_rch h)
 have := near_count hM (d := db) key (fun s hs => ((BU (ofP p) db).mem s).1 hs) (BU (ofP p) db).wf.nodup
 rwa [List.length_map, List.length_map] at this
theorem well_back (hM : Bq p L R) {nb : Nat} {fb : Bool} {pb : List Nat} (hb : E7 (ofP p) nb fb pb) : ∃ A m, runTo p p.start 0 ((CB pb).map (Gc (ofKept p))) = (A, m, true) /\ reachB p A = fb /\ (CB pb).all (DY (ofKept p)) = true := by
 obtain ⟨h1, h2, h3⟩ := CQ hb
 have hr : ∃ B m, runTo (ofP p) (ofP p).start 0 (CB pb) = (B, m, true) /\ reachB (ofP p) B = fb := by
  cases fb with
  | true => obtain ⟨_, s, q1, q2⟩ := h3 rfl; exact ⟨s, _, q1, q2⟩
  | false =>
   obtain ⟨rfl, _, q⟩ := h2 rfl
   refine ⟨_, _, rfl, ?_⟩
   cases hc : reachB (ofP p) (ofP p).start with
   | false => rfl
   | true => exact absurd (⟨⟨_, at_zero, hc⟩, fun n hn => by omega⟩ : Eo (ofP p) 0) (q 0)
 obtain ⟨B, m, hr1, hr2⟩ := hr
 rw [F3 hM] at hr1
 obtain ⟨A, k1, k2, _, k4⟩ := sim_fwd hM (G3 hM) hr1
 exact ⟨A, m, k1, by rw [Dr hM, k2]; exact hr2, k4⟩
theorem J2 {n : Nat} {f : Bool} {pl : List Nat} {z : Int} (h : E7 p n f pl) (hz : ShortR p z) : (f = true /\ z = (pl.length : Nat)) \/ (f = false /\ z = -1) := by
 obtain ⟨h1, h2, h3⟩ := CQ h
 cases f with
 | true =>
  left
  rcases hz with ⟨d, hd, rfl⟩ | ⟨_, hz⟩
  ·exact ⟨rfl, by rw [goal_uniq hd (h3 rfl).1]⟩
  ·exact absurd (h3 rfl).1 (hz _)
 | false =>
  right
  rcases hz with ⟨d, hd, rfl⟩ | ⟨hz, _⟩
  ·exact absurd hd ((h2 rfl).2.2 d)
  ·exact ⟨rfl, hz⟩
end
end
section
open Go.RowKit
attribute [local go_sem ↓] Go.wp_at_zero Go.wp_at_succ
set_option maxRecDepth 20000
def valB : List Nat -> Nat
 | [] => 0
 | x :: r => x + 256 * valB r
theorem valB_take {l : List Nat} : ∀ {k : Nat}, k < l.length -> valB (l.take (k + 1)) = valB (l.take k) + l.getD k 0 * 2 ^ (8 * k) := by
 induction l with
 | nil => intro k h; simp at h
 | cons x r ih =>
  intro k h
  cases k with
  | zero => simp [valB]
  | succ k =>
   have := ih (k := k) (by simpa using h)
   simp only [List.take_succ_cons, valB, List.getD_cons_succ] at this ⊢
   rw [this, show 8 * (k + 1) = 8 * k + 8 by omega, Nat.pow_add, Nat.mul_add]
   generalize 2 ^ (8 * k) = P
   rw [show (2 : Nat) ^ 8 = 256 from rfl, <- Nat.add_assoc]
   congr 1
   rw [Nat.mul_left_comm, Nat.mul_comm P 256]
end
section
open Go.RowKit
attribute [local go_sem ↓] Go.wp_at_zero Go.wp_at_succ
set_option maxRecDepth 20000
end
section
open Go.RowKit
set_option maxRecDepth 20000
theorem valB_append (l : List Nat) (x : Nat) : valB (l ++ [x]) = valB l + x * 2 ^ (8 * l.length) := by
 have h := valB_take (l := l ++ [x]) (k := l.length) (by simp)
 rw [List.take_of_length_le (by simp)] at h
 simpa using h
theorem IM (N : Nat) : ∀ m, valB ((List.range m).map fun k => (N >>> (8 * k)) % 256) = N % 2 ^ (8 * m)
 | 0 => by simp [valB, Nat.mod_one]
 | m + 1 => by
  rw [List.range_succ, List.map_append, List.map_cons, List.map_nil, valB_append, IM N m]
  rw [List.length_map, List.length_range, show 8 * (m + 1) = 8 * m + 8 by omega, Nat.pow_add, Nat.mod_mul, Nat.shiftRight_eq_div_pow]
  rw [Nat.mul_comm (2 ^ (8 * m))]
theorem GF (N : Nat) : valB (B0 N) = N := by
 unfold B0
 split
 ·rename_i h; rw [h]; rfl
 ·rw [IM, Nat.mod_eq_of_lt]
  exact Nat.lt_of_lt_of_le Nat.lt_log2_self (Nat.pow_le_pow_right (by decide) (by omega))
end
section
open Go.RowKit Go.Maps
open Go.WideElems (Fit rd rg pl rd_val elemAt)
set_option exponentiation.threshold 5000
set_option maxRecDepth 20000
def G2 (N : Nat) : ByteArray := strOfNums ((B0 N).map Int.ofNat)
def Jp (N : Nat) : List UInt8 := (B0 N).map UInt8.ofNat
theorem strN_data (N : Nat) : (G2 N).data.toList = Jp N := by
 unfold G2 Jp
 rw [strOfNums_data, List.map_map]
 rfl
theorem strN_size (N : Nat) : (G2 N).size = (B0 N).length := by
 unfold G2
 rw [strOfNums_size, List.length_map]
theorem keyT_inj {M N : Nat} (h : Jp M = Jp N) : M = N := by
 have hb : ∀ {l m : List Nat}, Bytes l -> Bytes m -> l.map UInt8.ofNat = m.map UInt8.ofNat -> l = m := fun {l m} hl hm e => by
  have h1 := congrArg (List.map UInt8.toNat) e
  rw [List.map_map, List.map_map] at h1
  have key : ∀ {k : List Nat}, Bytes k -> k.map (UInt8.toNat ∘ UInt8.ofNat) = k := fun {k} hk => by
   conv => rhs; rw [<- List.map_id k]
   refine List.map_congr_left fun x hx => ?_
   have := hk x hx
   simp [Nat.mod_eq_of_lt this]
  rwa [key hl, key hm] at h1
 have := hb (FO M) (FO N) h
 rw [<- GF M, <- GF N, this]
theorem key_mem {N : Nat} {l : List Nat} : Jp N ∈ l.map Jp ↔ N ∈ l := by
 constructor
 ·intro h
  obtain ⟨M, hM, e⟩ := List.mem_map.1 h
  rwa [<- keyT_inj e]
 ·intro h
  exact List.mem_map.2 ⟨N, h, rfl⟩
def FW (es : Array MapEntry) (clock n : Nat) (l : List Nat) : Prop :=
 Fit Tryz.prog 9 (plainElem (H := Unit) Tryz.prog 4) es clock /\ es.size <= n /\ ∀ t : List UInt8, (DataW.map ((es.toList.map (rg Tryz.prog 9 (plainElem (H := Unit) Tryz.prog 4))).foldr DataW.insert [])).atKey (.string t) (.lit (.bool false)) = .lit (.bool (decide (t ∈ l.map Jp)))
theorem elem_bool_inv {P : Program} {e : TypeId} (he : P.underlying e = some .bool) {v : Value} {z : DataW Unit × List MemPlace} (h : plainElem P e v = some z) : ∃ x, v = .bool x /\ z = (.lit (.bool x), []) := by
 unfold plainElem at h
 rw [he] at h
 cases v <;> simp at h
 exact ⟨_, rfl, h.symm⟩
theorem map_own {w : World} {b n clock : Nat} {es : Array MapEntry} {l : List Nat} (h : FW es clock n l) (hb : w.heap[b]? = some (.map es clock)) :
  w.ownsMap Tryz.prog 9 (plainElem (H := Unit) Tryz.prog 4) b n (DataW.map ((es.toList.map (rg Tryz.prog 9 (plainElem (H := Unit) Tryz.prog 4))).foldr DataW.insert [])) := ⟨es, clock, hb, h.1, h.2.1, rfl⟩
theorem map_made : FW #[] 0 0 [] := by
 obtain ⟨es, clock, h1, h2, h3, h4⟩ := World.ownsMap_made default Tryz.prog 9 (plainElem (H := Unit) Tryz.prog 4)
 have e : es = #[] /\ clock = 0 := by
  rw [(MapKept.heap_alloc default _).1] at h1
  injection h1 with h1
  injection h1 with a b
  exact ⟨a.symm, b.symm⟩
 obtain ⟨rfl, rfl⟩ := e
 exact ⟨h2, h3, fun t => by simp [DataW.atKey]⟩
theorem run_seen {w : World} {b n clock : Nat} {es : Array MapEntry} {l : List Nat} (h : FW es clock n l) (hb : w.heap[b]? = some (.map es clock)) {N : Nat} (hN : (B0 N).length <= 512) :
  (Instr.lookup 99 (.map (some b)) (.string (G2 N)) false).run Tryz.prog w = .ok (.bool (decide (N ∈ l))) w := by
 obtain ⟨v, ps, hrun, hv⟩ := (map_own h hb).lookup (string_keyed Tryz.underlying9) Tryz.underlying99 (z := .bool false) (by kernel_rfl) (plainElem_bool Tryz.underlying4 false) (Go.WideMaps.keyOf_string_mk Tryz.underlying9 (s := G2 N) (by rw [strN_size]; unfold maxLen; omega))
 rw [strN_data, h.2.2] at hv
 have e : v = .bool (decide (Jp N ∈ l.map Jp)) := by
  obtain ⟨x, rfl, hx⟩ := elem_bool_inv Tryz.underlying4 hv
  injection hx with hx _
  injection hx with hx
  injection hx with hx
  rw [hx]
 rw [hrun, e]
 simp only [key_mem]
theorem run_enter {w : World} {b n clock : Nat} {es : Array MapEntry} {l : List Nat} (h : FW es clock n l) (hb : w.heap[b]? = some (.map es clock)) {N : Nat} (hN : (B0 N).length <= 512) (hn : n <= 1000000) :
  ∃ w' es' clock', (Instr.mapUpdate 99 (.map (some b)) (.string (G2 N)) (.bool true)).run Tryz.prog w = .ok () w' /\ w'.heap[b]? = some (.map es' clock') /\ FW es' clock' (n + 1) (l ++ [N]) /\ w.grownBy w' (some b) := by
 obtain ⟨w', hrun, hown, hg⟩ := (map_own h hb).update (string_keyed Tryz.underlying9) Tryz.underlying99 (by unfold maxLen; omega) (Go.WideMaps.keyOf_string_mk Tryz.underlying9 (s := G2 N) (by rw [strN_size]; unfold maxLen; omega)) (plainElem_bool (H := Unit) Tryz.underlying4 true)
 obtain ⟨es', clock', h1, h2, h3, h4⟩ := hown
 refine ⟨w', es', clock', hrun, h1, ⟨h2, h3, fun t => ?_⟩, hg⟩
 rw [<- h4, strN_data]
 by_cases e : t = Jp N
 ·subst e
  rw [atKey_put_same (k := .string (Jp N)) ⟨_, rfl⟩ trivial]
  simp
 ·rw [atKey_put_other (by simpa using e), h.2.2]
  simp [e]
theorem J4 {w : World} {D : Nat -> Prop} {v : Value} {N : Nat} (h : Sl w D 1 v (B0 N).length (G1 (B0 N))) : (convert 22 9 v).run Tryz.prog w = .ok (.string (G2 N)) w := by
 obtain ⟨h1, A, c, rfl, hc1, hc2, h3⟩ := h
 have hs : G2 N = strOfNums ((B0 N).map Int.ofNat) := rfl
 rw [hs]
 clear hs
 generalize B0 N = l at *
 by_cases h0 : l.length = 0
 ·obtain rfl : l = [] := List.length_eq_zero_iff.1 h0
  cases A with
  | none => exact run_convert_bytes_nil w _ _ Tryz.underlying22 Tryz.underlying5 _ _ _ Tryz.underlying9
  | some a =>
   rw [run_convert_bytes_string w _ _ _ (some a) _ _ Tryz.underlying22 Tryz.underlying5 Tryz.underlying9, run_bytesToString w a _ _ [] (by simp [loadCells, loadCellsFrom])]
   rfl
 ·obtain ⟨b, o, rfl, -, -, h4⟩ := h3 (by omega)
  refine run_convert_bytes_arg w _ _ Tryz.underlying22 Tryz.underlying5 b o _ _ (l.map Int.ofNat) (by simp) (fun i hi => ?_) _ Tryz.underlying9
  have := h4 i _ (u8s_at l i hi)
  rw [this]
  simp [List.getD_eq_getElem?_getD, List.getElem?_eq_getElem hi]
end
section
open Go.RowKit
theorem st_litpS {P : Program} {ops : Array Oper} {rest : List Oper} {o : Oper} {a : Act} {Q : Exit -> Act -> World -> Prop} {w0 w : World} {F : List Aj} {K : (Nat -> Prop) -> World -> Prop} (h : St w0 w F K) (hg : Region.wanted o (yielded ops a.tmps) = true) (t e : TypeId) (len : Nat) (parts : Array (Nat × Operand)) (ho : o.op = .buildSlice t len parts) (ht : P.underlying t = some (.slice e)) (ps : List (Nat × Value)) (hp : (parts.map fun (i, x) => (i, a.eval x)).toList = ps) (cells : Array Value)
  (hb : BD P e len ps = some cells) (size : Nat) (hs : cells.size = len * size) (hm : len <= 1000000000000)
  (hk : ∀ g w', St w0 w' (.own (.slice (some ⟨g, 0, none⟩) len len) e size len cells.toList :: F) K -> wpList P ops Q rest (a.put o.dst (.slice (some ⟨g, 0, none⟩) len len)) w') : wpList P ops Q (o :: rest) a w :=
 BigFrame.wpList_want hg fun _ hK => C5 ho ht hp hb fun w' hX hB => hK _ _ (hk _ w' (h.new hB _ ⟨by simpa using hs, .inr ⟨w.heap.size, len, cells, rfl, Nat.le_refl _, hX, Nat.le_refl _, by unfold maxLen; omega, hs, by rw [<- hs, show cells.size = cells.toList.length by simp, List.take_length]⟩⟩))
end
section
open Go.RowKit
attribute [local go_sem ↓] Go.wp_at_zero Go.wp_at_succ
set_option maxRecDepth 20000
set_option exponentiation.threshold 5000
def BJ (w : World) (D : Nat -> Prop) (xs : List Value) (l : List DP) : Prop :=
 ∀ i z, l[i]? = some z -> ∃ a, xs[i * 3]? = some a /\ xs[i * 3 + 1]? = some (.int .i64 z.2.1) /\ xs[i * 3 + 2]? = some (.int .i64 z.2.2) /\ A7 w D (.agg #[a]) z.1
theorem Br {xs : List Value} {l : List DP} : AF fun D w => BJ w D xs l := fun D D' w w' h a b c i z hi => by
 obtain ⟨x, h1, h2, h3, h4⟩ := h i z hi
 exact ⟨x, h1, h2, h3, A5 D D' w w' h4 a b c⟩
theorem BJ.append {w : World} {D : Nat -> Prop} {xs ys : List Value} {l m : List DP} (hx : xs.length = l.length * 3) (h : BJ w D xs l) (k : BJ w D ys m) : BJ w D (xs ++ ys) (l ++ m) := fun i z hi => by
 rcases Nat.lt_or_ge i l.length with h1 | h1
 ·rw [List.getElem?_append_left h1] at hi
  obtain ⟨a, q0, q1, q2, q3⟩ := h i z hi
  refine ⟨a, ?_, ?_, ?_, q3⟩
  all_goals rw [List.getElem?_append_left (by omega)]; assumption
 ·rw [List.getElem?_append_right h1] at hi
  obtain ⟨a, q0, q1, q2, q3⟩ := k _ z hi
  refine ⟨a, ?_, ?_, ?_, q3⟩
  ·rw [List.getElem?_append_right (by omega), <- q0]; congr 1; omega
  ·rw [List.getElem?_append_right (by omega), <- q1]; congr 1; omega
  ·rw [List.getElem?_append_right (by omega), <- q2]; congr 1; omega
theorem BJ.single {w : World} {D : Nat -> Prop} {a : Value} {z : DP} (ha : A7 w D (.agg #[a]) z.1) : BJ w D [a, .int .i64 z.2.1, .int .i64 z.2.2] [z] := fun i x hi => by
 cases i with
 | zero => obtain rfl := Option.some.inj (show some z = some x from hi); exact ⟨a, rfl, rfl, rfl, ha⟩
 | succ i => simp at hi
section
variable {P : Program} {ops : Array Oper} {rest : List Oper} {o : Oper} {a : Act} {w0 w : World} {F : List Aj} {K : (Nat -> Prop) -> World -> Prop} {Q : Exit -> Act -> World -> Prop}
theorem st_makeMap (h : St w0 w F K) (hg : Region.wanted o (yielded ops a.tmps) = true) (t : TypeId) (ho : o.op = .makeMap t none)
  (hk : ∀ g w', St w0 w' (.obj g (.map #[] 0) :: F) K -> wpList P ops Q rest (a.put o.dst (.map (some g))) w') : wpList P ops Q (o :: rest) a w := by
 refine BigFrame.wpList_want hg fun _ hK => ?_
 unfold Oper.wp execOp
 simp only [ho, Option.map_none]
 refine hK _ _ (hk _ _ (h.new ((Below.refl _ _).alloc (Nat.le_refl _) _) (.obj w.heap.size (.map #[] 0)) ⟨Nat.le_refl _, (MapKept.heap_alloc w _).1⟩))
theorem St.enter (h : St w0 w F K) (i : Nat) {b clock n N : Nat} {es : Array MapEntry} {l : List Nat} (hi : F[i]? = some (.obj b (.map es clock))) (hm : FW es clock n l) (hN : (B0 N).length <= 512) (hn : n <= 1000000) :
  ∃ w' es' clock', (Instr.mapUpdate 99 (.map (some b)) (.string (G2 N)) (.bool true)).run Tryz.prog w = .ok () w' /\ FW es' clock' (n + 1) (l ++ [N]) /\ St w0 w' (F.set i (.obj b (.map es' clock'))) K /\ w.grownBy w' (some b) /\ w'.heap[b]? = some (.map es' clock') := by
 obtain ⟨w', es', clock', hrun, hb, hm', hg⟩ := run_enter hm (h.holds _ (List.mem_of_getElem? hi)).2 hN hn
 exact ⟨w', es', clock', hrun, hm', h.upd i hi (.obj b (.map es' clock')) hg ⟨(h.holds _ (List.mem_of_getElem? hi)).1, hb⟩ fun _ e => .inl e, hg, hb⟩
end
theorem st_insert {ops : Array Oper} {rest : List Oper} {o : Oper} {a : Act} {w0 w : World} {F : List Aj} {K : (Nat -> Prop) -> World -> Prop} {Q : Exit -> Act -> World -> Prop} (h : St w0 w F K) (i : Nat) (hg : Region.wanted o (yielded ops a.tmps) = true) (m x v : Operand) (ho : o.op = .insert 99 m x v) {b clock n N : Nat} {es : Array MapEntry} {l : List Nat} (hi : F[i]? = some (.obj b (.map es clock))) (hm : FW es clock n l) (hN : (B0 N).length <= 512) (hn : n <= 1000000)
  (hem : a.eval m = .map (some b)) (hex : a.eval x = .string (G2 N)) (hev : a.eval v = .bool true) (hk : ∀ es' clock' w', FW es' clock' (n + 1) (l ++ [N]) -> St w0 w' (F.set i (.obj b (.map es' clock'))) K -> wpList Tryz.prog ops Q rest (a.put o.dst undef) w') : wpList Tryz.prog ops Q (o :: rest) a w := by
 obtain ⟨w', es', clock', hrun, hm', hS, -⟩ := h.enter i hi hm hN hn
 refine BigFrame.wpList_want hg fun _ hK => ?_
 unfold Oper.wp execOp
 simp only [ho, hem, hex, hev, Sem.run_bind, hrun, Result.andThen_ok]
 exact hK _ _ (hk _ _ _ hm' hS)
def Dk (xs : Array Value) (lim : Int) (lv mv ev : Value) : Array Value := #[xs.getD 0 undef, xs.getD 1 undef, xs.getD 2 undef, xs.getD 3 undef, xs.getD 4 undef, xs.getD 5 undef, .int .i64 lim, lv, mv, ev]
def EQ (w0 w : World) (g : Nat) (xs : Array Value) (lim : Int) (l : List DP) (es : List Nat) (F : List Aj) (K : (Nat -> Prop) -> World -> Prop) : Prop :=
 ∃ (lv ev : Value) (cells : List Value) (b clock n : Nat) (ents : Array MapEntry), FW ents clock n (l.map (·.1)) /\ n <= l.length /\
  St w0 w (.own lv 103 3 l.length cells :: .own ev 3 1 es.length (Bw es) :: .obj b (.map ents clock) :: .box g 101 (Dk xs lim lv (.map (some b)) ev) :: F) (fun D w => K D w /\ BJ w D cells l)
theorem perm4 {α : Type} (a b c d : α) (X : List α) : (a :: b :: c :: d :: X).Perm (c :: d :: b :: a :: X) :=
 (List.perm_middle (l₁ := [a, b]) (l₂ := d :: X)).trans (((List.perm_middle (l₁ := [a, b]) (l₂ := X)).trans ((List.Perm.swap b a X).cons d)).cons c)
def BegR (w0 : World) (xs : Array Value) (p : Ac) (lim : Int) (F : List Aj) (K : (Nat -> Prop) -> World -> Prop) (e : Ending) (w' : World) : Prop :=
   (lim < 1 /\ e = .returned (.tuple #[.pointer none, .int .i64 1]) /\ St w0 w' F K) \/
   (¬ lim < 1 /\ ¬ checkE p = 0 /\ e = .returned (.tuple #[.pointer none, .int .i64 (checkE p)]) /\ St w0 w' F K) \/
   (¬ lim < 1 /\ checkE p = 0 /\ ∃ g, e = .returned (.tuple #[.pointer (some ⟨g, 0, none⟩), .int .i64 0]) /\ EQ w0 w' g xs lim [(p.start, -1, -1)] [1] F K)
set_option maxHeartbeats 4000000 in
theorem begin_any {w0 w : World} {F : List Aj} {K : (Nat -> Prop) -> World -> Prop} {xs : Array Value} {p : Ac} (lim : Int) (hP : p.Ok) (hst : (B0 p.start).length <= 512) (hS : St w0 w F K) (kp : ∀ D w, K D w -> Ba w D (.agg xs) p) (kt : ∀ D w, K D w -> BH w) :
  Calls Tryz.prog 47 #[.agg xs, .int .i64 lim] w (BegR w0 xs p lim F K) := by
 have HST := Lib.hid hst
 have HP := Lib.hid hP
 have HK := Lib.hid kp
 have HT := Lib.hid kt
 have KS := Lib.hid hS.stable
 obtain ⟨st, hst0⟩ : ∃ st, p.start = st := ⟨_, rfl⟩
 obtain ⟨la, Cs, ns, cs, Ar, cr, An, cn, Ag, cg, e6⟩ := Ba.shape6 (kp _ _ hS.ro)
 injection e6 with e6
 subst e6
 have HSET := Lib.hid fun D w (h : K D w) => (show A7 w D (.agg #[.slice Cs ns cs]) st by
  obtain ⟨lp, s, rv, nv, gv, e, _, h2, _⟩ := HK.out D w h
  injection e with e
  have e2 : Value.slice Cs ns cs = s := by have := congrArg (fun x : Array Value => x[2]?) e; simpa using this
  rw [<- hst0, e2]; exact h2)
 rw [hst0] at HST
 obtain ⟨E, hE⟩ : ∃ E, checkE p = E := ⟨_, rfl⟩
 have HE := Lib.hid hE
 have HR0 := Lib.hid hst0
 clear hst0 hE kp kt hst hP
 by_cases hlim : lim < 1
 ·go_enter Tryz.func47, Tryz.ntmps47
  go_wp2_with (first
   | ((with_reducible refine qA 2 ?_); refine AE hS rfl _ _ rfl (.agg #[.int .i64 p.roles, .pointer la, .slice Cs ns cs, .slice Ar p.rules.length cr, .slice An p.never.length cn, .slice Ag p.goal.length cg]) _ rfl rfl ?_; clear hS; intro g2 w_ hS; (try simp only [Act.put, Act.eval, zz, Value.cells] at hS))
   | ((with_reducible refine qB ?_); refine qc ?_ ?_ <;> intro h_ <;> go_prune)
   | ((with_reducible refine qK ?_); refine qC hS ?_))
  go_ret2
  exact .inl ⟨hlim, rfl, hS.sub (List.sublist_cons_self _ _)⟩
 by_cases hE0 : E = 0
 ·subst hE0
  go_enter Tryz.func47, Tryz.ntmps47
  go_wp2_with (first
   | ((with_reducible refine qA 2 ?_); refine AE hS rfl _ _ rfl (.agg #[.int .i64 p.roles, .pointer la, .slice Cs ns cs, .slice Ar p.rules.length cr, .slice An p.never.length cn, .slice Ag p.goal.length cg]) _ rfl rfl ?_; clear hS; intro g2 w_ hS; (try simp only [Act.put, Act.eval, zz, Value.cells] at hS))
   | ((with_reducible refine qB ?_); refine qc ?_ ?_ <;> intro h_ <;> go_prune)
   | ((with_reducible refine qk 31 ?_); refine BigFrame.wpList_want rfl fun _ hK => AZ rfl rfl (hS.box 0 rfl) Tryz.underlying31 rfl (by kernel_rfl) (hK _ _ ?_))
   | (go_at_call 39; refine (Do (HK.out _ _ hS.ro) HP.out (HT.out _ _ hS.ro)).mono ?_; rw [HE.out]; rintro r_ w_ ⟨_, rfl, rfl, hb_⟩; replace hS := hS.ext hb_; clear hb_)
   | ((with_reducible refine qA 19 ?_); refine Av rfl _ _ rfl #[.slice Cs ns cs, .int .i64 (-1), .int .i64 (-1)] (by kernel_rfl) ?_; (try simp only [Act.put, List.setIfInBounds_toArray, List.set_cons_zero, List.set_cons_succ]))
   | ((with_reducible refine qA 20 ?_); refine st_litpS hS rfl _ 103 1 _ rfl Tryz.underlying98 [(0, .agg #[.slice Cs ns cs, .int .i64 (-1), .int .i64 (-1)])] (by simp [Act.eval]) #[.slice Cs ns cs, .int .i64 (-1), .int .i64 (-1)] (by kernel_rfl) 3 rfl (by decide) ?_; clear hS; intro g20 w_ hS; (try simp only [Act.put, List.setIfInBounds_toArray, List.set_cons_zero, List.set_cons_succ]))
   | ((with_reducible refine qA 21 ?_); refine Ck hS rfl _ 3 1 _ rfl Tryz.underlying40 #[.int .i64 1] (by kernel_rfl) 1 rfl (by decide) ?_; clear hS; intro g21 w_ hS; (try simp only [Act.put, List.setIfInBounds_toArray, List.set_cons_zero, List.set_cons_succ]))
   | ((with_reducible refine qA 22 ?_); refine Av rfl _ _ rfl #[.int .i64 p.roles, .pointer la, .slice Cs ns cs, .slice Ar p.rules.length cr, .slice An p.never.length cn, .slice Ag p.goal.length cg, .int .i64 lim, .slice (some ⟨g20, 0, none⟩) 1 1, .map none, .slice (some ⟨g21, 0, none⟩) 1 1] (by kernel_rfl) ?_; (try simp only [Act.put, List.setIfInBounds_toArray, List.set_cons_zero, List.set_cons_succ]))
   | ((with_reducible refine qA 23 ?_); refine AE hS rfl _ _ rfl (.agg #[.int .i64 p.roles, .pointer la, .slice Cs ns cs, .slice Ar p.rules.length cr, .slice An p.never.length cn, .slice Ag p.goal.length cg, .int .i64 lim, .slice (some ⟨g20, 0, none⟩) 1 1, .map none, .slice (some ⟨g21, 0, none⟩) 1 1]) #[.int .i64 p.roles, .pointer la, .slice Cs ns cs, .slice Ar p.rules.length cr, .slice An p.never.length cn, .slice Ag p.goal.length cg, .int .i64 lim, .slice (some ⟨g20, 0, none⟩) 1 1, .map none, .slice (some ⟨g21, 0, none⟩) 1 1] rfl rfl ?_; clear hS; intro g23 w_ hS; (try simp only [Act.put, List.setIfInBounds_toArray, List.set_cons_zero, List.set_cons_succ]))
   | ((with_reducible refine qA 25 ?_); refine st_makeMap hS rfl _ rfl ?_; clear hS; intro g25 w_ hS; (try simp only [Act.put, List.setIfInBounds_toArray, List.set_cons_zero, List.set_cons_succ]))
   | (go_at_call 97; refine (E9 _ st _ _ (HSET.out _ _ hS.ro)).mono ?_; rintro r_ w_ ⟨_, rfl, h1, hb_⟩; replace hS := hS.ext hb_; clear hb_)
   | ((with_reducible refine qA 29 ?_); refine BigFrame.wpList_want rfl fun _ hK => Fb (v := .string (G2 st)) rfl rfl (J4 h1) (hK _ _ ?_); clear h1)
   | ((with_reducible show wpList _ _ _ (⟨_, .insert _ _ _ _, _, _, _, _⟩ :: _) _ _); refine st_insert hS 0 rfl _ _ _ rfl rfl map_made HST.out (by decide) rfl rfl rfl ?_; clear hS; intro es' clock' w_ hm hS; (try simp only [Act.put, Act.eval, zz, Value.cells] at hS))
   | ((with_reducible refine qm 99 ?_); refine st_cstore hS 1 rfl _ _ _ rfl _ _ _ rfl rfl rfl (by simp) rfl rfl (by kernel_rfl) ?_; clear hS; intro w_ hS; (try simp only [Act.put, Act.eval, zz, Value.cells] at hS))
   | ((with_reducible refine qk 27 ?_); first | (refine Aa hS 0 rfl _ _ rfl _ _ rfl _ _ rfl _ (by first | rfl | assumption) Tryz.underlying27 rfl (by kernel_rfl) ?_) | (refine Aa hS 1 rfl _ _ rfl _ _ rfl _ _ rfl _ (by first | rfl | assumption) Tryz.underlying27 rfl (by kernel_rfl) ?_) | (refine Aa hS 2 rfl _ _ rfl _ _ rfl _ _ rfl _ (by first | rfl | assumption) Tryz.underlying27 rfl (by kernel_rfl) ?_) | (refine Aa hS 3 rfl _ _ rfl _ _ rfl _ _ rfl _ (by first | rfl | assumption) Tryz.underlying27 rfl (by kernel_rfl) ?_) | (refine Aa hS 4 rfl _ _ rfl _ _ rfl _ _ rfl _ (by first | rfl | assumption) Tryz.underlying27 rfl (by kernel_rfl) ?_) | (refine Aa hS 5 rfl _ _ rfl _ _ rfl _ _ rfl _ (by first | rfl | assumption) Tryz.underlying27 rfl (by kernel_rfl) ?_))
   | ((with_reducible refine qK ?_); refine qC hS ?_))
  go_ret2
  have hS2 := hS.perm (F' := .own (.slice (some ⟨g20, 0, none⟩) 1 1) 103 3 1 #[.slice Cs ns cs, .int .i64 (-1), .int .i64 (-1)].toList :: .own (.slice (some ⟨g21, 0, none⟩) 1 1) 3 1 1 [.int .i64 1] :: .obj g25 (.map es' clock') :: .box g23 101 (Dk #[.int .i64 p.roles, .pointer la, .slice Cs ns cs, .slice Ar p.rules.length cr, .slice An p.never.length cn, .slice Ag p.goal.length cg] lim (.slice (some ⟨g20, 0, none⟩) 1 1) (.map (some g25)) (.slice (some ⟨g21, 0, none⟩) 1 1)) :: .box g2 31 #[.int .i64 p.roles, .pointer la, .slice Cs ns cs, .slice Ar p.rules.length cr, .slice An p.never.length cn, .slice Ag p.goal.length cg] :: F) (perm4 _ _ _ _ _)
  rw [BegR, HE.out, HR0.out]
  refine .inr (.inr ⟨by omega, rfl, g23, rfl, _, _, _, _, _, _, _, hm, by simp, (hS2.sub (by repeat (first | exact List.Sublist.refl _ | apply List.Sublist.cons_cons | apply List.Sublist.cons))).mono (KS.out.and Br) fun D w h => ⟨h, BJ.single (z := (st, -1, -1)) (HSET.out _ _ h)⟩⟩)
 ·go_enter Tryz.func47, Tryz.ntmps47
  go_wp2_with (first
   | ((with_reducible refine qA 2 ?_); refine AE hS rfl _ _ rfl (.agg #[.int .i64 p.roles, .pointer la, .slice Cs ns cs, .slice Ar p.rules.length cr, .slice An p.never.length cn, .slice Ag p.goal.length cg]) _ rfl rfl ?_; clear hS; intro g2 w_ hS; (try simp only [Act.put, Act.eval, zz, Value.cells] at hS))
   | ((with_reducible refine qB ?_); refine qc ?_ ?_ <;> intro h_ <;> go_prune)
   | ((with_reducible refine qk 31 ?_); refine BigFrame.wpList_want rfl fun _ hK => AZ rfl rfl (hS.box 0 rfl) Tryz.underlying31 rfl (by kernel_rfl) (hK _ _ ?_))
   | (go_at_call 39; refine (Do (HK.out _ _ hS.ro) HP.out (HT.out _ _ hS.ro)).mono ?_; rw [HE.out]; rintro r_ w_ ⟨_, rfl, rfl, hb_⟩; replace hS := hS.ext hb_; clear hb_)
   | ((with_reducible refine qK ?_); refine qC hS ?_))
  go_ret2
  rw [BegR, HE.out]
  exact   .inr (.inl ⟨by omega, hE0, rfl, hS.sub (List.sublist_cons_self _ _)⟩)
end
section
open Go.RowKit
attribute [local go_sem ↓] Go.wp_at_zero Go.wp_at_succ
set_option maxRecDepth 20000
theorem i64s_at (l : List Nat) (k : Nat) (h : k < l.length) : (Bw l)[k]? = some (.int .i64 (l.getD k 0 : Nat)) := by simp [Bw, List.getElem?_eq_getElem h]
theorem i64s_set (l : List Nat) (k x : Nat) : Bw (l.set k x) = (Bw l).set k (.int .i64 (x : Nat)) := by simp [Bw, List.map_set]
theorem own_seti {w x : World} {base : Nat} {e : TypeId} {g n cap k y : Nat} {l : List Nat} (h : w.ownsRow base e 1 (.slice (some ⟨g, 0, none⟩) n cap) n (Bw l)) (hb : Below w.heap.size w x) :
  (x.setCell ⟨g, k, none⟩ (.int .i64 (y : Nat))).ownsRow base e 1 (.slice (some ⟨g, 0, none⟩) n cap) n (Bw (l.set k y)) := by
 have h2 := ((IE h hb).stored k (.int .i64 (y : Nat))).1
 rw [<- i64s_set] at h2
 exact h2
set_option maxHeartbeats 1000000 in
theorem srev_any (g cap : Nat) (l : List Nat) (w : World) (base : Nat) (hown : w.ownsRow base 3 1 (.slice (some ⟨g, 0, none⟩) l.length cap) l.length (Bw l)) (hl : l.length <= 1000000000000) :
  Calls Tryz.prog 98 #[.slice (some ⟨g, 0, none⟩) l.length cap] w fun e w' => e = .returned (.tuple #[]) /\ w'.ownsRow base 3 1 (.slice (some ⟨g, 0, none⟩) l.length cap) l.length (Bw l.reverse) /\ w.grownBy w' (some g) := by
 go_enter Tryz.func98, Tryz.ntmps98
 go_wp2
 go_loopw [2, 3] (fun i j wr => ∃ k : Nat, i = .int .i64 k /\ j = .int .i64 ((l.length : Int) - 1 - k) /\ k <= l.length /\ wr.ownsRow base 3 1 (.slice (some ⟨g, 0, none⟩) l.length cap) l.length (Bw (swp l k)) /\ w.grownBy wr (some g)) (fun i _ _ => l.length - (intOf i).toNat)
 case atStart => exact ⟨0, rfl, by simp, by omega, by rw [swp_zero]; exact hown, World.grownBy.refl w _⟩
 case round =>
  clear hown
  obtain ⟨k, rfl, rfl, hk, hown, hg⟩ := hrel
  by_cases hlt : k < l.length - 1 - k
  ·obtain ⟨m, hm⟩ : ∃ m, m = l.length - 1 - k := ⟨_, rfl⟩
   have hmi : (l.length : Int) - 1 - k = m := by omega
   have hml : m < l.length := by omega
   have hkm : k < m := by omega
   have HM := Lib.hid hm
   have c1 := hown.cellAt k (by omega)
   have c2 := hown.cellAt m (by omega)
   rw [i64s_at _ _ (by rw [swp_len]; omega)] at c1 c2
   have f1 := hown.frozenAt k
   have f2 := hown.frozenAt m
   have HS := Lib.hid (swp_step l k hlt)
   rw [<- hm] at HS
   have H1 := own_seti (k := k) (y := (swp l k).getD m 0) hown (Below.refl _ _)
   have H2 := Lib.hid (own_seti (k := m) (y := (swp l k).getD k 0) H1 (Below.refl _ _))
   rw [HS.out] at H2
   have HG := Lib.hid hg
   rw [hmi]
   clear hown H1 hm hmi hg hlt
   generalize (swp l k).getD k 0 = x at *
   generalize (swp l k).getD m 0 = y at *
   go_wp2
   go_region
   all_goals
    go_wp2
    exact ⟨⟨k + 1, by go_num, by have := HM.out; congr 1; omega, by omega, H2.out, grown_drew (grown_set (grown_set HG.out _ _) _ _)⟩, by simp [intOf]; omega⟩
  ·have HS := Lib.hid (swp_end l k (by omega))
   have HO := Lib.hid hown
   clear hown
   go_wp2
   refine bodyPost_end (results_none rfl _ _ _) rfl ⟨rfl, ?_, hg⟩
   rw [<- HS.out]
   exact HO.out
end
section
open Go.RowKit
attribute [local go_sem ↓] Go.wp_at_zero Go.wp_at_succ
set_option maxRecDepth 20000
set_option exponentiation.threshold 5000
theorem srev_nil (w : World) : Calls Tryz.prog 98 #[.slice none 0 0] w fun e w' => e = .returned (.tuple #[]) /\ Below w.heap.size w w' := by
 go_enter Tryz.func98, Tryz.ntmps98
 go_wp2
 go_loopw [2, 3] (fun i j wr => i = .int .i64 0 /\ j = .int .i64 (-1) /\ Below w.heap.size w wr) (fun i _ _ => 0)
 case atStart => exact ⟨rfl, rfl, Below.refl _ _⟩
 case round =>
  obtain ⟨rfl, rfl, hb⟩ := hrel
  go_wp2
  exact bodyPost_end (results_none rfl _ _ _) rfl ⟨rfl, hb⟩
set_option maxHeartbeats 4000000 in
theorem fplan_any {w0 w : World} {g : Nat} {xs : Array Value} {lim : Int} {p : Ac} {l : List DP} {es : List Nat} {F : List Aj} {K : (Nat -> Prop) -> World -> Prop} {i : Nat} (hw : WfR p l) (hi : i < l.length) (hln : l.length <= 1000000) (hS0 : EQ w0 w g xs lim l es F K) (hKs : AF K) :
  Calls Tryz.prog 48 #[.pointer (some ⟨g, 0, none⟩), .int .i64 (i : Nat)] w fun e w' => ∃ u, e = .returned u /\ EQ w0 w' g xs lim l es F fun D w => K D w /\ Sl w D 1 u (BI l i).length (Bw (BI l i)) := by
 obtain ⟨lv, ev, cells, b, clock, n, ents, hm, hn, hS⟩ := hS0
 have HW := Lib.hid hw
 have HMP := Lib.hid hm
 have HN := Lib.hid hn
 have KS := Lib.hid hKs
 obtain ⟨EL, cl, rfl, hcl, _⟩ := BE (hS.own 0 rfl) hw.pos
 obtain ⟨Ae, ce, rfl, _, _⟩ := B7 (hS.own 1 rfl)
 unfold Dk at hS
 obtain ⟨xx0, hxx0⟩ : ∃ xx0, xs.getD 0 undef = xx0 := ⟨_, rfl⟩
 obtain ⟨xx1, hxx1⟩ : ∃ xx1, xs.getD 1 undef = xx1 := ⟨_, rfl⟩
 obtain ⟨xx2, hxx2⟩ : ∃ xx2, xs.getD 2 undef = xx2 := ⟨_, rfl⟩
 obtain ⟨xx3, hxx3⟩ : ∃ xx3, xs.getD 3 undef = xx3 := ⟨_, rfl⟩
 obtain ⟨xx4, hxx4⟩ : ∃ xx4, xs.getD 4 undef = xx4 := ⟨_, rfl⟩
 obtain ⟨xx5, hxx5⟩ : ∃ xx5, xs.getD 5 undef = xx5 := ⟨_, rfl⟩
 have HSC := Lib.hid (show ∀ lv mv ev, Dk xs lim lv mv ev = #[xx0, xx1, xx2, xx3, xx4, xx5, .int .i64 lim, lv, mv, ev] from fun lv mv ev => by unfold Dk; rw [hxx0, hxx1, hxx2, hxx3, hxx4, hxx5])
 rw [hxx0, hxx1, hxx2, hxx3, hxx4, hxx5] at hS
 clear hxx0 hxx1 hxx2 hxx3 hxx4 hxx5 hw hm hn hKs
 have HI := Lib.hid hi
 go_enter Tryz.func48, Tryz.ntmps48
 go_wp2_with fail
 replace hS := hS.nil 3 1
 go_loopw [1, 5] (fun iv ov wr => ∃ (j : Nat) (kv : Value) (out : List Nat), iv = .int .i64 (j : Nat) /\ kv = ov /\ j < l.length /\ out ++ Dx l (j + 1) j = Dx l (i + 1) i /\ out.length <= 1000000 /\ Hid (out = [] -> kv = .slice none 0 0) /\ St w0 wr (.own kv 3 1 out.length (Bw out) :: .own (.slice (some ⟨EL, 0, none⟩) l.length cl) 103 3 l.length cells :: .own (.slice Ae es.length ce) 3 1 es.length (Bw es) :: .obj b (.map ents clock) :: .box g 101 #[xx0, xx1, xx2, xx3, xx4, xx5, .int .i64 lim, .slice (some ⟨EL, 0, none⟩) l.length cl, .map (some b), .slice Ae es.length ce] :: F) (fun D w => K D w /\ BJ w D cells l)) (fun iv _ _ => (intOf iv).toNat)
 case atStart => exact ⟨i, _, [], rfl, rfl, hi, rfl, by simp, Lib.hid fun _ => rfl, hS⟩
 case round =>
  clear hS
  obtain ⟨j, kv, out, rfl, rfl, hj, ho, hol, HNIL, hS⟩ := hrel
  obtain ⟨ca, hc0, hc1, hc2, -⟩ := hS.ro.2 j _ (FK hj)
  have HZ := Lib.hid (HW.out.from0 hj)
  have HLK := Lib.hid (HW.out.link j _ (FK hj))
  have HO := Lib.hid ho
  have HST := Lib.hid (JF HW.out hj)
  have HEN := Lib.hid (backR_end (l := l) (i := j))
  generalize l.getD j Bf = z at *
  obtain ⟨zs, zf, zr⟩ := z
  dsimp only at hc1 hc2 HZ HLK HST HEN
  by_cases hz : 0 <= zf
  ·obtain ⟨i2, k2, y2, hf2, hr2, hlt, hkl, -, -⟩ := HLK.out (HZ.out.1.1 hz)
   subst hf2 hr2
   have hs2 := HST.out hz
   rw [Int.toNat_natCast, Int.toNat_natCast] at hs2
   have HS2 := Lib.hid hs2
   have HC1 := Lib.hid hc1
   have HC2 := Lib.hid hc2
   have hbl := backR_len (l := l) (i + 1) i
   rw [<- ho, hs2] at hbl
   have hol2 : out.length + 1 <= i + 1 := by rw [List.length_append, List.length_cons] at hbl; omega
   clear hc0 hc1 hc2 hs2 hbl ho
   go_wp2_with (first
    | ((with_reducible refine qB ?_); refine qc ?_ ?_ <;> intro h_ <;> go_prune)
    | ((with_reducible refine qk 3 ?_); refine BigFrame.wpList_want rfl fun _ hK => ?_; first | refine Ah rfl rfl (by kernel_rfl) (Bj (hS.own 1 rfl) _ _ HC1.out) (hK _ _ ?_) | refine Ah rfl rfl (by kernel_rfl) (Bj (hS.own 1 rfl) _ _ HC2.out) (hK _ _ ?_))
    | ((with_reducible refine qA 32 ?_); refine Cq hS 0 rfl rfl _ _ _ _ rfl rfl Dh kv out.length (Bw out) (.int .i64 (k2 : Nat)) #[.int .i64 (k2 : Nat)] rfl (by kernel_rfl) rfl rfl rfl rfl (by intro u hu; simp at hu; subst hu; rfl) (by omega) (by omega) ?_; clear hS; intro z_ kv' w_ hS; (try simp only [Act.put, Act.eval, zz, Value.cells] at hS))
    | ((with_reducible refine qK ?_); refine qC hS ?_))
   refine ⟨⟨i2, _, out ++ [k2], rfl, rfl, by omega, ?_, by rw [List.length_append, List.length_singleton]; omega, Lib.hid (by simp), ?_⟩, by simp [intOf]; omega⟩
   ·rw [List.append_assoc, List.singleton_append, <- HS2.out]; exact HO.out
   ·rw [show (out ++ [k2]).length = out.length + 1 by simp, show Bw (out ++ [k2]) = Bw out ++ [.int .i64 (k2 : Nat)] by simp [Bw]]
    exact hS
  ·have he2 := HEN.out hz
   have HC1 := Lib.hid hc1
   rw [he2, List.append_nil] at ho
   have hpl : (BI l i) = out.reverse := by unfold BI; rw [<- ho]
   have HPL := Lib.hid hpl
   clear hc0 hc1 hc2 he2 hpl HO HEN HST ho
   rcases Nat.eq_zero_or_pos out.length with h0 | h0
   ·obtain rfl : out = [] := List.length_eq_zero_iff.1 h0
    obtain rfl := HNIL.out rfl
    go_wp2_with (first
     | ((with_reducible refine qB ?_); refine qc ?_ ?_ <;> intro h_ <;> go_prune)
     | ((with_reducible refine qk 3 ?_); refine BigFrame.wpList_want rfl fun _ hK => Ah rfl rfl (by kernel_rfl) (Bj (hS.own 1 rfl) _ _ HC1.out) (hK _ _ ?_))
     | (go_at_call 98; refine (srev_nil _).mono ?_; rintro e w_ ⟨rfl, hb_⟩; replace hS := hS.ext hb_; clear hb_)
     | ((with_reducible refine qK ?_); refine qC hS ?_))
    go_ret
    refine ⟨_, rfl, ?_⟩
    rw [EQ, HPL.out, List.length_reverse]
    have hS2 := hS.freeze 0 (by decide) rfl
    exact ⟨_, _, _, _, _, _, _, HMP.out, HN.out, by rw [HSC.out]; exact hS2.mono ((KS.out.and (At (by decide))).and Br) fun D w h => ⟨⟨h.1.1, h.2⟩, h.1.2⟩⟩
   ·obtain ⟨go, co, rfl, hco, _⟩ := BE (hS.own 0 rfl) h0
    go_wp2_with (first
     | ((with_reducible refine qB ?_); refine qc ?_ ?_ <;> intro h_ <;> go_prune)
     | ((with_reducible refine qk 3 ?_); refine BigFrame.wpList_want rfl fun _ hK => Ah rfl rfl (by kernel_rfl) (Bj (hS.own 1 rfl) _ _ HC1.out) (hK _ _ ?_))
     | (go_at_call 98; refine (srev_any go co out _ _ (hS.own 0 rfl) (by omega)).mono ?_; rintro e w_ ⟨rfl, hown, hg⟩; replace hS := hS.upd 0 rfl (.own (.slice (some ⟨go, 0, none⟩) out.length co) 3 1 out.length (Bw out.reverse)) hg hown fun _ e => .inl e)
     | ((with_reducible refine qK ?_); refine qC hS ?_))
    go_ret
    refine ⟨_, rfl, ?_⟩
    rw [EQ, HPL.out, List.length_reverse]
    have hS2 := hS.freeze 0 (by decide) rfl
    exact ⟨_, _, _, _, _, _, _, HMP.out, HN.out, by rw [HSC.out]; exact hS2.mono ((KS.out.and (At (by decide))).and Br) fun D w h => ⟨⟨h.1.1, h.2⟩, h.1.2⟩⟩
end
section
open Go.RowKit
attribute [local go_sem ↓] Go.wp_at_zero Go.wp_at_succ
set_option maxRecDepth 20000
set_option exponentiation.threshold 5000
theorem ty_reached : BA Tryz.prog 98 103 3 40 := ⟨Tryz.underlying98, by kernel_rfl⟩
theorem rng6 {w : World} {g i : Nat} {a b c d e f : Value} (h0 : w.cell? ⟨g, i, none⟩ = some a) (h1 : w.cell? ⟨g, i + 1, none⟩ = some b) (h2 : w.cell? ⟨g, i + 2, none⟩ = some c) (h3 : w.cell? ⟨g, i + 3, none⟩ = some d) (h4 : w.cell? ⟨g, i + 4, none⟩ = some e) (h5 : w.cell? ⟨g, i + 5, none⟩ = some f) : w.rangeAt g i [a, b, c, d, e, f] := fun j v hj => by
 match j, hj with
 | 0, hj => obtain rfl := Option.some.inj (show some _ = some v from hj); exact h0
 | 1, hj => obtain rfl := Option.some.inj (show some _ = some v from hj); exact h1
 | 2, hj => obtain rfl := Option.some.inj (show some _ = some v from hj); exact h2
 | 3, hj => obtain rfl := Option.some.inj (show some _ = some v from hj); exact h3
 | 4, hj => obtain rfl := Option.some.inj (show some _ = some v from hj); exact h4
 | 5, hj => obtain rfl := Option.some.inj (show some _ = some v from hj); exact h5
 | j + 6, hj => simp at hj
theorem opw_lookup {P : Program} {o : Oper} {a : Act} {w : World} {K : Act -> World -> Prop} {Q : Exit -> Act -> World -> Prop} {t : TypeId} {m x : Operand} {vm vx v : Value} (ho : o.op = .lookup t m x false) (hm : a.eval m = vm) (hx : a.eval x = vx) (hr : (Instr.lookup t vm vx false).run P w = .ok v w) (hk : K (a.put o.dst v) w) : o.wp P a w K Q := Ct (by simp [execOp, ho, hm, hx, hr]) hk
theorem opw_insert {P : Program} {o : Oper} {a : Act} {w w' : World} {K : Act -> World -> Prop} {Q : Exit -> Act -> World -> Prop} {t : TypeId} {m x v : Operand} {vm vx vv : Value} (ho : o.op = .mapUpdate t m x v) (hm : a.eval m = vm) (hx : a.eval x = vx) (hv : a.eval v = vv) (hr : (Instr.mapUpdate t vm vx vv).run P w = .ok () w') (hk : K (a.put o.dst undef) w') : o.wp P a w K Q := by
 unfold Oper.wp execOp
 simp only [ho, hm, hx, hv, Sem.run_bind, hr, Result.andThen_ok]
 exact hk
theorem GJ.own {w : World × GK} {w0 : World} {F : List Aj} {ty : TypeId} {zs : Array Value} (hJ : GJ w0 F ty zs w) {v : Value} {e : TypeId} {size n : Nat} {xs : List Value} (i : Nat) (hi : F[i]? = Option.some (Aj.own v e size n xs)) : w.1.ownsRow w0.heap.size e size v n xs := (show St w0 w.1 (w.2.F ty zs ++ F) w.2.K from hJ).holds (.own v e size n xs) (List.mem_append_right _ (List.mem_of_getElem? hi))
theorem getE {l : List Nat} {i x : Nat} (h : l[i]? = some x) : (Bw l)[i]? = some (.int .i64 (x : Nat)) := by unfold Bw; rw [List.getElem?_map, h]; rfl
def DeepR (w0 : World) (g : Nat) (xs : Array Value) (p : Ac) (lim : Int) (l : List DP) (es : List Nat) (a : Nat) (F : List Aj) (K : (Nat -> Prop) -> World -> Prop) (e : Ending) (w' : World) : Prop :=
 (((lvlR p l a (l.length - a)).length : Int) <= lim /\ e = .returned (.tuple #[.bool (decide (l.length < (lvlR p l a (l.length - a)).length)), .int .i64 0]) /\ EQ w0 w' g xs lim (lvlR p l a (l.length - a)) (if l.length < (lvlR p l a (l.length - a)).length then es ++ [(lvlR p l a (l.length - a)).length] else es) F K) \/
 (lim < ((lvlR p l a (l.length - a)).length : Int) /\ e = .returned (.tuple #[.bool false, .int .i64 3]) /\ St w0 w' F K)
set_option maxHeartbeats 8000000 in
theorem deepen_any {w0 w : World} {g : Nat} {xs : Array Value} {lim : Int} {p : Ac} {l : List DP} {es : List Nat} {F : List Aj} {K : (Nat -> Prop) -> World -> Prop} {a : Nat} (hw : WfR p l) (hP : p.Ok) (hrl : p.rules.length <= 1000) (kp : ∀ D w, K D w -> Ba w D (.agg xs) p) (kt : ∀ D w, K D w -> BH w) (hKs : AF K)
  (he : es[es.length - 1]? = some l.length) (ha : (es.length <= 1 /\ a = 0) \/ (1 < es.length /\ es[es.length - 2]? = some a)) (hal : a <= l.length) (hln : (l.length : Int) <= lim) (hlim : lim <= 10000) (hel : es.length <= 20000) (hS0 : EQ w0 w g xs lim l es F K) :
  Calls Tryz.prog 50 #[.pointer (some ⟨g, 0, none⟩)] w (DeepR w0 g xs p lim l es a F K) := by
 have hlp := hw.pos
 have hes : 0 < es.length := by have := (List.getElem?_eq_some_iff.1 he).1; omega
 have HE0 := Lib.hid hes
 have HW := Lib.hid hw
 have HP := Lib.hid hP
 have HK := Lib.hid kp
 have HT := Lib.hid kt
 have KS := Lib.hid hKs
 have HEE := Lib.hid (getE he)
 have HAE := Lib.hid ha
 obtain ⟨D0, hp0⟩ : ∃ D, Ba w D (.agg xs) p := by obtain ⟨_, _, _, _, _, _, _, _, _, hS⟩ := hS0; exact ⟨_, kp _ _ hS.ro.1⟩
 obtain ⟨la, Cs, ns, cs, Ar, cr, An, cn, Ag, cg, e6⟩ := hp0.shape6
 clear hp0
 injection e6 with e6
 subst e6
 have HSC := Lib.hid (show ∀ lv mv ev, Dk #[.int .i64 p.roles, .pointer la, .slice Cs ns cs, .slice Ar p.rules.length cr, .slice An p.never.length cn, .slice Ag p.goal.length cg] lim lv mv ev = #[.int .i64 p.roles, .pointer la, .slice Cs ns cs, .slice Ar p.rules.length cr, .slice An p.never.length cn, .slice Ag p.goal.length cg, .int .i64 lim, lv, mv, ev] from fun lv mv ev => rfl)
 clear hw hP kp kt hKs he
 have HLE1 : Hid (((es.length : Nat) : Int) - 1 = ((es.length - 1 : Nat) : Int)) := Lib.hid (by omega)
 obtain ⟨lv, ev, cells, b, clock, n, ents, hm, hn, hS⟩ := hS0; obtain ⟨EL, cl, rfl, hcl, _⟩ := BE (hS.own 0 rfl) (by omega); obtain ⟨Ae, ce, rfl, _, _⟩ := BE (hS.own 1 rfl) HE0.out; have HCL0 := Lib.hid (hS.own 0 rfl).1; rw [HSC.out] at hS; replace hm := Lib.hid hm; replace hn := Lib.hid hn
 go_enter Tryz.func50, Tryz.ntmps50
 go_upto_if 16 with (first | ((with_reducible refine qK ?_); refine qC hS ?_))
 go_cut [4] from 5 (fun c w' => c = .int .i64 (a : Nat) /\ EQ w0 w' g #[.int .i64 p.roles, .pointer la, .slice Cs ns cs, .slice Ar p.rules.length cr, .slice An p.never.length cn, .slice Ag p.goal.length cg] lim l es F K)
 case first =>
  rcases HAE.out with ⟨h1, rfl⟩ | ⟨h1, h2⟩
  ·go_wp2_with (first | ((with_reducible refine qB ?_); refine qc ?_ ?_ <;> intro h_ <;> go_prune))
   go_meet
   case rel => exact ⟨rfl, _, _, _, _, _, _, _, hm.out, hn.out, hS⟩
  ·have HA2 := Lib.hid (getE h2)
   clear h2
   have HLE2 : Hid (((es.length : Nat) : Int) - 2 = ((es.length - 2 : Nat) : Int)) := Lib.hid (by omega)
   go_wp2_with (first
    | ((with_reducible refine qB ?_); refine qc ?_ ?_ <;> intro h_ <;> go_prune)
    | ((with_reducible refine qk 3 ?_); refine BigFrame.wpList_want rfl fun _ hK => Ah rfl rfl (by kernel_rfl) (Bj (hS.own 1 rfl) _ _ HA2.out) (hK _ _ ?_))
    | ((with_reducible refine qK ?_); refine qC hS ?_))
   go_meet
   case rel => exact ⟨rfl, _, _, _, _, _, _, _, hm.out, hn.out, hS⟩
 case rest =>
  clear hS hm hn
  obtain ⟨rfl, hS0⟩ := hcut
  go_wp2_with fail
  go_loopw [6] (fun iv wr => ∃ j : Nat, iv = .int .i64 ((a + j : Nat) : Int) /\ a + j <= l.length /\ Hid (((lvlR p l a j).length : Int) <= lim) /\ Hid (EQ w0 wr g #[.int .i64 p.roles, .pointer la, .slice Cs ns cs, .slice Ar p.rules.length cr, .slice An p.never.length cn, .slice Ag p.goal.length cg] lim (lvlR p l a j) es F K)) (fun iv _ => l.length - (intOf iv).toNat)
  case atStart => exact ⟨0, rfl, hal, Lib.hid hln, Lib.hid hS0⟩
  case round =>
   clear hS0
   obtain ⟨j, rfl, hj, HLN, HS⟩ := hrel
   have hwl := IA HW.out (p := p) (l := l) (a := a) (n := j) hj
   have hpl := (Du p l a j).length_le
   by_cases hjl : a + j < l.length
   ·have HD : Hid (decide (((a + j : Nat) : Int) < ((l.length : Nat) : Int)) = true) := Lib.hid (decide_eq_true (by omega))
    have HLV := Lib.hid (Df p l a j)
    have HMN := Lib.hid (lvlR_mono p l a (m := j + 1) (n := l.length - a) (by omega))
    obtain ⟨l2, hl2⟩ : ∃ l2, lvlR p l a j = l2 := ⟨_, rfl⟩
    rw [hl2] at HLN HS hwl hpl HLV
    clear hl2
    have HWL := Lib.hid hwl
    clear hwl
    have hS0 := HS.out
    clear HS
    have hln2 := HLN.out
    obtain ⟨lv, ev, cells, b, clock, n, ents, hm, hn, hS⟩ := hS0; obtain ⟨EL, cl, rfl, hcl, _⟩ := BE (hS.own 0 rfl) (by omega); obtain ⟨Ae, ce, rfl, _, _⟩ := BE (hS.own 1 rfl) HE0.out; have HCL0 := Lib.hid (hS.own 0 rfl).1; rw [HSC.out] at hS; replace hm := Lib.hid hm; replace hn := Lib.hid hn
    go_wp2_with fail
    refine BF [.n ((a + j : Nat) : Int), .q g 0, .q g 0, .q g 9, .i (.slice (some ⟨Ae, 0, none⟩) es.length ce), .q g 0, .q g 0, .q g 9, .i (.slice (some ⟨Ae, 0, none⟩) es.length ce), .n (es.length : Nat), .n ((es.length - 1 : Nat) : Int), .q Ae (0 + (es.length - 1) * 1), .n (l.length : Nat), .b true] ⟨uM, uM, uN, uF, uC (h := fun w hW hN => (hS.ext hW).shut 3 rfl 9 rfl), uM, uN, uF, uC (h := fun w hW hN => (hS.ext hW).shut 3 rfl 9 rfl), ?_, uB (h := fun w hW hN => by rw [CX (by omega) (by omega), HLE1.out]), uI (h := fun w hW hN => AA (m := es.length - 1) Tryz.underlying40 (by kernel_rfl) (by omega) (by omega)), uC (h := fun w hW hN => by rw [Nat.mul_one, Nat.zero_add]; exact Bj ((hS.ext hW).own 1 rfl) _ _ HEE.out), uB (h := fun w hW hN => run_ltB HD.out), trivial⟩ ?_
    ·refine uT fun b__ w hW hE K hK => ?_
     have e34 := hE 34
     exact DM rfl e34 Tryz.underlying40 (hK _ _ rfl (Below.refl _ _))
    ·intro vs wz hW hT
     obtain ⟨e26, e27, e28, e29, e30, e31, e32, e33, e34, e35, e36, e37, e38, e39, -⟩ := hT
     simp only [AC, Act.put, zz, ze]
     rw [e39]
     clear e26 e27 e28 e29 e30 e31 e32 e33 e34 e35 e36 e37 e38 e39
     replace hS := hS.ext hW
     clear hW
     have hSr : Hid (EQ w0 wz g #[.int .i64 p.roles, .pointer la, .slice Cs ns cs, .slice Ar p.rules.length cr, .slice An p.never.length cn, .slice Ag p.goal.length cg] lim l2 es F K) := Lib.hid ⟨_, _, _, _, _, _, _, hm.out, hn.out, hS⟩
     go_wp2_with (first | ((with_reducible refine qK ?_); refine qC hS ?_))
     go_loopw [48] (fun kv wr => ∃ k : Nat, kv = .int .i64 (k : Nat) /\ k <= p.rules.length /\ Hid (((rowR p l2 (a + j) k).length : Int) <= lim) /\ Hid (EQ w0 wr g #[.int .i64 p.roles, .pointer la, .slice Cs ns cs, .slice Ar p.rules.length cr, .slice An p.never.length cn, .slice Ag p.goal.length cg] lim (rowR p l2 (a + j) k) es F K)) (fun kv _ => p.rules.length - (intOf kv).toNat)
     case atStart => exact ⟨0, rfl, Nat.zero_le _, HLN, hSr⟩
     case round =>
      clear hS hm hn hcl hSr
      obtain ⟨k, rfl, hk, HLM, HS⟩ := hrel
      by_cases hkr : k < p.rules.length
      ·have hp3 := (Dp p l2 (a + j) k).length_le
       have HRS := Lib.hid (Dd p l2 (a + j) k)
       have HRM := Lib.hid (rowR_mono p l2 (a + j) (m := k + 1) (n := p.rules.length) (by omega))
       have HAD := Lib.hid (Dg p (rowR p l2 (a + j) k) (a + j) k)
       obtain ⟨l3, hl3⟩ : ∃ l3, rowR p l2 (a + j) k = l3 := ⟨_, rfl⟩
       rw [hl3] at HLM HS hp3 HRS HAD
       clear hl3
       have hS0 := HS.out
       clear HS
       have hln3 := HLM.out
       have hi3 : a + j < l3.length := by omega
       obtain ⟨lv, ev, cells, b, clock, n, ents, hm, hn, hS⟩ := hS0; obtain ⟨EL, cl, rfl, hcl, _⟩ := BE (hS.own 0 rfl) (by omega); obtain ⟨Ae, ce, rfl, _, _⟩ := BE (hS.own 1 rfl) HE0.out; have HCL0 := Lib.hid (hS.own 0 rfl).1; rw [HSC.out] at hS; replace hm := Lib.hid hm; replace hn := Lib.hid hn
       have HRX := Lib.hid (FK (l := l3) hi3)
       obtain ⟨z, hz⟩ : ∃ z, l3.getD (a + j) Bf = z := ⟨_, rfl⟩
       rw [hz] at HRX HAD
       clear hz
       obtain ⟨s, zf, zr⟩ := z
       dsimp only at HAD
       obtain ⟨ca, hc0, -, -, -⟩ := hS.ro.2 _ _ HRX.out
       have HC0 := Lib.hid hc0
       have HSI : Hid (∀ D w, BJ w D cells l3 -> A7 w D (.agg #[ca]) s) := Lib.hid fun D w h => by
        obtain ⟨c2, h1, _, _, h2⟩ := h _ _ HRX.out
        rw [HC0.out] at h1
        obtain rfl := Option.some.inj h1
        exact h2
       clear hc0
       obtain ⟨V, hV⟩ : ∃ V, stepM p s (k : Nat) = V := ⟨_, rfl⟩
       rw [hV] at HAD
       have HV := Lib.hid hV
       clear hV
       go_wp2_with (first | ((with_reducible refine qB ?_); refine qc ?_ ?_ <;> intro h_ <;> go_prune))
       obtain ⟨K8, k8, hS2⟩ : ∃ K8 : (Nat -> Prop) -> World -> Prop, Hid (∀ D w, K8 D w -> K D w /\ BJ w D cells l3) /\ St w0 wr (.own (.slice (some ⟨EL, 0, none⟩) (l3).length cl) 103 3 (l3).length cells :: .own (.slice (some ⟨Ae, 0, none⟩) es.length ce) 3 1 es.length (Bw es) :: .obj b (.map ents clock) :: .box g 101 #[.int .i64 p.roles, .pointer la, .slice Cs ns cs, .slice Ar p.rules.length cr, .slice An p.never.length cn, .slice Ag p.goal.length cg, .int .i64 lim, .slice (some ⟨EL, 0, none⟩) (l3).length cl, .map (some b), .slice (some ⟨Ae, 0, none⟩) es.length ce] :: F) K8 := ⟨_, Lib.hid fun D w h => h, hS⟩
       clear hS
       have hS := hS2
       clear hS2
       have hK8 := Lib.hid hS.stable
       have hJ0 : GJ w0 (.own (.slice (some ⟨EL, 0, none⟩) (l3).length cl) 103 3 (l3).length cells :: .own (.slice (some ⟨Ae, 0, none⟩) es.length ce) 3 1 es.length (Bw es) :: .obj b (.map ents clock) :: .box g 101 #[.int .i64 p.roles, .pointer la, .slice Cs ns cs, .slice Ar p.rules.length cr, .slice An p.never.length cn, .slice Ag p.goal.length cg, .int .i64 lim, .slice (some ⟨EL, 0, none⟩) (l3).length cl, .map (some b), .slice (some ⟨Ae, 0, none⟩) es.length ce] :: F) 27 #[.slice none 0 0] (wr.drew, ⟨none, K8⟩) := hS.drew
       have hRr := @GR.refl w0 (.own (.slice (some ⟨EL, 0, none⟩) (l3).length cl) 103 3 (l3).length cells :: .own (.slice (some ⟨Ae, 0, none⟩) es.length ce) 3 1 es.length (Bw es) :: .obj b (.map ents clock) :: .box g 101 #[.int .i64 p.roles, .pointer la, .slice Cs ns cs, .slice Ar p.rules.length cr, .slice An p.never.length cn, .slice Ag p.goal.length cg, .int .i64 lim, .slice (some ⟨EL, 0, none⟩) (l3).length cl, .map (some b), .slice (some ⟨Ae, 0, none⟩) es.length ce] :: F) 27 #[.slice none 0 0]
       have hRt := @GR.trans w0 (.own (.slice (some ⟨EL, 0, none⟩) (l3).length cl) 103 3 (l3).length cells :: .own (.slice (some ⟨Ae, 0, none⟩) es.length ce) 3 1 es.length (Bw es) :: .obj b (.map ents clock) :: .box g 101 #[.int .i64 p.roles, .pointer la, .slice Cs ns cs, .slice Ar p.rules.length cr, .slice An p.never.length cn, .slice Ag p.goal.length cg, .int .i64 lim, .slice (some ⟨EL, 0, none⟩) (l3).length cl, .map (some b), .slice (some ⟨Ae, 0, none⟩) es.length ce] :: F) 27 #[.slice none 0 0]
       have hN0 := @GN.start 17 18 wr.drew K8
       clear hS
       refine FL (GR w0 (.own (.slice (some ⟨EL, 0, none⟩) (l3).length cl) 103 3 (l3).length cells :: .own (.slice (some ⟨Ae, 0, none⟩) es.length ce) 3 1 es.length (Bw es) :: .obj b (.map ents clock) :: .box g 101 #[.int .i64 p.roles, .pointer la, .slice Cs ns cs, .slice Ar p.rules.length cr, .slice An p.never.length cn, .slice Ag p.goal.length cg, .int .i64 lim, .slice (some ⟨EL, 0, none⟩) (l3).length cl, .map (some b), .slice (some ⟨Ae, 0, none⟩) es.length ce] :: F) 27 #[.slice none 0 0]) (GN 17 18) (⟨none, K8⟩) hRr hRt [.q g 0, .q g 0, .q g 0, .i (.agg #[.int .i64 p.roles, .pointer la, .slice Cs ns cs, .slice Ar p.rules.length cr, .slice An p.never.length cn, .slice Ag p.goal.length cg]), .q g 0, .q g 0, .q g 7, .i (.slice (some ⟨EL, 0, none⟩) l3.length cl), .n ((a + j : Nat) : Int), .q EL (0 + (a + j) * 3), .q EL (0 + (a + j) * 3), .i (.agg #[ca]), .n (k : Nat), .s (fun v w => ∃ u, v = .tuple #[.agg #[u], .bool V.isSome] /\ u.oneCell' = true /\ ∀ D w1, w.2.K D w1 -> A7 w1 D (.agg #[u]) (V.getD 0)) fun v w w' h hb => by obtain ⟨u, e, e2, h⟩ := h; exact ⟨u, e, e2, fun D w1 h1 => h D w1 (hb.2.1 D w1 h1)⟩, .s (fun v w => ∃ u, v = .tuple #[.agg #[u], .bool V.isSome] /\ u.oneCell' = true /\ ∀ D w1, w.2.K D w1 -> A7 w1 D (.agg #[u]) (V.getD 0)) fun v w w' h hb => by obtain ⟨u, e, e2, h⟩ := h; exact ⟨u, e, e2, fun D w1 h1 => h D w1 (hb.2.1 D w1 h1)⟩, .s (fun v w => ∃ u, v = .agg #[u] /\ u.oneCell' = true /\ ∀ D w1, w.2.K D w1 -> A7 w1 D (.agg #[u]) (V.getD 0)) fun v w w' h hb => by obtain ⟨u, e, e2, h⟩ := h; exact ⟨u, e, e2, fun D w1 h1 => h D w1 (hb.2.1 D w1 h1)⟩, .i (.bool V.isSome), .s (fun v w => ∃ g o, v = .pointer (some ⟨g, 0, none⟩) /\ w.2.b = some (g, o)) fun v w w' h hb => hb.var h, .s (fun v w => ∃ g u, w.2.b = some (g, some #[u]) /\ u.oneCell' = true /\ ∀ D w1, w.2.K D w1 -> A7 w1 D (.agg #[u]) (V.getD 0)) fun v w w' h hb => by obtain ⟨g, u, h1, h2, h3⟩ := h; exact ⟨g, u, hb.2.2.2 g _ h1, h2, fun D w1 k => h3 D w1 (hb.2.1 D w1 k)⟩, .i (.bool V.isSome)] ?_ ⟨uM, uN, uF, uD (h := fun w hW hN => rng6 ((hW.1 hJ0).cell 3 rfl 0 rfl) ((hW.1 hJ0).cell 3 rfl 1 rfl) ((hW.1 hJ0).cell 3 rfl 2 rfl) ((hW.1 hJ0).cell 3 rfl 3 rfl) ((hW.1 hJ0).cell 3 rfl 4 rfl) ((hW.1 hJ0).cell 3 rfl 5 rfl)), uM, uN, uF, uC (h := fun w hW hN => (hW.1 hJ0).cell 3 rfl 7 rfl), uM, uI (h := fun w hW hN => AA (m := a + j) Tryz.underlying98 (by kernel_rfl) (by omega) (by omega)), uF, uD (h := fun w hW hN => Je (by rw [Nat.zero_add]; exact Bj ((hW.1 hJ0).own 0 rfl) _ _ HC0.out)), uM, ?_, uM, ?_, ?_, ?_, ?_, uA, trivial⟩ ?_
       ·first | assumption | (intro i; (try dsimp only); split <;> first | trivial | assumption | (left; assumption))
       ·refine uG fun b__ w hW hN hE K hK => ?_
        have e55 := hE 55
        have e63 := hE 63
        have e64 := hE 64
        refine BR rfl (by kernel_rfl) (by simp only [List.map_cons, List.map_nil, e55, e63, e64]) (I1 (k : Nat) HP.out (hW.1 hJ0) (fun D w1 h => HK.out _ _ (k8.out _ _ (hW.2.1 D w1 h)).1) (fun D w1 h => HSI.out _ _ (k8.out _ _ (hW.2.1 D w1 h)).2) (fun D w1 h => HT.out _ _ (k8.out _ _ (hW.2.1 D w1 h)).1)) fun e w' ⟨x, he, hs⟩ => ⟨_, he, ?_⟩
        obtain ⟨u, rfl, h1⟩ := Cr hs.ro.2
        exact hK _ (w', { w.2 with K := _ }) ⟨u, by rw [HV.out], h1, fun D w1 h => by rw [<- HV.out]; exact h.2⟩ (GK.more hs fun D w1 h => h.1)
       ·refine uG fun b__ w hW hN hE K hK => ?_
        have e51 := hE 51
        obtain ⟨u, hu, hu1, h1⟩ := e51
        exact DW rfl hu rfl (hK _ _ ⟨u, rfl, hu1, h1⟩ ⟨hRr _, fun _ _ h => h⟩)
       ·refine uG fun b__ w hW hN hE K hK => ?_
        have e51 := hE 51
        obtain ⟨u, hu, hu1, h1⟩ := e51
        exact DW rfl hu rfl (hK _ _ rfl ⟨hRr _, fun _ _ h => h⟩)
       ·refine uG fun b__ w hW hN hE K hK => ?_
        exact gk_alloc rfl (by kernel_rfl) (by kernel_rfl) (hW.1 hJ0) (hN.1 rfl) fun g w' hs => hK _ (w', { w.2 with b := some (g, none) }) ⟨g, none, rfl, rfl⟩ (GK.made (hN.1 rfl) hs)
       ·refine uG fun b__ w hW hN hE K hK => ?_
        have e8 := hE 8
        have e66 := hE 66
        obtain ⟨g, o, hg, hgb⟩ := e8
        obtain ⟨u, hv, hu1, hset⟩ := e66
        obtain rfl : o = none := (by cases o with | none => rfl | some cs => exact absurd hgb (hN.2 rfl g cs))
        exact gk_store rfl hg hv (hW.1 hJ0) hgb (by kernel_rfl) rfl (by simpa using hu1) fun w' hs => hK undef (w', { w.2 with b := some (g, some #[u]) }) ⟨g, u, rfl, hu1, hset⟩ (GK.put hgb hs)
       ·intro vs wz hW hT
        obtain ⟨e52, e53, e54, e55, e56, e57, e58, e59, e60, e61, e62, e63, e64, e65, e51, e66, e67, e8, z18, e9, -⟩ := hT
        have bx : (fun _ : Nat => True) 0 := trivial
        simp only [AC, Act.put, zz, ze]
        obtain ⟨_, hst⟩ := z18
        obtain ⟨g8, o8, hg8, hgb⟩ := e8
        obtain ⟨g9, u, hgb2, hu1, hset⟩ := hst
        obtain rfl : g8 = g9 := by rw [hgb] at hgb2; injection hgb2 with h; injection h with h1 h2
        obtain ⟨A8, n8, c8, rfl⟩ := (hset _ _ (hW.1 hJ0).ro).shape
        have hS : St w0 wz.1 (.box g8 27 #[.slice A8 n8 c8] :: .own (.slice (some ⟨EL, 0, none⟩) (l3).length cl) 103 3 (l3).length cells :: .own (.slice (some ⟨Ae, 0, none⟩) es.length ce) 3 1 es.length (Bw es) :: .obj b (.map ents clock) :: .box g 101 #[.int .i64 p.roles, .pointer la, .slice Cs ns cs, .slice Ar p.rules.length cr, .slice An p.never.length cn, .slice Ag p.goal.length cg, .int .i64 lim, .slice (some ⟨EL, 0, none⟩) (l3).length cl, .map (some b), .slice (some ⟨Ae, 0, none⟩) es.length ce] :: F) (fun D w => K8 D w /\ A7 w D (.agg #[.slice A8 n8 c8]) (V.getD 0)) := ((hW.1 hJ0).some hgb2).mono (hK8.out.and A5) fun D w h => ⟨hW.2.1 D w h, hset D w h⟩
        clear hW hJ0 hRr hRt hN0 hgb hgb2 hset hu1 e51 e52 e53 e54 e55 e56 e57 e58 e59 e60 e61 e62 e63 e64 e65 e66 e67
        generalize wz.1 = wf at *
        generalize vs 51 = s51, vs 52 = s52, vs 53 = s53, vs 54 = s54, vs 55 = s55, vs 56 = s56, vs 57 = s57, vs 58 = s58, vs 59 = s59, vs 60 = s60, vs 61 = s61, vs 62 = s62, vs 63 = s63, vs 64 = s64, vs 65 = s65, vs 66 = s66, vs 67 = s67
        simp only [show vs (8 : Nat) = _ from hg8]
        rw [e9]
        clear e9
        have hSr : Hid (¬ V.isSome = true -> EQ w0 wf g #[.int .i64 p.roles, .pointer la, .slice Cs ns cs, .slice Ar p.rules.length cr, .slice An p.never.length cn, .slice Ag p.goal.length cg] lim l3 es F K) := Lib.hid fun _ => ⟨_, _, _, _, _, _, _, hm.out, hn.out, (hS.sub (List.sublist_cons_self _ _)).mono (KS.out.and Br) fun D w h => k8.out D w h.1⟩
        cases V with
        | none =>
         have HAE2 : Hid (addR p l3 (a + j) k = l3) := Lib.hid (by rcases HAD.out with ⟨h, _⟩ | ⟨t, h, _⟩; exact h; cases h)
         simp only [Option.isSome_none, Option.getD_none]
         go_wp2_with fail
         refine BF [.b false, .b true, .b true, .t, .t, .t, .t, .t, .t, .t, .t, .b true] ⟨uM, uU, uM, uW, uW, uW, uW, uW, uW, uW, uW, uP, trivial⟩ ?_
         ·intro vs wz hW hT
          obtain ⟨e68, e69, e70, e79, -⟩ := hT
          simp only [AC, Act.put, zz, ze]
          rw [e79]
          replace hS := hS.ext hW
          clear e68 e69 e70 e79
          go_wp2_with fail
          refine ⟨⟨k + 1, by go_num, hkr, ?_, ?_⟩, by simp [intOf]; omega⟩
          ·rw [HRS.out, HAE2.out]; exact HLM
          ·rw [HRS.out, HAE2.out]
           exact Lib.hid ⟨_, _, _, _, _, _, _, hm.out, hn.out, (hS.sub (List.sublist_cons_self _ _)).mono (KS.out.and Br) fun D w h => k8.out D w h.1⟩
        | some t =>
         have HSB : Hid ((B0 t).length <= 512) := Lib.hid (GG hS.ro.2.bound)
         simp only [Option.isSome_some, Option.getD_some] at hS ⊢
         obtain ⟨sb, hsb⟩ : ∃ sb, decide (t ∈ l3.map (·.1)) = sb := ⟨_, rfl⟩
         have HSN := Lib.hid hsb
         clear hsb
         go_wp2_with fail
         refine BF [.b true, .b false, .b false, .q g 0, .q g 0, .q g 8, .i (.map (some b)), .i (.agg #[.slice A8 n8 c8]), .s (fun v w => Sl w (fun _ => True) 1 v (B0 t).length (G1 (B0 t))) fun v w w' h hb => h.ext hb, .i (.string (G2 t)), .i (.bool sb), .i (.bool sb)] ⟨uM, uU, uM, uM, uN, uF, uC (h := fun w hW hN => (hS.ext hW).shut 4 rfl 8 rfl), uR (h := fun w hW hN => (hS.ext hW).box 0 rfl), ?_, ?_, ?_, uP, trivial⟩ ?_
         ·refine uT fun b__ w hW hE K hK => ?_
          have e75 := hE 75
          exact Az rfl (by kernel_rfl) (by simp only [List.map_cons, List.map_nil, e75]) (E9 _ t _ _ (hS.ext hW).ro.2) fun v w' h hb => hK v w' (h.imp fun _ _ _ => trivial) hb
         ·refine uT fun b__ w hW hE K hK => ?_
          have e76 := hE 76
          exact Fb rfl rfl (J4 e76) (hK _ _ rfl (Below.refl _ _))
         ·refine uT fun b__ w hW hE K hK => ?_
          have e74 := hE 74
          have e77 := hE 77
          exact opw_lookup rfl e74 e77 (by rw [<- HSN.out]; exact run_seen hm.out ((hS.ext hW).holds _ (List.mem_of_getElem? (i := 3) rfl)).2 HSB.out) (hK _ _ rfl (Below.refl _ _))
         ·intro vs wz hW hT
          obtain ⟨e68, e69, e70, e71, e72, e73, e74, e75, e76, e77, e78, e79, -⟩ := hT
          have bx : (fun _ : Nat => True) 0 := trivial
          simp only [AC, Act.put, zz, ze]
          rw [e79]
          replace hS := hS.ext hW
          clear e68 e69 e70 e71 e72 e73 e74 e75 e76 e77 e78 e79 hW
          cases sb
          ·have HTN : Hid (¬ t ∈ l3.map (·.1)) := Lib.hid (of_decide_eq_false HSN.out)
           have HAE2 : Hid (addR p l3 (a + j) k = l3 ++ [(t, ((a + j : Nat) : Int), (k : Int))]) := Lib.hid (by
            rcases HAD.out with ⟨_, h⟩ | ⟨t', h, _, h2⟩
            ·exact absurd (h t rfl) HTN.out
            ·obtain rfl := Option.some.inj h; exact h2)
           rw [HAE2.out] at HRS
           go_wp2_with fail
           refine IH 7 [] [.q g 0, .q g 0, .q g 8, .i (.map (some b)), .i (.agg #[.slice A8 n8 c8]), .s (fun v w => Sl w (fun _ => True) 1 v (B0 t).length (G1 (B0 t))) fun v w w' h hb => h.ext hb, .i (.string (G2 t)), .t] ⟨uM, uN, uF, uC (h := fun w hW hN => (hS.ext hW).shut 4 rfl 8 rfl), uR (h := fun w hW hN => (hS.ext hW).box 0 rfl), ?_, ?_, trivial⟩ ?_
           ·refine uT fun b__ w hW hE K hK => ?_
            have e84 := hE 84
            exact Az rfl (by kernel_rfl) (by simp only [List.map_cons, List.map_nil, e84]) (E9 _ t _ _ (hS.ext hW).ro.2) fun v w' h hb => hK v w' (h.imp fun _ _ _ => trivial) hb
           ·refine uT fun b__ w hW hE K hK => ?_
            have e85 := hE 85
            exact Fb rfl rfl (J4 e85) (hK _ _ rfl (Below.refl _ _))
           ·intro vs wz hW hT
            obtain ⟨e80, e81, e82, e83, e84, e85, e86, -⟩ := hT
            have bx : (fun _ : Nat => True) 0 := trivial
            simp only [AC, Act.put, zz, ze]
            have hS1 := hS.ext hW
            have hn2 := hn.out
            obtain ⟨wn, es2, ck2, hrun, hm2, hS2, -, -⟩ := hS1.enter 3 rfl hm.out HSB.out (by omega)
            (intro o_ ho_; simp only [List.getElem?_toArray, List.getElem?_cons_succ, List.getElem?_cons_zero, Option.some.injEq] at ho_; subst ho_)
            refine opw_insert rfl e83 e86 rfl hrun ?_
            simp only [CJ]
            simp only [Act.put, List.setIfInBounds_toArray, List.set_cons_zero, List.set_cons_succ]
            clear hS hS1 hW e80 e81 e82 e83 e84 e85 e86 hrun
            have hS := hS2
            clear hS2 hSr hm
            have hm := Lib.hid hm2
            clear hm2
            simp only [List.set_cons_zero, List.set_cons_succ] at hS
            go_wp2_with fail
            have hSd := hS.drew
            clear hS
            refine wp_zS [9, 10, 13] [some (.pointer (some ⟨g, 0, none⟩)), some (.pointer (some ⟨g, 0, none⟩)), some (.pointer (some ⟨g, 0, none⟩)), some (.pointer (some ⟨g, 7, none⟩)), some (.slice (some ⟨EL, 0, none⟩) l3.length cl), some (.agg #[.slice A8 n8 c8]), some (.int .i64 ((a + j : Nat) : Int)), some (.int .i64 (k : Nat)), some (.agg #[.slice A8 n8 c8, .int .i64 ((a + j : Nat) : Int), .int .i64 (k : Nat)]), none, none, some (.pointer (some ⟨g, 0, none⟩)), some (.pointer (some ⟨g, 7, none⟩)), none] (fun vs w => match vs with | [] => St w0 w (.box g8 27 #[.slice A8 n8 c8] :: .own (.slice (some ⟨EL, 0, none⟩) l3.length cl) 103 3 l3.length cells :: .own (.slice (some ⟨Ae, 0, none⟩) es.length ce) 3 1 es.length (Bw es) :: .obj b (.map es2 ck2) :: .box g 101 #[.int .i64 p.roles, .pointer la, .slice Cs ns cs, .slice Ar p.rules.length cr, .slice An p.never.length cn, .slice Ag p.goal.length cg, .int .i64 lim, .slice (some ⟨EL, 0, none⟩) l3.length cl, .map (some b), .slice (some ⟨Ae, 0, none⟩) es.length ce] :: F) (fun D w => K8 D w /\ A7 w D (.agg #[.slice A8 n8 c8]) t) | [u] => St w0 w (.box g8 27 #[.slice A8 n8 c8] :: .own (.slice (some ⟨EL, 0, none⟩) l3.length cl) 103 3 l3.length cells :: .own (.slice (some ⟨Ae, 0, none⟩) es.length ce) 3 1 es.length (Bw es) :: .obj b (.map es2 ck2) :: .box g 101 #[.int .i64 p.roles, .pointer la, .slice Cs ns cs, .slice Ar p.rules.length cr, .slice An p.never.length cn, .slice Ag p.goal.length cg, .int .i64 lim, .slice (some ⟨EL, 0, none⟩) l3.length cl, .map (some b), .slice (some ⟨Ae, 0, none⟩) es.length ce] :: F) (fun D w => (fun D w => K8 D w /\ A7 w D (.agg #[.slice A8 n8 c8]) t) D w /\ Sl w D 3 u 1 [Value.slice A8 n8 c8, Value.int .i64 ((a + j : Nat) : Int), Value.int .i64 (k : Nat)]) | [_, p'] => St w0 w (.box g8 27 #[.slice A8 n8 c8] :: .own p' 103 3 (l3.length + 1) (cells ++ [Value.slice A8 n8 c8, Value.int .i64 ((a + j : Nat) : Int), Value.int .i64 (k : Nat)]) :: .own (.slice (some ⟨Ae, 0, none⟩) es.length ce) 3 1 es.length (Bw es) :: .obj b (.map es2 ck2) :: .box g 101 #[.int .i64 p.roles, .pointer la, .slice Cs ns cs, .slice Ar p.rules.length cr, .slice An p.never.length cn, .slice Ag p.goal.length cg, .int .i64 lim, .slice (some ⟨EL, 0, none⟩) l3.length cl, .map (some b), .slice (some ⟨Ae, 0, none⟩) es.length ce] :: F) (fun D w => K8 D w /\ A7 w D (.agg #[.slice A8 n8 c8]) t) | [_, p', _] => St w0 w (.box g8 27 #[.slice A8 n8 c8] :: .own p' 103 3 (l3.length + 1) (cells ++ [Value.slice A8 n8 c8, Value.int .i64 ((a + j : Nat) : Int), Value.int .i64 (k : Nat)]) :: .own (.slice (some ⟨Ae, 0, none⟩) es.length ce) 3 1 es.length (Bw es) :: .obj b (.map es2 ck2) :: .box g 101 #[.int .i64 p.roles, .pointer la, .slice Cs ns cs, .slice Ar p.rules.length cr, .slice An p.never.length cn, .slice Ag p.goal.length cg, .int .i64 lim, p', .map (some b), .slice (some ⟨Ae, 0, none⟩) es.length ce] :: F) (fun D w => K8 D w /\ A7 w D (.agg #[.slice A8 n8 c8]) t) | _ => False) ?_ ⟨vM, vM, vN, vF, ?_, ?_, vM, vM, ?_, ?_, ?_, vN, vF, ?_, trivial⟩ ?_
            ·first | assumption | (dsimp only; assumption)
            ·refine vR 0 1 fun b__ w vs hS h1 h2 hE K hK => ?_
             rcases vs with _ | ⟨x0, _ | ⟨x1, vs⟩⟩ <;> first | (exfalso; first | exact hS | (revert h1 h2; simp <;> omega); done) | ((have e90 := hE 90); (exact Ah rfl e90 (by kernel_rfl) (hS.shut 4 rfl 7 rfl) (hK _ rfl)))
            ·refine vR 0 0 fun b__ w vs hS h1 h2 hE K hK => ?_
             rcases vs with _ | ⟨x0, vs⟩ <;> first | (exfalso; first | exact hS | (revert h1 h2; simp <;> omega); done) | ((have e8 : b__.eval (.tmp 8) = .pointer (some ⟨g8, 0, none⟩) := hE 8); (exact AZ rfl e8 (hS.box 0 rfl) Tryz.underlying27 rfl (by kernel_rfl) (hK _ rfl)))
            ·refine vR 0 0 fun b__ w vs hS h1 h2 hE K hK => ?_
             rcases vs with _ | ⟨x0, vs⟩ <;> first | (exfalso; first | exact hS | (revert h1 h2; simp <;> omega); done) | ((have e92 := hE 92); (have e93 := hE 93); (have e94 := hE 94); (exact CG rfl (ps := [(0, .agg #[.slice A8 n8 c8]), (1, .int .i64 ((a + j : Nat) : Int)), (2, .int .i64 (k : Nat))]) (by simp [e92, e93, e94]) (cells := #[.slice A8 n8 c8, .int .i64 ((a + j : Nat) : Int), .int .i64 (k : Nat)]) (by kernel_rfl) (hK _ rfl)))
            ·refine vX 0 fun b__ w vs hS hl hE K hK => ?_
             obtain rfl := Fl hl
             have e95 := hE 95
             refine C5 rfl Tryz.underlying98 (ps := [(0, .agg #[.slice A8 n8 c8, .int .i64 ((a + j : Nat) : Int), .int .i64 (k : Nat)])]) (by simp [e95]) (cells := #[.slice A8 n8 c8, .int .i64 ((a + j : Nat) : Int), .int .i64 (k : Nat)]) (by kernel_rfl) fun w' hX hb => hK _ w' (hS.ret hb (At (by decide)) ((Sl.of_box (n := 1) (size := 3) hX rfl (by omega)).imp fun z hz _ => Nat.le_of_eq hz.symm))
            ·refine vX 1 fun b__ w vs hS hl hE K hK => ?_
             obtain ⟨x0, rfl⟩ := Et hl
             have e91 := hE 91
             have e96 := hE 96
             refine ED rfl ty_reached e91 (hS.own 1 rfl) e96 hS.ro.2 (by intro u hu; simp at hu; rcases hu with rfl | rfl | rfl <;> rfl) (by omega) (by omega) hS.size ?_
             intro v' w' ho hg hat
             exact hK v' w' ((hS.upd 1 rfl (.own v' 103 3 (l3.length + 1) (cells ++ [Value.slice A8 n8 c8, Value.int .i64 ((a + j : Nat) : Int), Value.int .i64 (k : Nat)])) hg ho hat).mono (hK8.out.and A5) fun D w h => h.1)
            ·refine vX 2 fun b__ w vs hS hl hE K hK => ?_
             obtain ⟨x0, x1, rfl⟩ := Er hl
             have e99 := hE 99
             have e97 := hE 97
             refine Cg rfl e99 e97 (hS.box 4 rfl) (by simp) (Fv (hS.own 1 rfl)) (ID (hS.own 1 rfl)) (by kernel_rfl) ?_
             intro w' hbx hup
             exact hK _ w' (hS.upd 4 rfl (.box g 101 #[.int .i64 p.roles, .pointer la, .slice Cs ns cs, .slice Ar p.rules.length cr, .slice An p.never.length cn, .slice Ag p.goal.length cg, .int .i64 lim, x1, .map (some b), .slice (some ⟨Ae, 0, none⟩) es.length ce]) (Bn hup) ⟨(hS.holds _ (List.mem_of_getElem? (i := 4) rfl)).1, hbx⟩ fun _ e => .inl e)
            ·intro us wz vs hS hl hT
             obtain ⟨x0, x1, x2, rfl⟩ := Ep hl
             obtain ⟨e87, e88, e89, e90, e91, e92, e93, e94, e95, e96, e97, e98, e99, -⟩ := hT
             clear hl
             simp only [AC, Act.put, zz, ze]
             have hS1 : St w0 wz (.box g8 27 #[.slice A8 n8 c8] :: .own x1 103 3 (l3.length + 1) (cells ++ [Value.slice A8 n8 c8, Value.int .i64 ((a + j : Nat) : Int), Value.int .i64 (k : Nat)]) :: .own (.slice (some ⟨Ae, 0, none⟩) es.length ce) 3 1 es.length (Bw es) :: .obj b (.map es2 ck2) :: .box g 101 #[.int .i64 p.roles, .pointer la, .slice Cs ns cs, .slice Ar p.rules.length cr, .slice An p.never.length cn, .slice Ag p.goal.length cg, .int .i64 lim, x1, .map (some b), .slice (some ⟨Ae, 0, none⟩) es.length ce] :: F) (fun D w => K8 D w /\ A7 w D (.agg #[.slice A8 n8 c8]) t) := hS
             clear hS
             obtain ⟨A80, c80, rfl, _, _⟩ := BE (hS1.own 1 rfl) (by omega)
             generalize us 87 = s87, us 88 = s88, us 89 = s89, us 90 = s90, us 91 = s91, us 92 = s92, us 93 = s93, us 94 = s94, us 95 = s95, us 96 = s96, us 98 = s98, us 99 = s99
             have HCL : Hid (cells.length = l3.length * 3) := Lib.hid HCL0.out
             have hS := hS1.mono (KS.out.and Br) fun D w h => ⟨(k8.out _ _ h.1).1, BJ.append HCL.out (k8.out _ _ h.1).2 (BJ.single (z := (t, ((a + j : Nat) : Int), (k : Int))) h.2)⟩
             clear hS1
             obtain ⟨ov, hov⟩ : ∃ ov, decide (((l3.length + 1 : Nat) : Int) > lim) = ov := ⟨_, rfl⟩
             have HOV := Lib.hid hov
             clear hov
             go_wp2_with fail
             refine BF [.q g 0, .q g 0, .q g 7, .i (.slice (some ⟨A80, 0, none⟩) (l3.length + 1) c80), .n ((l3.length + 1 : Nat) : Int), .q g 0, .q g 0, .q g 6, .n lim, .i (.bool ov)] ⟨uM, uN, uF, uC (h := fun w hW hN => (hS.ext hW).shut 4 rfl 7 rfl), ?_, uM, uN, uF, uC (h := fun w hW hN => (hS.ext hW).shut 4 rfl 6 rfl), uB (h := fun w hW hN => run_gtB HOV.out), trivial⟩ ?_
             ·refine uT fun b__ w hW hE K hK => ?_
              have e103 := hE 103
              exact DM rfl e103 Tryz.underlying98 (hK _ _ rfl (Below.refl _ _))
             ·intro vs wz hW hT
              obtain ⟨e100, e101, e102, e103, e104, e105, e106, e107, e108, e109, -⟩ := hT
              simp only [AC, Act.put, zz, ze]
              rw [e109]
              replace hS := hS.ext hW
              clear hW e100 e101 e102 e103 e104 e105 e106 e107 e108 e109
              cases ov
              ·go_wp2_with fail
               have hnl := of_decide_eq_false HOV.out
               refine ⟨⟨k + 1, by go_num, hkr, ?_, ?_⟩, by simp [intOf]; omega⟩
               ·rw [HRS.out]; exact Lib.hid (by rw [List.length_append, List.length_singleton]; omega)
               ·rw [HRS.out]
                refine Lib.hid ?_
                refine ⟨.slice (some ⟨A80, 0, none⟩) (l3.length + 1) c80, .slice (some ⟨Ae, 0, none⟩) es.length ce, cells ++ [.slice A8 n8 c8, .int .i64 ((a + j : Nat) : Int), .int .i64 (k : Nat)], b, ck2, n + 1, es2, by rw [List.map_append]; exact hm.out, by rw [List.length_append, List.length_singleton]; omega, ?_⟩
                rw [HSC.out, List.length_append, List.length_singleton]
                exact hS.sub (List.sublist_cons_self _ _)
              ·go_wp2_with fail
               go_ret2
               have hnl := of_decide_eq_true HOV.out
               refine .inr ⟨?_, rfl, (hS.sub (((((List.sublist_cons_self _ _).trans (List.sublist_cons_self _ _)).trans (List.sublist_cons_self _ _)).trans (List.sublist_cons_self _ _)).trans (List.sublist_cons_self _ _))).mono KS.out fun D w h => h.1⟩
               have h1 := HRM.out.length_le
               rw [HRS.out, List.length_append, List.length_singleton, <- HLV.out] at h1
               have h2 := HMN.out.length_le
               omega
          ·have HAE2 : Hid (addR p l3 (a + j) k = l3) := Lib.hid (by
            rcases HAD.out with ⟨h, _⟩ | ⟨t', h, h2, _⟩
            ·exact h
            ·obtain rfl := Option.some.inj h; exact absurd (of_decide_eq_true HSN.out) h2)
           go_wp2_with fail
           refine ⟨⟨k + 1, by go_num, hkr, ?_, ?_⟩, by simp [intOf]; omega⟩
           ·rw [HRS.out, HAE2.out]; exact HLM
           ·rw [HRS.out, HAE2.out]
            exact Lib.hid ⟨_, _, _, _, _, _, _, hm.out, hn.out, (hS.sub (List.sublist_cons_self _ _)).mono (KS.out.and Br) fun D w h => k8.out D w h.1⟩
      ·obtain rfl : k = p.rules.length := by omega
       have hS0 := HS.out
       clear HS
       go_wp2_with (first | ((with_reducible refine qB ?_); refine qc ?_ ?_ <;> intro h_ <;> go_prune))
       refine ⟨⟨j + 1, by go_num, by omega, ?_, ?_⟩, by simp [intOf]; omega⟩
       ·rw [HLV.out]; exact HLM
       ·rw [HLV.out]; exact Lib.hid hS0
   ·have hje : a + j = l.length := by omega
    obtain rfl : j = l.length - a := by omega
    have HD : Hid (decide (((a + (l.length - a) : Nat) : Int) < ((l.length : Nat) : Int)) = false) := Lib.hid (decide_eq_false (by omega))
    obtain ⟨l2, hl2⟩ : ∃ l2, lvlR p l a (l.length - a) = l2 := ⟨_, rfl⟩
    rw [hl2] at HLN HS hwl hpl
    have HL2 := Lib.hid hl2
    clear hl2
    have HWL := Lib.hid hwl
    clear hwl
    have hS0 := HS.out
    clear HS
    have hln2 := HLN.out
    obtain ⟨lv, ev, cells, b, clock, n, ents, hm, hn, hS⟩ := hS0; obtain ⟨EL, cl, rfl, hcl, _⟩ := BE (hS.own 0 rfl) (by omega); obtain ⟨Ae, ce, rfl, _, _⟩ := BE (hS.own 1 rfl) HE0.out; have HCL0 := Lib.hid (hS.own 0 rfl).1; rw [HSC.out] at hS; replace hm := Lib.hid hm; replace hn := Lib.hid hn
    go_wp2_with fail
    refine BF [.n ((a + (l.length - a) : Nat) : Int), .q g 0, .q g 0, .q g 9, .i (.slice (some ⟨Ae, 0, none⟩) es.length ce), .q g 0, .q g 0, .q g 9, .i (.slice (some ⟨Ae, 0, none⟩) es.length ce), .n (es.length : Nat), .n ((es.length - 1 : Nat) : Int), .q Ae (0 + (es.length - 1) * 1), .n (l.length : Nat), .b false] ⟨uM, uM, uN, uF, uC (h := fun w hW hN => (hS.ext hW).shut 3 rfl 9 rfl), uM, uN, uF, uC (h := fun w hW hN => (hS.ext hW).shut 3 rfl 9 rfl), ?_, uB (h := fun w hW hN => by rw [CX (by omega) (by omega), HLE1.out]), uI (h := fun w hW hN => AA (m := es.length - 1) Tryz.underlying40 (by kernel_rfl) (by omega) (by omega)), uC (h := fun w hW hN => by rw [Nat.mul_one, Nat.zero_add]; exact Bj ((hS.ext hW).own 1 rfl) _ _ HEE.out), uB (h := fun w hW hN => run_ltB HD.out), trivial⟩ ?_
    ·refine uT fun b__ w hW hE K hK => ?_
     have e34 := hE 34
     exact DM rfl e34 Tryz.underlying40 (hK _ _ rfl (Below.refl _ _))
    ·intro vs wz hW hT
     obtain ⟨e26, e27, e28, e29, e30, e31, e32, e33, e34, e35, e36, e37, e38, e39, -⟩ := hT
     simp only [AC, Act.put, zz, ze]
     rw [e39]
     clear e26 e27 e28 e29 e30 e31 e32 e33 e34 e35 e36 e37 e38 e39
     replace hS := hS.ext hW
     clear hW
     obtain ⟨eq, heq⟩ : ∃ eq, decide (((l2.length : Nat) : Int) = ((l.length : Nat) : Int)) = eq := ⟨_, rfl⟩
     have HQ := Lib.hid heq
     clear heq
     go_wp2_with fail
     refine BF [.q g 0, .q g 0, .q g 7, .i (.slice (some ⟨EL, 0, none⟩) l2.length cl), .n (l2.length : Nat), .q g 0, .q g 0, .q g 9, .i (.slice (some ⟨Ae, 0, none⟩) es.length ce), .q g 0, .q g 0, .q g 9, .i (.slice (some ⟨Ae, 0, none⟩) es.length ce), .n (es.length : Nat), .n ((es.length - 1 : Nat) : Int), .q Ae (0 + (es.length - 1) * 1), .n (l.length : Nat), .i (.bool eq)] ⟨uM, uN, uF, uC (h := fun w hW hN => (hS.ext hW).shut 3 rfl 7 rfl), ?_, uM, uN, uF, uC (h := fun w hW hN => (hS.ext hW).shut 3 rfl 9 rfl), uM, uN, uF, uC (h := fun w hW hN => (hS.ext hW).shut 3 rfl 9 rfl), ?_, uB (h := fun w hW hN => by rw [CX (by omega) (by omega), HLE1.out]), uI (h := fun w hW hN => AA (m := es.length - 1) Tryz.underlying40 (by kernel_rfl) (by omega) (by omega)), uC (h := fun w hW hN => by rw [Nat.mul_one, Nat.zero_add]; exact Bj ((hS.ext hW).own 1 rfl) _ _ HEE.out), uB (h := fun w hW hN => GL HQ.out), trivial⟩ ?_
     ·refine uT fun b__ w hW hE K hK => ?_
      have e114 := hE 114
      exact DM rfl e114 Tryz.underlying98 (hK _ _ rfl (Below.refl _ _))
     ·refine uT fun b__ w hW hE K hK => ?_
      have e123 := hE 123
      exact DM rfl e123 Tryz.underlying40 (hK _ _ rfl (Below.refl _ _))
     ·intro vs wz hW hT
      obtain ⟨e111, e112, e113, e114, e115, e116, e117, e118, e119, e120, e121, e122, e123, e124, e125, e126, e127, e128, -⟩ := hT
      simp only [AC, Act.put, zz, ze]
      rw [e128]
      clear e111 e112 e113 e114 e115 e116 e117 e118 e119 e120 e121 e122 e123 e124 e125 e126 e127 e128
      replace hS := hS.ext hW
      clear hW
      cases eq
      ·have hlt : l.length < l2.length := by have := of_decide_eq_false HQ.out; omega
       go_wp2_with fail
       have hSd := hS.drew
       clear hS
       refine wp_zS [10, 11, 14] [some (.pointer (some ⟨g, 0, none⟩)), some (.pointer (some ⟨g, 0, none⟩)), some (.pointer (some ⟨g, 0, none⟩)), some (.pointer (some ⟨g, 9, none⟩)), some (.slice (some ⟨Ae, 0, none⟩) es.length ce), some (.pointer (some ⟨g, 0, none⟩)), some (.pointer (some ⟨g, 0, none⟩)), some (.pointer (some ⟨g, 7, none⟩)), some (.slice (some ⟨EL, 0, none⟩) l2.length cl), some (.int .i64 (l2.length : Nat)), none, none, some (.pointer (some ⟨g, 0, none⟩)), some (.pointer (some ⟨g, 9, none⟩)), none] (fun vs w => match vs with | [] => St w0 w (.own (.slice (some ⟨EL, 0, none⟩) l2.length cl) 103 3 l2.length cells :: .own (.slice (some ⟨Ae, 0, none⟩) es.length ce) 3 1 es.length (Bw es) :: .obj b (.map ents clock) :: .box g 101 #[.int .i64 p.roles, .pointer la, .slice Cs ns cs, .slice Ar p.rules.length cr, .slice An p.never.length cn, .slice Ag p.goal.length cg, .int .i64 lim, .slice (some ⟨EL, 0, none⟩) l2.length cl, .map (some b), .slice (some ⟨Ae, 0, none⟩) es.length ce] :: F) (fun D w => K D w /\ BJ w D cells l2) | [u] => St w0 w (.own (.slice (some ⟨EL, 0, none⟩) l2.length cl) 103 3 l2.length cells :: .own (.slice (some ⟨Ae, 0, none⟩) es.length ce) 3 1 es.length (Bw es) :: .obj b (.map ents clock) :: .box g 101 #[.int .i64 p.roles, .pointer la, .slice Cs ns cs, .slice Ar p.rules.length cr, .slice An p.never.length cn, .slice Ag p.goal.length cg, .int .i64 lim, .slice (some ⟨EL, 0, none⟩) l2.length cl, .map (some b), .slice (some ⟨Ae, 0, none⟩) es.length ce] :: F) (fun D w => (fun D w => K D w /\ BJ w D cells l2) D w /\ Sl w D 1 u 1 [Value.int .i64 (l2.length : Nat)]) | [_, p'] => St w0 w (.own (.slice (some ⟨EL, 0, none⟩) l2.length cl) 103 3 l2.length cells :: .own p' 3 1 (es.length + 1) (Bw es ++ [Value.int .i64 (l2.length : Nat)]) :: .obj b (.map ents clock) :: .box g 101 #[.int .i64 p.roles, .pointer la, .slice Cs ns cs, .slice Ar p.rules.length cr, .slice An p.never.length cn, .slice Ag p.goal.length cg, .int .i64 lim, .slice (some ⟨EL, 0, none⟩) l2.length cl, .map (some b), .slice (some ⟨Ae, 0, none⟩) es.length ce] :: F) (fun D w => K D w /\ BJ w D cells l2) | [_, p', _] => St w0 w (.own (.slice (some ⟨EL, 0, none⟩) l2.length cl) 103 3 l2.length cells :: .own p' 3 1 (es.length + 1) (Bw es ++ [Value.int .i64 (l2.length : Nat)]) :: .obj b (.map ents clock) :: .box g 101 #[.int .i64 p.roles, .pointer la, .slice Cs ns cs, .slice Ar p.rules.length cr, .slice An p.never.length cn, .slice Ag p.goal.length cg, .int .i64 lim, .slice (some ⟨EL, 0, none⟩) l2.length cl, .map (some b), p'] :: F) (fun D w => K D w /\ BJ w D cells l2) | _ => False) ?_ ⟨vM, vM, vN, vF, ?_, vM, vN, vF, ?_, ?_, ?_, ?_, vN, vF, ?_, trivial⟩ ?_
       ·first | assumption | (dsimp only; assumption)
       ·refine vR 0 1 fun b__ w vs hS h1 h2 hE K hK => ?_
        rcases vs with _ | ⟨x0, _ | ⟨x1, vs⟩⟩ <;> first | (exfalso; first | exact hS | (revert h1 h2; simp <;> omega); done) | ((have e132 := hE 132); (exact Ah rfl e132 (by kernel_rfl) (hS.shut 3 rfl 9 rfl) (hK _ rfl)))
       ·refine vR 0 0 fun b__ w vs hS h1 h2 hE K hK => ?_
        rcases vs with _ | ⟨x0, vs⟩ <;> first | (exfalso; first | exact hS | (revert h1 h2; simp <;> omega); done) | ((have e136 := hE 136); (exact Ah rfl e136 (by kernel_rfl) (hS.shut 3 rfl 7 rfl) (hK _ rfl)))
       ·refine vR 0 0 fun b__ w vs hS h1 h2 hE K hK => ?_
        rcases vs with _ | ⟨x0, vs⟩ <;> first | (exfalso; first | exact hS | (revert h1 h2; simp <;> omega); done) | ((have e137 := hE 137); (exact DM rfl e137 Tryz.underlying98 (hK _ rfl)))
       ·refine vX 0 fun b__ w vs hS hl hE K hK => ?_
        obtain rfl := Fl hl
        have e138 := hE 138
        refine C5 rfl Tryz.underlying40 (ps := [(0, .int .i64 (l2.length : Nat))]) (by simp [e138]) (cells := #[.int .i64 (l2.length : Nat)]) (by kernel_rfl) fun w' hX hb => hK _ w' (hS.ret hb (At (by decide)) ((Sl.of_box (n := 1) (size := 1) hX rfl (by omega)).imp fun z hz _ => Nat.le_of_eq hz.symm))
       ·refine vX 1 fun b__ w vs hS hl hE K hK => ?_
        obtain ⟨x0, rfl⟩ := Et hl
        have e133 := hE 133
        have e139 := hE 139
        refine ED rfl Dh e133 (hS.own 1 rfl) e139 hS.ro.2 (by intro u hu; simp at hu; subst hu; rfl) (by omega) (by omega) hS.size ?_
        intro v' w' ho hg hat
        exact hK v' w' ((hS.upd 1 rfl (.own v' 3 1 (es.length + 1) (Bw es ++ [Value.int .i64 (l2.length : Nat)])) hg ho hat).mono (KS.out.and Br) fun D w h => h.1)
       ·refine vX 2 fun b__ w vs hS hl hE K hK => ?_
        obtain ⟨x0, x1, rfl⟩ := Er hl
        have e142 := hE 142
        have e140 := hE 140
        refine Cg rfl e142 e140 (hS.box 3 rfl) (by simp) (Fv (hS.own 1 rfl)) (ID (hS.own 1 rfl)) (by kernel_rfl) ?_
        intro w' hbx hup
        exact hK _ w' (hS.upd 3 rfl (.box g 101 #[.int .i64 p.roles, .pointer la, .slice Cs ns cs, .slice Ar p.rules.length cr, .slice An p.never.length cn, .slice Ag p.goal.length cg, .int .i64 lim, .slice (some ⟨EL, 0, none⟩) l2.length cl, .map (some b), x1]) (Bn hup) ⟨(hS.holds _ (List.mem_of_getElem? (i := 3) rfl)).1, hbx⟩ fun _ e => .inl e)
       ·intro us wz vs hS hl hT
        obtain ⟨x0, x1, x2, rfl⟩ := Ep hl
        obtain ⟨e129, e130, e131, e132, e133, e134, e135, e136, e137, e138, e139, e140, e141, e142, -⟩ := hT
        clear hl
        simp only [AC, Act.put, zz, ze]
        have hS1 : St w0 wz (.own (.slice (some ⟨EL, 0, none⟩) l2.length cl) 103 3 l2.length cells :: .own x1 3 1 (es.length + 1) (Bw es ++ [Value.int .i64 (l2.length : Nat)]) :: .obj b (.map ents clock) :: .box g 101 #[.int .i64 p.roles, .pointer la, .slice Cs ns cs, .slice Ar p.rules.length cr, .slice An p.never.length cn, .slice Ag p.goal.length cg, .int .i64 lim, .slice (some ⟨EL, 0, none⟩) l2.length cl, .map (some b), x1] :: F) (fun D w => K D w /\ BJ w D cells l2) := hS
        clear hS
        obtain ⟨A80, c80, rfl, _, _⟩ := BE (hS1.own 1 rfl) (by omega)
        go_wp2_with fail
        go_ret2
        rw [DeepR, HL2.out]
        refine .inl ⟨HLN.out, by rw [decide_eq_true hlt]; rfl, ?_⟩
        rw [if_pos hlt]
        refine ⟨.slice (some ⟨EL, 0, none⟩) l2.length cl, .slice (some ⟨A80, 0, none⟩) (es.length + 1) c80, cells, b, clock, n, ents, hm.out, hn.out, ?_⟩
        rw [HSC.out, show (es ++ [l2.length]).length = es.length + 1 by simp, show Bw (es ++ [l2.length]) = Bw es ++ [.int .i64 (l2.length : Nat)] by simp [Bw]]
        exact hS1
      ·have hnl : ¬ l.length < l2.length := by have := of_decide_eq_true HQ.out; omega
       go_wp2_with fail
       go_ret2
       rw [DeepR, HL2.out]
       refine .inl ⟨HLN.out, by rw [decide_eq_false hnl]; rfl, ?_⟩
       rw [if_neg hnl]
       exact ⟨.slice (some ⟨EL, 0, none⟩) l2.length cl, .slice (some ⟨Ae, 0, none⟩) es.length ce, cells, b, clock, n, ents, hm.out, hn.out, by rw [HSC.out]; exact hS⟩
end
end Go.Proofs.YtpcioefppjljoaaGreatDoor
