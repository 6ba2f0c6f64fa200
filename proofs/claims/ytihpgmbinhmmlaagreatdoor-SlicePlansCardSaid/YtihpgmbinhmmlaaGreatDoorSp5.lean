/-
  The card of SlicePlans.
-/
import Derived.Test.YtihpgmbinhmmlaaGreatDoorRows
import Derived.ProofKit
import Derived.OpenShut
import Derived.Lib.LaidU8
import Derived.Lay
import Derived.MakeChecks
import Derived.LaidLaws
import Derived.Stop.Joined
import Derived.Test.YtihpgmbinhmmlaaGreatDoorCards
import Derived.Test.YtihpgmbinhmmlaaGreatDoorTie
import Derived.SevenTiedAt
import Derived.Test.YtihpgmbinhmmlaaGreatDoorSp4
namespace Go.Proofs.YtihpgmbinhmmlaaGreatDoor
section
open Go.RowKit
attribute [local go_sem ↓] Go.wp_at_zero Go.wp_at_succ
set_option maxRecDepth 20000
set_option exponentiation.threshold 5000
set_option maxHeartbeats 4000000 in
theorem useless_any {w0 : World} {D : Nat -> Prop} {v : Value} {p : Aq} (hp : B6 w0 D v p) (hP : p.Ok) (hT : Bw w0) : Calls Tryz.prog 21 #[v] w0 fun e w' => ∃ u, e = .returned u /\ St w0 w' [.own u 3 1 (useN p).length (AK (useN p))] fun _ _ => True := by
 obtain ⟨R, lk, st, rl, nl, gl⟩ := p
 have HP := Lib.hid hP
 have hP1 := hP.rules
 dsimp only at hP1
 clear hP
 obtain ⟨lp, s, rv, nv, gv, rfl, h1, h2, h3, h4, h5⟩ := hp
 dsimp only at h1 h2 h3 h4 h5 ⊢
 obtain ⟨Cs, ns, cs, rfl⟩ := h2.shape
 obtain ⟨Ar, cr, rfl, _, _⟩ := h3.shape
 obtain ⟨An, cn, rfl, _, _⟩ := h4.shape
 obtain ⟨Ag, cg, rfl, _, _⟩ := h5.shape
 obtain ⟨K, kp, kho, ks, kr, kt, hS⟩ : ∃ K : (Nat -> Prop) -> World -> Prop, (∀ D w, K D w -> B6 w D (.agg #[.int .i64 R, lp, .slice Cs ns cs, .slice Ar rl.length cr, .slice An nl.length cn, .slice Ag gl.length cg]) ⟨R, lk, st, rl, nl, gl⟩) /\ (∀ D w, K D w -> DY w D lp lk) /\ (∀ D w, K D w -> A7 w D (.agg #[.slice Cs ns cs]) st) /\ (∀ D w, K D w -> Bd w D (.slice Ar rl.length cr) rl) /\ (∀ D w, K D w -> Bw w) /\ St w0 w0 [] K :=
  ⟨fun D w => ((DY w D lp lk /\ A7 w D (.agg #[.slice Cs ns cs]) st) /\ Bd w D (.slice Ar rl.length cr) rl /\ Ax w D (.slice An nl.length cn) nl /\ Ax w D (.slice Ag gl.length cg) gl) /\ (Bw w /\ D 0), fun _ _ h => ⟨_, _, _, _, _, rfl, h.1.1.1, h.1.1.2, h.1.2.1, h.1.2.2.1, h.1.2.2.2⟩, fun _ _ h => h.1.1.1, fun _ _ h => h.1.1.2, fun _ _ h => h.1.2.1, fun _ _ h => h.2.1,
   St.start (D := fun _ => True) (((Bi.and A5).and (AW.and (AO.and AO))).and BQ) ⟨⟨⟨Bi D _ w0 w0 h1 (Nat.le_refl _) (fun _ _ _ _ h => h) fun _ _ _ _ => trivial, h2.imp fun _ _ _ => trivial⟩, AW D _ w0 w0 h3 (Nat.le_refl _) (fun _ _ _ _ h => h) fun _ _ _ _ => trivial, h4.imp fun _ _ _ => trivial, h5.imp fun _ _ _ => trivial⟩, hT, trivial⟩⟩
 clear h1 h2 h3 h4 h5 hT
 have KS := Lib.hid hS.stable
 obtain ⟨e, he⟩ : ∃ e, e = checkE ⟨R, lk, st, rl, nl, gl⟩ := ⟨_, rfl⟩
 have HE := Lib.hid he
 clear he
 by_cases h0 : e = 0
 ·subst h0
  cases lk with
  | none => have := HE.out; cases this
  | some L =>
   have HH := Lib.hid (HP.out.links L rfl).1
   have HTG := Lib.hid fun (r : AL) (hr : r ∈ rl) => target_nat HE.out.symm rfl (r := r) hr
   have HUS : Hid (useN ⟨R, some L, st, rl, nl, gl⟩ = uslN (closM L (uppM L ⟨R, some L, st, rl, nl, gl⟩)) rl rl.length) := Lib.hid (by unfold useN; rw [if_pos HE.out.symm])
   rw [HUS.out]
   obtain ⟨q, o, rfl, -⟩ := id (kho _ _ hS.ro)
   have kh : ∀ D w, K D w -> IsH w D (.pointer (some ⟨q, 0, none⟩)) L := fun D w h => kho D w h
   go_enter Tryz.func21, Tryz.ntmps21
   go_wp2_with (first
    | ((with_reducible refine qA 1 ?_); refine AA hS rfl _ _ rfl (.agg #[.int .i64 R, .pointer (some ⟨q, 0, none⟩), .slice Cs ns cs, .slice Ar rl.length cr, .slice An nl.length cn, .slice Ag gl.length cg]) _ rfl rfl ?_; clear hS; intro g1 w_ hS; (try simp only [Act.put, Act.eval, zz, Value.cells] at hS))
    | ((with_reducible refine qA 3 ?_); refine qa hS #[.slice none 0 0] ?_; clear hS; intro g3 w_ hS)
    | ((with_reducible refine qB ?_); refine qc ?_ ?_ <;> intro h_ <;> go_prune)
    | ((with_reducible refine qK ?_); refine qL hS Tryz.underlying31 ?_)
    | ((with_reducible refine qk 27 ?_); first | (refine Aa hS 0 rfl _ _ rfl _ _ rfl _ _ rfl _ (by first | rfl | assumption) Tryz.underlying27 rfl (by kernel_rfl) ?_) | (refine Aa hS 1 rfl _ _ rfl _ _ rfl _ _ rfl _ (by first | rfl | assumption) Tryz.underlying27 rfl (by kernel_rfl) ?_) | (refine Aa hS 2 rfl _ _ rfl _ _ rfl _ _ rfl _ (by first | rfl | assumption) Tryz.underlying27 rfl (by kernel_rfl) ?_) | (refine Aa hS 3 rfl _ _ rfl _ _ rfl _ _ rfl _ (by first | rfl | assumption) Tryz.underlying27 rfl (by kernel_rfl) ?_) | (refine Aa hS 4 rfl _ _ rfl _ _ rfl _ _ rfl _ (by first | rfl | assumption) Tryz.underlying27 rfl (by kernel_rfl) ?_) | (refine Aa hS 5 rfl _ _ rfl _ _ rfl _ _ rfl _ (by first | rfl | assumption) Tryz.underlying27 rfl (by kernel_rfl) ?_))
    | ((with_reducible refine qM ?_); (first | refine qS hS ?_ | refine qT hS ?_); clear hS; intro w_ hS; (try simp only [Act.put, Act.eval, zz, Value.cells] at hS))
    | (go_at_call 18; refine (DC (kp _ _ hS.ro) HP.out (kt _ _ hS.ro)).mono ?_; rw [<- HE.out]; rintro r_ w_ ⟨_, rfl, rfl, hb_⟩; replace hS := hS.ext hb_; clear hb_))
   go_loopg [4] (2 * FO st rl + 1) (fun k mv wr => ∃ (mb : Bool) (u : Value) (N : Nat), mv = .bool mb /\ 2 * FO N rl + (if mb = true then 1 else 0) <= k /\ Hid (ULow L ⟨R, some L, st, rl, nl, gl⟩ N /\ (mb = false -> ∀ r ∈ rl, r.revoke = false -> (r.yes &&& closM L N == r.yes) = true -> AY N r.target = true)) /\ St w0 wr [.box g3 27 #[u], .box g1 31 #[.int .i64 R, .pointer (some ⟨q, 0, none⟩), .slice Cs ns cs, .slice Ar rl.length cr, .slice An nl.length cn, .slice Ag gl.length cg]] (fun D w => K D w /\ A7 w D (.agg #[u]) N))
   case atStart => exact ⟨true, _, st, rfl, by simp, Lib.hid ⟨⟨Ci.refl _, fun T hT => hT.start⟩, nofun⟩, hS.mono (KS.out.and A5) fun D w h => ⟨h, ks _ _ h⟩⟩
   case round =>
    clear hS
    obtain ⟨mb, u, B, rfl, hgk, HI, hS⟩ := hrel
    have HGK := Lib.hid hgk
    clear hgk
    cases mb
    ·have HU : Hid (B = uppM L ⟨R, some L, st, rl, nl, gl⟩) := Lib.hid (F8.eq ⟨⟨HI.out.1.1, HI.out.2 rfl⟩, HI.out.1.2⟩)
     obtain ⟨N0, rfl⟩ : ∃ N0, N0 = B := ⟨_, rfl⟩
     clear HI HGK
     go_wp2_with (first | ((with_reducible refine qK ?_); refine qC hS ?_))
     have hSn := hS.nil 3 1
     clear hS
     have hS := hSn
     clear hSn
     go_loopw [7, 51] (fun kw i wr => ∃ (j : Nat) (kv : Value), i = .int .i64 (j : Nat) /\ kv = kw /\ j <= rl.length /\ St w0 wr (.own kv 3 1 (uslN (closM L N0) rl j).length (AK (uslN (closM L N0) rl j)) :: [.box g3 27 #[u], .box g1 31 #[.int .i64 R, .pointer (some ⟨q, 0, none⟩), .slice Cs ns cs, .slice Ar rl.length cr, .slice An nl.length cn, .slice Ag gl.length cg]]) (fun D w => K D w /\ A7 w D (.agg #[u]) N0)) (fun _ i _ => rl.length - (intOf i).toNat)
     case atStart => exact ⟨0, _, rfl, rfl, by omega, hS⟩
     case round =>
      clear hS
      obtain ⟨j, kv, rfl, rfl, hj, hS⟩ := hrel
      by_cases hlj : j < rl.length
      ·obtain ⟨b, o2, y, n, rfl, _, hb, c0, c1, c2, c3, c4, hy, hn⟩ := (kr _ _ hS.ro.1).at_ hlj
       obtain ⟨Ay, my, cy, rfl⟩ := hy.shape
       obtain ⟨Am, mn, cm, rfl⟩ := hn.shape
       have HTN := Lib.hid (uslN_step (C := closM L N0) (Bl AH hlj))
       have HLK : Hid ((uslN (closM L N0) rl j).length <= 100000) := Lib.hid (by unfold uslN; rw [List.length_map]; exact Nat.le_trans (List.length_filter_le _ _) (by rw [List.length_range]; omega))
       obtain ⟨KC, kc, hS2⟩ : ∃ KC : (Nat -> Prop) -> World -> Prop, Hid (∀ D w, KC D w -> K D w /\ A7 w D (.agg #[u]) N0 /\ A7 w D (.agg #[.slice Ay my cy]) (rl.getD j AH).yes /\ A7 w D (.agg #[.slice Am mn cm]) (rl.getD j AH).no) /\ St w0 wr (.own kv 3 1 (uslN (closM L N0) rl j).length (AK (uslN (closM L N0) rl j)) :: [.box g3 27 #[u], .box g1 31 #[.int .i64 R, .pointer (some ⟨q, 0, none⟩), .slice Cs ns cs, .slice (some ⟨b, o2, none⟩) rl.length cr, .slice An nl.length cn, .slice Ag gl.length cg]]) KC := ⟨_, Lib.hid fun D w h => ⟨h.1.1, h.1.2, h.2.1, h.2.2⟩, hS.add (D := CK _) (A5.and A5) ⟨hy, hn⟩ fun _ h _ => h⟩
       clear hS hy hn
       have hS := hS2
       clear hS2
       generalize rl.getD j AH = z at *
       obtain ⟨rv, ry, rn, rt, ro⟩ := z
       dsimp only at kc c0 c1 c2 c3 c4 HTN
       obtain ⟨b2, hb2⟩ : ∃ b, b = (ry &&& closM L N0 == ry) := ⟨_, rfl⟩
       have HB2 := Lib.hid hb2
       rw [<- hb2] at HTN
       clear hb2
       generalize hKN : uslN (closM L N0) rl j = KN at *
       clear hKN
       cases rv
       ·cases b2
        ·obtain ⟨b2, hb2'⟩ : ∃ b, b = false := ⟨_, rfl⟩
         rw [<- hb2'] at HB2
         have hkl := HLK.out
         go_wp2_with (first
          | ((with_reducible refine qB ?_); refine qc ?_ ?_ <;> intro h_ <;> go_prune)
          | ((with_reducible refine qA 55 ?_); refine BigFrame.wpList_want rfl fun _ hK => AP (cs := [.bool _, .slice Ay my cy, .slice Am mn cm, .int .i64 rt, .int .i64 ro]) rfl rfl (Ee c0 c1 c2 c3 c4) Tryz.underlying58 rfl (by kernel_rfl) (hK _ _ ?_))
          | ((with_reducible refine qA 9 ?_); refine qa hS #[.bool false, .slice none 0 0, .slice none 0 0, .int .i64 0, .int .i64 0] ?_; clear hS; intro g9 w_ hS)
          | ((with_reducible refine qM ?_); (first | refine qS hS ?_ | refine qT hS ?_); clear hS; intro w_ hS; (try simp only [Act.put, Act.eval, zz, Value.cells] at hS)))
         refine BU [.q g9 0, .b false, .b true, .b true, .q g9 1, .q g9 1, .i (.agg #[.slice Ay my cy]), .q g1 1, .q q 0, .i (.agg #[u]), .s (fun v w => A7 w (fun _ => True) v (closM L N0)) fun v w w' h hb => h.ext hb, .i (.bool b2), .i (.bool (!b2)), .i (.bool (!b2))] ⟨uF, uC (h := fun w hW hN => ((hS.ext hW).box 0 rfl).cell 0), uU, uM, uF, uF, ?_, uF, uC (h := fun w hW hN => ((hS.ext hW).box 3 rfl).cell 1), uR (h := fun w hW hN => (hS.ext hW).box 2 rfl), ?_, ?_, uU, uP, trivial⟩ ?_
         ·refine uT fun b__ w hW hE K hK => ?_
          have e61 := hE 61
          exact CW rfl e61 ((hS.ext hW).box 0 rfl) rfl Tryz.underlying27 (by kernel_rfl) (by kernel_rfl) (hK _ _ rfl (Below.refl _ _))
         ·refine uT fun b__ w hW hE K hK => ?_
          have e64 := hE 64
          have e65 := hE 65
          exact Ai rfl (by kernel_rfl) (by simp only [List.map_cons, List.map_nil, e64, e65]) (CE (kh _ _ (kc.out _ _ (hS.ext hW).ro).1) (kt _ _ (kc.out _ _ (hS.ext hW).ro).1) HH.out (kc.out _ _ (hS.ext hW).ro).2.1) fun v w' h hb => hK v w' (h.imp fun _ _ _ => trivial) hb
         ·refine uT fun b__ w hW hE K hK => ?_
          have e62 := hE 62
          have e66 := hE 66
          exact Ai rfl (by kernel_rfl) (by simp only [List.map_cons, List.map_nil, e62]) (Cp _ _ ry (closM L N0) _ _ _ (kc.out _ _ (hS.ext hW).ro).2.2.1 e66) fun v w' h hb => hK v w' (h.trans (by rw [HB2.out])) hb
         ·intro vs wz hW hT
          obtain ⟨e56, e57, e58, e59, e60, e61, e62, e63, e64, e65, e66, e67, e68, e69, -⟩ := hT
          have bx : (fun _ : Nat => True) 0 := trivial
          simp only [AB, Act.put, zz, ze]
          rw [hb2'] at e69
          rw [e69]
          replace hS := hS.ext hW
          clear hW
          go_wp2_with (first
           | ((with_reducible refine qA 72 ?_); refine Cf hS 1 rfl rfl _ _ _ _ rfl rfl CQ kv KN.length (AK KN) (.int .i64 (j : Nat)) #[.int .i64 (j : Nat)] rfl (by kernel_rfl) rfl rfl rfl rfl (by intro u hu; simp at hu; subst hu; rfl) (by omega) (by omega) ?_; clear hS; intro z_ kv' w_ hS; (try simp only [Act.put, Act.eval, zz, Value.cells] at hS)))
          refine ⟨⟨j + 1, _, by go_num, rfl, hlj, ?_⟩, by simp [intOf]; omega⟩
          rw [HTN.out.trans (if_pos rfl), show (KN ++ [(j : Int)]).length = KN.length + 1 by simp, show AK (KN ++ [(j : Int)]) = AK KN ++ [.int .i64 (j : Nat)] by simp [AK]]
          exact (hS.sub (List.sublist_cons_self _ _)).mono (KS.out.and A5) fun D w h => ⟨(kc.out _ _ h).1, (kc.out _ _ h).2.1⟩
        ·obtain ⟨b2, hb2'⟩ : ∃ b, b = true := ⟨_, rfl⟩
         rw [<- hb2'] at HB2
         go_wp2_with (first
          | ((with_reducible refine qB ?_); refine qc ?_ ?_ <;> intro h_ <;> go_prune)
          | ((with_reducible refine qA 55 ?_); refine BigFrame.wpList_want rfl fun _ hK => AP (cs := [.bool _, .slice Ay my cy, .slice Am mn cm, .int .i64 rt, .int .i64 ro]) rfl rfl (Ee c0 c1 c2 c3 c4) Tryz.underlying58 rfl (by kernel_rfl) (hK _ _ ?_))
          | ((with_reducible refine qA 9 ?_); refine qa hS #[.bool false, .slice none 0 0, .slice none 0 0, .int .i64 0, .int .i64 0] ?_; clear hS; intro g9 w_ hS)
          | ((with_reducible refine qM ?_); (first | refine qS hS ?_ | refine qT hS ?_); clear hS; intro w_ hS; (try simp only [Act.put, Act.eval, zz, Value.cells] at hS)))
         refine BU [.q g9 0, .b false, .b true, .b true, .q g9 1, .q g9 1, .i (.agg #[.slice Ay my cy]), .q g1 1, .q q 0, .i (.agg #[u]), .s (fun v w => A7 w (fun _ => True) v (closM L N0)) fun v w w' h hb => h.ext hb, .i (.bool b2), .i (.bool (!b2)), .i (.bool (!b2))] ⟨uF, uC (h := fun w hW hN => ((hS.ext hW).box 0 rfl).cell 0), uU, uM, uF, uF, ?_, uF, uC (h := fun w hW hN => ((hS.ext hW).box 3 rfl).cell 1), uR (h := fun w hW hN => (hS.ext hW).box 2 rfl), ?_, ?_, uU, uP, trivial⟩ ?_
         ·refine uT fun b__ w hW hE K hK => ?_
          have e61 := hE 61
          exact CW rfl e61 ((hS.ext hW).box 0 rfl) rfl Tryz.underlying27 (by kernel_rfl) (by kernel_rfl) (hK _ _ rfl (Below.refl _ _))
         ·refine uT fun b__ w hW hE K hK => ?_
          have e64 := hE 64
          have e65 := hE 65
          exact Ai rfl (by kernel_rfl) (by simp only [List.map_cons, List.map_nil, e64, e65]) (CE (kh _ _ (kc.out _ _ (hS.ext hW).ro).1) (kt _ _ (kc.out _ _ (hS.ext hW).ro).1) HH.out (kc.out _ _ (hS.ext hW).ro).2.1) fun v w' h hb => hK v w' (h.imp fun _ _ _ => trivial) hb
         ·refine uT fun b__ w hW hE K hK => ?_
          have e62 := hE 62
          have e66 := hE 66
          exact Ai rfl (by kernel_rfl) (by simp only [List.map_cons, List.map_nil, e62]) (Cp _ _ ry (closM L N0) _ _ _ (kc.out _ _ (hS.ext hW).ro).2.2.1 e66) fun v w' h hb => hK v w' (h.trans (by rw [HB2.out])) hb
         ·intro vs wz hW hT
          obtain ⟨e56, e57, e58, e59, e60, e61, e62, e63, e64, e65, e66, e67, e68, e69, -⟩ := hT
          have bx : (fun _ : Nat => True) 0 := trivial
          simp only [AB, Act.put, zz, ze]
          rw [hb2'] at e69
          rw [e69]
          replace hS := hS.ext hW
          clear hW
          go_wp2_with fail
          refine ⟨⟨j + 1, kv, by go_num, rfl, hlj, ?_⟩, by simp [intOf]; omega⟩
          rw [HTN.out.trans (if_neg (by decide))]
          exact (hS.sub (List.sublist_cons_self _ _)).mono (KS.out.and A5) fun D w h => ⟨(kc.out _ _ h).1, (kc.out _ _ h).2.1⟩
       ·skip
        go_wp2_with (first
         | ((with_reducible refine qB ?_); refine qc ?_ ?_ <;> intro h_ <;> go_prune)
         | ((with_reducible refine qA 55 ?_); refine BigFrame.wpList_want rfl fun _ hK => AP (cs := [.bool _, .slice Ay my cy, .slice Am mn cm, .int .i64 rt, .int .i64 ro]) rfl rfl (Ee c0 c1 c2 c3 c4) Tryz.underlying58 rfl (by kernel_rfl) (hK _ _ ?_))
         | ((with_reducible refine qA 9 ?_); refine qa hS #[.bool false, .slice none 0 0, .slice none 0 0, .int .i64 0, .int .i64 0] ?_; clear hS; intro g9 w_ hS)
         | ((with_reducible refine qM ?_); (first | refine qS hS ?_ | refine qT hS ?_); clear hS; intro w_ hS; (try simp only [Act.put, Act.eval, zz, Value.cells] at hS)))
        refine BU [.q g9 0, .b true, .b false, .b false, .t, .t, .t, .t, .t, .t, .t, .t, .t, .b false] ⟨uF, uC (h := fun w hW hN => ((hS.ext hW).box 0 rfl).cell 0), uU, uM, uW, uW, uW, uW, uW, uW, uW, uW, uW, uP, trivial⟩ ?_
        ·intro vs wz hW hT
         obtain ⟨e56, e57, e58, e59, e69, -⟩ := hT
         simp only [AB, Act.put, zz, ze]
         rw [e69]
         replace hS := hS.ext hW
         clear hW
         go_wp2_with fail
         refine ⟨⟨j + 1, kv, by go_num, rfl, hlj, ?_⟩, by simp [intOf]; omega⟩
         rw [HTN.out.trans (if_neg (by cases b2 <;> decide))]
         exact (hS.sub (List.sublist_cons_self _ _)).mono (KS.out.and A5) fun D w h => ⟨(kc.out _ _ h).1, (kc.out _ _ h).2.1⟩
      ·obtain rfl : rl.length = j := by omega
       go_wp2_with (first | ((with_reducible refine qB ?_); refine qc ?_ ?_ <;> intro h_ <;> go_prune))
       go_ret
       rw [<- HU.out]
       exact ⟨_, rfl, (hS.sub (F' := [_]) ((List.nil_sublist _).cons_cons _)).mono (AE.pure True) fun _ _ _ => trivial⟩
    ·go_wp2_with (first | ((with_reducible refine qK ?_); refine qC hS ?_))
     go_loopw [4, 19] (fun mv i wr => ∃ (j : Nat) (mb : Bool) (u : Value) (N : Nat), i = .int .i64 (j : Nat) /\ mv = .bool mb /\ j <= rl.length /\ Hid (URnd L ⟨R, some L, st, rl, nl, gl⟩ B N mb j) /\ St w0 wr [.box g3 27 #[u], .box g1 31 #[.int .i64 R, .pointer (some ⟨q, 0, none⟩), .slice Cs ns cs, .slice Ar rl.length cr, .slice An nl.length cn, .slice Ag gl.length cg]] (fun D w => K D w /\ A7 w D (.agg #[u]) N)) (fun _ i _ => rl.length - (intOf i).toNat)
     case atStart => exact ⟨0, false, u, B, rfl, rfl, by omega, Lib.hid ⟨HI.out.1, nofun, fun _ => ⟨rfl, fun r hr => by simp at hr⟩⟩, hS⟩
     case round =>
      clear hS HI
      obtain ⟨j, mb, u, N0, rfl, rfl, hj, HI, hS⟩ := hrel
      by_cases hlj : j < rl.length
      ·obtain ⟨b, o2, y, n, rfl, _, hb, c0, c1, c2, c3, c4, hy, hn⟩ := (kr _ _ hS.ro.1).at_ hlj
       obtain ⟨Ay, my, cy, rfl⟩ := hy.shape
       obtain ⟨Am, mn, cm, rfl⟩ := hn.shape
       have HGj := Lib.hid (Bl AH hlj)
       have HTj := Lib.hid (HTG.out _ (List.mem_of_getElem? HGj.out))
       obtain ⟨KC, kc, hS2⟩ : ∃ KC : (Nat -> Prop) -> World -> Prop, Hid (∀ D w, KC D w -> K D w /\ A7 w D (.agg #[u]) N0 /\ A7 w D (.agg #[.slice Ay my cy]) (rl.getD j AH).yes /\ A7 w D (.agg #[.slice Am mn cm]) (rl.getD j AH).no) /\ St w0 wr [.box g3 27 #[u], .box g1 31 #[.int .i64 R, .pointer (some ⟨q, 0, none⟩), .slice Cs ns cs, .slice (some ⟨b, o2, none⟩) rl.length cr, .slice An nl.length cn, .slice Ag gl.length cg]] KC := ⟨_, Lib.hid fun D w h => ⟨h.1.1, h.1.2, h.2.1, h.2.2⟩, hS.add (D := CK _) (A5.and A5) ⟨hy, hn⟩ fun _ h _ => h⟩
       clear hS hy hn
       have hS := hS2
       clear hS2
       generalize rl.getD j AH = z at *
       obtain ⟨rv, ry, rn, rt, ro⟩ := z
       dsimp only at kc c0 c1 c2 c3 c4
       obtain ⟨b1, hb1⟩ : ∃ b, b = AY N0 rt := ⟨_, rfl⟩
       have HB1 := Lib.hid hb1
       obtain ⟨b2, hb2⟩ : ∃ b, b = (ry &&& closM L N0 == ry) := ⟨_, rfl⟩
       have HB2 := Lib.hid hb2
       cases rv
       ·cases b1
        ·cases b2
         ·have HI2 := Lib.hid (HI.out.skip HGj.out (.inr (.inr hb2.symm)))
          obtain ⟨b2, hb2'⟩ : ∃ b, b = false := ⟨_, rfl⟩
          rw [<- hb2'] at HB2
          clear hb1 hb2 HI
          go_wp2_with (first
           | ((with_reducible refine qB ?_); refine qc ?_ ?_ <;> intro h_ <;> go_prune)
           | ((with_reducible refine qA 22 ?_); refine BigFrame.wpList_want rfl fun _ hK => AP (cs := [.bool _, .slice Ay my cy, .slice Am mn cm, .int .i64 rt, .int .i64 ro]) rfl rfl (Ee c0 c1 c2 c3 c4) Tryz.underlying58 rfl (by kernel_rfl) (hK _ _ ?_))
           | ((with_reducible refine qA 6 ?_); refine qa hS #[.bool false, .slice none 0 0, .slice none 0 0, .int .i64 0, .int .i64 0] ?_; clear hS; intro g6 w_ hS)
           | ((with_reducible refine qM ?_); (first | refine qS hS ?_ | refine qT hS ?_); clear hS; intro w_ hS; (try simp only [Act.put, Act.eval, zz, Value.cells] at hS)))
          refine BU [.q g6 0, .b false, .b true, .b true, .i (.agg #[u]), .q g6 3, .n rt, .b false, .b true, .b true, .b true, .q g6 1, .q g6 1, .i (.agg #[.slice Ay my cy]), .q g1 1, .q q 0, .i (.agg #[u]), .s (fun v w => A7 w (fun _ => True) v (closM L N0)) fun v w w' h hb => h.ext hb, .i (.bool b2), .i (.bool b2)] ⟨uF, uC (h := fun w hW hN => ((hS.ext hW).box 0 rfl).cell 0), uU, uM, uR (h := fun w hW hN => (hS.ext hW).box 1 rfl), uF, uC (h := fun w hW hN => ((hS.ext hW).box 0 rfl).cell 3), ?_, uU, uP, uM, uF, uF, ?_, uF, uC (h := fun w hW hN => ((hS.ext hW).box 2 rfl).cell 1), uR (h := fun w hW hN => (hS.ext hW).box 1 rfl), ?_, ?_, uP, trivial⟩ ?_
          ·refine uT fun b__ w hW hE K hK => ?_
           have e27 := hE 27
           have e29 := hE 29
           exact Ai rfl (by kernel_rfl) (by simp only [List.map_cons, List.map_nil, e27, e29]) (Bx _ N0 rt _ _ (kc.out _ _ (hS.ext hW).ro).2.1) fun v w' h hb => hK v w' (h.trans (by rw [<- HB1.out])) hb
          ·refine uT fun b__ w hW hE K hK => ?_
           have e35 := hE 35
           exact CW rfl e35 ((hS.ext hW).box 0 rfl) rfl Tryz.underlying27 (by kernel_rfl) (by kernel_rfl) (hK _ _ rfl (Below.refl _ _))
          ·refine uT fun b__ w hW hE K hK => ?_
           have e38 := hE 38
           have e39 := hE 39
           exact Ai rfl (by kernel_rfl) (by simp only [List.map_cons, List.map_nil, e38, e39]) (CE (kh _ _ (kc.out _ _ (hS.ext hW).ro).1) (kt _ _ (kc.out _ _ (hS.ext hW).ro).1) HH.out (kc.out _ _ (hS.ext hW).ro).2.1) fun v w' h hb => hK v w' (h.imp fun _ _ _ => trivial) hb
          ·refine uT fun b__ w hW hE K hK => ?_
           have e36 := hE 36
           have e40 := hE 40
           exact Ai rfl (by kernel_rfl) (by simp only [List.map_cons, List.map_nil, e36]) (Cp _ _ ry (closM L N0) _ _ _ (kc.out _ _ (hS.ext hW).ro).2.2.1 e40) fun v w' h hb => hK v w' (h.trans (by rw [HB2.out])) hb
          ·intro vs wz hW hT
           obtain ⟨e23, e24, e25, e26, e27, e28, e29, e30, e31, e32, e33, e34, e35, e36, e37, e38, e39, e40, e41, e42, -⟩ := hT
           have bx : (fun _ : Nat => True) 0 := trivial
           simp only [AB, Act.put, zz, ze]
           rw [hb2'] at e42
           rw [e42]
           replace hS := hS.ext hW
           clear hW
           go_wp2_with fail
           exact ⟨⟨j + 1, mb, u, N0, by go_num, rfl, hlj, HI2, (hS.sub (List.sublist_cons_self _ _)).mono (KS.out.and A5) fun D w h => ⟨(kc.out _ _ h).1, (kc.out _ _ h).2.1⟩⟩, by simp [intOf]; omega⟩
         ·obtain ⟨t, ht, ht64⟩ := HTj.out
          dsimp only at ht
          have HI2 := Lib.hid (HI.out.add HGj.out rfl hb1.symm hb2.symm ht)
          have HWT : Hid (Cy N0 rt = N0 ||| 2 ^ t) := Lib.hid (by rw [ht]; exact Gb ht64)
          obtain ⟨b2, hb2'⟩ : ∃ b, b = true := ⟨_, rfl⟩
          rw [<- hb2'] at HB2
          clear hb1 hb2 HI ht ht64
          go_wp2_with (first
           | ((with_reducible refine qB ?_); refine qc ?_ ?_ <;> intro h_ <;> go_prune)
           | ((with_reducible refine qA 22 ?_); refine BigFrame.wpList_want rfl fun _ hK => AP (cs := [.bool _, .slice Ay my cy, .slice Am mn cm, .int .i64 rt, .int .i64 ro]) rfl rfl (Ee c0 c1 c2 c3 c4) Tryz.underlying58 rfl (by kernel_rfl) (hK _ _ ?_))
           | ((with_reducible refine qA 6 ?_); refine qa hS #[.bool false, .slice none 0 0, .slice none 0 0, .int .i64 0, .int .i64 0] ?_; clear hS; intro g6 w_ hS)
           | ((with_reducible refine qM ?_); (first | refine qS hS ?_ | refine qT hS ?_); clear hS; intro w_ hS; (try simp only [Act.put, Act.eval, zz, Value.cells] at hS)))
          refine BU [.q g6 0, .b false, .b true, .b true, .i (.agg #[u]), .q g6 3, .n rt, .b false, .b true, .b true, .b true, .q g6 1, .q g6 1, .i (.agg #[.slice Ay my cy]), .q g1 1, .q q 0, .i (.agg #[u]), .s (fun v w => A7 w (fun _ => True) v (closM L N0)) fun v w w' h hb => h.ext hb, .i (.bool b2), .i (.bool b2)] ⟨uF, uC (h := fun w hW hN => ((hS.ext hW).box 0 rfl).cell 0), uU, uM, uR (h := fun w hW hN => (hS.ext hW).box 1 rfl), uF, uC (h := fun w hW hN => ((hS.ext hW).box 0 rfl).cell 3), ?_, uU, uP, uM, uF, uF, ?_, uF, uC (h := fun w hW hN => ((hS.ext hW).box 2 rfl).cell 1), uR (h := fun w hW hN => (hS.ext hW).box 1 rfl), ?_, ?_, uP, trivial⟩ ?_
          ·refine uT fun b__ w hW hE K hK => ?_
           have e27 := hE 27
           have e29 := hE 29
           exact Ai rfl (by kernel_rfl) (by simp only [List.map_cons, List.map_nil, e27, e29]) (Bx _ N0 rt _ _ (kc.out _ _ (hS.ext hW).ro).2.1) fun v w' h hb => hK v w' (h.trans (by rw [<- HB1.out])) hb
          ·refine uT fun b__ w hW hE K hK => ?_
           have e35 := hE 35
           exact CW rfl e35 ((hS.ext hW).box 0 rfl) rfl Tryz.underlying27 (by kernel_rfl) (by kernel_rfl) (hK _ _ rfl (Below.refl _ _))
          ·refine uT fun b__ w hW hE K hK => ?_
           have e38 := hE 38
           have e39 := hE 39
           exact Ai rfl (by kernel_rfl) (by simp only [List.map_cons, List.map_nil, e38, e39]) (CE (kh _ _ (kc.out _ _ (hS.ext hW).ro).1) (kt _ _ (kc.out _ _ (hS.ext hW).ro).1) HH.out (kc.out _ _ (hS.ext hW).ro).2.1) fun v w' h hb => hK v w' (h.imp fun _ _ _ => trivial) hb
          ·refine uT fun b__ w hW hE K hK => ?_
           have e36 := hE 36
           have e40 := hE 40
           exact Ai rfl (by kernel_rfl) (by simp only [List.map_cons, List.map_nil, e36]) (Cp _ _ ry (closM L N0) _ _ _ (kc.out _ _ (hS.ext hW).ro).2.2.1 e40) fun v w' h hb => hK v w' (h.trans (by rw [HB2.out])) hb
          ·intro vs wz hW hT
           obtain ⟨e23, e24, e25, e26, e27, e28, e29, e30, e31, e32, e33, e34, e35, e36, e37, e38, e39, e40, e41, e42, -⟩ := hT
           have bx : (fun _ : Nat => True) 0 := trivial
           simp only [AB, Act.put, zz, ze]
           rw [hb2'] at e42
           rw [e42]
           replace hS := hS.ext hW
           clear hW
           go_wp2_with (first
            | ((with_reducible refine qk 27 ?_); first | (refine Aa hS 0 rfl _ _ rfl _ _ rfl _ _ rfl _ (by first | rfl | assumption) Tryz.underlying27 rfl (by kernel_rfl) ?_) | (refine Aa hS 1 rfl _ _ rfl _ _ rfl _ _ rfl _ (by first | rfl | assumption) Tryz.underlying27 rfl (by kernel_rfl) ?_) | (refine Aa hS 2 rfl _ _ rfl _ _ rfl _ _ rfl _ (by first | rfl | assumption) Tryz.underlying27 rfl (by kernel_rfl) ?_) | (refine Aa hS 3 rfl _ _ rfl _ _ rfl _ _ rfl _ (by first | rfl | assumption) Tryz.underlying27 rfl (by kernel_rfl) ?_) | (refine Aa hS 4 rfl _ _ rfl _ _ rfl _ _ rfl _ (by first | rfl | assumption) Tryz.underlying27 rfl (by kernel_rfl) ?_) | (refine Aa hS 5 rfl _ _ rfl _ _ rfl _ _ rfl _ (by first | rfl | assumption) Tryz.underlying27 rfl (by kernel_rfl) ?_))
            | ((with_reducible refine qK ?_); refine qC hS ?_)
            | (go_at_call 59; refine (Dd _ N0 rt _ _ (kc.out _ _ hS.ro).2.1).mono ?_; rw [HWT.out]; rintro r_ w_ ⟨_, rfl, hM, hb_⟩; obtain ⟨A4, c4, l4, rfl, -⟩ := hM.parts; replace hS := hS.ret2 hb_ A5 hM; clear hb_ hM)
            | ((with_reducible refine qM ?_); (first | refine qS hS ?_ | refine qT hS ?_); clear hS; intro w_ hS; (try simp only [Act.put, Act.eval, zz, Value.cells] at hS)))
           exact ⟨⟨j + 1, true, _, N0 ||| 2 ^ t, by go_num, rfl, hlj, HI2, (hS.sub (List.sublist_cons_self _ _)).mono (KS.out.and A5) fun D w h => ⟨(kc.out _ _ h.1).1, h.2⟩⟩, by simp [intOf]; omega⟩
        ·have HI2 := Lib.hid (HI.out.skip HGj.out (.inr (.inl hb1.symm)))
         clear hb1 hb2 HI
         go_wp2_with (first
          | ((with_reducible refine qB ?_); refine qc ?_ ?_ <;> intro h_ <;> go_prune)
          | ((with_reducible refine qA 22 ?_); refine BigFrame.wpList_want rfl fun _ hK => AP (cs := [.bool _, .slice Ay my cy, .slice Am mn cm, .int .i64 rt, .int .i64 ro]) rfl rfl (Ee c0 c1 c2 c3 c4) Tryz.underlying58 rfl (by kernel_rfl) (hK _ _ ?_))
          | ((with_reducible refine qA 6 ?_); refine qa hS #[.bool false, .slice none 0 0, .slice none 0 0, .int .i64 0, .int .i64 0] ?_; clear hS; intro g6 w_ hS)
          | ((with_reducible refine qM ?_); (first | refine qS hS ?_ | refine qT hS ?_); clear hS; intro w_ hS; (try simp only [Act.put, Act.eval, zz, Value.cells] at hS)))
         refine BU [.q g6 0, .b false, .b true, .b true, .i (.agg #[u]), .q g6 3, .n rt, .b true, .b false, .b false, .b false, .t, .t, .t, .t, .t, .t, .t, .t, .b false] ⟨uF, uC (h := fun w hW hN => ((hS.ext hW).box 0 rfl).cell 0), uU, uM, uR (h := fun w hW hN => (hS.ext hW).box 1 rfl), uF, uC (h := fun w hW hN => ((hS.ext hW).box 0 rfl).cell 3), ?_, uU, uP, uM, uW, uW, uW, uW, uW, uW, uW, uW, uP, trivial⟩ ?_
         ·refine uT fun b__ w hW hE K hK => ?_
          have e27 := hE 27
          have e29 := hE 29
          exact Ai rfl (by kernel_rfl) (by simp only [List.map_cons, List.map_nil, e27, e29]) (Bx _ N0 rt _ _ (kc.out _ _ (hS.ext hW).ro).2.1) fun v w' h hb => hK v w' (h.trans (by rw [<- HB1.out])) hb
         ·intro vs wz hW hT
          obtain ⟨e23, e24, e25, e26, e27, e28, e29, e30, e31, e32, e33, e42, -⟩ := hT
          simp only [AB, Act.put, zz, ze]
          rw [e42]
          replace hS := hS.ext hW
          clear hW
          go_wp2_with fail
          exact ⟨⟨j + 1, mb, u, N0, by go_num, rfl, hlj, HI2, (hS.sub (List.sublist_cons_self _ _)).mono (KS.out.and A5) fun D w h => ⟨(kc.out _ _ h).1, (kc.out _ _ h).2.1⟩⟩, by simp [intOf]; omega⟩
       ·have HI2 := Lib.hid (HI.out.skip HGj.out (.inl rfl))
        clear hb1 hb2 HI
        go_wp2_with (first
         | ((with_reducible refine qB ?_); refine qc ?_ ?_ <;> intro h_ <;> go_prune)
         | ((with_reducible refine qA 22 ?_); refine BigFrame.wpList_want rfl fun _ hK => AP (cs := [.bool _, .slice Ay my cy, .slice Am mn cm, .int .i64 rt, .int .i64 ro]) rfl rfl (Ee c0 c1 c2 c3 c4) Tryz.underlying58 rfl (by kernel_rfl) (hK _ _ ?_))
         | ((with_reducible refine qA 6 ?_); refine qa hS #[.bool false, .slice none 0 0, .slice none 0 0, .int .i64 0, .int .i64 0] ?_; clear hS; intro g6 w_ hS)
         | ((with_reducible refine qM ?_); (first | refine qS hS ?_ | refine qT hS ?_); clear hS; intro w_ hS; (try simp only [Act.put, Act.eval, zz, Value.cells] at hS)))
        refine BU [.q g6 0, .b true, .b false, .b false, .t, .t, .t, .t, .t, .b false, .b false, .t, .t, .t, .t, .t, .t, .t, .t, .b false] ⟨uF, uC (h := fun w hW hN => ((hS.ext hW).box 0 rfl).cell 0), uU, uM, uW, uW, uW, uW, uW, uP, uM, uW, uW, uW, uW, uW, uW, uW, uW, uP, trivial⟩ ?_
        ·intro vs wz hW hT
         obtain ⟨e23, e24, e25, e26, e32, e33, e42, -⟩ := hT
         simp only [AB, Act.put, zz, ze]
         rw [e42]
         replace hS := hS.ext hW
         clear hW
         go_wp2_with fail
         exact ⟨⟨j + 1, mb, u, N0, by go_num, rfl, hlj, HI2, (hS.sub (List.sublist_cons_self _ _)).mono (KS.out.and A5) fun D w h => ⟨(kc.out _ _ h).1, (kc.out _ _ h).2.1⟩⟩, by simp [intOf]; omega⟩
      ·obtain rfl : rl.length = j := by omega
       have HI2 : Hid (ULow L ⟨R, some L, st, rl, nl, gl⟩ N0 /\ (mb = false -> ∀ r ∈ rl, r.revoke = false -> (r.yes &&& closM L N0 == r.yes) = true -> AY N0 r.target = true)) := Lib.hid ⟨HI.out.low, fun e r hr => (HI.out.no e).2 r (by rw [List.take_length]; exact hr)⟩
       have HLK : Hid (2 * FO N0 rl + (if mb = true then 1 else 0) < 2 * FO B rl + 1) := Lib.hid (by
        cases mb with
        | true => have h := HI.out.yes rfl; dsimp only at h; simp; omega
        | false => have h := (HI.out.no rfl).1; rw [h]; simp)
       clear HI
       go_wp2_with (first | ((with_reducible refine qB ?_); refine qc ?_ ?_ <;> intro h_ <;> go_prune))
       go_roundg (2 * FO N0 rl + (if mb = true then 1 else 0))
       case measure => have h2 := HGK.out; simp only [if_true] at h2; exact Nat.lt_of_lt_of_le HLK.out h2
       case rel => exact ⟨mb, u, N0, rfl, Nat.le_refl _, HI2, hS⟩
 ·have HUS : Hid (useN ⟨R, lk, st, rl, nl, gl⟩ = []) := Lib.hid (by unfold useN; rw [if_neg (fun h => h0 (HE.out.trans h))])
  rw [HUS.out]
  go_enter Tryz.func21, Tryz.ntmps21
  go_wp2_with (first
   | ((with_reducible refine qA 1 ?_); refine AA hS rfl _ _ rfl (.agg #[.int .i64 R, lp, .slice Cs ns cs, .slice Ar rl.length cr, .slice An nl.length cn, .slice Ag gl.length cg]) _ rfl rfl ?_; clear hS; intro g1 w_ hS; (try simp only [Act.put, Act.eval, zz, Value.cells] at hS))
   | ((with_reducible refine qB ?_); refine qc ?_ ?_ <;> intro h_ <;> go_prune)
   | ((with_reducible refine qK ?_); refine qL hS Tryz.underlying31 ?_)
   | (go_at_call 18; refine (DC (kp _ _ hS.ro) HP.out (kt _ _ hS.ro)).mono ?_; rw [<- HE.out]; rintro r_ w_ ⟨_, rfl, rfl, hb_⟩; replace hS := hS.ext hb_; clear hb_))
  go_ret
  exact ⟨_, rfl, ((hS.sub (List.nil_sublist _)).nil 3 1).mono (AE.pure True) fun _ _ _ => trivial⟩
end
section
open Go.RowKit
attribute [local go_sem ↓] Go.wp_at_zero Go.wp_at_succ
set_option maxRecDepth 20000
set_option exponentiation.threshold 5000
def DI (m : List Int) (k : Int) : Bool := decide (0 <= k /\ k < m.length)
def Gu (m : List Int) (k : Int) : Int := m.getD k.toNat 0
theorem intsG {l : List Int} {k : Nat} (h : k < l.length) : (AK l)[k]? = some (.int .i64 (l.getD k 0)) := by
 unfold AK
 rw [List.getElem?_map, List.getElem?_eq_getElem h, List.getD_eq_getElem?_getD, List.getElem?_eq_getElem h]; rfl
def BackR (w0 : World) (l m : List Int) (e : Ending) (w' : World) : Prop :=
 (l.all (DI m) = false /\ e = .returned (.tuple #[.slice none 0 0, .int .i64 2]) /\ Below w0.heap.size w0 w') \/
 (l.all (DI m) = true /\ ∃ x, e = .returned (.tuple #[x, .int .i64 0]) /\ St w0 w' [.own x 3 1 (l.map (Gu m)).length (AK (l.map (Gu m)))] fun _ _ => True)
theorem back_any {w0 : World} {D E : Nat -> Prop} {u v : Value} {l m : List Int} (hu : Sl w0 D 1 u l.length (AK l)) (hv : Sl w0 E 1 v m.length (AK m)) (hl : l.length <= 1000000) : Calls Tryz.prog 36 #[u, v] w0 (BackR w0 l m) := by
 obtain ⟨A, c, rfl, _, _⟩ := hu.shape
 obtain ⟨B, d, rfl, _, _⟩ := hv.shape
 obtain ⟨K, k1, k2, hS⟩ : ∃ K : (Nat -> Prop) -> World -> Prop, (∀ D w, K D w -> Sl w D 1 (.slice A l.length c) l.length (AK l)) /\ (∀ D w, K D w -> Sl w D 1 (.slice B m.length d) m.length (AK m)) /\ St w0 w0 [] K := ⟨_, fun _ _ h => h.1, fun _ _ h => h.2, St.start (D := fun _ => True) ((Aj (by decide)).and (Aj (by decide))) ⟨hu.imp fun _ _ _ => trivial, hv.imp fun _ _ _ => trivial⟩⟩
 have KS := Lib.hid hS.stable
 clear hu hv
 go_enter Tryz.func36, Tryz.ntmps36
 go_wp2_with fail
 replace hS := hS.nil 3 1
 go_loopw [6, 11] (fun ow i wr => ∃ (j : Nat) (ov : Value), i = .int .i64 (j : Nat) /\ ov = ow /\ j <= l.length /\ Hid (∀ x ∈ l.take j, DI m x = true) /\ St w0 wr [.own ov 3 1 j (AK ((l.take j).map (Gu m)))] K) (fun _ i _ => l.length - (intOf i).toNat)
 case atStart => exact ⟨0, _, rfl, rfl, by omega, Lib.hid (by simp), hS⟩
 case round =>
  clear hS
  obtain ⟨j, ov, rfl, rfl, hj, HG, hS⟩ := hrel
  by_cases hlj : j < l.length
  ·have f1 := intsG hlj
   have hM : l.getD j 0 ∈ l := by rw [List.getD_eq_getElem?_getD, List.getElem?_eq_getElem hlj]; exact List.getElem_mem hlj
   have HT : Hid (l.take (j + 1) = l.take j ++ [l.getD j 0]) := Lib.hid (Gi l j 0 hlj)
   have HB : Hid (DI m (l.getD j 0) = false -> l.all (DI m) = false) := Lib.hid fun h => by
    rw [List.all_eq_false]; exact ⟨_, hM, by rw [h]; decide⟩
   clear hM
   generalize l.getD j 0 = x at *
   by_cases h0 : x < 0
   ·have HB2 := Lib.hid (HB.out (by unfold DI; simp; omega))
    clear HB HT
    go_wp2_with (first | ((with_reducible refine qB ?_); refine qc ?_ ?_ <;> intro h_ <;> go_prune) | ((with_reducible refine qI ?_); refine DB hS rfl _ _ _ rfl _ rfl rfl (by assumption) Tryz.underlying48 (by kernel_rfl) (by first | assumption | omega) _ (by assumption) ?_; intro p_ hc_) | ((with_reducible refine qK ?_); refine qC hS ?_))
    go_ret2
    exact .inl ⟨HB2.out, rfl, hS.below⟩
   ·by_cases h1 : x < m.length
    ·obtain ⟨t, rfl⟩ : ∃ t : Nat, x = (t : Int) := ⟨x.toNat, by omega⟩
     have htm : t < m.length := by omega
     have f2 := intsG htm
     have HG2 : Hid (∀ x ∈ l.take (j + 1), DI m x = true) := Lib.hid fun y hy => by
      rw [HT.out, List.mem_append] at hy
      rcases hy with hy | hy
      ·exact HG.out y hy
      ·rw [List.mem_singleton] at hy; subst hy; unfold DI; simp; omega
     have HT2 : Hid (AK ((l.take (j + 1)).map (Gu m)) = AK ((l.take j).map (Gu m)) ++ [.int .i64 (m.getD t 0)]) := Lib.hid (by rw [HT.out]; simp [AK, Gu])
     clear HB HT HG
     generalize AK ((l.take j).map (Gu m)) = xs at *
     generalize m.getD t 0 = y at *
     go_wp2_with (first
      | ((with_reducible refine qB ?_); refine qc ?_ ?_ <;> intro h_ <;> go_prune)
      | ((with_reducible refine qI ?_); refine DB hS rfl _ _ _ rfl _ rfl rfl (by assumption) Tryz.underlying48 (by kernel_rfl) (by first | assumption | omega) _ (by assumption) ?_; intro p_ hc_)
      | ((with_reducible refine qA 44 ?_); refine Cf hS 0 rfl rfl _ _ _ _ rfl rfl CQ ov j xs (.int .i64 y) #[.int .i64 y] rfl (by kernel_rfl) rfl rfl rfl rfl (by intro u hu; simp at hu; subst hu; rfl) (by omega) (by omega) ?_; clear hS; intro z_ v' w_ hS; (try simp only [Act.put, Act.eval, zz, Value.cells] at hS))
      | ((with_reducible show wpList _ _ _ (⟨_, .buildSlice _ 1 _, _, _, _, _⟩ :: _) _ _); refine Cf hS 0 rfl rfl _ _ _ _ rfl rfl CQ _ _ _ (.int .i64 y) #[.int .i64 y] rfl (by kernel_rfl) rfl rfl rfl rfl (by intro u hu; simp at hu; first | (subst hu; rfl) | (rcases hu with rfl | rfl <;> rfl)) (by omega) (by omega) ?_; clear hS; intro z_ v_ w_ hS; (try simp only [Act.put, Act.eval, zz, Value.cells] at hS))
      | ((with_reducible refine qK ?_); refine BigFrame.wpList_want rfl fun _ hK => Af rfl rfl (by kernel_rfl) (by assumption) (hK _ _ ?_)))
     refine ⟨⟨j + 1, _, by go_num, rfl, hlj, HG2, ?_⟩, by simp [intOf]; omega⟩
     rw [HT2.out]
     exact hS
    ·have HB2 := Lib.hid (HB.out (by unfold DI; simp; omega))
     have h2 : (m.length : Int) <= x := by omega
     clear HB HT
     go_wp2_with (first | ((with_reducible refine qB ?_); refine qc ?_ ?_ <;> intro h_ <;> go_prune) | ((with_reducible refine qI ?_); refine DB hS rfl _ _ _ rfl _ rfl rfl (by assumption) Tryz.underlying48 (by kernel_rfl) (by first | assumption | omega) _ (by assumption) ?_; intro p_ hc_) | ((with_reducible refine qK ?_); refine BigFrame.wpList_want rfl fun _ hK => Af rfl rfl (by kernel_rfl) (by assumption) (hK _ _ ?_)))
     go_ret2
     exact .inl ⟨HB2.out, rfl, hS.below⟩
  ·obtain rfl : l.length = j := by omega
   have HA : Hid (l.all (DI m) = true) := Lib.hid (List.all_eq_true.2 fun x hx => HG.out x (by rw [List.take_length]; exact hx))
   rw [List.take_length] at hS
   go_wp2_with (first | ((with_reducible refine qB ?_); refine qc ?_ ?_ <;> intro h_ <;> go_prune))
   go_ret2
   refine .inr ⟨HA.out, _, rfl, ?_⟩
   rw [List.length_map]
   exact hS.mono (AE.pure True) fun _ _ _ => trivial
end
section
open Go.RowKit
set_option exponentiation.threshold 5000
def kepL (S : Nat) (l : List AL) : List Nat := (List.range l.length).filter fun k => AY S (l.getD k AH).target
theorem keepN_eq (S : Nat) (l : List AL) : Cn S l l.length = (kepL S l).map fun k : Nat => (k : Int) := rfl
theorem Ia (S : Nat) (l : List AL) : BF S l = (kepL S l).map fun k => l.getD k AH := by
 have h : l = (List.range l.length).map fun k => l.getD k AH := by
  apply List.ext_getElem
  ·simp
  ·intro i h1 h2
   simp [List.getD_eq_getElem?_getD, List.getElem?_eq_getElem h1]
 unfold kepL BF
 conv => lhs; rw [h]
 rw [List.filter_map]
 rfl
theorem kepL_at {S : Nat} {l : List AL} {i k : Nat} (h : (kepL S l)[i]? = some k) : k < l.length /\ AY S (l.getD k AH).target = true /\ i < (BF S l).length /\ (BF S l).getD i AH = l.getD k AH := by
 have hm := List.mem_of_getElem? h
 obtain ⟨h1, h2⟩ := List.mem_filter.1 hm
 have hi := (List.getElem?_eq_some_iff.1 h).1
 refine ⟨List.mem_range.1 h1, h2, by rw [Ia]; simpa using hi, ?_⟩
 rw [Ia, List.getD_eq_getElem?_getD, List.getElem?_map, h]; rfl
section
variable {p : Aq} {L : List (Nat × Nat)} {R A k i : Nat}
theorem goal_sub {z : Nat × Nat} (hz : z ∈ p.goal) : Ci (depC L z) (relM L p) := (F5 L p).goal z hz
theorem agr (S A : Nat) : ∀ i, S.testBit i = true -> (A.testBit i = true ↔ (A &&& S).testBit i = true) := fun i hi => by rw [Nat.testBit_and, hi]; simp
theorem GE (hM : BK p L R) : reachB p A = reachB (ofP p) (A &&& relM L p) := by
 unfold reachB
 rw [hM.links, hM.slice.links, ofE' hM]
 exact any_agree hM.hok (agr _ _) fun z hz => goal_sub hz
theorem has_slice {S : Nat} {i : Int} (h : AY S i = true) : AY (A &&& S) i = AY A i := by
 unfold AY at *
 simp only [Bool.and_eq_true] at h
 rw [Nat.testBit_and, h.2, Bool.and_true]
theorem next_slice {S : Nat} {r : AL} (h1 : 0 <= r.target /\ r.target < 64) (h : AY S r.target = true) : Do (A &&& S) r = Do A r &&& S := by
 obtain ⟨t, ht⟩ : ∃ t : Nat, r.target = (t : Int) := ⟨r.target.toNat, by omega⟩
 have h64 : t < 64 := by omega
 unfold Do
 rw [ht] at h ⊢
 rw [Ie] at h
 cases r.revoke
 ·rw [if_neg (by simp), if_neg (by simp), <- or_with h64, <- or_with h64]
  refine B3 fun i => ?_
  rw [Nat.testBit_or, Nat.testBit_and, Nat.testBit_and, Nat.testBit_or, Nat.testBit_two_pow]
  by_cases e : t = i
  ·subst e; simp [h]
  ·simp [e]
 ·rw [if_pos rfl, if_pos rfl]
  unfold del
  rw [has_slice (by rw [Ie]; exact h), Int.toNat_natCast]
  split
  ·refine B3 fun i => ?_
   rw [Nat.testBit_xor, Nat.testBit_and, Nat.testBit_and, Nat.testBit_xor, Nat.testBit_two_pow]
   by_cases e : t = i
   ·subst e; simp [h]
   ·simp [e]
  ·rfl
theorem good_next {A A' : Nat} (hM : BK p L R) (hg : goodB p A = true) (hd : ∀ i, (relM L p).testBit i = false -> (A'.testBit i = true ↔ A.testBit i = true)) : goodB p A' = goodB (ofP p) (A' &&& relM L p) := by
 unfold goodB at *
 rw [hM.links] at hg ⊢
 rw [hM.slice.links, ofE' hM]
 dsimp only at hg ⊢
 rw [<- any_agree hM.hok (agr (relM L p) A') (l := keepC L (relM L p) p.never) keptN]
 congr 1
 rw [Bool.not_eq_true', List.any_eq_false] at hg
 refine Bool.eq_iff_iff.2 ?_
 rw [List.any_eq_true, List.any_eq_true]
 constructor
 ·rintro ⟨z, hz, h⟩
  refine ⟨z, List.mem_filter.2 ⟨hz, ?_⟩, h⟩
  cases hk : (depC L z &&& relM L p != 0) with
  | true => rfl
  | false =>
   have h2 := Dp hM.hok (S := depC L z) (s := A') (t := A) (z := z) (fun i hi => hd i (by
    cases hb : (relM L p).testBit i with
    | false => rfl
    | true =>
     have := ED.2 ⟨i, hi, hb⟩
     rw [hk] at this; cases this)) (Ci.refl _)
   rw [h2] at h
   exact absurd h (hg z hz)
 ·rintro ⟨z, hz, h⟩
  exact ⟨z, (List.mem_filter.1 hz).1, h⟩
theorem next_off {A : Nat} {r : AL} {S : Nat} (h1 : 0 <= r.target /\ r.target < 64) : ∀ i, i ≠ r.target.toNat -> ((Do A r).testBit i = true ↔ A.testBit i = true) := fun i hi => by
 obtain ⟨t, ht⟩ : ∃ t : Nat, r.target = (t : Int) := ⟨r.target.toNat, by omega⟩
 have hne : ¬ t = i := fun e => hi (by rw [ht, Int.toNat_natCast]; exact e.symm)
 unfold Do
 rw [ht]
 cases r.revoke
 ·rw [if_neg (by simp), <- or_with (by omega), Nat.testBit_or, Nat.testBit_two_pow]; simp [hne]
 ·rw [if_pos rfl]
  unfold del
  rw [Int.toNat_natCast]
  split
  ·rw [Nat.testBit_xor, Nat.testBit_two_pow]; simp [hne]
  ·rfl
theorem target_64 (hM : BK p L R) (hk : k < p.rules.length) : 0 <= (p.rules.getD k AH).target /\ (p.rules.getD k AH).target < 64 := by
 have := (hM.rules _ (List.mem_of_getElem? (Bl AH hk))).1
 have := hM.r5
 omega
theorem sim_kept (hM : BK p L R) (hg : goodB p A = true) (h : (kepL (relM L p) p.rules)[i]? = some k) : stepM (ofP p) (A &&& relM L p) (i : Nat) = (stepM p A (k : Nat)).map (· &&& relM L p) := by
 obtain ⟨h1, h2, h3, h4⟩ := kepL_at h
 have ht := target_64 hM h1
 have hq : (ofP p).rules = BF (relM L p) p.rules := by rw [ofE' hM]
 rw [Fn hM.links h1, Fn hM.slice.links (by rw [hq]; exact h3), hq, h4]
 have hkr : p.rules.getD k AH ∈ BF (relM L p) p.rules := List.mem_filter.2 ⟨List.mem_of_getElem? (Bl AH h1), h2⟩
 generalize p.rules.getD k AH = r at *
 have hn := next_slice (A := A) ht h2
 have hgd := good_next (A' := Do A r) hM hg fun i hi => next_off (S := relM L p) ht i fun e => by
  unfold AY at h2
  simp only [Bool.and_eq_true] at h2
  rw [<- e, hi] at h2; cases h2.2
 have hh : Bh (r.yes, r.no) (closP (ofP p) (A &&& relM L p)) = Bh (r.yes, r.no) (closP p A) := by
  unfold closP
  rw [hM.links, hM.slice.links]
  exact (Dp hM.hok (agr _ _) (hM.keptR r hkr)).symm
 have hs : stepB (ofP p) (A &&& relM L p) r = stepB p A r := by
  unfold stepB
  rw [has_slice h2, hh, hn, <- hgd]
 rw [hs, hn]
 split <;> rfl
theorem Hq {k : Int} {A' : Nat} (h : stepM p A k = some A') : goodB p A' = true := by
 unfold stepM at h
 split at h
 ·split at h
  ·rename_i hb
   injection h with h
   subst h
   unfold stepB at hb
   rw [Bool.not_eq_true', Bool.or_eq_false_iff] at hb
   simpa using hb.2
  ·cases h
 ·cases h
theorem sim_left (hM : BK p L R) (hk : k < p.rules.length) (h : AY (relM L p) (p.rules.getD k AH).target = false) {A' : Nat} (hs : stepM p A (k : Nat) = some A') : A' &&& relM L p = A &&& relM L p := by
 have ht := target_64 hM hk
 rw [Fn hM.links hk] at hs
 split at hs
 ·injection hs with hs
  subst hs
  refine B3 fun i => ?_
  rw [Nat.testBit_and, Nat.testBit_and, Bool.and_eq_true, Bool.and_eq_true]
  refine and_congr_left fun hi => next_off (S := relM L p) ht i fun e => ?_
  unfold AY at h
  simp only [Bool.and_eq_false_iff, decide_eq_false_iff_not] at h
  rcases h with h | h
  ·exact h (by omega)
  ·rw [<- e, hi] at h; cases h
 ·cases hs
end
noncomputable def runTo (p : Aq) : Nat -> Nat -> List Int -> Nat × Nat × Bool
 | N, n, [] => (N, n, true)
 | N, n, k :: r => match stepM p N k with
  | none => (N, n, false)
  | some M => runTo p M (n + 1) r
theorem C9 {p : Aq} {N M n : Nat} {k : Int} {r : List Int} (h : stepM p N k = some M) : runTo p N n (k :: r) = runTo p M (n + 1) r := by rw [runTo, h]
theorem DN {p : Aq} {N n : Nat} {k : Int} {r : List Int} (h : stepM p N k = none) : runTo p N n (k :: r) = (N, n, false) := by rw [runTo, h]
theorem Hx {p : Aq} {k : Int} {M M' : Nat} : ∀ {l : List Int} {N n m : Nat}, runTo p N n l = (M, m, true) -> stepM p M k = some M' -> runTo p N n (l ++ [k]) = (M', m + 1, true)
 | [], N, n, m, h, hk => by
  simp only [runTo, Prod.mk.injEq] at h
  obtain ⟨rfl, rfl, _⟩ := h
  show runTo p N n [k] = _
  rw [C9 hk]; rfl
 | j :: r, N, n, m, h, hk => by
  cases hj : stepM p N j with
  | none => rw [DN hj] at h; simp at h
  | some N' =>
   rw [C9 hj] at h
   show runTo p N n (j :: (r ++ [k])) = _
   rw [C9 hj]
   exact Hx h hk
theorem GA {p : Aq} {N M : Nat} {k : Int} (h : stepM p N k = some M) : ∃ j : Nat, k = (j : Int) /\ j < p.rules.length := by
 unfold stepM at h
 split at h
 ·rename_i hk
  exact ⟨k.toNat, by omega, by omega⟩
 ·cases h
section
variable {p : Aq} {L : List (Nat × Nat)} {R : Nat}
theorem EE (hM : BK p L R) : ofKept p = (kepL (relM L p) p.rules).map fun k : Nat => (k : Int) := by
 rw [<- keepN_eq]
 unfold ofKept
 rw [if_pos hM.check, hM.links]
theorem sim_fwd (hM : BK p L R) : ∀ {pl : List Int} {A n B m : Nat}, goodB p A = true -> runTo (ofP p) (A &&& relM L p) n pl = (B, m, true) -> ∃ A', runTo p A n (pl.map (Gu (ofKept p))) = (A', m, true) /\ A' &&& relM L p = B /\ goodB p A' = true /\ pl.all (DI (ofKept p)) = true
 | [], A, n, B, m, hg, h => by
  simp only [runTo, Prod.mk.injEq] at h
  obtain ⟨rfl, rfl, _⟩ := h
  exact ⟨A, rfl, rfl, hg, rfl⟩
 | k :: r, A, n, B, m, hg, h => by
  cases hk : stepM (ofP p) (A &&& relM L p) k with
  | none => rw [DN hk] at h; simp at h
  | some B1 =>
   obtain ⟨i, rfl, hi⟩ := GA hk
   have hq : (ofP p).rules = BF (relM L p) p.rules := by rw [ofE' hM]
   rw [hq, Ia, List.length_map] at hi
   obtain ⟨j, hj⟩ : ∃ j, (kepL (relM L p) p.rules)[i]? = some j := ⟨_, List.getElem?_eq_getElem hi⟩
   have hs := sim_kept (A := A) hM hg hj
   rw [hk] at hs
   cases ha : stepM p A (j : Nat) with
   | none => rw [ha] at hs; cases hs
   | some A1 =>
    rw [ha] at hs
    injection hs with hs
    subst hs
    rw [C9 hk] at h
    obtain ⟨A', h1, h2, h3, h4⟩ := sim_fwd hM (Hq ha) h
    have hget : Gu (ofKept p) (i : Nat) = (j : Int) := by
     unfold Gu
     rw [EE hM, Int.toNat_natCast, List.getD_eq_getElem?_getD, List.getElem?_map, hj]; rfl
    refine ⟨A', ?_, h2, h3, ?_⟩
    ·rw [List.map_cons, hget, C9 ha]; exact h1
    ·rw [List.all_cons, h4, Bool.and_true]
     unfold DI
     rw [EE hM, List.length_map]
     simpa using hi
def D8 (m : List Int) (l : List Int) : List Int := l.flatMap fun k => if 0 <= Ei m k then [Ei m k] else []
theorem sim_bwd (hM : BK p L R) : ∀ {l : List Int} {A n A' m : Nat} (n' : Nat), goodB p A = true -> runTo p A n l = (A', m, true) -> ∃ m', runTo (ofP p) (A &&& relM L p) n' (D8 (ofKept p) l) = (A' &&& relM L p, m', true)
 | [], A, n, A', m, n', hg, h => by
  simp only [runTo, Prod.mk.injEq] at h
  obtain ⟨rfl, rfl, _⟩ := h
  exact ⟨n', rfl⟩
 | k :: r, A, n, A', m, n', hg, h => by
  cases hk : stepM p A k with
  | none => rw [DN hk] at h; simp at h
  | some A1 =>
   rw [C9 hk] at h
   obtain ⟨j, rfl, hj⟩ := GA hk
   have hb : D8 (ofKept p) ((j : Int) :: r) = (if 0 <= Ei (ofKept p) (j : Int) then [Ei (ofKept p) (j : Int)] else []) ++ D8 (ofKept p) r := by
    unfold D8; rw [List.flatMap_cons]
   rw [hb]
   rcases Ic (ofKept p) (j : Int) with ⟨i, hi, he, hv⟩ | ⟨he, hno⟩
   ·rw [he, if_pos (by omega)]
    rw [EE hM, List.length_map] at hi
    obtain ⟨j2, hj2⟩ : ∃ j, (kepL (relM L p) p.rules)[i]? = some j := ⟨_, List.getElem?_eq_getElem hi⟩
    rw [EE hM, List.getD_eq_getElem?_getD, List.getElem?_map, hj2] at hv
    have hv2 : ((j2 : Nat) : Int) = (j : Int) := by simpa using hv
    have e2 : j2 = j := by omega
    subst e2
    have hs := sim_kept (A := A) hM hg hj2
    rw [hk] at hs
    obtain ⟨m', h1⟩ := sim_bwd hM (n' + 1) (Hq hk) h
    exact ⟨m', by rw [List.singleton_append, C9 hs]; exact h1⟩
   ·rw [he, if_neg (by omega), List.nil_append]
    have hout : AY (relM L p) (p.rules.getD j AH).target = false := by
     cases hx : AY (relM L p) (p.rules.getD j AH).target with
     | false => rfl
     | true =>
      have hm : j ∈ kepL (relM L p) p.rules := List.mem_filter.2 ⟨List.mem_range.2 hj, hx⟩
      obtain ⟨i, hi⟩ := List.mem_iff_getElem?.1 hm
      exact absurd (by rw [EE hM, List.getD_eq_getElem?_getD, List.getElem?_map, hi]; rfl) (hno i (by rw [EE hM, List.length_map]; exact (List.getElem?_eq_some_iff.1 hi).1))
    rw [<- sim_left hM hj hout hk]
    exact sim_bwd hM n' (Hq hk) h
theorem Hk (hM : BK p L R) : goodB p p.start = true := by
 unfold goodB
 rw [hM.links]
 dsimp only
 rw [Bool.not_eq_true', List.any_eq_false]
 intro z hz
 rw [(hM.never z hz).2]; exact Bool.false_ne_true
theorem GC (hM : BK p L R) : (ofP p).start = p.start &&& relM L p := by rw [ofE' hM]
end
end
section
open Go.RowKit
attribute [local go_sem ↓] Go.wp_at_zero Go.wp_at_succ
set_option maxRecDepth 20000
set_option exponentiation.threshold 5000
set_option maxHeartbeats 4000000 in
theorem Gk {w0 w : World} {F : List Ae} {K : (Nat -> Prop) -> World -> Prop} {v z : Value} {p : Aq} {N : Nat} (k : Int) (hP : p.Ok) (hS : St w0 w F K) (kp : ∀ D w, K D w -> B6 w D v p) (ku : ∀ D w, K D w -> A7 w D z N) (kt : ∀ D w, K D w -> Bw w) :
  Calls Tryz.prog 34 #[v, z, .int .i64 k] w fun e w' => ∃ x, e = .returned (.tuple #[x, .bool (stepM p N k).isSome]) /\ St w0 w' F fun D w => K D w /\ A7 w D x ((stepM p N k).getD 0) := by
 obtain ⟨R, lk, st, rl, nl, gl⟩ := p
 obtain ⟨lp, s, rv, nv, gv, rfl, h1, h2, h3, h4, h5⟩ := kp _ _ hS.ro
 dsimp only at h1 h2 h3 h4 h5
 obtain ⟨la, rfl⟩ : ∃ la, lp = .pointer la := by
  cases lk with
  | none => exact ⟨none, h1⟩
  | some L => obtain ⟨q, o, rfl, -⟩ := h1; exact ⟨_, rfl⟩
 obtain ⟨Cs, ns, cs, rfl⟩ := h2.shape
 obtain ⟨Ar, cr, rfl, _, _⟩ := h3.shape
 obtain ⟨An, cn, rfl, _, _⟩ := h4.shape
 obtain ⟨Ag, cg, rfl, _, _⟩ := h5.shape
 obtain ⟨u, rfl⟩ : ∃ u, z = .agg #[u] := by
  obtain ⟨A, c, l, rfl, -⟩ := (ku _ _ hS.ro).parts
  exact ⟨_, rfl⟩
 obtain ⟨KC, kc, hS2⟩ : ∃ KC : (Nat -> Prop) -> World -> Prop, Hid (∀ D w, KC D w -> K D w /\ DY w D (.pointer la) lk /\ Bd w D (.slice Ar rl.length cr) rl) /\ St w0 w F KC := ⟨_, Lib.hid fun D w h => ⟨h.1, h.2.1, h.2.2⟩, hS.add (D := CK F) (Bi.and AW) ⟨h1, h3⟩ fun _ h _ => h⟩
 have KS := Lib.hid hS.stable
 clear hS h1 h2 h3 h4 h5
 have hS := hS2
 clear hS2
 have HP := Lib.hid hP
 have hrl : rl.length <= 100000 := hP.rules
 clear hP
 have HK := Lib.hid kp
 have HU := Lib.hid ku
 have HT := Lib.hid kt
 clear kp ku kt
 by_cases hk : 0 <= k /\ k < rl.length /\ lk.isSome = true
 ·obtain ⟨hk0, hk1, hk2⟩ := hk
  cases lk with
  | none => cases hk2
  | some L =>
   clear hk2
   obtain ⟨j, rfl⟩ : ∃ j : Nat, k = (j : Int) := ⟨k.toNat, by omega⟩
   have hlj : j < rl.length := by omega
   clear hk0 hk1
   obtain ⟨q, o, e, -⟩ := id (kc.out _ _ hS.ro).2.1
   injection e with e
   subst e
   obtain ⟨b, o2, _, _, rfl, -⟩ := (kc.out _ _ hS.ro).2.2.at_ hlj
   rw [Fn (p := ⟨R, some L, st, rl, nl, gl⟩) (N := N) rfl hlj]
   dsimp only
   obtain ⟨z, hz⟩ : ∃ z, rl.getD j AH = z := ⟨_, rfl⟩
   rw [hz]
   have HZ := Lib.hid hz
   clear hz
   obtain ⟨zr, ry, rn, rt, ro⟩ := z
   obtain ⟨V, hV⟩ : ∃ V, V = if stepB ⟨R, some L, st, rl, nl, gl⟩ N ⟨zr, ry, rn, rt, ro⟩ = true then some (Do N ⟨zr, ry, rn, rt, ro⟩) else none := ⟨_, rfl⟩
   rw [<- hV]
   have HV := Lib.hid hV
   clear hV
   cases zr
   ·go_enter Tryz.func34, Tryz.ntmps34
    go_wp2_with (first | ((with_reducible refine qA 3 ?_); refine AA hS rfl _ _ rfl (.agg #[.int .i64 R, .pointer (some ⟨q, 0, none⟩), .slice Cs ns cs, .slice (some ⟨b, o2, none⟩) rl.length cr, .slice An nl.length cn, .slice Ag gl.length cg]) _ rfl rfl ?_; clear hS; intro g3 w_ hS; (try simp only [Act.put, Act.eval, zz, Value.cells] at hS)) | ((with_reducible refine qA 4 ?_); refine AA hS rfl _ _ rfl (.agg #[u]) _ rfl rfl ?_; clear hS; intro g4 w_ hS; (try simp only [Act.put, Act.eval, zz, Value.cells] at hS)) | ((with_reducible refine qA 6 ?_); refine qa hS #[.slice none 0 0] ?_; clear hS; intro g6 w_ hS) | ((with_reducible refine qA 12 ?_); refine BigFrame.wpList_want rfl fun _ hK => AU (v := .bool false) rfl rfl rfl rfl rfl (hK _ _ ?_)) | ((with_reducible refine qB ?_); refine qc ?_ ?_ <;> intro h_ <;> go_prune) | ((with_reducible refine qA 29 ?_); obtain ⟨b', o', y, n, e', _, _, c0, c1, c2, c3, c4, hy, hn⟩ := (kc.out _ _ hS.ro).2.2.at_ hlj; injection e' with e'; injection e' with e1 e2; subst e1 e2; rw [HZ.out] at c0 c3 c4 hy hn; dsimp only at c0 c3 c4 hy hn; obtain ⟨Ay, my, cy, rfl⟩ := hy.shape; obtain ⟨Am, mn, cm, rfl⟩ := hn.shape; replace hS := hS.add (D := CK _) (A5.and A5) ⟨hy, hn⟩ (fun _ h _ => h); refine BigFrame.wpList_want rfl fun _ hK => AP (cs := [.bool false, .slice Ay my cy, .slice Am mn cm, .int .i64 rt, .int .i64 ro]) rfl rfl (Ee c0 c1 c2 c3 c4) Tryz.underlying58 rfl (by kernel_rfl) (hK _ _ ?_)) | ((with_reducible refine qA 8 ?_); refine qa hS #[.bool false, .slice none 0 0, .slice none 0 0, .int .i64 0, .int .i64 0] ?_; clear hS; intro g8 w_ hS) | ((with_reducible refine qA 9 ?_); refine qa hS #[.slice none 0 0] ?_; clear hS; intro g9 w_ hS) | ((with_reducible refine qK ?_); refine qL hS Tryz.underlying27 ?_) | ((with_reducible refine qM ?_); (first | refine qS hS ?_ | refine qT hS ?_); clear hS; intro w_ hS; (try simp only [Act.put, Act.eval, zz, Value.cells] at hS)) | (go_at_call 59; refine (Dd _ N rt _ _ (HU.out _ _ (kc.out _ _ hS.ro.1).1)).mono ?_; rintro r_ w_ ⟨_, rfl, hM, hb_⟩; obtain ⟨A9, n9, l9, rfl, -⟩ := hM.parts; replace hS := hS.ret2 hb_ A5 hM; clear hb_ hM) | (go_at_call 23; refine (E8 _ N rt _ _ (HU.out _ _ (kc.out _ _ hS.ro.1.1).1)).mono ?_; rintro r_ w_ ⟨_, rfl, hM, hb_⟩; obtain ⟨A10, n10, l10, rfl, -⟩ := hM.parts; replace hS := hS.ret2 hb_ A5 hM; clear hb_ hM) | ((with_reducible refine qK ?_); refine qC hS ?_))
    simp only [Act.put, List.setIfInBounds_toArray, List.set_cons_zero, List.set_cons_succ, List.getElem_toArray, List.getElem_cons_zero]
    have HH := Lib.hid (HP.out.links L rfl).1
    obtain ⟨K7, x9, k7, hS2⟩ : ∃ (K7 : (Nat -> Prop) -> World -> Prop) (x9 : Value), Hid (∀ D w, K7 D w -> K D w /\ DY w D (.pointer (some ⟨q, 0, none⟩)) (some L) /\ A7 w D (.agg #[.slice Ay my cy]) ry /\ A7 w D (.agg #[.slice Am mn cm]) rn /\ A7 w D (.agg #[x9]) (Do N ⟨false, ry, rn, rt, ro⟩)) /\ St w0 w_ (.box g9 27 #[x9] :: .box g8 58 #[.bool false, .slice Ay my cy, .slice Am mn cm, .int .i64 rt, .int .i64 ro] :: .box g6 27 #[.slice none 0 0] :: .box g4 27 #[u] :: .box g3 31 #[.int .i64 R, .pointer (some ⟨q, 0, none⟩), .slice Cs ns cs, .slice (some ⟨b, o2, none⟩) rl.length cr, .slice An nl.length cn, .slice Ag gl.length cg] :: F) K7 := ⟨_, _, Lib.hid fun D w h => ⟨(kc.out _ _ h.1.1).1, (kc.out _ _ h.1.1).2.1, h.1.2.1, h.1.2.2, h.2⟩, hS⟩
    have hx9 : x9.oneCell' = true := by
     obtain ⟨A, c, l, e, -⟩ := (k7.out _ _ hS2.ro).2.2.2.2.parts
     injection e with e; injection e with e; injection e with e
     subst e; rfl
    clear hS
    have hS := hS2
    clear hS2
    obtain ⟨rb, hrb⟩ : ∃ rb, rb = false := ⟨_, rfl⟩
    have HRB := Lib.hid hrb
    rw [<- hrb] at k7
    clear hrb
    obtain ⟨hb, hhb⟩ : ∃ hb, AY N rt = hb := ⟨_, rfl⟩
    obtain ⟨ho, hho⟩ : ∃ ho, Bh (ry, rn) (closM L N) = ho := ⟨_, rfl⟩
    obtain ⟨M, hM⟩ : ∃ M, Do N ⟨rb, ry, rn, rt, ro⟩ = M := ⟨_, rfl⟩
    obtain ⟨gd, hgd⟩ : ∃ gd, goodB ⟨R, some L, st, rl, nl, gl⟩ M = gd := ⟨_, rfl⟩
    have HSB : Hid (stepB ⟨R, some L, st, rl, nl, gl⟩ N ⟨rb, ry, rn, rt, ro⟩ = !(((hb != rb) || (!rb && !ho)) || !gd)) := Lib.hid (by rw [<- hhb, <- hho, <- hgd, <- hM]; rfl)
    have HHB := Lib.hid hhb
    have HHO := Lib.hid hho
    have HGD := Lib.hid hgd
    have HNM := Lib.hid hM
    rw [HNM.out] at k7
    have HVV : Hid (V = if (!(((hb != rb) || (!rb && !ho)) || !gd)) = true then some M else none) := Lib.hid (by rw [HV.out, <- HRB.out, HNM.out, HSB.out])
    clear hhb hho hgd hM HV HSB HNM
    refine BU [.i (.agg #[u]), .q g8 3, .n rt, .i (.bool hb), .q g8 0, .i (.bool rb), .i (.bool (hb != rb)), .i (.bool (hb != rb)), .g (!(hb != rb)) (.pointer (some ⟨g8, 0, none⟩)), .g (!(hb != rb)) (.bool rb), .g (!(hb != rb)) (.bool (!rb)), .g (!(hb != rb)) (.bool (!rb)), .g ((!(hb != rb)) && (!rb)) (.pointer (some ⟨g8, 1, none⟩)), .g ((!(hb != rb)) && (!rb)) (.agg #[.slice Ay my cy, .slice Am mn cm]), .g ((!(hb != rb)) && (!rb)) (.pointer (some ⟨g3, 1, none⟩)), .g ((!(hb != rb)) && (!rb)) (.pointer (some ⟨q, 0, none⟩)), .g ((!(hb != rb)) && (!rb)) (.agg #[u]), (.s (fun v w => ((!(hb != rb)) && (!rb)) = true -> A7 w (fun _ => True) v (closM L N)) fun v w w' h hb hc => by replace h := h hc; exact h.ext hb), .g ((!(hb != rb)) && (!rb)) (.bool ho), .g ((!(hb != rb)) && (!rb)) (.bool (!ho)), .g (!(hb != rb)) (.bool ((!rb) && (!ho))), .i (.bool ((hb != rb) || ((!rb) && (!ho)))), .i (.bool ((hb != rb) || ((!rb) && (!ho)))), .g (!((hb != rb) || ((!rb) && (!ho)))) (.agg #[.int .i64 R, .pointer (some ⟨q, 0, none⟩), .slice Cs ns cs, .slice (some ⟨b, o2, none⟩) rl.length cr, .slice An nl.length cn, .slice Ag gl.length cg]), .g (!((hb != rb) || ((!rb) && (!ho)))) (.agg #[x9]), .g (!((hb != rb) || ((!rb) && (!ho)))) (.bool gd), .g (!((hb != rb) || ((!rb) && (!ho)))) (.bool (!gd)), .i (.bool (((hb != rb) || ((!rb) && (!ho))) || (!gd)))] ⟨uR (h := fun w hW hN => (hS.ext hW).box 3 rfl), uF, uC (h := fun w hW hN => (hS.ext hW).shut 1 rfl 3 rfl), ?_, uF, uC (h := fun w hW hN => by rw [HRB.out]; exact (hS.ext hW).shut 1 rfl 0 rfl), uB (h := fun w hW hN => by cases hb <;> cases rb <;> rfl), uM, (by cases hb <;> cases rb <;> first | exact uY | exact uX | exact uF), (by cases hb <;> cases rb <;> first | exact uY | exact uX | exact uC (h := fun w hW hN => by first | (rw [HRB.out]; exact (hS.ext hW).shut 1 rfl 0 rfl) | (rw [<- HRB.out]; exact (hS.ext hW).shut 1 rfl 0 rfl) | exact (hS.ext hW).shut 1 rfl 0 rfl)), (by cases hb <;> cases rb <;> first | exact uY | exact uX | exact uU), (by cases hb <;> cases rb <;> first | exact uY | exact uX | exact uM), (by cases hb <;> cases rb <;> first | exact uY | exact uX | exact uF), (by cases hb <;> cases rb <;> first | exact uY | exact uX | exact uD (h := fun w hW hN => rng2 ((hS.ext hW).shut 1 rfl 1 rfl) ((hS.ext hW).shut 1 rfl 2 rfl))), (by cases hb <;> cases rb <;> first | exact uY | exact uX | exact uF), (by cases hb <;> cases rb <;> first | exact uY | exact uX | exact uC (h := fun w hW hN => (hS.ext hW).shut 4 rfl 1 rfl)), (by cases hb <;> cases rb <;> first | exact uY | exact uX | exact uR (h := fun w hW hN => (hS.ext hW).box 3 rfl)), ?_, ?_, (by cases hb <;> cases rb <;> first | exact uY | exact uX | exact uU), (by cases hb <;> cases rb <;> first | exact uY | exact uX | exact uP), (by cases hb <;> cases rb <;> exact uP), uM, (by cases hb <;> cases rb <;> cases ho <;> first | exact uY | exact uX | exact uR (h := fun w hW hN => (hS.ext hW).box 4 rfl)), (by cases hb <;> cases rb <;> cases ho <;> first | exact uY | exact uX | exact uR (h := fun w hW hN => (hS.ext hW).box 0 rfl)), ?_, (by cases hb <;> cases rb <;> cases ho <;> first | exact uY | exact uX | exact uU), (by cases hb <;> cases rb <;> cases ho <;> exact uP), trivial⟩ ?_
    ·refine uT fun b__ w hW hE K hK => ?_
     have e40 := hE 40
     have e42 := hE 42
     exact Ai rfl (by kernel_rfl) (by simp only [List.map_cons, List.map_nil, e40, e42]) (Bx _ N rt w _ (HU.out _ _ (k7.out _ _ (hS.ext hW).ro).1)) fun v w' h hb_ => hK v w' (h.trans (by rw [HHB.out])) hb_
    ·cases hb <;> cases rb <;> first | exact uY | exact uX | (refine uT fun b__ w hW hE K hK => ?_; have e55 : b__.eval (.tmp 55) = .pointer (some ⟨q, 0, none⟩) := hE 55; have e56 : b__.eval (.tmp 56) = .agg #[u] := hE 56; (exact Ai rfl (by kernel_rfl) (by simp only [List.map_cons, List.map_nil, e55, e56]) (CE (show IsH _ _ _ L from (k7.out _ _ (hS.ext hW).ro).2.1) (HT.out _ _ (k7.out _ _ (hS.ext hW).ro).1) HH.out (HU.out _ _ (k7.out _ _ (hS.ext hW).ro).1)) fun v w' h hb => hK v w' (fun _ => h.imp fun _ _ _ => trivial) hb))
    ·cases hb <;> cases rb <;> first | exact uY | exact uX | (refine uT fun b__ w hW hE K hK => ?_; have e53 : b__.eval (.tmp 53) = .agg #[.slice Ay my cy, .slice Am mn cm] := hE 53; have e57 := hE 57; have e57 := e57 rfl; (exact Ai rfl (by kernel_rfl) (by simp only [List.map_cons, List.map_nil, e53]) (Gt (z := (ry, rn)) ⟨_, _, rfl, (k7.out _ _ (hS.ext hW).ro).2.2.1, (k7.out _ _ (hS.ext hW).ro).2.2.2.1⟩ e57) fun v w' h hb => hK v w' (h.trans (by rw [HHO.out]; rfl)) hb))
    ·cases hb <;> cases rb <;> cases ho <;> first | exact uY | exact uX | (refine uT fun b__ w hW hE K hK => ?_; have e63 : b__.eval (.tmp 63) = .agg #[.int .i64 R, .pointer (some ⟨q, 0, none⟩), .slice Cs ns cs, .slice (some ⟨b, o2, none⟩) rl.length cr, .slice An nl.length cn, .slice Ag gl.length cg] := hE 63; have e64 : b__.eval (.tmp 64) = .agg #[x9] := hE 64; (exact Ai rfl (by kernel_rfl) (by simp only [List.map_cons, List.map_nil, e63, e64]) (Ih (HK.out _ _ (k7.out _ _ (hS.ext hW).ro).1) HP.out (HT.out _ _ (k7.out _ _ (hS.ext hW).ro).1) (k7.out _ _ (hS.ext hW).ro).2.2.2.2) fun v w' h hb => hK v w' (h.trans (by rw [HGD.out]; rfl)) hb))
    ·intro vs wz hW hT
     obtain ⟨e40, e41, e42, e43, e44, e45, e46, e47, -, -, -, -, -, -, -, -, -, -, -, -, -, e61, e62, -, -, -, -, e67, -⟩ := hT
     have bx : (fun _ : Nat => True) 0 := trivial
     simp only [AB, Act.put, zz, ze]
     rw [e67]
     replace hS := hS.ext hW
     clear hW e67
     obtain ⟨E, hE⟩ : ∃ E : Bool, (((hb != rb) || (!rb && !ho)) || !gd) = E := ⟨_, rfl⟩
     rw [hE] at HVV ⊢
     clear hE HHB HHO HGD
     cases E
     ·go_wp2_with (first
       | ((with_reducible refine qK ?_); refine qL hS Tryz.underlying27 ?_)
       | ((with_reducible refine qm 27 ?_); refine B7 hS 2 rfl _ _ _ rfl _ _ rfl rfl _ _ rfl (by kernel_rfl) (by kernel_rfl) (by simpa using hx9) ?_; clear hS; intro w_ hS; (try simp only [Act.put, Act.eval, zz, Value.cells] at hS)))
      refine Cr Tryz.results34 rfl (hS.box 2 rfl) Tryz.underlying27 rfl (by kernel_rfl) rfl rfl ?_
      rw [show V = some M from HVV.out]
      exact ⟨_, rfl, (hS.sub (List.sublist_append_right [_, _, _, _, _] F)).mono (KS.out.and A5) fun D w h => ⟨(k7.out _ _ h).1, (k7.out _ _ h).2.2.2.2⟩⟩
     ·go_wp2_with (first
       | ((with_reducible refine qA 68 ?_); refine Av rfl _ _ rfl #[.slice none 0 0] (by kernel_rfl) ?_; (try simp only [Act.put, List.setIfInBounds_toArray, List.set_cons_zero, List.set_cons_succ]))
       | ((with_reducible refine qM ?_); (first | refine qS hS ?_ | refine qT hS ?_); clear hS; intro w_ hS; (try simp only [Act.put, Act.eval, zz, Value.cells] at hS)))
      refine Cr Tryz.results34 rfl (hS.box 2 rfl) Tryz.underlying27 rfl (by kernel_rfl) rfl rfl ?_
      rw [show V = none from HVV.out]
      exact ⟨_, rfl, (hS.sub (List.sublist_append_right [_, _, _, _, _] F)).mono (KS.out.and A5) fun D w h => ⟨(k7.out _ _ h).1, A7.empty⟩⟩
   ·go_enter Tryz.func34, Tryz.ntmps34
    go_wp2_with (first | ((with_reducible refine qA 3 ?_); refine AA hS rfl _ _ rfl (.agg #[.int .i64 R, .pointer (some ⟨q, 0, none⟩), .slice Cs ns cs, .slice (some ⟨b, o2, none⟩) rl.length cr, .slice An nl.length cn, .slice Ag gl.length cg]) _ rfl rfl ?_; clear hS; intro g3 w_ hS; (try simp only [Act.put, Act.eval, zz, Value.cells] at hS)) | ((with_reducible refine qA 4 ?_); refine AA hS rfl _ _ rfl (.agg #[u]) _ rfl rfl ?_; clear hS; intro g4 w_ hS; (try simp only [Act.put, Act.eval, zz, Value.cells] at hS)) | ((with_reducible refine qA 6 ?_); refine qa hS #[.slice none 0 0] ?_; clear hS; intro g6 w_ hS) | ((with_reducible refine qA 12 ?_); refine BigFrame.wpList_want rfl fun _ hK => AU (v := .bool false) rfl rfl rfl rfl rfl (hK _ _ ?_)) | ((with_reducible refine qB ?_); refine qc ?_ ?_ <;> intro h_ <;> go_prune) | ((with_reducible refine qA 29 ?_); obtain ⟨b', o', y, n, e', _, _, c0, c1, c2, c3, c4, hy, hn⟩ := (kc.out _ _ hS.ro).2.2.at_ hlj; injection e' with e'; injection e' with e1 e2; subst e1 e2; rw [HZ.out] at c0 c3 c4 hy hn; dsimp only at c0 c3 c4 hy hn; obtain ⟨Ay, my, cy, rfl⟩ := hy.shape; obtain ⟨Am, mn, cm, rfl⟩ := hn.shape; replace hS := hS.add (D := CK _) (A5.and A5) ⟨hy, hn⟩ (fun _ h _ => h); refine BigFrame.wpList_want rfl fun _ hK => AP (cs := [.bool true, .slice Ay my cy, .slice Am mn cm, .int .i64 rt, .int .i64 ro]) rfl rfl (Ee c0 c1 c2 c3 c4) Tryz.underlying58 rfl (by kernel_rfl) (hK _ _ ?_)) | ((with_reducible refine qA 8 ?_); refine qa hS #[.bool false, .slice none 0 0, .slice none 0 0, .int .i64 0, .int .i64 0] ?_; clear hS; intro g8 w_ hS) | ((with_reducible refine qA 9 ?_); refine qa hS #[.slice none 0 0] ?_; clear hS; intro g9 w_ hS) | ((with_reducible refine qK ?_); refine qL hS Tryz.underlying27 ?_) | ((with_reducible refine qM ?_); (first | refine qS hS ?_ | refine qT hS ?_); clear hS; intro w_ hS; (try simp only [Act.put, Act.eval, zz, Value.cells] at hS)) | (go_at_call 59; refine (Dd _ N rt _ _ (HU.out _ _ (kc.out _ _ hS.ro.1).1)).mono ?_; rintro r_ w_ ⟨_, rfl, hM, hb_⟩; obtain ⟨A9, n9, l9, rfl, -⟩ := hM.parts; replace hS := hS.ret2 hb_ A5 hM; clear hb_ hM) | (go_at_call 23; refine (E8 _ N rt _ _ (HU.out _ _ (kc.out _ _ hS.ro.1.1).1)).mono ?_; rintro r_ w_ ⟨_, rfl, hM, hb_⟩; obtain ⟨A10, n10, l10, rfl, -⟩ := hM.parts; replace hS := hS.ret2 hb_ A5 hM; clear hb_ hM) | ((with_reducible refine qK ?_); refine qC hS ?_))
    simp only [Act.put, List.setIfInBounds_toArray, List.set_cons_zero, List.set_cons_succ, List.getElem_toArray, List.getElem_cons_zero]
    have HH := Lib.hid (HP.out.links L rfl).1
    obtain ⟨K7, x9, k7, hS2⟩ : ∃ (K7 : (Nat -> Prop) -> World -> Prop) (x9 : Value), Hid (∀ D w, K7 D w -> K D w /\ DY w D (.pointer (some ⟨q, 0, none⟩)) (some L) /\ A7 w D (.agg #[.slice Ay my cy]) ry /\ A7 w D (.agg #[.slice Am mn cm]) rn /\ A7 w D (.agg #[x9]) (Do N ⟨true, ry, rn, rt, ro⟩)) /\ St w0 w_ (.box g9 27 #[x9] :: .box g8 58 #[.bool true, .slice Ay my cy, .slice Am mn cm, .int .i64 rt, .int .i64 ro] :: .box g6 27 #[.slice none 0 0] :: .box g4 27 #[u] :: .box g3 31 #[.int .i64 R, .pointer (some ⟨q, 0, none⟩), .slice Cs ns cs, .slice (some ⟨b, o2, none⟩) rl.length cr, .slice An nl.length cn, .slice Ag gl.length cg] :: F) K7 := ⟨_, _, Lib.hid fun D w h => ⟨(kc.out _ _ h.1.1.1).1, (kc.out _ _ h.1.1.1).2.1, h.1.1.2.1, h.1.1.2.2, h.2⟩, hS⟩
    have hx9 : x9.oneCell' = true := by
     obtain ⟨A, c, l, e, -⟩ := (k7.out _ _ hS2.ro).2.2.2.2.parts
     injection e with e; injection e with e; injection e with e
     subst e; rfl
    clear hS
    have hS := hS2
    clear hS2
    obtain ⟨rb, hrb⟩ : ∃ rb, rb = true := ⟨_, rfl⟩
    have HRB := Lib.hid hrb
    rw [<- hrb] at k7
    clear hrb
    obtain ⟨hb, hhb⟩ : ∃ hb, AY N rt = hb := ⟨_, rfl⟩
    obtain ⟨ho, hho⟩ : ∃ ho, Bh (ry, rn) (closM L N) = ho := ⟨_, rfl⟩
    obtain ⟨M, hM⟩ : ∃ M, Do N ⟨rb, ry, rn, rt, ro⟩ = M := ⟨_, rfl⟩
    obtain ⟨gd, hgd⟩ : ∃ gd, goodB ⟨R, some L, st, rl, nl, gl⟩ M = gd := ⟨_, rfl⟩
    have HSB : Hid (stepB ⟨R, some L, st, rl, nl, gl⟩ N ⟨rb, ry, rn, rt, ro⟩ = !(((hb != rb) || (!rb && !ho)) || !gd)) := Lib.hid (by rw [<- hhb, <- hho, <- hgd, <- hM]; rfl)
    have HHB := Lib.hid hhb
    have HHO := Lib.hid hho
    have HGD := Lib.hid hgd
    have HNM := Lib.hid hM
    rw [HNM.out] at k7
    have HVV : Hid (V = if (!(((hb != rb) || (!rb && !ho)) || !gd)) = true then some M else none) := Lib.hid (by rw [HV.out, <- HRB.out, HNM.out, HSB.out])
    clear hhb hho hgd hM HV HSB HNM
    refine BU [.i (.agg #[u]), .q g8 3, .n rt, .i (.bool hb), .q g8 0, .i (.bool rb), .i (.bool (hb != rb)), .i (.bool (hb != rb)), .g (!(hb != rb)) (.pointer (some ⟨g8, 0, none⟩)), .g (!(hb != rb)) (.bool rb), .g (!(hb != rb)) (.bool (!rb)), .g (!(hb != rb)) (.bool (!rb)), .g ((!(hb != rb)) && (!rb)) (.pointer (some ⟨g8, 1, none⟩)), .g ((!(hb != rb)) && (!rb)) (.agg #[.slice Ay my cy, .slice Am mn cm]), .g ((!(hb != rb)) && (!rb)) (.pointer (some ⟨g3, 1, none⟩)), .g ((!(hb != rb)) && (!rb)) (.pointer (some ⟨q, 0, none⟩)), .g ((!(hb != rb)) && (!rb)) (.agg #[u]), (.s (fun v w => ((!(hb != rb)) && (!rb)) = true -> A7 w (fun _ => True) v (closM L N)) fun v w w' h hb hc => by replace h := h hc; exact h.ext hb), .g ((!(hb != rb)) && (!rb)) (.bool ho), .g ((!(hb != rb)) && (!rb)) (.bool (!ho)), .g (!(hb != rb)) (.bool ((!rb) && (!ho))), .i (.bool ((hb != rb) || ((!rb) && (!ho)))), .i (.bool ((hb != rb) || ((!rb) && (!ho)))), .g (!((hb != rb) || ((!rb) && (!ho)))) (.agg #[.int .i64 R, .pointer (some ⟨q, 0, none⟩), .slice Cs ns cs, .slice (some ⟨b, o2, none⟩) rl.length cr, .slice An nl.length cn, .slice Ag gl.length cg]), .g (!((hb != rb) || ((!rb) && (!ho)))) (.agg #[x9]), .g (!((hb != rb) || ((!rb) && (!ho)))) (.bool gd), .g (!((hb != rb) || ((!rb) && (!ho)))) (.bool (!gd)), .i (.bool (((hb != rb) || ((!rb) && (!ho))) || (!gd)))] ⟨uR (h := fun w hW hN => (hS.ext hW).box 3 rfl), uF, uC (h := fun w hW hN => (hS.ext hW).shut 1 rfl 3 rfl), ?_, uF, uC (h := fun w hW hN => by rw [HRB.out]; exact (hS.ext hW).shut 1 rfl 0 rfl), uB (h := fun w hW hN => by cases hb <;> cases rb <;> rfl), uM, (by cases hb <;> cases rb <;> first | exact uY | exact uX | exact uF), (by cases hb <;> cases rb <;> first | exact uY | exact uX | exact uC (h := fun w hW hN => by first | (rw [HRB.out]; exact (hS.ext hW).shut 1 rfl 0 rfl) | (rw [<- HRB.out]; exact (hS.ext hW).shut 1 rfl 0 rfl) | exact (hS.ext hW).shut 1 rfl 0 rfl)), (by cases hb <;> cases rb <;> first | exact uY | exact uX | exact uU), (by cases hb <;> cases rb <;> first | exact uY | exact uX | exact uM), (by cases hb <;> cases rb <;> first | exact uY | exact uX | exact uF), (by cases hb <;> cases rb <;> first | exact uY | exact uX | exact uD (h := fun w hW hN => rng2 ((hS.ext hW).shut 1 rfl 1 rfl) ((hS.ext hW).shut 1 rfl 2 rfl))), (by cases hb <;> cases rb <;> first | exact uY | exact uX | exact uF), (by cases hb <;> cases rb <;> first | exact uY | exact uX | exact uC (h := fun w hW hN => (hS.ext hW).shut 4 rfl 1 rfl)), (by cases hb <;> cases rb <;> first | exact uY | exact uX | exact uR (h := fun w hW hN => (hS.ext hW).box 3 rfl)), ?_, ?_, (by cases hb <;> cases rb <;> first | exact uY | exact uX | exact uU), (by cases hb <;> cases rb <;> first | exact uY | exact uX | exact uP), (by cases hb <;> cases rb <;> exact uP), uM, (by cases hb <;> cases rb <;> cases ho <;> first | exact uY | exact uX | exact uR (h := fun w hW hN => (hS.ext hW).box 4 rfl)), (by cases hb <;> cases rb <;> cases ho <;> first | exact uY | exact uX | exact uR (h := fun w hW hN => (hS.ext hW).box 0 rfl)), ?_, (by cases hb <;> cases rb <;> cases ho <;> first | exact uY | exact uX | exact uU), (by cases hb <;> cases rb <;> cases ho <;> exact uP), trivial⟩ ?_
    ·refine uT fun b__ w hW hE K hK => ?_
     have e40 := hE 40
     have e42 := hE 42
     exact Ai rfl (by kernel_rfl) (by simp only [List.map_cons, List.map_nil, e40, e42]) (Bx _ N rt w _ (HU.out _ _ (k7.out _ _ (hS.ext hW).ro).1)) fun v w' h hb_ => hK v w' (h.trans (by rw [HHB.out])) hb_
    ·cases hb <;> cases rb <;> first | exact uY | exact uX | (refine uT fun b__ w hW hE K hK => ?_; have e55 : b__.eval (.tmp 55) = .pointer (some ⟨q, 0, none⟩) := hE 55; have e56 : b__.eval (.tmp 56) = .agg #[u] := hE 56; (exact Ai rfl (by kernel_rfl) (by simp only [List.map_cons, List.map_nil, e55, e56]) (CE (show IsH _ _ _ L from (k7.out _ _ (hS.ext hW).ro).2.1) (HT.out _ _ (k7.out _ _ (hS.ext hW).ro).1) HH.out (HU.out _ _ (k7.out _ _ (hS.ext hW).ro).1)) fun v w' h hb => hK v w' (fun _ => h.imp fun _ _ _ => trivial) hb))
    ·cases hb <;> cases rb <;> first | exact uY | exact uX | (refine uT fun b__ w hW hE K hK => ?_; have e53 : b__.eval (.tmp 53) = .agg #[.slice Ay my cy, .slice Am mn cm] := hE 53; have e57 := hE 57; have e57 := e57 rfl; (exact Ai rfl (by kernel_rfl) (by simp only [List.map_cons, List.map_nil, e53]) (Gt (z := (ry, rn)) ⟨_, _, rfl, (k7.out _ _ (hS.ext hW).ro).2.2.1, (k7.out _ _ (hS.ext hW).ro).2.2.2.1⟩ e57) fun v w' h hb => hK v w' (h.trans (by rw [HHO.out]; rfl)) hb))
    ·cases hb <;> cases rb <;> cases ho <;> first | exact uY | exact uX | (refine uT fun b__ w hW hE K hK => ?_; have e63 : b__.eval (.tmp 63) = .agg #[.int .i64 R, .pointer (some ⟨q, 0, none⟩), .slice Cs ns cs, .slice (some ⟨b, o2, none⟩) rl.length cr, .slice An nl.length cn, .slice Ag gl.length cg] := hE 63; have e64 : b__.eval (.tmp 64) = .agg #[x9] := hE 64; (exact Ai rfl (by kernel_rfl) (by simp only [List.map_cons, List.map_nil, e63, e64]) (Ih (HK.out _ _ (k7.out _ _ (hS.ext hW).ro).1) HP.out (HT.out _ _ (k7.out _ _ (hS.ext hW).ro).1) (k7.out _ _ (hS.ext hW).ro).2.2.2.2) fun v w' h hb => hK v w' (h.trans (by rw [HGD.out]; rfl)) hb))
    ·intro vs wz hW hT
     obtain ⟨e40, e41, e42, e43, e44, e45, e46, e47, -, -, -, -, -, -, -, -, -, -, -, -, -, e61, e62, -, -, -, -, e67, -⟩ := hT
     have bx : (fun _ : Nat => True) 0 := trivial
     simp only [AB, Act.put, zz, ze]
     rw [e67]
     replace hS := hS.ext hW
     clear hW e67
     obtain ⟨E, hE⟩ : ∃ E : Bool, (((hb != rb) || (!rb && !ho)) || !gd) = E := ⟨_, rfl⟩
     rw [hE] at HVV ⊢
     clear hE HHB HHO HGD
     cases E
     ·go_wp2_with (first
       | ((with_reducible refine qK ?_); refine qL hS Tryz.underlying27 ?_)
       | ((with_reducible refine qm 27 ?_); refine B7 hS 2 rfl _ _ _ rfl _ _ rfl rfl _ _ rfl (by kernel_rfl) (by kernel_rfl) (by simpa using hx9) ?_; clear hS; intro w_ hS; (try simp only [Act.put, Act.eval, zz, Value.cells] at hS)))
      refine Cr Tryz.results34 rfl (hS.box 2 rfl) Tryz.underlying27 rfl (by kernel_rfl) rfl rfl ?_
      rw [show V = some M from HVV.out]
      exact ⟨_, rfl, (hS.sub (List.sublist_append_right [_, _, _, _, _] F)).mono (KS.out.and A5) fun D w h => ⟨(k7.out _ _ h).1, (k7.out _ _ h).2.2.2.2⟩⟩
     ·go_wp2_with (first
       | ((with_reducible refine qA 68 ?_); refine Av rfl _ _ rfl #[.slice none 0 0] (by kernel_rfl) ?_; (try simp only [Act.put, List.setIfInBounds_toArray, List.set_cons_zero, List.set_cons_succ]))
       | ((with_reducible refine qM ?_); (first | refine qS hS ?_ | refine qT hS ?_); clear hS; intro w_ hS; (try simp only [Act.put, Act.eval, zz, Value.cells] at hS)))
      refine Cr Tryz.results34 rfl (hS.box 2 rfl) Tryz.underlying27 rfl (by kernel_rfl) rfl rfl ?_
      rw [show V = none from HVV.out]
      exact ⟨_, rfl, (hS.sub (List.sublist_append_right [_, _, _, _, _] F)).mono (KS.out.and A5) fun D w h => ⟨(k7.out _ _ h).1, A7.empty⟩⟩
 ·rw [stepM_none (p := ⟨R, lk, st, rl, nl, gl⟩) hk]
  cases lk with
  | none =>
   obtain rfl : la = none := by have := (kc.out _ _ hS.ro).2.1; injection this
   go_enter Tryz.func34, Tryz.ntmps34
   go_wp2_with (first | ((with_reducible refine qA 3 ?_); refine AA hS rfl _ _ rfl (.agg #[.int .i64 R, .pointer none, .slice Cs ns cs, .slice Ar rl.length cr, .slice An nl.length cn, .slice Ag gl.length cg]) _ rfl rfl ?_; clear hS; intro g3 w_ hS; (try simp only [Act.put, Act.eval, zz, Value.cells] at hS)) | ((with_reducible refine qA 4 ?_); refine AA hS rfl _ _ rfl (.agg #[u]) _ rfl rfl ?_; clear hS; intro g4 w_ hS; (try simp only [Act.put, Act.eval, zz, Value.cells] at hS)) | ((with_reducible refine qA 6 ?_); refine qa hS #[.slice none 0 0] ?_; clear hS; intro g6 w_ hS) | ((with_reducible refine qA 12 ?_); refine BigFrame.wpList_want rfl fun _ hK => AU (v := .bool true) rfl rfl rfl rfl rfl (hK _ _ ?_)) | ((with_reducible refine qA 24 ?_); refine Av rfl _ _ rfl #[.slice none 0 0] (by kernel_rfl) ?_; (try simp only [Act.put, List.setIfInBounds_toArray, List.set_cons_zero, List.set_cons_succ])) | ((with_reducible refine qB ?_); refine qc ?_ ?_ <;> intro h_ <;> go_prune) | ((with_reducible refine qM ?_); (first | refine qS hS ?_ | refine qT hS ?_); clear hS; intro w_ hS; (try simp only [Act.put, Act.eval, zz, Value.cells] at hS)) | ((with_reducible refine qK ?_); refine qC hS ?_))
   refine Cr Tryz.results34 rfl (hS.box 0 rfl) Tryz.underlying27 rfl (by kernel_rfl) rfl rfl ?_; exact ⟨_, rfl, (hS.sub (List.sublist_append_right [_, _, _] F)).mono (KS.out.and A5) fun D w h => ⟨(kc.out _ _ h).1, A7.empty⟩⟩
  | some L =>
   obtain ⟨q, o, e, -⟩ := id (kc.out _ _ hS.ro).2.1
   injection e with e
   subst e
   have hk' : k < 0 \/ rl.length <= k := by
    rcases Int.lt_or_le k 0 with h | h
    ·exact .inl h
    ·exact .inr (by rcases Int.lt_or_le k rl.length with h2 | h2; exact absurd ⟨h, h2, rfl⟩ hk; exact h2)
   clear hk
   go_enter Tryz.func34, Tryz.ntmps34
   go_wp2_with (first | ((with_reducible refine qA 3 ?_); refine AA hS rfl _ _ rfl (.agg #[.int .i64 R, .pointer (some ⟨q, 0, none⟩), .slice Cs ns cs, .slice Ar rl.length cr, .slice An nl.length cn, .slice Ag gl.length cg]) _ rfl rfl ?_; clear hS; intro g3 w_ hS; (try simp only [Act.put, Act.eval, zz, Value.cells] at hS)) | ((with_reducible refine qA 4 ?_); refine AA hS rfl _ _ rfl (.agg #[u]) _ rfl rfl ?_; clear hS; intro g4 w_ hS; (try simp only [Act.put, Act.eval, zz, Value.cells] at hS)) | ((with_reducible refine qA 6 ?_); refine qa hS #[.slice none 0 0] ?_; clear hS; intro g6 w_ hS) | ((with_reducible refine qA 12 ?_); refine BigFrame.wpList_want rfl fun _ hK => AU (v := .bool false) rfl rfl rfl rfl rfl (hK _ _ ?_)) | ((with_reducible refine qA 24 ?_); refine Av rfl _ _ rfl #[.slice none 0 0] (by kernel_rfl) ?_; (try simp only [Act.put, List.setIfInBounds_toArray, List.set_cons_zero, List.set_cons_succ])) | ((with_reducible refine qB ?_); refine qc ?_ ?_ <;> intro h_ <;> go_prune) | ((with_reducible refine qM ?_); (first | refine qS hS ?_ | refine qT hS ?_); clear hS; intro w_ hS; (try simp only [Act.put, Act.eval, zz, Value.cells] at hS)) | ((with_reducible refine qK ?_); refine qC hS ?_))
   all_goals
    refine Cr Tryz.results34 rfl (hS.box 0 rfl) Tryz.underlying27 rfl (by kernel_rfl) rfl rfl ?_; exact ⟨_, rfl, (hS.sub (List.sublist_append_right [_, _, _] F)).mono (KS.out.and A5) fun D w h => ⟨(kc.out _ _ h).1, A7.empty⟩⟩
end
section
open Go.RowKit
attribute [local go_sem ↓] Go.wp_at_zero Go.wp_at_succ
set_option maxRecDepth 20000
set_option exponentiation.threshold 5000
def RunR (w0 : World) (F : List Ae) (K : (Nat -> Prop) -> World -> Prop) (p : Aq) (l : List Int) (e : Ending) (w' : World) : Prop :=
 ∃ (x : Value) (N n : Nat) (b : Bool), e = .returned (.tuple #[x, .int .i64 (n : Nat), .bool b]) /\ Hid (runTo p p.start 0 l = (N, n, b)) /\ St w0 w' F fun D w => K D w /\ A7 w D x N
set_option maxHeartbeats 4000000 in
theorem Fw {w0 w : World} {F : List Ae} {K : (Nat -> Prop) -> World -> Prop} {v pv : Value} {p : Aq} {L : List (Nat × Nat)} {l : List Int} (hl : p.links = some L) (hP : p.Ok) (hlen : l.length <= 1000000) (hS : St w0 w F K) (kp : ∀ D w, K D w -> B6 w D v p) (kv : ∀ D w, K D w -> Sl w D 1 pv l.length (AK l)) (kt : ∀ D w, K D w -> Bw w) :
  Calls Tryz.prog 37 #[v, pv] w (RunR w0 F K p l) := by
 obtain ⟨Ap, cp, rfl, _, _⟩ := (kv _ _ hS.ro).shape
 obtain ⟨R, lk, st, rl, nl, gl⟩ := p
 obtain rfl : lk = some L := hl
 obtain ⟨lp, s, rv, nv, gv, rfl, h1, h2, h3, h4, h5⟩ := kp _ _ hS.ro
 dsimp only at h1 h2 h3 h4 h5
 obtain ⟨q, o, rfl, -⟩ := id h1
 obtain ⟨Cs, ns, cs, rfl⟩ := h2.shape
 obtain ⟨Ar, cr, rfl, _, _⟩ := h3.shape
 obtain ⟨An, cn, rfl, _, _⟩ := h4.shape
 obtain ⟨Ag, cg, rfl, _, _⟩ := h5.shape
 obtain ⟨KC, kc, hS2⟩ : ∃ KC : (Nat -> Prop) -> World -> Prop, Hid (∀ D w, KC D w -> K D w /\ A7 w D (.agg #[.slice Cs ns cs]) st) /\ St w0 w F KC := ⟨_, Lib.hid fun D w h => ⟨h.1, h.2⟩, hS.add (D := CK F) A5 h2 fun _ h _ => h⟩
 have KS := Lib.hid hS.stable
 clear hS h1 h2 h3 h4 h5
 have hS := hS2
 clear hS2
 have HP := Lib.hid hP
 have HK := Lib.hid kp
 have HT := Lib.hid kt
 clear hP kp kt
 have HV := Lib.hid kv
 clear kv
 go_enter Tryz.func37, Tryz.ntmps37
 go_wp2_with (first
  | ((with_reducible refine qA 2 ?_); refine AA hS rfl _ _ rfl (.agg #[.int .i64 R, .pointer (some ⟨q, 0, none⟩), .slice Cs ns cs, .slice Ar rl.length cr, .slice An nl.length cn, .slice Ag gl.length cg]) _ rfl rfl ?_; clear hS; intro g2 w_ hS; (try simp only [Act.put, Act.eval, zz, Value.cells] at hS))
  | ((with_reducible refine qA 4 ?_); refine qa hS #[.slice none 0 0] ?_; clear hS; intro g4 w_ hS)
  | ((with_reducible refine qA 14 ?_); refine BigFrame.wpList_want rfl fun _ hK => AU (v := .bool false) rfl rfl rfl rfl rfl (hK _ _ ?_))
  | ((with_reducible refine qA 7 ?_); refine qa hS #[.slice none 0 0] ?_; clear hS; intro g7 w_ hS)
  | ((with_reducible refine qk 27 ?_); first | (refine Aa hS 0 rfl _ _ rfl _ _ rfl _ _ rfl _ (by first | rfl | assumption) Tryz.underlying27 rfl (by kernel_rfl) ?_) | (refine Aa hS 1 rfl _ _ rfl _ _ rfl _ _ rfl _ (by first | rfl | assumption) Tryz.underlying27 rfl (by kernel_rfl) ?_) | (refine Aa hS 2 rfl _ _ rfl _ _ rfl _ _ rfl _ (by first | rfl | assumption) Tryz.underlying27 rfl (by kernel_rfl) ?_) | (refine Aa hS 3 rfl _ _ rfl _ _ rfl _ _ rfl _ (by first | rfl | assumption) Tryz.underlying27 rfl (by kernel_rfl) ?_) | (refine Aa hS 4 rfl _ _ rfl _ _ rfl _ _ rfl _ (by first | rfl | assumption) Tryz.underlying27 rfl (by kernel_rfl) ?_) | (refine Aa hS 5 rfl _ _ rfl _ _ rfl _ _ rfl _ (by first | rfl | assumption) Tryz.underlying27 rfl (by kernel_rfl) ?_))
  | ((with_reducible refine qM ?_); (first | refine qS hS ?_ | refine qT hS ?_); clear hS; intro w_ hS; (try simp only [Act.put, Act.eval, zz, Value.cells] at hS))
  | ((with_reducible refine qK ?_); refine qC hS ?_))
 go_loopw [20] (fun iv wr => ∃ (j N : Nat) (u : Value), iv = .int .i64 (j : Nat) /\ j <= l.length /\ u.oneCell' = true /\ Hid (runTo ⟨R, some L, st, rl, nl, gl⟩ st 0 l = runTo ⟨R, some L, st, rl, nl, gl⟩ N j (l.drop j)) /\ St w0 wr (.box g7 27 #[u] :: .box g4 27 #[.slice none 0 0] :: .box g2 31 #[.int .i64 R, .pointer (some ⟨q, 0, none⟩), .slice Cs ns cs, .slice Ar rl.length cr, .slice An nl.length cn, .slice Ag gl.length cg] :: F) (fun D w => K D w /\ A7 w D (.agg #[u]) N)) (fun i _ => l.length - (intOf i).toNat)
 case atStart => exact ⟨0, st, _, rfl, by omega, rfl, Lib.hid rfl, hS.mono (KS.out.and A5) fun D w h => kc.out D w h⟩
 case round =>
  clear hS
  obtain ⟨j, N, u, rfl, hj, hu, HR, hS⟩ := hrel
  by_cases hjl : j < l.length
  ·obtain ⟨bp, op, rfl⟩ := sl_pos (HV.out _ _ hS.ro.1) (by omega)
   obtain ⟨k, hk⟩ : ∃ k, l[j]? = some k := ⟨_, List.getElem?_eq_getElem hjl⟩
   have HY : Hid ((AK l)[j]? = some (.int .i64 k)) := Lib.hid (by simp [AK, hk])
   have hd : l.drop j = k :: l.drop (j + 1) := by
    rw [List.drop_eq_getElem_cons hjl]
    congr 1
    rw [List.getElem?_eq_getElem hjl] at hk
    exact Option.some.inj hk
   rw [hd] at HR
   obtain ⟨V, hV⟩ : ∃ V, stepM ⟨R, some L, st, rl, nl, gl⟩ N k = V := ⟨_, rfl⟩
   have HVV := Lib.hid hV
   clear hk hd hV
   cases V with
   | none =>
    go_wp2_with (first
     | ((with_reducible refine qB ?_); refine qc ?_ ?_ <;> intro h_ <;> go_prune)
     | ((with_reducible refine qk 3 ?_); refine BigFrame.wpList_want rfl fun _ hK => Af rfl rfl (by kernel_rfl) (Dk (HV.out _ _ hS.ro.1) HY.out) (hK _ _ ?_))
     | ((with_reducible refine qK ?_); refine qL hS Tryz.underlying31 ?_)
     | ((with_reducible refine qK ?_); refine qL hS Tryz.underlying27 ?_)
     | (go_at_call 34; refine (Gk (N := N) k HP.out hS (fun D w h => HK.out _ _ h.1) (fun D w h => h.2) (fun D w h => HT.out _ _ h.1)).mono ?_; clear hS; rw [HVV.out]; rintro e w_ ⟨x, rfl, hS⟩; obtain ⟨u', rfl, hu'⟩ := BM hS.ro.2)
     | ((with_reducible refine qA 10 ?_); refine qa hS #[.slice none 0 0] ?_; clear hS; intro g10 w_ hS)
     | ((with_reducible refine qm 27 ?_); (first | refine B7 hS 0 rfl _ _ _ rfl _ _ rfl rfl _ _ rfl (by kernel_rfl) (by kernel_rfl) (by first | (simpa using hu') | (simpa using hu)) ?_ | refine B7 hS 1 rfl _ _ _ rfl _ _ rfl rfl _ _ rfl (by kernel_rfl) (by kernel_rfl) (by first | (simpa using hu') | (simpa using hu)) ?_ | refine B7 hS 2 rfl _ _ _ rfl _ _ rfl rfl _ _ rfl (by kernel_rfl) (by kernel_rfl) (by first | (simpa using hu') | (simpa using hu)) ?_); clear hS; intro w_ hS; (try simp only [Act.put, Act.eval, zz, Value.cells] at hS)))
    refine Ey Tryz.results37 rfl (hS.box 2 rfl) Tryz.underlying27 rfl (by kernel_rfl) rfl rfl rfl ?_
    exact ⟨_, N, j, false, rfl, Lib.hid (by rw [HR.out]; exact DN HVV.out), (hS.sub (List.sublist_append_right [_, _, _, _] F)).mono (KS.out.and A5) fun D w h => ⟨h.1.1, h.1.2⟩⟩
   | some M =>
    go_wp2_with (first
     | ((with_reducible refine qB ?_); refine qc ?_ ?_ <;> intro h_ <;> go_prune)
     | ((with_reducible refine qk 3 ?_); refine BigFrame.wpList_want rfl fun _ hK => Af rfl rfl (by kernel_rfl) (Dk (HV.out _ _ hS.ro.1) HY.out) (hK _ _ ?_))
     | ((with_reducible refine qK ?_); refine qL hS Tryz.underlying31 ?_)
     | ((with_reducible refine qK ?_); refine qL hS Tryz.underlying27 ?_)
     | (go_at_call 34; refine (Gk (N := N) k HP.out hS (fun D w h => HK.out _ _ h.1) (fun D w h => h.2) (fun D w h => HT.out _ _ h.1)).mono ?_; clear hS; rw [HVV.out]; rintro e w_ ⟨x, rfl, hS⟩; obtain ⟨u', rfl, hu'⟩ := BM hS.ro.2)
     | ((with_reducible refine qA 10 ?_); refine qa hS #[.slice none 0 0] ?_; clear hS; intro g10 w_ hS)
     | ((with_reducible refine qm 27 ?_); (first | refine B7 hS 0 rfl _ _ _ rfl _ _ rfl rfl _ _ rfl (by kernel_rfl) (by kernel_rfl) (by first | (simpa using hu') | (simpa using hu)) ?_ | refine B7 hS 1 rfl _ _ _ rfl _ _ rfl rfl _ _ rfl (by kernel_rfl) (by kernel_rfl) (by first | (simpa using hu') | (simpa using hu)) ?_ | refine B7 hS 2 rfl _ _ _ rfl _ _ rfl rfl _ _ rfl (by kernel_rfl) (by kernel_rfl) (by first | (simpa using hu') | (simpa using hu)) ?_); clear hS; intro w_ hS; (try simp only [Act.put, Act.eval, zz, Value.cells] at hS)))
    exact ⟨⟨j + 1, M, u', by go_num, hjl, hu', Lib.hid (by rw [HR.out]; exact C9 HVV.out), (hS.sub (List.sublist_cons_self _ _)).mono (KS.out.and A5) fun D w h => ⟨h.1.1, h.2⟩⟩, by simp [intOf]; omega⟩
  ·obtain rfl : j = l.length := by omega
   rw [List.drop_length] at HR
   go_wp2_with (first
    | ((with_reducible refine qB ?_); refine qc ?_ ?_ <;> intro h_ <;> go_prune)
    | ((with_reducible refine qK ?_); refine qL hS Tryz.underlying27 ?_)
    | ((with_reducible refine qm 27 ?_); (first | refine B7 hS 0 rfl _ _ _ rfl _ _ rfl rfl _ _ rfl (by kernel_rfl) (by kernel_rfl) (by simpa using hu) ?_ | refine B7 hS 1 rfl _ _ _ rfl _ _ rfl rfl _ _ rfl (by kernel_rfl) (by kernel_rfl) (by simpa using hu) ?_ | refine B7 hS 2 rfl _ _ _ rfl _ _ rfl rfl _ _ rfl (by kernel_rfl) (by kernel_rfl) (by simpa using hu) ?_); clear hS; intro w_ hS; (try simp only [Act.put, Act.eval, zz, Value.cells] at hS)))
   refine Ey Tryz.results37 rfl (hS.box 1 rfl) Tryz.underlying27 rfl (by kernel_rfl) rfl rfl rfl ?_
   exact ⟨_, N, l.length, true, rfl, Lib.hid HR.out, (hS.sub (List.sublist_append_right [_, _, _] F)).mono (KS.out.and A5) fun D w h => h⟩
theorem run_conv8u {w : World} {n : Nat} (h : n < 256) : (convert 5 3 (.int .u8 (n : Nat))).run Tryz.prog w = .ok (.int .i64 (n : Nat)) w := by
 go_simp
 exact Fb (by omega)
theorem sl_take12 {w : World} {D : Nat -> Prop} {A : Option Addr} {m c : Nat} {l : List Nat} (h : Sl w D 1 (.slice A m c) m (Gc l)) (hm : m = l.length) : Sl w D 1 (.slice A (min m 12) c) (min m 12) (Gc (l.take 12)) := by
 have := h.take (k := min m 12) (Nat.min_le_left ..)
 rwa [show (Gc l).take (min m 12) = Gc (l.take 12) by
  unfold Gc
  rw [<- List.map_take]
  congr 1
  rw [hm, List.take_eq_take_iff]
  omega] at this
def WalkR (w0 : World) (F : List Ae) (K : (Nat -> Prop) -> World -> Prop) (p : Aq) (e : Ending) (w' : World) : Prop :=
 ∃ (u : Value) (pl : List Int) (N : Nat), e = .returned u /\ pl.length <= 12 /\ Hid (runTo p p.start 0 pl = (N, pl.length, true)) /\ St w0 w' F fun D w => K D w /\ Sl w D 1 u pl.length (AK pl)
set_option maxHeartbeats 4000000 in
theorem lwalk_any {w0 w : World} {F : List Ae} {K : (Nat -> Prop) -> World -> Prop} {v bv : Value} {p : Aq} {L : List (Nat × Nat)} {l : List Nat} (hl : p.links = some L) (hP : p.Ok) (hr1 : p.rules.length <= 1000) (hlb : ∀ x ∈ l, x < 256) (hS : St w0 w F K) (kp : ∀ D w, K D w -> B6 w D v p) (kv : ∀ D w, K D w -> Sl w D 1 bv l.length (Gc l)) (kt : ∀ D w, K D w -> Bw w) :
  Calls Tryz.prog 35 #[v, bv] w (WalkR w0 F K p) := by
 obtain ⟨Ap, cp, rfl, hcp, _⟩ := (kv _ _ hS.ro).shape
 obtain ⟨R, lk, st, rl, nl, gl⟩ := p
 obtain rfl : lk = some L := hl
 obtain ⟨lp, s, rv, nv, gv, rfl, h1, h2, h3, h4, h5⟩ := kp _ _ hS.ro
 dsimp only at h1 h2 h3 h4 h5
 obtain ⟨q, o, rfl, -⟩ := id h1
 obtain ⟨Cs, ns, cs, rfl⟩ := h2.shape
 obtain ⟨Ar, cr, rfl, _, _⟩ := h3.shape
 obtain ⟨An, cn, rfl, _, _⟩ := h4.shape
 obtain ⟨Ag, cg, rfl, _, _⟩ := h5.shape
 obtain ⟨KC, kc, hS2⟩ : ∃ KC : (Nat -> Prop) -> World -> Prop, Hid (∀ D w, KC D w -> K D w /\ A7 w D (.agg #[.slice Cs ns cs]) st) /\ St w0 w F KC := ⟨_, Lib.hid fun D w h => ⟨h.1, h.2⟩, hS.add (D := CK F) A5 h2 fun _ h _ => h⟩
 have KS := Lib.hid hS.stable
 clear hS h1 h2 h3 h4 h5
 have hS := hS2
 clear hS2
 have HP := Lib.hid hP
 have HK := Lib.hid kp
 have HT := Lib.hid kt
 clear hP kp kt
 dsimp only at hr1
 have HV := Lib.hid fun D w (h : K D w) => sl_take12 (kv D w h) rfl
 have HLB := Lib.hid hlb
 clear kv hlb
 obtain ⟨l2, hl2⟩ : ∃ l2, l.take 12 = l2 := ⟨_, rfl⟩
 rw [hl2] at HV
 have HL2 := Lib.hid fun x (hx : x ∈ l2) => HLB.out x (List.mem_of_mem_take (by rw [hl2]; exact hx))
 have hlen2 : min l.length 12 = l2.length := by rw [<- hl2, List.length_take]; omega
 have h12 : l2.length <= 12 := by omega
 rw [hlen2] at HV
 clear hl2
 go_enter Tryz.func35, Tryz.ntmps35
 go_wp2_with (first
  | ((with_reducible refine qA 2 ?_); refine AA hS rfl _ _ rfl (.agg #[.int .i64 R, .pointer (some ⟨q, 0, none⟩), .slice Cs ns cs, .slice Ar rl.length cr, .slice An nl.length cn, .slice Ag gl.length cg]) _ rfl rfl ?_; clear hS; intro g2 w_ hS; (try simp only [Act.put, Act.eval, zz, Value.cells] at hS))
  | ((with_reducible refine qA 6 ?_); refine qa hS #[.slice none 0 0] ?_; clear hS; intro g6 w_ hS)
  | ((with_reducible refine qA 17 ?_); refine BigFrame.wpList_want rfl fun _ hK => opw_min (m := 12) rfl rfl rfl (hK _ _ ?_))
  | ((with_reducible refine qA 18 ?_); refine BigFrame.wpList_want rfl fun _ hK => H9 (k := min l.length 12) rfl Tryz.underlying22 ⟨1, by kernel_rfl⟩ rfl rfl (by omega) (hK _ _ ?_))
  | ((with_reducible refine qk 27 ?_); first | (refine Aa hS 0 rfl _ _ rfl _ _ rfl _ _ rfl _ (by first | rfl | assumption) Tryz.underlying27 rfl (by kernel_rfl) ?_) | (refine Aa hS 1 rfl _ _ rfl _ _ rfl _ _ rfl _ (by first | rfl | assumption) Tryz.underlying27 rfl (by kernel_rfl) ?_) | (refine Aa hS 2 rfl _ _ rfl _ _ rfl _ _ rfl _ (by first | rfl | assumption) Tryz.underlying27 rfl (by kernel_rfl) ?_) | (refine Aa hS 3 rfl _ _ rfl _ _ rfl _ _ rfl _ (by first | rfl | assumption) Tryz.underlying27 rfl (by kernel_rfl) ?_) | (refine Aa hS 4 rfl _ _ rfl _ _ rfl _ _ rfl _ (by first | rfl | assumption) Tryz.underlying27 rfl (by kernel_rfl) ?_) | (refine Aa hS 5 rfl _ _ rfl _ _ rfl _ _ rfl _ (by first | rfl | assumption) Tryz.underlying27 rfl (by kernel_rfl) ?_))
  | ((with_reducible refine qM ?_); (first | refine qS hS ?_ | refine qT hS ?_); clear hS; intro w_ hS; (try simp only [Act.put, Act.eval, zz, Value.cells] at hS))
  | ((with_reducible refine qK ?_); refine qC hS ?_))
 replace hS := hS.nil 3 1
 go_loopw [5, 20] (fun kw iv wr => ∃ (j N : Nat) (u kv : Value) (pl : List Int), iv = .int .i64 (j : Nat) /\ kv = kw /\ j <= l2.length /\ pl.length <= j /\ u.oneCell' = true /\ Hid (runTo ⟨R, some L, st, rl, nl, gl⟩ st 0 pl = (N, pl.length, true)) /\ St w0 wr (.own kv 3 1 pl.length (AK pl) :: .box g6 27 #[u] :: .box g2 31 #[.int .i64 R, .pointer (some ⟨q, 0, none⟩), .slice Cs ns cs, .slice Ar rl.length cr, .slice An nl.length cn, .slice Ag gl.length cg] :: F) (fun D w => K D w /\ A7 w D (.agg #[u]) N)) (fun _ i _ => l2.length - (intOf i).toNat)
 case atStart => exact ⟨0, st, _, _, [], rfl, rfl, by omega, by simp, rfl, Lib.hid rfl, hS.mono (KS.out.and A5) fun D w h => kc.out D w h⟩
 case round =>
  clear hS
  obtain ⟨j, N, u, kv, pl, rfl, rfl, hj, hpl, hu, HR, hS⟩ := hrel
  by_cases hjl : j < l2.length
  ·obtain ⟨bp, op, rfl⟩ := sl_pos (HV.out _ _ hS.ro.1) (by omega)
   have HY := Lib.hid (u8s_at l2 j hjl)
   have HBB : Hid (l2.getD j 0 < 256) := Lib.hid (HL2.out _ (by rw [List.getD_eq_getElem?_getD, List.getElem?_eq_getElem hjl]; exact List.getElem_mem hjl))
   generalize l2.getD j 0 = b at *
   by_cases hr0 : rl.length = 0
   ·have hr0' : (rl.length : Int) = 0 := by omega
    go_wp2_with (first
     | ((with_reducible refine qB ?_); refine qc ?_ ?_ <;> intro h_ <;> go_prune)
     | ((with_reducible refine qk 5 ?_); refine BigFrame.wpList_want rfl fun _ hK => Af rfl rfl (by kernel_rfl) (Dk (HV.out _ _ hS.ro.1) HY.out) (hK _ _ ?_))
     | ((with_reducible refine qK ?_); refine qC hS ?_))
    go_ret
    refine ⟨_, pl, N, rfl, by omega, HR, ?_⟩
    exact ((hS.freeze 0 (by decide) rfl).sub (List.sublist_append_right [_, _] F)).mono (KS.out.and (Aj (by decide))) fun D w h => ⟨h.1.1, h.2⟩
   ·have hr0' : ¬ (rl.length : Int) = 0 := by omega
    have hb256 : b < 256 := HBB.out
    go_wp2_with (first
     | ((with_reducible refine qB ?_); refine qc ?_ ?_ <;> intro h_ <;> go_prune)
     | ((with_reducible refine qk 5 ?_); refine BigFrame.wpList_want rfl fun _ hK => Af rfl rfl (by kernel_rfl) (Dk (HV.out _ _ hS.ro.1) HY.out) (hK _ _ ?_))
     | ((with_reducible refine qA 29 ?_); refine BigFrame.wpList_want rfl fun _ hK => opw_conv (v := .int .i64 (b : Nat)) rfl rfl (run_conv8u hb256) (hK _ _ ?_))
     | ((with_reducible refine qA 33 ?_); refine CF (n := b) (m := rl.length) rfl _ _ _ _ rfl rfl rfl (by omega) ?_; intro z hz)
     | ((with_reducible refine qK ?_); refine qL hS Tryz.underlying31 ?_)
     | ((with_reducible refine qK ?_); refine qL hS Tryz.underlying27 ?_)
     | (go_at_call 34; refine (Gk (N := N) (z : Nat) HP.out hS (fun D w h => HK.out _ _ h.1) (fun D w h => h.2) (fun D w h => HT.out _ _ h.1)).mono ?_; clear hS; generalize hVV : stepM ⟨R, some L, st, rl, nl, gl⟩ N (z : Nat) = V; replace hVV := Lib.hid hVV; rcases V with _ | M <;> (rintro e w_ ⟨x, rfl, hS⟩; obtain ⟨u', rfl, hu'⟩ := BM hS.ro.2))
     | ((with_reducible refine qA 10 ?_); refine qa hS #[.slice none 0 0] ?_; clear hS; intro g10 w_ hS)
     | ((with_reducible refine qA 45 ?_); refine Cf hS 1 rfl rfl _ _ _ _ rfl rfl CQ kv pl.length (AK pl) (.int .i64 (z : Nat)) #[.int .i64 (z : Nat)] rfl (by kernel_rfl) rfl rfl rfl rfl (by intro u hu; simp at hu; subst hu; rfl) (by omega) (by omega) ?_; clear hS; intro z_ kv' w_ hS; (try simp only [Act.put, Act.eval, zz, Value.cells] at hS))
     | ((with_reducible refine qm 27 ?_); (first | refine B7 hS 0 rfl _ _ _ rfl _ _ rfl rfl _ _ rfl (by kernel_rfl) (by kernel_rfl) (by first | (simpa using hu') | (simpa using hu)) ?_ | refine B7 hS 1 rfl _ _ _ rfl _ _ rfl rfl _ _ rfl (by kernel_rfl) (by kernel_rfl) (by first | (simpa using hu') | (simpa using hu)) ?_ | refine B7 hS 2 rfl _ _ _ rfl _ _ rfl rfl _ _ rfl (by kernel_rfl) (by kernel_rfl) (by first | (simpa using hu') | (simpa using hu)) ?_); clear hS; intro w_ hS; (try simp only [Act.put, Act.eval, zz, Value.cells] at hS))
     | ((with_reducible refine qK ?_); refine qC hS ?_))
    ·exact ⟨⟨j + 1, N, u, kv, pl, by go_num, rfl, hjl, by omega, hu, HR, (hS.sub (List.sublist_cons_self _ _)).mono (KS.out.and A5) fun D w h => ⟨h.1.1, h.1.2⟩⟩, by simp [intOf]; omega⟩
    ·refine ⟨⟨j + 1, M, u', _, pl ++ [(z : Int)], by go_num, rfl, hjl, by simp; omega, hu', Lib.hid (by rw [List.length_append, List.length_singleton]; exact Hx HR.out hVV.out), ?_⟩, by simp [intOf]; omega⟩
     rw [show (pl ++ [(z : Int)]).length = pl.length + 1 by simp, show AK (pl ++ [(z : Int)]) = AK pl ++ [.int .i64 (z : Nat)] by simp [AK]]
     exact (hS.sub (List.sublist_cons_self _ _)).mono (KS.out.and A5) fun D w h => ⟨h.1.1, h.2⟩
  ·obtain rfl : j = l2.length := by omega
   go_wp2_with (first | ((with_reducible refine qB ?_); refine qc ?_ ?_ <;> intro h_ <;> go_prune))
   go_ret
   refine ⟨_, pl, N, rfl, by omega, HR, ?_⟩
   exact ((hS.freeze 0 (by decide) rfl).sub (List.sublist_append_right [_, _] F)).mono (KS.out.and (Aj (by decide))) fun D w h => ⟨h.1.1, h.2⟩
end
section
open Go.RowKit
set_option exponentiation.threshold 5000
def InR (N : Nat) : Prop := ∀ i, N.testBit i = true -> 1 <= i /\ i < 64
theorem tc_nil {a b : Nat} : ¬ TC [] a b := fun h => by obtain ⟨y, h, _⟩ := h.first; simp at h
theorem Gw {N : Nat} (h : InR N) : closM [] N = N := B3 fun i => by
 rw [Ea]
 constructor
 ·rintro ⟨r, h1, h2, h3, h4⟩
  rcases (Gf (by intro x hx; simp at hx) h1).1 h4 with rfl | h5
  ·exact h3
  ·exact absurd h5 tc_nil
 ·intro hi
  exact ⟨i, (h i hi).2, (h i hi).1, hi, (Gf (by intro x hx; simp at hx) (h i hi).2).2 (.inl rfl)⟩
theorem FU {N : Nat} (h : InR N) : depM [] N = N := B3 fun i => by
 rw [tb_dep (by intro x hx; simp at hx)]
 constructor
 ·rintro ⟨r, h1, h2, h3, h4⟩
  rcases (Ge (by intro x hx; simp at hx)).1 h4 with rfl | h5
  ·exact h3
  ·exact absurd h5 tc_nil
 ·intro hi
  exact ⟨i, (h i hi).1, (h i hi).2, hi, (Ge (by intro x hx; simp at hx)).2 (.inl rfl)⟩
theorem F4 {N : Nat} (h : N < 2 ^ 7) (h0 : N.testBit 0 = false) : InR N := fun i hi => by
 have : i < 7 := by
  rcases Nat.lt_or_ge i 7 with h1 | h1
  ·exact h1
  ·rw [Nat.testBit_lt_two_pow (Nat.lt_of_lt_of_le h (Nat.pow_le_pow_right (by decide) h1))] at hi; cases hi
 refine ⟨?_, by omega⟩
 rcases Nat.eq_zero_or_pos i with rfl | h1
 ·rw [h0] at hi; cases hi
 ·exact h1
def P1 : Aq := ⟨5, some [], 0, [⟨false, 4, 0, 1, 0⟩, ⟨false, 0, 0, 2, 0⟩, ⟨false, 2, 0, 3, 0⟩, ⟨true, 0, 0, 4, 0⟩], [(36, 0)], [(2, 0)]⟩
def P2 : Aq := ⟨5, some [], 4, [⟨false, 12, 0, 1, 0⟩], [], [(2, 0)]⟩
theorem dep2 : depM [] 2 = 2 := FU (F4 (by decide) (by decide))
theorem dep4 : depM [] 4 = 4 := FU (F4 (by decide) (by decide))
theorem dep36 : depM [] 36 = 36 := FU (F4 (by decide) (by decide))
theorem dep0 : depM [] 0 = 0 := FU (F4 (by decide) (by decide))
theorem Il : checkE P1 = 0 := by
 have hg : goodB P1 0 = true := by
  show (!(P1.never.any fun z => Bh z (closM [] 0))) = true
  rw [Gw (F4 (by decide) (by decide))]; decide
 show (if (5 : Int) < 1 \/ 63 < (5 : Int) then (1 : Int) else if 64 < P1.rules.length \/ 2000 < P1.never.length \/ 2000 < P1.goal.length then 3
  else if Dg P1 [] (CH 5) = false then 4 else if (P1.cubes.any fun z => z.1 &&& z.2 != 0) = true \/ P1.rules.all revB = false then 6
  else if goodB P1 0 = false then 7 else 0) = 0
 rw [if_neg (by decide), if_neg (by decide), if_neg (by decide), if_neg (by decide), if_neg (by rw [hg]; decide)]
theorem check2 : checkE P2 = 0 := by
 have hg : goodB P2 4 = true := by
  show (!(P2.never.any fun z => Bh z (closM [] 4))) = true
  rfl
 show (if (5 : Int) < 1 \/ 63 < (5 : Int) then (1 : Int) else if 64 < P2.rules.length \/ 2000 < P2.never.length \/ 2000 < P2.goal.length then 3
  else if Dg P2 [] (CH 5) = false then 4 else if (P2.cubes.any fun z => z.1 &&& z.2 != 0) = true \/ P2.rules.all revB = false then 6
  else if goodB P2 4 = false then 7 else 0) = 0
 rw [if_neg (by decide), if_neg (by decide), if_neg (by decide), if_neg (by decide), if_neg (by rw [hg]; decide)]
theorem rel1 : relM [] P1 = 38 := by
 refine (It.eq ⟨fun T hT => ?_, by decide⟩ ⟨fun c hc => ?_, fun r hr h1 h2 => ?_, fun c hc _ => ?_⟩).symm
 ·have a1 : Ci 2 T := by
   have := hT.goal (2, 0) (by simp [P1])
   rw [show depC [] (2, 0) = depM [] 2 from rfl, dep2] at this; exact this
  have a2 : Ci 4 T := by
   have := hT.rules ⟨false, 4, 0, 1, 0⟩ (by simp [P1]) rfl (a1.has (by decide))
   rw [show depR [] ⟨false, 4, 0, 1, 0⟩ = depM [] 4 from rfl, dep4] at this; exact this
  have a3 : Ci 36 T := by
   have := hT.never (36, 0) (by simp [P1]) (by rw [show depC [] (36, 0) = depM [] 36 from rfl, dep36]; exact ED.2 ⟨2, by decide, a2 2 (by decide)⟩)
   rw [show depC [] (36, 0) = depM [] 36 from rfl, dep36] at this; exact this
  have e : (38 : Nat) = 2 ||| 36 := by decide
  rw [e]; exact a1.or a3
 ·obtain rfl : c = (2, 0) := by simpa [P1] using hc
  rw [show depC [] (2, 0) = depM [] 2 from rfl, dep2]; exact CL.1 (by decide)
 ·simp only [P1, List.mem_cons, List.not_mem_nil, or_false] at hr
  rcases hr with rfl | rfl | rfl | rfl
  ·rw [show depR [] ⟨false, 4, 0, 1, 0⟩ = depM [] 4 from rfl, dep4]; exact CL.1 (by decide)
  ·rw [show depR [] ⟨false, 0, 0, 2, 0⟩ = depM [] 0 from rfl, dep0]; exact CL.1 (by decide)
  ·exact absurd h2 (by decide)
  ·cases h1
 ·obtain rfl : c = (36, 0) := by simpa [P1] using hc
  rw [show depC [] (36, 0) = depM [] 36 from rfl, dep36]; exact CL.1 (by decide)
theorem relS1 : relS P1 = 38 := by unfold relS; rw [if_pos Il]; exact rel1
theorem ofP1 : (ofP P1).rules.length = 2 /\ (ofP P1).never.length = 1 := by
 have e : ofP P1 = ⟨5, some [], 0 &&& relM [] P1, BF (relM [] P1) P1.rules, keepC [] (relM [] P1) P1.never, P1.goal⟩ := by unfold ofP; rw [if_pos Il]; rfl
 rw [e, rel1]
 refine ⟨by decide, ?_⟩
 show (List.filter (fun c => depC [] c &&& 38 != 0) [(36, 0)]).length = 1
 rw [List.filter_cons, show depC [] (36, 0) = depM [] 36 from rfl, dep36]; rfl
theorem ofK1 : ofKept P1 = [0, 1] := by
 have e : ofKept P1 = Cn (relM [] P1) P1.rules P1.rules.length := by unfold ofKept; rw [if_pos Il]; rfl
 rw [e, rel1]; decide
theorem upp2 : uppM [] P2 = 4 := by
 refine (F8.eq ⟨⟨Ci.refl _, fun r hr h1 h2 => ?_⟩, fun T hT => hT.start⟩).symm
 obtain rfl : r = ⟨false, 12, 0, 1, 0⟩ := by simpa [P2] using hr
 rw [Gw (F4 (by decide) (by decide))] at h2
 revert h2; decide
theorem use2 : useN P2 = [0] := by
 have e : useN P2 = uslN (closM [] (uppM [] P2)) P2.rules P2.rules.length := by unfold useN; rw [if_pos check2]; rfl
 rw [e, upp2, Gw (F4 (by decide) (by decide))]; rfl
theorem ok1 : P1.Ok := ⟨by decide, by decide, by decide, fun L h => by cases h; exact ⟨EL.nil, by decide⟩⟩
theorem ok2 : P2.Ok := ⟨by decide, by decide, by decide, fun L h => by cases h; exact ⟨EL.nil, by decide⟩⟩
end
section
open Go.RowKit
attribute [local go_sem ↓] Go.wp_at_zero Go.wp_at_succ
set_option maxRecDepth 20000
set_option exponentiation.threshold 5000
theorem EC {w0 : World} {D : Nat -> Prop} {v : Value} {l : List Int} {N : Nat} (hs : Sl w0 D 1 v l.length (AK l)) (hN : ofN l = N) : Calls Tryz.prog 49 #[v] w0 (AV (fun x w' => AZ w' (w0.heap.size <= ·) x (N, 0)) w0) := by
 obtain ⟨K, k1, hS⟩ : ∃ K : (Nat -> Prop) -> World -> Prop, (∀ D w, K D w -> Sl w D 1 v l.length (AK l)) /\ St w0 w0 [] K := ⟨_, fun _ _ h => h, St.start (Aj (by decide)) hs⟩
 clear hs
 go_enter Tryz.func49, Tryz.ntmps49
 go_wp2_with (first
  | ((with_reducible refine qA 2 ?_); refine qa hS #[.slice none 0 0, .slice none 0 0] ?_; clear hS; intro g2 w_ hS)
  | (go_at_call 50; have hsW := hS.size; refine (of_any _ l _ _ (k1 _ _ hS.ro)).mono ?_; rw [hN]; rintro r_ w_ ⟨_, rfl, h1, hb_⟩; obtain ⟨A, c, lw, rfl, -⟩ := h1.parts; replace hS := hS.ret hb_ (AM A5 fun z => w0.heap.size <= z) (h1.imp fun z hz _ => ⟨hz, Nat.le_trans hsW hz⟩); clear h1 hb_ hsW)
  | ((with_reducible show wpList _ _ _ (⟨_, .build _ _, _, _, _, _⟩ :: _) _ _); refine Av rfl _ _ rfl #[.slice A lw.length c, .slice none 0 0] (by kernel_rfl) ?_)
  | ((with_reducible refine qM ?_); (first | refine qS hS ?_ | refine qT hS ?_); clear hS; intro w_ hS; (try simp only [Act.put, Act.eval, zz, Value.cells] at hS)))
 refine Bp Tryz.results49 rfl (hS.box 0 rfl) Tryz.underlying56 rfl (by kernel_rfl) rfl ?_
 exact AV.mk ⟨_, _, rfl, hS.ro.2.imp fun z hz _ => hz.2, A7.empty⟩ hS.below
theorem st_litg {P : Program} {ops : Array Oper} {rest : List Oper} {o : Oper} {a : Act} {Q : Exit -> Act -> World -> Prop} {w0 w : World} {F : List Ae} {K : (Nat -> Prop) -> World -> Prop} (h : St w0 w F K) (hg : Region.wanted o (yielded ops a.tmps) = true) (t e : TypeId) (len : Nat) (parts : Array (Nat × Operand)) (ho : o.op = .buildSlice t len parts) (ht : P.underlying t = some (.slice e)) (cells : Array Value)
  (hb : Bt P e len (parts.map fun (i, x) => (i, a.eval x)).toList = some cells) (size : Nat) (hs : cells.size = len * size) (hm : len <= 1000000000000)
  (hk : ∀ g w', St w0 w' (.own (.slice (some ⟨g, 0, none⟩) len len) e size len cells.toList :: F) K -> wpList P ops Q rest (a.put o.dst (.slice (some ⟨g, 0, none⟩) len len)) w') : wpList P ops Q (o :: rest) a w :=
 BigFrame.wpList_want hg fun _ hK => CA ho ht rfl hb fun w' hX hB => hK _ _ (hk _ w' (h.new hB _ ⟨by simpa using hs, .inr ⟨w.heap.size, len, cells, rfl, Nat.le_refl _, hX, Nat.le_refl _, by unfold maxLen; omega, hs, by rw [<- hs, show cells.size = cells.toList.length by simp, List.take_length]⟩⟩))
theorem Fr {P : Program} {ops : Array Oper} {rest : List Oper} {o : Oper} {a : Act} {Q : Exit -> Act -> World -> Prop} {w0 w : World} {F : List Ae} {K : (Nat -> Prop) -> World -> Prop} (h : St w0 w F K) (hg : Region.wanted o (yielded ops a.tmps) = true) (t e : TypeId) (len : Nat) (parts : Array (Nat × Operand)) (ho : o.op = .buildSlice t len parts) (ht : P.underlying t = some (.slice e)) (ps : List (Nat × Value)) (hp : (parts.map fun (i, x) => (i, a.eval x)).toList = ps) (cells : Array Value)
  (hb : Bt P e len ps = some cells) (size : Nat) (hs : cells.size = len * size) (hm : len <= 1000000000000)
  (hk : ∀ g w', St w0 w' (.own (.slice (some ⟨g, 0, none⟩) len len) e size len cells.toList :: F) K -> wpList P ops Q rest (a.put o.dst (.slice (some ⟨g, 0, none⟩) len len)) w') : wpList P ops Q (o :: rest) a w :=
 BigFrame.wpList_want hg fun _ hK => CA ho ht hp hb fun w' hX hB => hK _ _ (hk _ w' (h.new hB _ ⟨by simpa using hs, .inr ⟨w.heap.size, len, cells, rfl, Nat.le_refl _, hX, Nat.le_refl _, by unfold maxLen; omega, hs, by rw [<- hs, show cells.size = cells.toList.length by simp, List.take_length]⟩⟩))
theorem AZ.sets {w : World} {D : Nat -> Prop} {a b : Value} {z : Nat × Nat} (h : AZ w D (.agg #[a, b]) z) : A7 w D (.agg #[a]) z.1 /\ A7 w D (.agg #[b]) z.2 := by
 obtain ⟨x, y, he, h1, h2⟩ := h
 have e : a = x /\ b = y := by simpa using he
 obtain ⟨rfl, rfl⟩ := e
 exact ⟨h1, h2⟩
theorem cc1 {w : World} {D : Nat -> Prop} {a b : Value} {z : Nat × Nat} (h : AZ w D (.agg #[a, b]) z) : Ah w D [a, b] [z] := fun i y n hi => by
 cases i with
 | zero => obtain rfl := Option.some.inj (show some z = some (y, n) from hi); exact ⟨a, b, rfl, rfl, h.sets.1, h.sets.2⟩
 | succ i => simp at hi
theorem rcells1 {w : World} {D : Nat -> Prop} {a1 b1 a3 b3 : Value} (h1 : AZ w D (.agg #[a1, b1]) (4, 0)) (h3 : AZ w D (.agg #[a3, b3]) (2, 0)) :
  AF w D [.bool false, a1, b1, .int .i64 1, .int .i64 0, .bool false, .slice none 0 0, .slice none 0 0, .int .i64 2, .int .i64 0, .bool false, a3, b3, .int .i64 3, .int .i64 0, .bool true, .slice none 0 0, .slice none 0 0, .int .i64 4, .int .i64 0] P1.rules :=
 AF.append (l := [⟨false, 4, 0, 1, 0⟩]) (xs := [.bool false, a1, b1, .int .i64 1, .int .i64 0]) rfl (AF.single h1.sets.1 h1.sets.2)
  (AF.append (l := [⟨false, 0, 0, 2, 0⟩]) (xs := [.bool false, .slice none 0 0, .slice none 0 0, .int .i64 2, .int .i64 0]) rfl (AF.single A7.empty A7.empty)
   (AF.append (l := [⟨false, 2, 0, 3, 0⟩]) (xs := [.bool false, a3, b3, .int .i64 3, .int .i64 0]) rfl (AF.single h3.sets.1 h3.sets.2) (AF.single (z := ⟨true, 0, 0, 4, 0⟩) A7.empty A7.empty)))
theorem ofL1 : (ofP P1).links = some [] := by unfold ofP; rw [if_pos Il]; rfl
theorem of1_any {w0 w : World} {F : List Ae} {K : (Nat -> Prop) -> World -> Prop} {v : Value} (hS : St w0 w F K) (kp : ∀ D w, K D w -> B6 w D v P1) (kt : ∀ D w, K D w -> Bw w) :
  Calls Tryz.prog 19 #[v] w fun e w' => ∃ (R : Int) (q n3 c3 cr3 cn3 ng3 cg3 : Nat) (A3 Ar3 An3 Ag3 : Option Addr) (k : Value), e = .returned (.tuple #[.agg #[.int .i64 R, .pointer (some ⟨q, 0, none⟩), .slice A3 n3 c3, .slice Ar3 2 cr3, .slice An3 1 cn3, .slice Ag3 ng3 cg3], k, .int .i64 0]) /\ St w0 w' F fun D w => K D w /\ Sl w D 1 k ([0, 1] : List Int).length (AK [0, 1]) := by
 have KS := hS.stable
 refine (FL ok1 hS kp kt).mono ?_
 rintro e w3 ⟨u3, k3, rfl, hS⟩
 obtain ⟨lp3, s3, rv3, nv3, gv3, rfl, hh, hs, hr, hn, hg⟩ := id hS.ro.1.2
 have e1 := ofL1
 have e2 := ofP1
 have e3 := ofK1
 have e4 := Il
 obtain ⟨A3, n3, c3, rfl⟩ := hs.shape
 obtain ⟨Ar3, cr3, rfl, _, _⟩ := hr.shape
 obtain ⟨An3, cn3, rfl, _, _⟩ := hn.shape
 obtain ⟨Ag3, cg3, rfl, _, _⟩ := hg.shape
 rw [e1] at hh
 obtain ⟨q3, o3, rfl, -⟩ := hh
 refine ⟨_, q3, n3, c3, cr3, cn3, _, cg3, A3, Ar3, An3, Ag3, k3, by rw [e2.1, e2.2, e4], ?_⟩
 refine hS.mono (KS.and (Aj (by decide))) fun D w h => ⟨h.1.1, ?_⟩
 have h2 := h.2
 rw [e3] at h2
 exact h2
set_option maxHeartbeats 4000000 in
theorem lawake33_any {w0 w : World} {F : List Ae} {K : (Nat -> Prop) -> World -> Prop} (hS : St w0 w F K) (kt : ∀ D w, K D w -> Bw w /\ D 0) : Calls Tryz.prog 11 #[] w fun e w' => e = .returned (.bool true) /\ St w0 w' F K := by
 have KS := Lib.hid hS.stable
 go_enter Tryz.func11, Tryz.ntmps11
 go_wp2_with (first
  | (go_at_call 51; refine (Id hS kt).mono ?_; clear hS; rintro e w_ ⟨p, rfl, hS⟩; obtain ⟨q, o, rfl, -⟩ := id hS.ro.2)
  | ((with_reducible refine qA 9 ?_); refine CM hS rfl _ 3 1 _ rfl Tryz.underlying48 #[.int .i64 2] (by kernel_rfl) 1 rfl (by decide) ?_; clear hS; intro g9 w_ hS; (try simp only [Act.put, List.setIfInBounds_toArray, List.set_cons_zero, List.set_cons_succ]))
  | ((with_reducible refine qA 10 ?_); refine BigFrame.wpList_want rfl fun _ hK => BE (f := 49) (first := #[]) (caps := #[]) (vs := [.slice (some ⟨g9, 0, none⟩) 1 1]) rfl rfl (by kernel_rfl) (by simp [Act.eval, Act.put]) (EC (l := [2]) (N := 4) (Sl.of_own (hS.own 0 rfl)) (by decide)) fun e w' ⟨x_, he_, hx_, hb_⟩ => ⟨x_, he_, hK _ _ ?_⟩; clear hK; obtain ⟨ya_, na_, rfl, hy_, hn_⟩ := id hx_; obtain ⟨A10, m10, c10, rfl⟩ := hy_.shape; obtain ⟨B10, k10, d10, rfl⟩ := hn_.shape; replace hS := hS.ret hb_ B9 hx_; clear hx_ hb_ hy_ hn_ he_; (try simp only [Act.put, List.setIfInBounds_toArray, List.set_cons_zero, List.set_cons_succ]))
  | ((with_reducible refine qA 11 ?_); refine Av rfl _ _ rfl #[.bool false, .slice A10 m10 c10, .slice B10 k10 d10, .int .i64 1, .int .i64 0] (by kernel_rfl) ?_; (try simp only [Act.put, List.setIfInBounds_toArray, List.set_cons_zero, List.set_cons_succ]))
  | ((with_reducible refine qA 12 ?_); refine Av rfl _ _ rfl #[.bool false, .slice none 0 0, .slice none 0 0, .int .i64 2, .int .i64 0] (by kernel_rfl) ?_; (try simp only [Act.put, List.setIfInBounds_toArray, List.set_cons_zero, List.set_cons_succ]))
  | ((with_reducible refine qA 14 ?_); refine CM hS rfl _ 3 1 _ rfl Tryz.underlying48 #[.int .i64 1] (by kernel_rfl) 1 rfl (by decide) ?_; clear hS; intro g14 w_ hS; (try simp only [Act.put, List.setIfInBounds_toArray, List.set_cons_zero, List.set_cons_succ]))
  | ((with_reducible refine qA 15 ?_); refine BigFrame.wpList_want rfl fun _ hK => BE (f := 49) (first := #[]) (caps := #[]) (vs := [.slice (some ⟨g14, 0, none⟩) 1 1]) rfl rfl (by kernel_rfl) (by simp [Act.eval, Act.put]) (EC (l := [1]) (N := 2) (Sl.of_own (hS.own 0 rfl)) (by decide)) fun e w' ⟨x_, he_, hx_, hb_⟩ => ⟨x_, he_, hK _ _ ?_⟩; clear hK; obtain ⟨ya_, na_, rfl, hy_, hn_⟩ := id hx_; obtain ⟨A15, m15, c15, rfl⟩ := hy_.shape; obtain ⟨B15, k15, d15, rfl⟩ := hn_.shape; replace hS := hS.ret hb_ B9 hx_; clear hx_ hb_ hy_ hn_ he_; (try simp only [Act.put, List.setIfInBounds_toArray, List.set_cons_zero, List.set_cons_succ]))
  | ((with_reducible refine qA 16 ?_); refine Av rfl _ _ rfl #[.bool false, .slice A15 m15 c15, .slice B15 k15 d15, .int .i64 3, .int .i64 0] (by kernel_rfl) ?_; (try simp only [Act.put, List.setIfInBounds_toArray, List.set_cons_zero, List.set_cons_succ]))
  | ((with_reducible refine qA 17 ?_); refine Av rfl _ _ rfl #[.bool true, .slice none 0 0, .slice none 0 0, .int .i64 4, .int .i64 0] (by kernel_rfl) ?_; (try simp only [Act.put, List.setIfInBounds_toArray, List.set_cons_zero, List.set_cons_succ]))
  | ((with_reducible refine qA 18 ?_); refine Fr hS rfl _ 58 4 _ rfl Tryz.underlying28 [(0, .agg #[.bool false, .slice A10 m10 c10, .slice B10 k10 d10, .int .i64 1, .int .i64 0]), (1, .agg #[.bool false, .slice none 0 0, .slice none 0 0, .int .i64 2, .int .i64 0]), (2, .agg #[.bool false, .slice A15 m15 c15, .slice B15 k15 d15, .int .i64 3, .int .i64 0]), (3, .agg #[.bool true, .slice none 0 0, .slice none 0 0, .int .i64 4, .int .i64 0])] (by simp [Act.eval]) #[.bool false, .slice A10 m10 c10, .slice B10 k10 d10, .int .i64 1, .int .i64 0, .bool false, .slice none 0 0, .slice none 0 0, .int .i64 2, .int .i64 0, .bool false, .slice A15 m15 c15, .slice B15 k15 d15, .int .i64 3, .int .i64 0, .bool true, .slice none 0 0, .slice none 0 0, .int .i64 4, .int .i64 0] (by kernel_rfl) 5 rfl (by decide) ?_; clear hS; intro g18 w_ hS; (try simp only [Act.put, List.setIfInBounds_toArray, List.set_cons_zero, List.set_cons_succ]))
  | ((with_reducible refine qA 20 ?_); refine CM hS rfl _ 3 2 _ rfl Tryz.underlying48 #[.int .i64 2, .int .i64 5] (by kernel_rfl) 1 rfl (by decide) ?_; clear hS; intro g20 w_ hS; (try simp only [Act.put, List.setIfInBounds_toArray, List.set_cons_zero, List.set_cons_succ]))
  | ((with_reducible refine qA 21 ?_); refine BigFrame.wpList_want rfl fun _ hK => BE (f := 49) (first := #[]) (caps := #[]) (vs := [.slice (some ⟨g20, 0, none⟩) 2 2]) rfl rfl (by kernel_rfl) (by simp [Act.eval, Act.put]) (EC (l := [2, 5]) (N := 36) (Sl.of_own (hS.own 0 rfl)) (by decide)) fun e w' ⟨x_, he_, hx_, hb_⟩ => ⟨x_, he_, hK _ _ ?_⟩; clear hK; obtain ⟨ya_, na_, rfl, hy_, hn_⟩ := id hx_; obtain ⟨A21, m21, c21, rfl⟩ := hy_.shape; obtain ⟨B21, k21, d21, rfl⟩ := hn_.shape; replace hS := hS.ret hb_ B9 hx_; clear hx_ hb_ hy_ hn_ he_; (try simp only [Act.put, List.setIfInBounds_toArray, List.set_cons_zero, List.set_cons_succ]))
  | ((with_reducible refine qA 22 ?_); refine Fr hS rfl _ 56 1 _ rfl Tryz.underlying29 [(0, .agg #[.slice A21 m21 c21, .slice B21 k21 d21])] (by simp [Act.eval]) #[.slice A21 m21 c21, .slice B21 k21 d21] (by kernel_rfl) 2 rfl (by decide) ?_; clear hS; intro g22 w_ hS; (try simp only [Act.put, List.setIfInBounds_toArray, List.set_cons_zero, List.set_cons_succ]))
  | ((with_reducible refine qA 24 ?_); refine CM hS rfl _ 3 1 _ rfl Tryz.underlying48 #[.int .i64 1] (by kernel_rfl) 1 rfl (by decide) ?_; clear hS; intro g24 w_ hS; (try simp only [Act.put, List.setIfInBounds_toArray, List.set_cons_zero, List.set_cons_succ]))
  | ((with_reducible refine qA 25 ?_); refine BigFrame.wpList_want rfl fun _ hK => BE (f := 49) (first := #[]) (caps := #[]) (vs := [.slice (some ⟨g24, 0, none⟩) 1 1]) rfl rfl (by kernel_rfl) (by simp [Act.eval, Act.put]) (EC (l := [1]) (N := 2) (Sl.of_own (hS.own 0 rfl)) (by decide)) fun e w' ⟨x_, he_, hx_, hb_⟩ => ⟨x_, he_, hK _ _ ?_⟩; clear hK; obtain ⟨ya_, na_, rfl, hy_, hn_⟩ := id hx_; obtain ⟨A25, m25, c25, rfl⟩ := hy_.shape; obtain ⟨B25, k25, d25, rfl⟩ := hn_.shape; replace hS := hS.ret hb_ B9 hx_; clear hx_ hb_ hy_ hn_ he_; (try simp only [Act.put, List.setIfInBounds_toArray, List.set_cons_zero, List.set_cons_succ]))
  | ((with_reducible refine qA 26 ?_); refine Fr hS rfl _ 56 1 _ rfl Tryz.underlying29 [(0, .agg #[.slice A25 m25 c25, .slice B25 k25 d25])] (by simp [Act.eval]) #[.slice A25 m25 c25, .slice B25 k25 d25] (by kernel_rfl) 2 rfl (by decide) ?_; clear hS; intro g26 w_ hS; (try simp only [Act.put, List.setIfInBounds_toArray, List.set_cons_zero, List.set_cons_succ]))
  | ((with_reducible refine qA 27 ?_); refine Av rfl _ _ rfl #[.int .i64 5, .pointer (some ⟨q, 0, none⟩), .slice none 0 0, .slice (some ⟨g18, 0, none⟩) 4 4, .slice (some ⟨g22, 0, none⟩) 1 1, .slice (some ⟨g26, 0, none⟩) 1 1] (by kernel_rfl) ?_; (try simp only [Act.put, List.setIfInBounds_toArray, List.set_cons_zero, List.set_cons_succ]))
  | ((with_reducible refine qA 2 ?_); refine qa hS #[.int .i64 0, .pointer none, .slice none 0 0, .slice none 0 0, .slice none 0 0, .slice none 0 0] ?_; clear hS; intro g2 w_ hS)
  | ((with_reducible refine qM ?_); (first | refine qS hS ?_ | refine qT hS ?_); clear hS; intro w_ hS; (try simp only [Act.put, Act.eval, zz, Value.cells] at hS))
  | ((with_reducible refine qA 29 ?_)
     replace hS := ((hS.freeze 1 (by decide) rfl).freeze 2 (by decide) rfl).freeze 3 (by decide) rfl
     obtain ⟨K1, k0, kp1, hS2⟩ : ∃ K1 : (Nat -> Prop) -> World -> Prop, (∀ D w, K1 D w -> K D w) /\ (∀ D w, K1 D w -> B6 w D (.agg #[.int .i64 5, .pointer (some ⟨q, 0, none⟩), .slice none 0 0, .slice (some ⟨g18, 0, none⟩) 4 4, .slice (some ⟨g22, 0, none⟩) 1 1, .slice (some ⟨g26, 0, none⟩) 1 1]) P1) /\ St w0 w_ (.box g2 31 #[.int .i64 5, .pointer (some ⟨q, 0, none⟩), .slice none 0 0, .slice (some ⟨g18, 0, none⟩) 4 4, .slice (some ⟨g22, 0, none⟩) 1 1, .slice (some ⟨g26, 0, none⟩) 1 1] :: F) K1 :=
       ⟨_, fun D w h => h.1.1.1.1.1.1.1.1, fun D w h => ⟨_, _, _, _, _, rfl, h.1.1.1.1.1.1.1.2, A7.empty, ⟨_, h.2, rcells1 h.1.1.1.1.1.1.2 h.1.1.1.1.1.2⟩, ⟨_, h.1.2, cc1 h.1.1.1.1.2⟩, _, h.1.1.2, cc1 h.1.1.1.2⟩, hS.sub (.cons_cons _ ((((List.sublist_cons_self _ _).trans (List.sublist_cons_self _ _)).trans (List.sublist_cons_self _ _)).trans (List.sublist_cons_self _ _)))⟩
     clear hS
     have hS := hS2
     clear hS2
     refine BigFrame.wpList_want rfl fun _ hK => B5 rfl rfl (hS.box 0 rfl) Tryz.underlying31 rfl (by kernel_rfl) (hK _ _ ?_)))
 refine (of1_any hS kp1 (fun D w h => (kt D w (k0 D w h)).1)).mono ?_
 clear hS
 rintro e w3 ⟨R3, q3, n3, c3, cr3, cn3, ng3, cg3, A3, Ar3, An3, Ag3, k3, rfl, hS⟩
 obtain ⟨K3, j0, jk, hS2⟩ : ∃ K3 : (Nat -> Prop) -> World -> Prop, (∀ D w, K3 D w -> K1 D w) /\ (∀ D w, K3 D w -> Sl w D 1 k3 ([0, 1] : List Int).length (AK [0, 1])) /\ St w0 w3 (.box g2 31 #[.int .i64 5, .pointer (some ⟨q, 0, none⟩), .slice none 0 0, .slice (some ⟨g18, 0, none⟩) 4 4, .slice (some ⟨g22, 0, none⟩) 1 1, .slice (some ⟨g26, 0, none⟩) 1 1] :: F) K3 := ⟨_, fun D w h => h.1, fun D w h => h.2, hS⟩
 clear hS
 have hS := hS2
 clear hS2
 have hj := Lib.hid fun D w h => kt D w (k0 D w (j0 D w h))
 go_wp2_with (first
  | ((with_reducible refine qA 3 ?_); refine qa hS #[.int .i64 0, .pointer none, .slice none 0 0, .slice none 0 0, .slice none 0 0, .slice none 0 0] ?_; clear hS; intro g3 w_ hS)
  | (go_at_call 51; refine (Id hS hj.out).mono ?_; clear hS; rintro e w_ ⟨p, rfl, hS⟩; obtain ⟨q4, o4, rfl, -⟩ := id hS.ro.2)
  | ((with_reducible refine qA 35 ?_); refine CM hS rfl _ 3 1 _ rfl Tryz.underlying48 #[.int .i64 2] (by kernel_rfl) 1 rfl (by decide) ?_; clear hS; intro g35 w_ hS; (try simp only [Act.put, List.setIfInBounds_toArray, List.set_cons_zero, List.set_cons_succ]))
  | (go_at_call 50; refine (of_any _ [2] _ _ (Sl.of_own (hS.own 0 rfl))).mono ?_; rw [show ofN [2] = 4 from by decide]; rintro r_ w_ ⟨_, rfl, h1, hb_⟩; replace hS := hS.ret hb_ A5 h1; clear h1 hb_; obtain ⟨A36, c36, l36, rfl, -⟩ := hS.ro.2.parts; obtain ⟨n36, hn36⟩ : ∃ n, n = l36.length := ⟨_, rfl⟩; rw [<- hn36] at hS ⊢; clear hn36)
  | ((with_reducible refine qA 38 ?_); refine CM hS rfl _ 3 2 _ rfl Tryz.underlying48 #[.int .i64 2, .int .i64 3] (by kernel_rfl) 1 rfl (by decide) ?_; clear hS; intro g38 w_ hS; (try simp only [Act.put, List.setIfInBounds_toArray, List.set_cons_zero, List.set_cons_succ]))
  | ((with_reducible refine qA 39 ?_); refine BigFrame.wpList_want rfl fun _ hK => BE (f := 49) (first := #[]) (caps := #[]) (vs := [.slice (some ⟨g38, 0, none⟩) 2 2]) rfl rfl (by kernel_rfl) (by simp [Act.eval, Act.put]) (EC (l := [2, 3]) (N := 12) (Sl.of_own (hS.own 0 rfl)) (by decide)) fun e w' ⟨x_, he_, hx_, hb_⟩ => ⟨x_, he_, hK _ _ ?_⟩; clear hK; obtain ⟨ya_, na_, rfl, hy_, hn_⟩ := id hx_; obtain ⟨A39, m39, c39, rfl⟩ := hy_.shape; obtain ⟨B39, k39, d39, rfl⟩ := hn_.shape; replace hS := hS.ret hb_ B9 hx_; clear hx_ hb_ hy_ hn_ he_; (try simp only [Act.put, List.setIfInBounds_toArray, List.set_cons_zero, List.set_cons_succ]))
  | ((with_reducible refine qA 40 ?_); refine Av rfl _ _ rfl #[.bool false, .slice A39 m39 c39, .slice B39 k39 d39, .int .i64 1, .int .i64 0] (by kernel_rfl) ?_; (try simp only [Act.put, List.setIfInBounds_toArray, List.set_cons_zero, List.set_cons_succ]))
  | ((with_reducible refine qA 41 ?_); refine Fr hS rfl _ 58 1 _ rfl Tryz.underlying28 [(0, .agg #[.bool false, .slice A39 m39 c39, .slice B39 k39 d39, .int .i64 1, .int .i64 0])] (by simp [Act.eval]) #[.bool false, .slice A39 m39 c39, .slice B39 k39 d39, .int .i64 1, .int .i64 0] (by kernel_rfl) 5 rfl (by decide) ?_; clear hS; intro g41 w_ hS; (try simp only [Act.put, List.setIfInBounds_toArray, List.set_cons_zero, List.set_cons_succ]))
  | ((with_reducible refine qA 43 ?_); refine CM hS rfl _ 3 1 _ rfl Tryz.underlying48 #[.int .i64 1] (by kernel_rfl) 1 rfl (by decide) ?_; clear hS; intro g43 w_ hS; (try simp only [Act.put, List.setIfInBounds_toArray, List.set_cons_zero, List.set_cons_succ]))
  | ((with_reducible refine qA 44 ?_); refine BigFrame.wpList_want rfl fun _ hK => BE (f := 49) (first := #[]) (caps := #[]) (vs := [.slice (some ⟨g43, 0, none⟩) 1 1]) rfl rfl (by kernel_rfl) (by simp [Act.eval, Act.put]) (EC (l := [1]) (N := 2) (Sl.of_own (hS.own 0 rfl)) (by decide)) fun e w' ⟨x_, he_, hx_, hb_⟩ => ⟨x_, he_, hK _ _ ?_⟩; clear hK; obtain ⟨ya_, na_, rfl, hy_, hn_⟩ := id hx_; obtain ⟨A44, m44, c44, rfl⟩ := hy_.shape; obtain ⟨B44, k44, d44, rfl⟩ := hn_.shape; replace hS := hS.ret hb_ B9 hx_; clear hx_ hb_ hy_ hn_ he_; (try simp only [Act.put, List.setIfInBounds_toArray, List.set_cons_zero, List.set_cons_succ]))
  | ((with_reducible refine qA 45 ?_); refine Fr hS rfl _ 56 1 _ rfl Tryz.underlying29 [(0, .agg #[.slice A44 m44 c44, .slice B44 k44 d44])] (by simp [Act.eval]) #[.slice A44 m44 c44, .slice B44 k44 d44] (by kernel_rfl) 2 rfl (by decide) ?_; clear hS; intro g45 w_ hS; (try simp only [Act.put, List.setIfInBounds_toArray, List.set_cons_zero, List.set_cons_succ]))
  | ((with_reducible refine qA 46 ?_); refine Av rfl _ _ rfl #[.int .i64 5, .pointer (some ⟨q4, 0, none⟩), .slice A36 n36 c36, .slice (some ⟨g41, 0, none⟩) 1 1, .slice none 0 0, .slice (some ⟨g45, 0, none⟩) 1 1] (by kernel_rfl) ?_; (try simp only [Act.put, List.setIfInBounds_toArray, List.set_cons_zero, List.set_cons_succ]))
  | ((with_reducible refine qA 6 ?_); refine qa hS #[.int .i64 0, .pointer none, .slice none 0 0, .slice none 0 0, .slice none 0 0, .slice none 0 0] ?_; clear hS; intro g6 w_ hS)
  | ((with_reducible refine qM ?_); (first | refine qS hS ?_ | refine qT hS ?_); clear hS; intro w_ hS; (try simp only [Act.put, Act.eval, zz, Value.cells] at hS))
  | ((with_reducible refine qA 50 ?_)
     replace hS := (hS.freeze 1 (by decide) rfl).freeze 2 (by decide) rfl
     obtain ⟨K5, m0, kp2, hS2⟩ : ∃ K5 : (Nat -> Prop) -> World -> Prop, (∀ D w, K5 D w -> K3 D w) /\ (∀ D w, K5 D w -> B6 w D (.agg #[.int .i64 5, .pointer (some ⟨q4, 0, none⟩), .slice A36 n36 c36, .slice (some ⟨g41, 0, none⟩) 1 1, .slice none 0 0, .slice (some ⟨g45, 0, none⟩) 1 1]) P2) /\ St w0 w_ (.box g6 31 #[.int .i64 5, .pointer (some ⟨q4, 0, none⟩), .slice A36 n36 c36, .slice (some ⟨g41, 0, none⟩) 1 1, .slice none 0 0, .slice (some ⟨g45, 0, none⟩) 1 1] :: .box g3 31 #[.int .i64 R3, .pointer (some ⟨q3, 0, none⟩), .slice A3 n3 c3, .slice Ar3 2 cr3, .slice An3 1 cn3, .slice Ag3 ng3 cg3] :: .box g2 31 #[.int .i64 5, .pointer (some ⟨q, 0, none⟩), .slice none 0 0, .slice (some ⟨g18, 0, none⟩) 4 4, .slice (some ⟨g22, 0, none⟩) 1 1, .slice (some ⟨g26, 0, none⟩) 1 1] :: F) K5 :=
       ⟨_, fun D w h => h.1.1.1.1.1.1, fun D w h => ⟨_, _, _, _, _, rfl, h.1.1.1.1.1.2, h.1.1.1.1.2, ⟨_, h.2, AF.single (z := ⟨false, 12, 0, 1, 0⟩) h.1.1.1.2.sets.1 h.1.1.1.2.sets.2⟩, ⟨[], Sl.none_, fun i y n hi => by simp [P2] at hi⟩, _, h.1.2, cc1 h.1.1.2⟩, hS.sub (.cons_cons _ (((List.sublist_cons_self _ _).trans (List.sublist_cons_self _ _)).trans (List.sublist_cons_self _ _)))⟩
     clear hS
     have hS := hS2
     clear hS2
     refine BigFrame.wpList_want rfl fun _ hK => B5 rfl rfl (hS.box 2 rfl) Tryz.underlying31 rfl (by kernel_rfl) (hK _ _ ?_)))
 have hkp : ∀ D w, K5 D w -> B6 w D (.agg #[.int .i64 5, .pointer (some ⟨q, 0, none⟩), .slice none 0 0, .slice (some ⟨g18, 0, none⟩) 4 4, .slice (some ⟨g22, 0, none⟩) 1 1, .slice (some ⟨g26, 0, none⟩) 1 1]) P1 := fun D w h => kp1 D w (j0 D w (m0 D w h))
 have hkt : ∀ D w, K5 D w -> Bw w := fun D w h => (kt D w (k0 D w (j0 D w (m0 D w h)))).1
 have hjk : ∀ D w, K5 D w -> Sl w D 1 k3 ([0, 1] : List Int).length (AK [0, 1]) := fun D w h => jk D w (m0 D w h)
 refine (DO (hkp _ _ hS.ro) ok1 (hkt _ _ hS.ro)).mono ?_
 rw [relS1]
 rintro r_ w7 ⟨_, rfl, h1, hb_⟩
 replace hS := hS.ret hb_ A5 h1
 clear h1 hb_
 go_wp2_with (first
  | ((with_reducible refine qA 52 ?_); refine st_litg hS rfl _ 3 3 _ rfl Tryz.underlying48 #[.int .i64 1, .int .i64 2, .int .i64 5] (by kernel_rfl) 1 rfl (by decide) ?_; clear hS; intro g52 w_ hS; (try simp only [Act.put, List.setIfInBounds_toArray, List.set_cons_zero, List.set_cons_succ]))
  | (go_at_call 50; refine (of_any _ [1, 2, 5] _ _ (Sl.of_own (hS.own 0 rfl))).mono ?_; rw [show ofN [1, 2, 5] = 38 from by decide]; rintro r_ w_ ⟨_, rfl, h1, hb_⟩; replace hS := hS.ret hb_ A5 h1; clear h1 hb_)
  | (go_at_call 14; refine (EF _ _ 38 38 _ _ _ hS.ro.1.2 hS.ro.2).mono ?_; rintro r_ w_ ⟨_, rfl, rfl, hb_⟩; rw [show ((38 : Nat) == 38) = true from rfl]; replace hS := hS.ext hb_; clear hb_)
  | ((with_reducible refine qA 58 ?_); refine st_litg hS rfl _ 3 2 _ rfl Tryz.underlying48 #[.int .i64 0, .int .i64 1] (by kernel_rfl) 1 rfl (by decide) ?_; clear hS; intro g58 w_ hS; (try simp only [Act.put, List.setIfInBounds_toArray, List.set_cons_zero, List.set_cons_succ])))
 refine (sleq_any _ _ [0, 1] [0, 1] _ _ _ (hjk _ _ hS.ro.1.1) (Sl.of_own (hS.own 0 rfl))).mono ?_
 rintro r_ w8 ⟨_, rfl, rfl, hb_⟩
 rw [show (([0, 1] : List Int) == [0, 1]) = true from rfl]
 replace hS := hS.ext hb_
 clear hb_
 go_wp2_with (first
  | ((with_reducible refine qK ?_); refine qC hS ?_)
  | ((with_reducible refine qA 74 ?_); refine BigFrame.wpList_want rfl fun _ hK => B5 rfl rfl (hS.box 2 rfl) Tryz.underlying31 rfl (by kernel_rfl) (hK _ _ ?_))
  | (go_at_call 21; refine (useless_any (kp2 _ _ hS.ro.1.1) ok2 (hkt _ _ hS.ro.1.1)).mono ?_; rw [use2]; rintro e_ w_ ⟨u9, rfl, hs⟩; replace hS := hS.new hs.below (.own u9 3 1 ([0] : List Int).length (AK [0])) (hs.own 0 rfl); clear hs)
  | ((with_reducible refine qA 76 ?_); refine st_litg hS rfl _ 3 1 _ rfl Tryz.underlying48 #[.int .i64 0] (by kernel_rfl) 1 rfl (by decide) ?_; clear hS; intro g76 w_ hS; (try simp only [Act.put, List.setIfInBounds_toArray, List.set_cons_zero, List.set_cons_succ]))
  | (go_at_call 30; refine (sleq_any _ _ [0] [0] _ _ _ (Sl.of_own (hS.own 1 rfl)) (Sl.of_own (hS.own 0 rfl))).mono ?_; rintro r_ w_ ⟨_, rfl, rfl, hb_⟩; rw [show (([0] : List Int) == [0]) = true from rfl]; replace hS := hS.ext hb_; clear hb_))
 go_ret
 exact ⟨rfl, (hS.sub (.cons _ (.cons _ (.cons _ (.cons _ (.cons _ (.cons _ (.cons _ (List.Sublist.refl _))))))))).mono KS.out fun D w h => k0 _ _ (j0 _ _ (m0 _ _ h.1.1))⟩
end
section
open Go.RowKit
attribute [local go_sem ↓] Go.wp_at_zero Go.wp_at_succ
set_option maxRecDepth 20000
set_option exponentiation.threshold 5000
theorem BackR.good {w0 w' : World} {l m : List Int} {e : Ending} (h : BackR w0 l m e w') (hg : l.all (DI m) = true) : ∃ x, e = .returned (.tuple #[x, .int .i64 0]) /\ St w0 w' [.own x 3 1 (l.map (Gu m)).length (AK (l.map (Gu m)))] fun _ _ => True := by
 rcases h with ⟨h, -⟩ | h
 ·rw [hg] at h; cases h
 ·exact h.2
end
section
open Go.RowKit
attribute [local go_sem ↓] Go.wp_at_zero Go.wp_at_succ
set_option maxRecDepth 20000
set_option exponentiation.threshold 5000
theorem start_bytes2 {W : World} {D E : Nat -> Prop} {u v : Value} {l m : List Nat} (h : Bw W) (hu : Sl W D 1 u l.length (Gc l)) (hv : Sl W E 1 v m.length (Gc m)) : ∃ K : (Nat -> Prop) -> World -> Prop, (∀ D w, K D w -> Bw w /\ D 0) /\ (∀ D w, K D w -> Sl w D 1 u l.length (Gc l)) /\ (∀ D w, K D w -> Sl w D 1 v m.length (Gc m)) /\ St W W [] K :=
 ⟨fun D w => (Bw w /\ D 0) /\ Sl w D 1 u l.length (Gc l) /\ Sl w D 1 v m.length (Gc m), fun _ _ h => h.1, fun _ _ h => h.2.1, fun _ _ h => h.2.2, St.start (D := fun _ => True) (BQ.and ((Aj (by decide)).and (Aj (by decide)))) ⟨⟨h, trivial⟩, hu.imp fun _ _ _ => trivial, hv.imp fun _ _ _ => trivial⟩⟩
theorem backL_step {m l : List Int} {j : Nat} {k : Int} (h : l[j]? = some k) : D8 m (l.take (j + 1)) = D8 m (l.take j) ++ if 0 <= Ei m k then [Ei m k] else [] := by
 unfold D8
 rw [List.take_add_one, h, List.flatMap_append]
 simp
theorem Gx (m : List Int) : ∀ l : List Int, (D8 m l).length <= l.length
 | [] => by simp [D8]
 | k :: r => by
  have := Gx m r
  unfold D8 at *
  rw [List.flatMap_cons, List.length_append, List.length_cons]
  split
  ·rw [List.length_singleton]; omega
  ·rw [List.length_nil]; omega
theorem Fz {p : Aq} {s : Nat} {l : List Int} {N n M m : Nat} {b : Bool} (h : Hid (runTo p s 0 l = (N, n, b))) (k : runTo p s 0 l = (M, m, true)) : N = M /\ b = true := by
 have := h.out.symm.trans k
 simp only [Prod.mk.injEq] at this
 exact ⟨this.1, this.2.2⟩
set_option maxHeartbeats 4000000 in
theorem lplans_any (v bv : Value) (l m : List Nat) (W : World) (D E : Nat -> Prop) (hl : ∀ x ∈ l, x < 256) (hm : ∀ x ∈ m, x < 256) (hv : Sl W D 1 v l.length (Gc l)) (hbv : Sl W E 1 bv m.length (Gc m)) (hT : Bw W) : Calls Tryz.prog 7 #[v, bv] W (AV (fun x _ => x = .bool true) W) := by
 obtain ⟨K, kt, k1, k2, hS⟩ := start_bytes2 hT hv hbv
 clear hv hbv hT
 have HL := Lib.hid hl
 have HMb := Lib.hid hm
 clear hl hm
 go_enter Tryz.func7, Tryz.ntmps7
 go_wp2_with (first
  | (go_at_call 11; refine (lawake33_any hS kt).mono ?_; clear hS; rintro e w_ ⟨rfl, hS⟩)
  | (go_at_call 12; refine (lmake31_any HL.out hS k1 kt).mono ?_; clear hS; rintro e w_ ⟨x, u, rfl, p, ⟨L, R, hM⟩, hS⟩; replace hM := Lib.hid hM; obtain ⟨xs, rfl, hx6, hx1⟩ := hS.ro.2.1.cells; replace hx6 := Lib.hid hx6; obtain ⟨us, rfl, hu6, hu1⟩ := hS.ro.2.2.cells; replace hu6 := Lib.hid hu6; have HC0 := Lib.hid hM.out.check)
  | ((with_reducible refine qA 5 ?_); refine qa hS #[.int .i64 0, .pointer none, .slice none 0 0, .slice none 0 0, .slice none 0 0, .slice none 0 0] ?_; clear hS; intro g5 w_ hS)
  | ((with_reducible refine qA 6 ?_); refine qa hS #[.int .i64 0, .slice none 0 0, .int .u64 0, .slice none 0 0, .slice none 0 0, .slice none 0 0] ?_; clear hS; intro g6 w_ hS)
  | ((with_reducible refine qA 8 ?_); refine qa hS #[.int .i64 0, .pointer none, .slice none 0 0, .slice none 0 0, .slice none 0 0, .slice none 0 0] ?_; clear hS; intro g8 w_ hS)
  | ((with_reducible refine qA 40 ?_); refine BigFrame.wpList_want rfl fun _ hK => B5 rfl rfl (hS.box 1 rfl) Tryz.underlying31 rfl (by rw [hx6.out]; kernel_rfl) (hK _ _ ?_))
  | (go_at_call 19; refine (FL hM.out.ok hS (fun D w h => h.2.1) (fun D w h => (kt D w h.1).1)).mono ?_; rw [HC0.out]; clear hS; rintro e w_ ⟨y, kk, rfl, hS⟩; obtain ⟨ys, rfl, hy6, hy1⟩ := hS.ro.1.2.cells; replace hy6 := Lib.hid hy6; obtain ⟨Ak, ck, rfl, _, _⟩ := hS.ro.2.shape)
  | ((with_reducible refine qm 37 ?_); (refine B7 hS 0 rfl _ _ _ rfl _ _ rfl rfl _ _ rfl (by rw [hu6.out]; kernel_rfl) (by rw [hu6.out]; rfl) hu1 ?_; clear hS; intro w_ hS; (try simp only [Act.put, Act.eval, zz, Value.cells] at hS)))
  | ((with_reducible refine qm 31 ?_); (first | (refine B7 hS 0 rfl _ _ _ rfl _ _ rfl rfl _ _ rfl (by rw [hy6.out]; kernel_rfl) (by rw [hy6.out]; rfl) hy1 ?_) | (refine B7 hS 1 rfl _ _ _ rfl _ _ rfl rfl _ _ rfl (by rw [hx6.out]; kernel_rfl) (by rw [hx6.out]; rfl) hx1 ?_)); clear hS; intro w_ hS; (try simp only [Act.put, Act.eval, zz, Value.cells] at hS))
  | ((with_reducible refine qA 51 ?_); refine BigFrame.wpList_want rfl fun _ hK => B5 rfl rfl (hS.box 0 rfl) Tryz.underlying31 rfl (by rw [hy6.out]; kernel_rfl) (hK _ _ ?_))
  | (go_at_call 35; refine (lwalk_any hM.out.slice.links hM.out.slice.ok (by have := hM.out.slice.rlen; omega) HMb.out hS (fun D w h => h.1.2) (fun D w h => k2 D w h.1.1.1) (fun D w h => (kt D w h.1.1.1).1)).mono ?_; clear hS; rintro e w_ ⟨z, pl, B, rfl, hpl, hrun, hS⟩; obtain ⟨Az, cz, rfl, _, _⟩ := hS.ro.2.shape; obtain ⟨A, hA1, hA2, hA3, hA4⟩ := sim_fwd hM.out (Hk hM.out) (by rw [<- GC hM.out]; exact hrun.out); replace hA1 := Lib.hid hA1; replace hA2 := Lib.hid hA2; replace hA3 := Lib.hid hA3; replace hA4 := Lib.hid hA4)
  | (go_at_call 36; refine (back_any hS.ro.2 hS.ro.1.2 (by omega)).mono ?_; intro e w_ hB; obtain ⟨x, rfl, hs_⟩ := hB.good hA4.out; obtain ⟨wl, hwl⟩ : ∃ wl, pl.map (Gu (ofKept p)) = wl := ⟨_, rfl⟩; have hwlen : wl.length <= 12 := (by rw [<- hwl, List.length_map]; exact hpl); rw [hwl] at hs_ hA1; replace hS := hS.new hs_.below (.own x 3 1 wl.length (AK wl)) (hs_.own 0 rfl); clear hs_ hB hwl; replace hS := hS.freeze 0 (by decide) rfl; obtain ⟨Aw, cw, rfl, _, _⟩ := hS.ro.2.shape)
  | ((with_reducible refine qA 61 ?_); refine BigFrame.wpList_want rfl fun _ hK => B5 rfl rfl (hS.box 2 rfl) Tryz.underlying31 rfl (by rw [hx6.out]; kernel_rfl) (hK _ _ ?_))
  | ((with_reducible show Calls _ _ #[.agg xs, _] _ _); go_at_call 37; refine (Fw hM.out.links hM.out.ok (by omega) hS (fun D w h => h.1.1.1.1.2.1) (fun D w h => h.2) (fun D w h => (kt D w h.1.1.1.1.1).1)).mono ?_; clear hS; rintro e w_ ⟨x, N1, n1, b1, rfl, hr1, hS⟩; obtain ⟨rfl, rfl⟩ := Fz hr1 hA1.out; clear hr1; obtain ⟨ua, rfl, hua⟩ := BM hS.ro.2)
  | ((with_reducible refine qA 14 ?_); refine qa hS #[.slice none 0 0] ?_; clear hS; intro g14 w_ hS)
  | ((with_reducible refine qA 17 ?_); refine qa hS #[.slice none 0 0] ?_; clear hS; intro g17 w_ hS)
  | ((with_reducible refine qA 68 ?_); refine BigFrame.wpList_want rfl fun _ hK => B5 rfl rfl (hS.box 1 rfl) Tryz.underlying31 rfl (by rw [hy6.out]; kernel_rfl) (hK _ _ ?_))
  | ((with_reducible show Calls _ _ #[.agg ys, _] _ _); go_at_call 37; refine (Fw hM.out.slice.links hM.out.slice.ok (by omega) hS (fun D w h => h.1.1.1.1.2) (fun D w h => h.1.1.2) (fun D w h => (kt D w h.1.1.1.1.1.1).1)).mono ?_; clear hS; rintro e w_ ⟨x, N2, n2, b2, rfl, hr2, hS⟩; obtain ⟨rfl, rfl⟩ := Fz hr2 hrun.out; clear hr2; obtain ⟨ub, rfl, hub⟩ := BM hS.ro.2)
  | ((with_reducible refine qm 27 ?_); refine B7 hS 0 rfl _ _ _ rfl _ _ rfl rfl _ _ rfl (by kernel_rfl) (by kernel_rfl) (by first | (simpa using hub) | (simpa using hua)) ?_; clear hS; intro w_ hS; (try simp only [Act.put, Act.eval, zz, Value.cells] at hS)))
 obtain ⟨K8, k8, hS2⟩ : ∃ K8 : (Nat -> Prop) -> World -> Prop, Hid (∀ D w, K8 D w -> ((K D w /\ B6 w D (.agg xs) p) /\ B6 w D (.agg ys) (ofP p)) /\ Sl w D 1 (.slice Ak (ofKept p).length ck) (ofKept p).length (AK (ofKept p)) /\ A7 w D (.agg #[ua]) N1 /\ A7 w D (.agg #[ub]) N2) /\ St W w_ ([.box g17 27 #[ub], .box g14 27 #[ua], .box g8 31 ys, .box g6 37 us, .box g5 31 xs]) K8 := ⟨_, Lib.hid fun D w h => ⟨⟨⟨h.1.1.1.1.1.1.1, h.1.1.1.1.1.1.2.1⟩, h.1.1.1.1.1.2⟩, h.1.1.1.1.2, h.1.2, h.2⟩, hS⟩
 clear hS
 have hS := hS2
 clear hS2
 have HT := Lib.hid fun D w (h : K8 D w) => (kt _ _ (k8.out _ _ h).1.1.1).1
 have HB1 := Lib.hid (fun D w (h : K8 D w) => k1 _ _ (k8.out _ _ h).1.1.1)
 have HB2 := Lib.hid (fun D w (h : K8 D w) => k2 _ _ (k8.out _ _ h).1.1.1)
 obtain ⟨rb, hrb⟩ : ∃ rb, reachB p N1 = rb := ⟨_, rfl⟩
 have HRB1 := Lib.hid hrb
 have HRB2 : Hid (reachB (ofP p) N2 = rb) := Lib.hid (by rw [<- hrb, <- hA2.out]; exact (GE hM.out).symm)
 have HREL : Hid (relS p = relM L p) := Lib.hid hM.out.rel
 clear hrb kt k1 k2
 refine BU [.n 0, .b false, .b false, .b true, .b false, .b false, .b false, .b true, .b false, .b false, .b false, .i (.agg xs), .i (.agg #[ua]), .i (.bool rb), .i (.agg ys), .i (.agg #[ub]), .i (.bool rb), .b false, .b false, .b false, .i (.agg #[ua]), .i (.agg xs), .s (fun v w => A7 w (fun _ => True) v (relM L p)) fun v w w' h hb => h.ext hb, .s (fun v w => A7 w (fun _ => True) v N2) fun v w w' h hb => h.ext hb, .i (.agg #[ub]), .b true, .b false, .b false] ⟨uM, uB (h := fun w hW hN => run_neB (by simp)), uM, uM, uU, uP, uM, uM, uU, uP, uM, ?_, uR (h := fun w hW hN => (hS.ext hW).box 1 rfl), ?_, ?_, uR (h := fun w hW hN => (hS.ext hW).box 0 rfl), ?_, uB (h := fun w hW hN => by cases rb <;> rfl), uP, uM, uR (h := fun w hW hN => (hS.ext hW).box 1 rfl), ?_, ?_, ?_, uR (h := fun w hW hN => (hS.ext hW).box 0 rfl), ?_, uU, uP, trivial⟩ ?_
 ·refine uT fun b__ w hW hE K hK => ?_
  have e5 : b__.eval (.tmp 5) = .pointer (some ⟨g5, 0, none⟩) := hE 5
  exact B5 rfl e5 ((hS.ext hW).box 4 rfl) Tryz.underlying31 rfl (by rw [hx6.out]; kernel_rfl) (hK _ _ rfl (Below.refl _ _))
 ·refine uT fun b__ w hW hE K hK => ?_
  have e85 := hE 85
  have e86 := hE 86
  exact Ai rfl (by kernel_rfl) (by simp only [List.map_cons, List.map_nil, e85, e86]) (Dl (k8.out _ _ (hS.ext hW).ro).1.1.2 hM.out.ok (HT.out _ _ (hS.ext hW).ro) (k8.out _ _ (hS.ext hW).ro).2.2.1) fun v w' h hb => hK v w' (h.trans (by rw [HRB1.out])) hb
 ·refine uT fun b__ w hW hE K hK => ?_
  have e8 : b__.eval (.tmp 8) = .pointer (some ⟨g8, 0, none⟩) := hE 8
  exact B5 rfl e8 ((hS.ext hW).box 2 rfl) Tryz.underlying31 rfl (by rw [hy6.out]; kernel_rfl) (hK _ _ rfl (Below.refl _ _))
 ·refine uT fun b__ w hW hE K hK => ?_
  have e88 := hE 88
  have e89 := hE 89
  exact Ai rfl (by kernel_rfl) (by simp only [List.map_cons, List.map_nil, e88, e89]) (Dl (k8.out _ _ (hS.ext hW).ro).1.2 hM.out.slice.ok (HT.out _ _ (hS.ext hW).ro) (k8.out _ _ (hS.ext hW).ro).2.2.2) fun v w' h hb => hK v w' (h.trans (by rw [HRB2.out])) hb
 ·refine uT fun b__ w hW hE K hK => ?_
  have e5 : b__.eval (.tmp 5) = .pointer (some ⟨g5, 0, none⟩) := hE 5
  exact B5 rfl e5 ((hS.ext hW).box 4 rfl) Tryz.underlying31 rfl (by rw [hx6.out]; kernel_rfl) (hK _ _ rfl (Below.refl _ _))
 ·refine uT fun b__ w hW hE K hK => ?_
  have e95 := hE 95
  exact Ai rfl (by kernel_rfl) (by simp only [List.map_cons, List.map_nil, e95]) (DO (k8.out _ _ (hS.ext hW).ro).1.1.2 hM.out.ok (HT.out _ _ (hS.ext hW).ro)) fun v w' h hb => hK v w' (by rw [<- HREL.out]; exact h.imp fun _ _ _ => trivial) hb
 ·refine uT fun b__ w hW hE K hK => ?_
  have e94 := hE 94
  have e96 := hE 96
  exact Ai rfl (by kernel_rfl) (by simp only [List.map_cons, List.map_nil, e94]) (and_any (k8.out _ _ (hS.ext hW).ro).2.2.1 e96) fun v w' h hb => hK v w' (by rw [<- hA2.out]; exact h.imp fun _ _ _ => trivial) hb
 ·refine uT fun b__ w hW hE K hK => ?_
  have e97 := hE 97
  have e98 := hE 98
  exact Ai rfl (by kernel_rfl) (by simp only [List.map_cons, List.map_nil, e98]) (EF _ _ N2 N2 _ _ _ e97 (k8.out _ _ (hS.ext hW).ro).2.2.2) fun v w' h hb => hK v w' (h.trans (by simp)) hb
 ·intro vs wz hW hT
  obtain ⟨e74, e75, e76, e77, e78, e79, e80, e81, e82, e83, e84, e85, e86, e87, e88, e89, e90, e91, e92, e93, e94, e95, e96, e97, e98, e99, e100, e101, -⟩ := hT
  have bx : (fun _ : Nat => True) 0 := trivial
  simp only [AB, Act.put, zz, ze]
  rw [e101]
  replace hS := hS.ext hW
  clear hW e74 e75 e76 e77 e78 e79 e80 e81 e82 e83 e84 e85 e86 e87 e88 e89 e90 e91 e92 e93 e94 e95 e96 e97 e98 e99 e100 e101 bx HRB1 HRB2 HREL hrun hA1 hA2 hA3 hA4
  have hrl := hM.out.rlen
  have hkl : (ofKept p).length <= 10 := by rw [kept_len hM.out]; have := hM.out.slice.rlen; omega
  go_wp2_with (first
   | ((with_reducible refine qA 102 ?_); refine BigFrame.wpList_want rfl fun _ hK => B5 rfl rfl (hS.box 4 rfl) Tryz.underlying31 rfl (by rw [hx6.out]; kernel_rfl) (hK _ _ ?_))
   | (go_at_call 35; refine (lwalk_any hM.out.links hM.out.ok (by omega) HMb.out hS (fun D w h => (k8.out _ _ h).1.1.2) (fun D w h => HB2.out _ _ h) (fun D w h => HT.out _ _ h)).mono ?_; clear hS; rintro e w_ ⟨z, lg, C, rfl, hlg, hrun, hS⟩; obtain ⟨Al, cl, rfl, _, _⟩ := hS.ro.2.shape))
  replace hS := hS.nil 3 1
  go_loopw [20, 107] (fun kw iv wr => ∃ (j : Nat) (kv : Value), iv = .int .i64 (j : Nat) /\ kv = kw /\ j <= lg.length /\ St W wr (.own kv 3 1 (D8 (ofKept p) (lg.take j)).length (AK (D8 (ofKept p) (lg.take j))) :: [.box g17 27 #[ub], .box g14 27 #[ua], .box g8 31 ys, .box g6 37 us, .box g5 31 xs]) (fun D w => K8 D w /\ Sl w D 1 (.slice Al lg.length cl) lg.length (AK lg))) (fun _ i _ => lg.length - (intOf i).toNat)
  case atStart => exact ⟨0, _, rfl, rfl, by omega, by simpa [D8, AK] using hS⟩
  case round =>
   clear hS
   obtain ⟨j, kv, rfl, rfl, hj, hS⟩ := hrel
   by_cases hjl : j < lg.length
   ·obtain ⟨bp, op, rfl⟩ := sl_pos hS.ro.2 (by omega)
    obtain ⟨k, hk⟩ : ∃ k, lg[j]? = some k := ⟨_, List.getElem?_eq_getElem hjl⟩
    have HY : Hid ((AK lg)[j]? = some (.int .i64 k)) := Lib.hid (by simp [AK, hk])
    have HST := Lib.hid (backL_step (m := ofKept p) hk)
    have HLN : Hid ((D8 (ofKept p) (lg.take j)).length <= 12) := Lib.hid (Nat.le_trans (Gx _ _) (by rw [List.length_take]; omega))
    clear hk
    obtain ⟨ix, hix⟩ : ∃ ix, Ei (ofKept p) k = ix := ⟨_, rfl⟩
    rw [hix] at HST
    have HIX := Lib.hid hix
    clear hix
    have hln := HLN.out
    generalize D8 (ofKept p) (lg.take j) = BL at *
    by_cases h0 : 0 <= ix
    ·rw [if_pos h0] at HST
     go_wp2_with (first
      | ((with_reducible refine qB ?_); refine qc ?_ ?_ <;> intro h_ <;> go_prune)
      | ((with_reducible refine qk 3 ?_); refine BigFrame.wpList_want rfl fun _ hK => Af rfl rfl (by kernel_rfl) (Dk hS.ro.2 HY.out) (hK _ _ ?_))
      | (go_at_call 39; refine (EX _ (ofKept p) k (by omega) _ _ (k8.out _ _ hS.ro.1).2.1).mono ?_; rw [HIX.out]; rintro r_ w_ ⟨_, rfl, rfl, hb_⟩; replace hS := hS.ext hb_; clear hb_)
      | ((with_reducible refine qA 118 ?_); refine Cf hS 0 rfl rfl _ _ _ _ rfl rfl CQ kv BL.length (AK BL) (.int .i64 ix) #[.int .i64 ix] rfl (by kernel_rfl) rfl rfl rfl rfl (by intro u hu; simp at hu; subst hu; rfl) (by omega) (by omega) ?_; clear hS; intro z_ kv' w_ hS; (try simp only [Act.put, Act.eval, zz, Value.cells] at hS)))
     refine ⟨⟨j + 1, _, by go_num, rfl, hjl, ?_⟩, by simp [intOf]; omega⟩
     rw [HST.out, show (BL ++ [ix]).length = BL.length + 1 by simp, show AK (BL ++ [ix]) = AK BL ++ [.int .i64 ix] by simp [AK]]
     exact hS
    ·rw [if_neg h0, List.append_nil] at HST
     go_wp2_with (first
      | ((with_reducible refine qB ?_); refine qc ?_ ?_ <;> intro h_ <;> go_prune)
      | ((with_reducible refine qk 3 ?_); refine BigFrame.wpList_want rfl fun _ hK => Af rfl rfl (by kernel_rfl) (Dk hS.ro.2 HY.out) (hK _ _ ?_))
      | (go_at_call 39; refine (EX _ (ofKept p) k (by omega) _ _ (k8.out _ _ hS.ro.1).2.1).mono ?_; rw [HIX.out]; rintro r_ w_ ⟨_, rfl, rfl, hb_⟩; replace hS := hS.ext hb_; clear hb_))
     refine ⟨⟨j + 1, kv, by go_num, rfl, hjl, ?_⟩, by simp [intOf]; omega⟩
     rw [HST.out]
     exact hS
   ·obtain rfl : j = lg.length := by omega
    rw [List.take_length] at hS
    obtain ⟨m2, hb2⟩ := sim_bwd hM.out 0 (Hk hM.out) hrun.out
    rw [<- GC hM.out] at hb2
    have HLN := Gx (ofKept p) lg
    generalize D8 (ofKept p) lg = BL at *
    replace hb2 := Lib.hid hb2
    obtain ⟨Ab, cb, rfl, _, _⟩ := Bk (hS.own 0 rfl)
    replace hS := hS.freeze 0 (by decide) rfl
    go_wp2_with (first
     | ((with_reducible refine qB ?_); refine qc ?_ ?_ <;> intro h_ <;> go_prune)
     | ((with_reducible refine qA 122 ?_); refine BigFrame.wpList_want rfl fun _ hK => B5 rfl rfl (hS.box 4 rfl) Tryz.underlying31 rfl (by rw [hx6.out]; kernel_rfl) (hK _ _ ?_))
     | ((with_reducible refine qA 129 ?_); refine BigFrame.wpList_want rfl fun _ hK => B5 rfl rfl (hS.box 3 rfl) Tryz.underlying31 rfl (by rw [hy6.out]; kernel_rfl) (hK _ _ ?_))
     | ((with_reducible show Calls _ _ #[.agg xs, _] _ _); go_at_call 37; refine (Fw hM.out.links hM.out.ok (by omega) hS (fun D w h => (k8.out _ _ h.1.1).1.1.2) (fun D w h => h.1.2) (fun D w h => HT.out _ _ h.1.1)).mono ?_; clear hS; rintro e w_ ⟨x, N3, n3, b3, rfl, hr3, hS⟩; obtain ⟨rfl, rfl⟩ := Fz hr3 hrun.out; clear hr3; obtain ⟨uc, rfl, huc⟩ := BM hS.ro.2)
     | ((with_reducible refine qA 25 ?_); refine qa hS #[.slice none 0 0] ?_; clear hS; intro g25 w_ hS)
     | ((with_reducible refine qA 28 ?_); refine qa hS #[.slice none 0 0] ?_; clear hS; intro g28 w_ hS)
     | ((with_reducible show Calls _ _ #[.agg ys, _] _ _); go_at_call 37; refine (Fw hM.out.slice.links hM.out.slice.ok (by omega) hS (fun D w h => (k8.out _ _ h.1.1.1).1.2) (fun D w h => h.1.2) (fun D w h => HT.out _ _ h.1.1.1)).mono ?_; clear hS; rintro e w_ ⟨x, N4, n4, b4, rfl, hr4, hS⟩; obtain ⟨hN4, rfl⟩ := Fz hr4 hb2.out; clear hr4; obtain ⟨ud, rfl, hud⟩ := BM hS.ro.2)
     | ((with_reducible refine qm 27 ?_); refine B7 hS 0 rfl _ _ _ rfl _ _ rfl rfl _ _ rfl (by kernel_rfl) (by kernel_rfl) (by first | (simpa using hud) | (simpa using huc)) ?_; clear hS; intro w_ hS; (try simp only [Act.put, Act.eval, zz, Value.cells] at hS)))
    obtain ⟨rb, hrb⟩ : ∃ rb, reachB p N3 = rb := ⟨_, rfl⟩
    have HRB1 := Lib.hid hrb
    have HRB2 : Hid (reachB (ofP p) N4 = rb) := Lib.hid (by rw [<- hrb, hN4]; exact (GE hM.out).symm)
    clear hrb hN4
    refine BU [.b true, .b true, .i (.agg xs), .i (.agg #[uc]), .i (.bool rb), .i (.agg ys), .i (.agg #[ud]), .i (.bool rb), .b true, .b true, .b true] ⟨uM, uM, ?_, uR (h := fun w hW hN => (hS.ext hW).box 1 rfl), ?_, ?_, uR (h := fun w hW hN => (hS.ext hW).box 0 rfl), ?_, uB (h := fun w hW hN => by cases rb <;> rfl), uP, uA, trivial⟩ ?_
    ·refine uT fun b__ w hW hE K hK => ?_
     have e5 : b__.eval (.tmp 5) = .pointer (some ⟨g5, 0, none⟩) := hE 5
     exact B5 rfl e5 ((hS.ext hW).box 6 rfl) Tryz.underlying31 rfl (by rw [hx6.out]; kernel_rfl) (hK _ _ rfl (Below.refl _ _))
    ·refine uT fun b__ w hW hE K hK => ?_
     have e137 := hE 137
     have e138 := hE 138
     exact Ai rfl (by kernel_rfl) (by simp only [List.map_cons, List.map_nil, e137, e138]) (Dl (k8.out _ _ (hS.ext hW).ro.1.1.1.1).1.1.2 hM.out.ok (HT.out _ _ (hS.ext hW).ro.1.1.1.1) (hS.ext hW).ro.1.2) fun v w' h hb => hK v w' (h.trans (by rw [HRB1.out])) hb
    ·refine uT fun b__ w hW hE K hK => ?_
     have e8 : b__.eval (.tmp 8) = .pointer (some ⟨g8, 0, none⟩) := hE 8
     exact B5 rfl e8 ((hS.ext hW).box 4 rfl) Tryz.underlying31 rfl (by rw [hy6.out]; kernel_rfl) (hK _ _ rfl (Below.refl _ _))
    ·refine uT fun b__ w hW hE K hK => ?_
     have e140 := hE 140
     have e141 := hE 141
     exact Ai rfl (by kernel_rfl) (by simp only [List.map_cons, List.map_nil, e140, e141]) (Dl (k8.out _ _ (hS.ext hW).ro.1.1.1.1).1.2 hM.out.slice.ok (HT.out _ _ (hS.ext hW).ro.1.1.1.1) (hS.ext hW).ro.2) fun v w' h hb => hK v w' (h.trans (by rw [HRB2.out])) hb
    ·intro vs wz hW hT
     obtain ⟨e135, e136, e137, e138, e139, e140, e141, e142, e143, e144, e4, -⟩ := hT
     simp only [AB, Act.put, zz, ze]
     replace hS := hS.ext hW
     go_wp2_with fail
     go_ret
     first
      | exact AV.mk rfl hS.below
      | exact AV.mk e4 hS.below
end
section
open Go.RowKit Go.ChangeShapes Go.WideShapes
section
variable {H : Type} {enc : TypeId × Value -> H} {P : Program} {w : World} {base : Nat} {sp : Nat -> Bool} {held : Bool}
theorem sl_of_trod {t e : TypeId} {size fuel : Nat} {cs : List Value} {x : DataW H × List MemPlace} (ht : P.underlying t = some (.slice e)) (hc : P.cellsOf e = size) (hsz : 0 < size) (h : DataW.trod enc P w base sp held fuel t cs = some x) :
  ∃ v n xs, cs = [v] /\ Sl w (fun _ => True) size v n xs /\ ∀ k, k < n -> ∃ f' y, DataW.trod enc P w base sp held f' e ((xs.drop (k * size)).take size) = some y := by
 rcases DataW.trod_slice ht h with ⟨rfl, _⟩ | ⟨a, len, cap, elems, rest, n, _, rfl, _, hb, hl, hm, hlen, hel, _⟩
 ·exact ⟨_, 0, [], rfl, ⟨by simp, none, 0, rfl, Nat.le_refl _, Nat.zero_le _, fun h => by omega⟩, fun k hk => by omega⟩
 ·rw [hc] at hel
  have each : ∀ k, k < len -> ∃ ck y, w.cells? base (a.add (k * size)) size = some ck /\ DataW.trod enc P w base sp held n e ck = some y := by
   intro k hk
   have h1 := hel k hk
   rw [List.getElem?_eq_getElem (by omega)] at h1
   obtain ⟨ck, h2, h3⟩ := Option.bind_eq_some_iff.1 h1
   exact ⟨ck, _, h2, h3⟩
  have hadd : ∀ i j, (a.add i).add j = a.add (i + j) := by
   intro i j
   unfold Addr.add
   by_cases h1 : i = 0 <;> by_cases h2 : j = 0 <;> simp [h1, h2, Nat.add_assoc]
  have cell : ∀ j, j < len * size -> ∃ x, w.cell? (a.add j) = some x := by
   intro j hj
   have hk : j / size < len := (Nat.div_lt_iff_lt_mul hsz).2 hj
   obtain ⟨ck, y, h1, h2⟩ := each _ hk
   obtain ⟨_, h3, h4⟩ := World.cells?_some h1
   have h5 := h4 (j % size) (Nat.mod_lt _ hsz)
   rw [hadd, Nat.mul_comm, Nat.div_add_mod] at h5
   rw [h5, List.getElem?_eq_getElem (by rw [h3]; exact Nat.mod_lt _ hsz)]
   exact ⟨_, rfl⟩
  refine ⟨.slice (some a) len cap, len, (List.range (len * size)).map fun j => (w.cell? (a.add j)).getD undef, rfl, ⟨by simp, some a, cap, rfl, hl, hm, fun h0 => ?_⟩, fun k hk => ?_⟩
  ·obtain ⟨x0, hx0⟩ := cell 0 (Nat.mul_pos h0 hsz)
   obtain ⟨b, o, s⟩ := a
   have hs : s = none := cell_spot hx0
   subst hs
   refine ⟨b, o, rfl, trivial, ?_, fun j x hx => ?_⟩
   ·have := hx0
    unfold World.cell? at this
    simp only [Addr.add] at this
    rcases Nat.lt_or_ge b w.heap.size with hlt | hge
    ·exact hlt
    ·simp [Array.getElem?_eq_none hge] at this
   ·simp only [List.getElem?_map, Option.map_eq_some_iff] at hx
    obtain ⟨j', hj', rfl⟩ := hx
    have hjl := (List.getElem?_eq_some_iff.1 hj').1
    rw [List.getElem?_range (by simpa using hjl)] at hj'
    obtain rfl := Option.some.inj hj'
    obtain ⟨y, hy⟩ := cell j (by simpa using hjl)
    rw [hy]
    have e : (⟨b, o, none⟩ : Addr).add j = ⟨b, o + j, none⟩ := by
     unfold Addr.add; split <;> simp [*]
    rw [e] at hy
    exact hy
  ·obtain ⟨ck, y, h1, h2⟩ := each k hk
   obtain ⟨_, h3, h4⟩ := World.cells?_some h1
   refine ⟨n, y, ?_⟩
   rw [<- h2]
   congr 1
   have hle : k * size + size <= len * size := by
    rw [<- Nat.succ_mul]; exact Nat.mul_le_mul_right _ hk
   apply List.ext_getElem?
   intro i
   rcases Nat.lt_or_ge i size with hi | hi
   ·rw [List.getElem?_take_of_lt hi, List.getElem?_drop, List.getElem?_map, List.getElem?_range (by omega)]
    have h5 := h4 i hi
    rw [hadd] at h5
    simp only [Option.map_some]
    rw [h5, List.getElem?_eq_getElem (by omega)]
    simp
   ·rw [List.getElem?_eq_none (by simp; omega), List.getElem?_eq_none (by omega)]
end
theorem u8_nat {n : Int} (h : (Lit.int .u8 n).wf = true) : ∃ m : Nat, n = (m : Int) /\ m < 256 := by
 have := bounds_u8 h
 exact ⟨n.toNat, by omega, by omega⟩
end
section
open Go.ChangeShapes Go.WideShapes Go.ChangeAt Go.RowKit
set_option maxRecDepth 20000 in
theorem Io {H : Type} {enc : TypeId × Value -> H} {W : World} {r : Reach} {b0 base : Nat} {sp : Nat -> Bool} {held : Bool} {v : Value} {d : DataW H} {p : List MemPlace} (hv : Value.okWide Tryz.prog W r b0 22 v) (h : DataW.Trod enc Tryz.prog W base sp held 22 v d p) :
  ∃ l : List Nat, (∀ x ∈ l, x < 256) /\ Sl W (fun _ => True) 1 v l.length (Gc l) := by
 obtain ⟨a0, len0, cap0, rfl⟩ := okWide_slice Tryz.underlying22 hv
 obtain ⟨fuel, hf⟩ := h
 obtain ⟨v, n, xs, e, hs, he⟩ := sl_of_trod Tryz.underlying22 (size := 1) (by kernel_rfl) (by decide) hf
 have hl := hs.1
 have : ∃ zs : List Nat, (∀ x ∈ zs, x < 256) /\ xs = Gc zs := by
  have : ∀ v ∈ xs, ∃ z : Nat, z < 256 /\ v = .int .u8 (z : Nat) := by
   intro v hv
   obtain ⟨k, hk, hkv⟩ := List.mem_iff_getElem.1 hv
   obtain ⟨f', y, hy⟩ := he k (by omega)
   obtain ⟨z, hz, _, hw⟩ := DataW.trod_int Tryz.underlying5 hy
   obtain ⟨m, rfl, hm⟩ := u8_nat hw
   have h0 := congrArg (·[0]?) hz
   simp only [Nat.mul_one, List.getElem?_take_of_lt Nat.zero_lt_one, List.getElem?_drop, Nat.add_zero] at h0
   rw [List.getElem?_eq_getElem hk, hkv] at h0
   exact ⟨m, hm, by simpa using h0⟩
  clear hs he hl
  induction xs with
  | nil => exact ⟨[], fun x hx => by simp at hx, rfl⟩
  | cons a r ih =>
   obtain ⟨zs, hzs, rfl⟩ := ih fun v hv => this v (List.mem_cons_of_mem _ hv)
   obtain ⟨z, hz, rfl⟩ := this a List.mem_cons_self
   exact ⟨z :: zs, fun x hx => by rcases List.mem_cons.1 hx with rfl | hx; exact hz; exact hzs x hx, rfl⟩
 obtain ⟨zs, hzs, rfl⟩ := this
 have hz : zs.length = n := by simpa [Gc] using hl
 obtain rfl : v = .slice a0 len0 cap0 := by simpa [Value.cells] using e.symm
 exact ⟨zs, hzs, hz ▸ hs⟩
end
section
open Go.RowKit Go.ChangeShapes Go.WideShapes
theorem boxF_of_reads {w : World} {n : String} {g : Nat} {t e : TypeId} {m : Nat} {k : IntKind} {zs : List Int} (hg : Tryz.prog.globalNamed n = some g) (hty : (Tryz.prog.globals[g]?).map (·.type) = some t)
  (ht : Tryz.prog.underlying t = some (.array m e)) (he : Tryz.prog.underlying e = some (.int k)) (hce : Tryz.prog.cellsOf e = 1) (hct : Tryz.prog.cellsOf t = m) (h : Lib.VarReads Tryz.prog w n (Lib.tabData k zs)) :
  ∃ t, BoxF w g t (zs.map fun z => Value.int k z).toArray := by
 obtain ⟨g', t', cs, fuel, p, hg', hty', hvar, hd⟩ := h
 obtain rfl := Option.some.inj (hg.symm.trans hg')
 obtain rfl := Option.some.inj (hty.symm.trans hty')
 have hcs := Lib.cells_of_tab ht he hce hct hd
 simp only [World.var?, hg, Option.bind_some] at hvar
 split at hvar
 ·rename_i cs' t'' f heq
  obtain rfl := Option.some.inj hvar
  refine ⟨(t'', f), ?_⟩
  rw [<- hcs]
  exact heq
 ·cases hvar
end
section
open Go.RowKit Go.ChangeShapes Go.WideShapes
theorem dtab_of_reads {w : World} (h1 : Lib.VarReads Tryz.prog w "math/bits.deBruijn64tab" Rows.laid_math_bits_deBruijn64tab) : Bw w := by
 have e1 : (Rows.laid_math_bits_deBruijn64tab : DataW Unit) = Lib.tabData .u8 (dbL.map fun x : Nat => (x : Int)) := by kernel_rfl
 rw [e1] at h1
 obtain ⟨t, b1⟩ := boxF_of_reads (g := 0) (by kernel_rfl) (t := 188) (by kernel_rfl) Tryz.underlying188 Tryz.underlying5 (by kernel_rfl) (by kernel_rfl) h1
 have e : (List.map (fun z => Value.int .u8 z) (dbL.map fun x : Nat => (x : Int))) = Gc dbL := by simp [Gc]
 rw [e] at b1
 intro q hq
 rw [b1.cell, List.getElem?_toArray]
 exact u8s_at _ _ hq
end
section
open Go.ChangeShapes Go.WideShapes Go.ChangeAt Go.RowKit
theorem Gl (W : World) (h : laidMetH Tryz.prog Rows.slicePlansRow.laid W) : Bw W := by
 have h' : laidMetH Tryz.prog [("math/bits.deBruijn64tab", Rows.laid_math_bits_deBruijn64tab)] W := h
 rw [MakeChecks.laidMetH_plain _ _ _ (by kernel_rfl)] at h'
 exact dtab_of_reads (Lib.laidMet.reads h' (.head _))
noncomputable def splanStart (os : Os) : World := World.laidAll Tryz.prog os Rows.slicePlansRow.laid
theorem GZ (os : Os) (args : Array Value) : laidMetH Tryz.prog Rows.slicePlansRow.laid ((splanStart os).forCall (fun _ _ => 0) ⟨#[], args, []⟩).memory := by
 rw [MakeChecks.laidMetH_plain _ _ _ (by kernel_rfl)]
 exact laidMet_laidAll _ (by kernel_rfl) (by kernel_rfl)
theorem splan_own : ownKnob Tryz.prog.godebug = none := by kernel_rfl
theorem EP : laidOutB Tryz.prog = true := by kernel_rfl
set_option maxRecDepth 100000 in
theorem splan_lifted (os : Os) (started : os.Started) (H : Type) (enc : TypeId × Value -> H) :
  ReturnsInHanded {} Tryz.checked os 7 .any (fun w args => (Rows.slicePlansSpec.pre enc Tryz.prog Tryz.f7 [] false w args /\ laidMetH Tryz.prog Rows.slicePlansRow.laid w) /\ sizedMet enc Tryz.prog Tryz.f7 (OpenSpec.ofChange Rows.slicePlansSpec) false w args)
   (Rows.slicePlansSpec.post enc Tryz.prog Tryz.f7 false true false false) := by
 refine returnsInHanded_of_change_and (C := Tryz.checked) (X := fun w _ => laidMetH Tryz.prog Rows.slicePlansRow.laid w) (fun _ _ _ hh h => h.of_heap hh) splan_own started (by kernel_rfl) Tryz.func7
  (ChangeSpec.witness_shaped (enc := enc) (C := Tryz.checked) (os := os) (X := fun w _ => laidMetH Tryz.prog Rows.slicePlansRow.laid w) false (splanStart os) #[.slice none 0 0, .slice none 0 0] 8 (World.laidAll_os _ _ _) (World.shaped_of_ZipB (by kernel_rfl) (by kernel_rfl)) (by kernel_rfl) (by kernel_rfl) (by kernel_rfl) (GZ os _)) ?_
 intro W base args ds gs before hval0 hW _ _ hL _
 have hval : ∀ (j : Nat) t v, Tryz.f7.params[j]? = some t -> args[j]? = some v -> Value.okWide Tryz.prog W .any base t v := hval0
 have hW' := hW
 obtain ⟨p, q, hA0, hV, rfl, hfz, hnd⟩ := hW
 have hA : DataW.TrodAll enc Tryz.prog W 0 (fun _ => true) true Tryz.f7.params.toList args.toList ds p := hA0
 rw [Tryz.params7] at hA hval
 obtain ⟨v0, v1, d0, d1, p0, p1, rfl, rfl, rfl, h0, h1⟩ := trodAll_two hA
 obtain ⟨rfl, rfl⟩ := trodVars_none hV
 obtain ⟨l, hl, hs⟩ := Io (hval 0 _ v0 rfl rfl) h0
 obtain ⟨m, hm, hs2⟩ := Io (hval 1 _ v1 rfl rfl) h1
 have hT := Gl W hL
 have lt : ∀ z ∈ p0 ++ p1, z.block < W.heap.size := fun z hz => by simpa using hW'.lt z (by simpa using hz)
 refine (lplans_any v0 v1 l m W _ _ hl hm hs hs2 hT).mono fun E W' he => ?_
 obtain ⟨r, rfl, rfl, hb⟩ := he
 refine ⟨_, rfl, _, _, _, [], p0 ++ p1, [], hW', ?_, ?_, ?_, hb.frame _, fun h => by cases h⟩
 ·exact trodAll_mk1 (shut_bool Tryz.underlying4 true)
 ·rw [Tryz.params7]
  exact trodAll_mk2 (Below.trod EP (by kernel_rfl) (of_decide_eq_true (by kernel_rfl)) h0 hb fun z hz => lt z (List.mem_append_left _ hz)) (Below.trod EP (by kernel_rfl) (of_decide_eq_true (by kernel_rfl)) h1 hb fun z hz => lt z (List.mem_append_right _ hz))
 ·rfl
theorem splan_holds : Rows.SlicePlansSaid :=
 OpenClaim.holds_of_wide 7 Tryz.f7 rfl rfl rfl rfl rfl rfl rfl ⟨rfl, rfl, rfl, rfl, rfl⟩ rfl rfl rfl rfl rfl (by kernel_rfl) Tryz.func7 (by kernel_rfl)
  (of_decide_eq_true (by kernel_rfl)) (by unfold Func.isWrapper; rw [if_neg (by decide +kernel)]; exact ⟨rfl, rfl⟩)
  (fun os started H enc _ => splan_lifted os started H enc)
end
section
open Go
theorem splan_card : Rows.SlicePlansCardSaid :=
 Claim7.holds_tied_plain_at .later [] [.data] true (true, "2d0cce7fd9cc136f77960caa9ad49f21584df77fdf1a824aa537d6f087b5c6e9") false
  splan_holds (fun _ h => by cases h) (by kernel_rfl) (fun _ h => by cases h) slicePlans_row_tie rfl ⟨rfl, rfl⟩ (by kernel_rfl) rfl
  (fun f fn hf hfn => by
   obtain rfl : f = 7 := Option.some.inj ((show Tryz.prog.funcNamed "arbac/arbaclaw33.SlicePlans" = some 7 by kernel_rfl).symm.trans hf) |>.symm
   obtain rfl : fn = Tryz.f7 := (Option.some.inj (Tryz.func7.symm.trans hfn)).symm
   exact ⟨by kernel_rfl, fun j t ht => by
    rw [Tryz.params7] at ht
    have h3 : t = 22 := by
     rcases j with _ | _ | j
     ·simp at ht; simp [<- ht]
     ·simp at ht; simp [<- ht]
     ·simp at ht
    rcases h3 with rfl
    ·exact (show Tryz.prog.wantsStandIn 22 = false by kernel_rfl)⟩)
  (by kernel_rfl)
end
end Go.Proofs.YtihpgmbinhmmlaaGreatDoor
namespace Go.Proofs.YtihpgmbinhmmlaaGreatDoor
#print axioms splan_card
end Go.Proofs.YtihpgmbinhmmlaaGreatDoor
