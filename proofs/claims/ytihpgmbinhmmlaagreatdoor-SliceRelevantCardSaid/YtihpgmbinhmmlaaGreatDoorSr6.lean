/-
  The card of SliceRelevant.
-/
import Derived.Test.YtihpgmbinhmmlaaGreatDoorRows
import Derived.ProofKit
import Derived.OpenShut
import Derived.Lib.LaidU8
import Derived.Lay
import Derived.MakeChecks
import Derived.LaidLaws
import Derived.Stop.Joined
import Derived.Test.YtihpgmbinhmmlaaGreatDoorCards
import Derived.Test.YtihpgmbinhmmlaaGreatDoorTie
import Derived.SevenTiedAt
import Derived.Test.YtihpgmbinhmmlaaGreatDoorSr5
namespace Go.Proofs.YtihpgmbinhmmlaaGreatDoor
open Go.RowKit
attribute [local go_sem ↓] Go.wp_at_zero Go.wp_at_succ
set_option maxRecDepth 20000
set_option exponentiation.threshold 5000

set_option maxHeartbeats 4000000 in
theorem useless_any {w0 : World} {D : Nat → Prop} {v : Value} {p : ProbD} (hp : IsProb w0 D v p) (hP : p.Ok) (hT : DTab w0) : Calls Tryz.prog 21 #[v] w0 fun e w' => ∃ u, e = .returned u ∧ St w0 w' [.own u 3 1 (useN p).length (ints (useN p))] fun _ _ => True := by
 obtain ⟨R, lk, st, rl, nl, gl⟩ := p
 have HP := Lib.hid hP
 have hP1 := hP.rules
 dsimp only at hP1
 clear hP
 obtain ⟨lp, s, rv, nv, gv, rfl, h1, h2, h3, h4, h5⟩ := hp
 dsimp only at h1 h2 h3 h4 h5 ⊢
 obtain ⟨Cs, ns, cs, rfl⟩ := h2.shape
 obtain ⟨Ar, cr, rfl, _, _⟩ := h3.shape
 obtain ⟨An, cn, rfl, _, _⟩ := h4.shape
 obtain ⟨Ag, cg, rfl, _, _⟩ := h5.shape
 obtain ⟨K, kp, kho, ks, kr, kt, hS⟩ : ∃ K : (Nat → Prop) → World → Prop, (∀ D w, K D w → IsProb w D (.agg #[.int .i64 R, lp, .slice Cs ns cs, .slice Ar rl.length cr, .slice An nl.length cn, .slice Ag gl.length cg]) ⟨R, lk, st, rl, nl, gl⟩) ∧ (∀ D w, K D w → IsHo w D lp lk) ∧ (∀ D w, K D w → IsSet w D (.agg #[.slice Cs ns cs]) st) ∧ (∀ D w, K D w → IsRules w D (.slice Ar rl.length cr) rl) ∧ (∀ D w, K D w → DTab w) ∧ St w0 w0 [] K :=
  ⟨fun D w => ((IsHo w D lp lk ∧ IsSet w D (.agg #[.slice Cs ns cs]) st) ∧ IsRules w D (.slice Ar rl.length cr) rl ∧ IsCubes w D (.slice An nl.length cn) nl ∧ IsCubes w D (.slice Ag gl.length cg) gl) ∧ (DTab w ∧ D 0), fun _ _ h => ⟨_, _, _, _, _, rfl, h.1.1.1, h.1.1.2, h.1.2.1, h.1.2.2.1, h.1.2.2.2⟩, fun _ _ h => h.1.1.1, fun _ _ h => h.1.1.2, fun _ _ h => h.1.2.1, fun _ _ h => h.2.1,
   St.start (D := fun _ => True) (((stable_ho.and stable_set).and (stable_rules.and (stable_cubes.and stable_cubes))).and dtab_stable) ⟨⟨⟨stable_ho D _ w0 w0 h1 (Nat.le_refl _) (fun _ _ _ _ h => h) fun _ _ _ _ => trivial, h2.imp fun _ _ _ => trivial⟩, stable_rules D _ w0 w0 h3 (Nat.le_refl _) (fun _ _ _ _ h => h) fun _ _ _ _ => trivial, h4.imp fun _ _ _ => trivial, h5.imp fun _ _ _ => trivial⟩, hT, trivial⟩⟩
 clear h1 h2 h3 h4 h5 hT
 have KS := Lib.hid hS.stable
 obtain ⟨e, he⟩ : ∃ e, e = checkE ⟨R, lk, st, rl, nl, gl⟩ := ⟨_, rfl⟩
 have HE := Lib.hid he
 clear he
 by_cases h0 : e = 0
 ·subst h0
  cases lk with
  | none => have := HE.out; cases this
  | some L =>
   have HH := Lib.hid (HP.out.links L rfl).1
   have HTG := Lib.hid fun (r : RuleD) (hr : r ∈ rl) => target_nat HE.out.symm rfl (r := r) hr
   have HUS : Hid (useN ⟨R, some L, st, rl, nl, gl⟩ = uslN (closM L (uppM L ⟨R, some L, st, rl, nl, gl⟩)) rl rl.length) := Lib.hid (by unfold useN; rw [if_pos HE.out.symm])
   rw [HUS.out]
   obtain ⟨q, o, rfl, -⟩ := id (kho _ _ hS.ro)
   have kh : ∀ D w, K D w → IsH w D (.pointer (some ⟨q, 0, none⟩)) L := fun D w h => kho D w h
   go_enter Tryz.func21, Tryz.ntmps21
   go_wp2_with (first
    | ((with_reducible refine qA 1 ?_); refine st_box hS rfl _ _ rfl (.agg #[.int .i64 R, .pointer (some ⟨q, 0, none⟩), .slice Cs ns cs, .slice Ar rl.length cr, .slice An nl.length cn, .slice Ag gl.length cg]) _ rfl rfl ?_; clear hS; intro g1 w_ hS; (try simp only [Act.put, Act.eval, z1, z2, z3, z4, z5, z6, z7, z8, Value.cells] at hS))
    | ((with_reducible refine qA 3 ?_); refine qa hS #[.slice none 0 0] ?_; clear hS; intro g3 w_ hS)
    | ((with_reducible refine qB ?_); (first | refine q1 ?_ ?_ | refine q2 ?_ ?_ | refine q3 ?_ ?_ | refine q4 ?_ ?_ | refine q5 ?_ ?_ | refine q6 ?_ ?_) <;> intro h_ <;> go_prune)
    | ((with_reducible refine qK ?_); first | refine qL hS 0 Tryz.underlying31 ?_ | refine qL hS 1 Tryz.underlying31 ?_ | refine qL hS 2 Tryz.underlying31 ?_ | refine qL hS 3 Tryz.underlying31 ?_)
    | ((with_reducible refine qk 27 ?_); first | (refine st_setl hS 0 rfl _ _ rfl _ _ rfl _ _ rfl _ (by first | rfl | assumption) Tryz.underlying27 rfl (by kernel_rfl) ?_) | (refine st_setl hS 1 rfl _ _ rfl _ _ rfl _ _ rfl _ (by first | rfl | assumption) Tryz.underlying27 rfl (by kernel_rfl) ?_) | (refine st_setl hS 2 rfl _ _ rfl _ _ rfl _ _ rfl _ (by first | rfl | assumption) Tryz.underlying27 rfl (by kernel_rfl) ?_) | (refine st_setl hS 3 rfl _ _ rfl _ _ rfl _ _ rfl _ (by first | rfl | assumption) Tryz.underlying27 rfl (by kernel_rfl) ?_) | (refine st_setl hS 4 rfl _ _ rfl _ _ rfl _ _ rfl _ (by first | rfl | assumption) Tryz.underlying27 rfl (by kernel_rfl) ?_) | (refine st_setl hS 5 rfl _ _ rfl _ _ rfl _ _ rfl _ (by first | rfl | assumption) Tryz.underlying27 rfl (by kernel_rfl) ?_))
    | ((with_reducible refine qM ?_); (first | refine qS hS 0 ?_ | refine qS hS 1 ?_ | refine qS hS 2 ?_ | refine qS hS 3 ?_ | refine qT hS 0 ?_ | refine qT hS 1 ?_ | refine qT hS 2 ?_ | refine qT hS 3 ?_); clear hS; intro w_ hS; (try simp only [Act.put, Act.eval, z1, z2, z3, z4, z5, z6, z7, z8, Value.cells] at hS))
    | (go_at_call 18; refine (schk_any (kp _ _ hS.ro) HP.out (kt _ _ hS.ro)).mono ?_; rw [← HE.out]; rintro r_ w_ ⟨_, rfl, rfl, hb_⟩; replace hS := hS.ext hb_; clear hb_))
   go_loopg [4] (2 * lacks st rl + 1) (fun k mv wr => ∃ (mb : Bool) (u : Value) (N : Nat), mv = .bool mb ∧ 2 * lacks N rl + (if mb = true then 1 else 0) ≤ k ∧ Hid (ULow L ⟨R, some L, st, rl, nl, gl⟩ N ∧ (mb = false → ∀ r ∈ rl, r.revoke = false → (r.yes &&& closM L N == r.yes) = true → hasB N r.target = true)) ∧ St w0 wr [.box g3 27 #[u], .box g1 31 #[.int .i64 R, .pointer (some ⟨q, 0, none⟩), .slice Cs ns cs, .slice Ar rl.length cr, .slice An nl.length cn, .slice Ag gl.length cg]] (fun D w => K D w ∧ IsSet w D (.agg #[u]) N))
   case atStart => exact ⟨true, _, st, rfl, by simp, Lib.hid ⟨⟨Sub.refl _, fun T hT => hT.start⟩, nofun⟩, hS.mono (KS.out.and stable_set) fun D w h => ⟨h, ks _ _ h⟩⟩
   case round =>
    clear hS
    obtain ⟨mb, u, B, rfl, hgk, HI, hS⟩ := hrel
    have HGK := Lib.hid hgk
    clear hgk
    cases mb
    ·have HU : Hid (B = uppM L ⟨R, some L, st, rl, nl, gl⟩) := Lib.hid (ULeast.eq ⟨⟨HI.out.1.1, HI.out.2 rfl⟩, HI.out.1.2⟩)
     obtain ⟨N0, rfl⟩ : ∃ N0, N0 = B := ⟨_, rfl⟩
     clear HI HGK
     go_wp2_with (first | ((with_reducible refine qK ?_); first | refine qC hS 0 ?_ | refine qC hS 1 ?_ | refine qC hS 2 ?_ | refine qC hS 3 ?_ | refine qC hS 4 ?_ | refine qC hS 5 ?_ | refine qC hS 6 ?_ | refine qC hS 7 ?_))
     have hSn := hS.nil 3 1
     clear hS
     have hS := hSn
     clear hSn
     go_loopw [7, 51] (fun kw i wr => ∃ (j : Nat) (kv : Value), i = .int .i64 (j : Nat) ∧ kv = kw ∧ j ≤ rl.length ∧ St w0 wr (.own kv 3 1 (uslN (closM L N0) rl j).length (ints (uslN (closM L N0) rl j)) :: [.box g3 27 #[u], .box g1 31 #[.int .i64 R, .pointer (some ⟨q, 0, none⟩), .slice Cs ns cs, .slice Ar rl.length cr, .slice An nl.length cn, .slice Ag gl.length cg]]) (fun D w => K D w ∧ IsSet w D (.agg #[u]) N0)) (fun _ i _ => rl.length - (intOf i).toNat)
     case atStart => exact ⟨0, _, rfl, rfl, by omega, hS⟩
     case round =>
      clear hS
      obtain ⟨j, kv, rfl, rfl, hj, hS⟩ := hrel
      by_cases hlj : j < rl.length
      ·obtain ⟨b, o2, y, n, rfl, _, hb, c0, c1, c2, c3, c4, hy, hn⟩ := (kr _ _ hS.ro.1).at_ hlj
       obtain ⟨Ay, my, cy, rfl⟩ := hy.shape
       obtain ⟨Am, mn, cm, rfl⟩ := hn.shape
       have HTN := Lib.hid (uslN_step (C := closM L N0) (getD_at dfltR hlj))
       have HLK : Hid ((uslN (closM L N0) rl j).length ≤ 100000) := Lib.hid (by unfold uslN; rw [List.length_map]; exact Nat.le_trans (List.length_filter_le _ _) (by rw [List.length_range]; omega))
       obtain ⟨KC, kc, hS2⟩ : ∃ KC : (Nat → Prop) → World → Prop, Hid (∀ D w, KC D w → K D w ∧ IsSet w D (.agg #[u]) N0 ∧ IsSet w D (.agg #[.slice Ay my cy]) (rl.getD j dfltR).yes ∧ IsSet w D (.agg #[.slice Am mn cm]) (rl.getD j dfltR).no) ∧ St w0 wr (.own kv 3 1 (uslN (closM L N0) rl j).length (ints (uslN (closM L N0) rl j)) :: [.box g3 27 #[u], .box g1 31 #[.int .i64 R, .pointer (some ⟨q, 0, none⟩), .slice Cs ns cs, .slice (some ⟨b, o2, none⟩) rl.length cr, .slice An nl.length cn, .slice Ag gl.length cg]]) KC := ⟨_, Lib.hid fun D w h => ⟨h.1.1, h.1.2, h.2.1, h.2.2⟩, hS.add (D := Free _) (stable_set.and stable_set) ⟨hy, hn⟩ fun _ h _ => h⟩
       clear hS hy hn
       have hS := hS2
       clear hS2
       generalize rl.getD j dfltR = z at *
       obtain ⟨rv, ry, rn, rt, ro⟩ := z
       dsimp only at kc c0 c1 c2 c3 c4 HTN
       obtain ⟨b2, hb2⟩ : ∃ b, b = (ry &&& closM L N0 == ry) := ⟨_, rfl⟩
       have HB2 := Lib.hid hb2
       rw [← hb2] at HTN
       clear hb2
       generalize hKN : uslN (closM L N0) rl j = KN at *
       clear hKN
       cases rv
       ·cases b2
        ·obtain ⟨b2, hb2'⟩ : ∃ b, b = false := ⟨_, rfl⟩
         rw [← hb2'] at HB2
         have hkl := HLK.out
         go_wp2_with (first
          | ((with_reducible refine qB ?_); (first | refine q1 ?_ ?_ | refine q2 ?_ ?_ | refine q3 ?_ ?_ | refine q4 ?_ ?_ | refine q5 ?_ ?_ | refine q6 ?_ ?_) <;> intro h_ <;> go_prune)
          | ((with_reducible refine qA 55 ?_); refine BigFrame.wpList_want rfl fun _ hK => opw_mid (cs := [.bool _, .slice Ay my cy, .slice Am mn cm, .int .i64 rt, .int .i64 ro]) rfl rfl (rng5 c0 c1 c2 c3 c4) Tryz.underlying58 rfl (by kernel_rfl) (hK _ _ ?_))
          | ((with_reducible refine qA 9 ?_); refine qa hS #[.bool false, .slice none 0 0, .slice none 0 0, .int .i64 0, .int .i64 0] ?_; clear hS; intro g9 w_ hS)
          | ((with_reducible refine qM ?_); (first | refine qS hS 0 ?_ | refine qS hS 1 ?_ | refine qS hS 2 ?_ | refine qS hS 3 ?_ | refine qT hS 0 ?_ | refine qT hS 1 ?_ | refine qT hS 2 ?_ | refine qT hS 3 ?_); clear hS; intro w_ hS; (try simp only [Act.put, Act.eval, z1, z2, z3, z4, z5, z6, z7, z8, Value.cells] at hS)))
         refine wp_region_typed (fun i__ v w => match i__ with
          | 0 => v = .pointer (some ⟨g9, 0, none⟩)
          | 1 => v = .bool false
          | 2 => v = .bool true
          | 3 => v = .bool true
          | 4 => v = .pointer (some ⟨g9, 1, none⟩)
          | 5 => v = .pointer (some ⟨g9, 1, none⟩)
          | 6 => v = .agg #[.slice Ay my cy]
          | 7 => v = .pointer (some ⟨g1, 1, none⟩)
          | 8 => v = .pointer (some ⟨q, 0, none⟩)
          | 9 => v = .agg #[u]
          | 10 => IsSet w (fun _ => True) v (closM L N0)
          | 11 => v = .bool b2
          | 12 => v = .bool (!b2)
          | 13 => v = .bool (!b2)
          | _ => True) (by kernel_rfl) (by kernel_rfl) ?mono ⟨?r0, ?r1, ?r2, ?r3, ?r4, ?r5, ?r6, ?r7, ?r8, ?r9, ?r10, ?r11, ?r12, ?r13, trivial⟩ ?post
         case mono =>
          intro i v w w' h hb
          match i, h with
          | 0, h | 1, h | 2, h | 3, h | 4, h | 5, h | 6, h | 7, h | 8, h | 9, h => exact h
          | 10, h => exact h.ext hb
          | 11, h | 12, h | 13, h => exact h
          | _ + 14, h => trivial
         case r0 =>
          refine trule fun b__ w hW hold hpre => wU rfl fun K hK => ?_
          have e9 : b__.eval (.tmp 9) = .pointer (some ⟨g9, 0, none⟩) := (hold 9 (by kernel_rfl)).trans rfl
          exact opw_faddr rfl e9 (by kernel_rfl) (hK _ _ rfl (Below.refl _ _))
         case r1 =>
          refine trule fun b__ w hW hold hpre => wU rfl fun K hK => ?_
          have e56 : b__.eval (.tmp 56) = .pointer (some ⟨g9, 0, none⟩) := pq hpre 0 0 56
          exact opw_cell rfl e56 (by kernel_rfl) (((hS.ext (undrew hW)).box 0 rfl).cell 0) (hK _ _ rfl (Below.refl _ _))
         case r2 =>
          refine trule fun b__ w hW hold hpre => wU rfl fun K hK => ?_
          have e57 : b__.eval (.tmp 57) = .bool false := pq hpre 0 1 57
          exact opw_un rfl e57 rfl (hK _ _ rfl (Below.refl _ _))
         case r3 =>
          refine trule fun b__ w hW hold hpre => wU rfl fun K hK => ?_
          have e58 : b__.eval (.tmp 58) = .bool true := pq hpre 0 2 58
          exact opw_move rfl e58 (hK _ _ rfl (Below.refl _ _))
         case r4 =>
          refine trule fun b__ w hW hold hpre => wT rfl rfl rfl (show b__.eval (.tmp 59) = .bool true from pq hpre 0 3 59) fun K hK => ?_
          have e9 : b__.eval (.tmp 9) = .pointer (some ⟨g9, 0, none⟩) := (hold 9 (by kernel_rfl)).trans rfl
          exact opw_faddr rfl e9 (by kernel_rfl) (hK _ _ rfl (Below.refl _ _))
         case r5 =>
          refine trule fun b__ w hW hold hpre => wT rfl rfl rfl (show b__.eval (.tmp 59) = .bool true from pq hpre 1 3 59) fun K hK => ?_
          have e60 : b__.eval (.tmp 60) = .pointer (some ⟨g9, 1, none⟩) := pq hpre 0 4 60
          exact opw_faddr rfl e60 (by kernel_rfl) (hK _ _ rfl (Below.refl _ _))
         case r6 =>
          refine trule fun b__ w hW hold hpre => wT rfl rfl rfl (show b__.eval (.tmp 59) = .bool true from pq hpre 1 3 59) fun K hK => ?_
          have e61 : b__.eval (.tmp 61) = .pointer (some ⟨g9, 1, none⟩) := pq hpre 0 5 61
          exact opw_row1 rfl e61 ((hS.ext (undrew hW)).box 0 rfl) rfl Tryz.underlying27 (by kernel_rfl) (by kernel_rfl) (hK _ _ rfl (Below.refl _ _))
         case r7 =>
          refine trule fun b__ w hW hold hpre => wT rfl rfl rfl (show b__.eval (.tmp 59) = .bool true from pq hpre 0 3 59) fun K hK => ?_
          have e1 : b__.eval (.tmp 1) = .pointer (some ⟨g1, 0, none⟩) := (hold 1 (by kernel_rfl)).trans rfl
          exact opw_faddr rfl e1 (by kernel_rfl) (hK _ _ rfl (Below.refl _ _))
         case r8 =>
          refine trule fun b__ w hW hold hpre => wT rfl rfl rfl (show b__.eval (.tmp 59) = .bool true from pq hpre 1 3 59) fun K hK => ?_
          have e63 : b__.eval (.tmp 63) = .pointer (some ⟨g1, 1, none⟩) := pq hpre 0 7 63
          exact opw_cell rfl e63 (by kernel_rfl) (((hS.ext (undrew hW)).box 3 rfl).cell 1) (hK _ _ rfl (Below.refl _ _))
         case r9 =>
          refine trule fun b__ w hW hold hpre => wT rfl rfl rfl (show b__.eval (.tmp 59) = .bool true from pq hpre 0 3 59) fun K hK => ?_
          have e3 : b__.eval (.tmp 3) = .pointer (some ⟨g3, 0, none⟩) := (hold 3 (by kernel_rfl)).trans rfl
          exact opw_row rfl e3 ((hS.ext (undrew hW)).box 2 rfl) Tryz.underlying27 rfl (by kernel_rfl) (hK _ _ rfl (Below.refl _ _))
         case r10 =>
          refine trule fun b__ w hW hold hpre => wT rfl rfl rfl (show b__.eval (.tmp 59) = .bool true from pq hpre 2 3 59) fun K hK => ?_
          have e64 : b__.eval (.tmp 64) = .pointer (some ⟨q, 0, none⟩) := pq hpre 0 8 64
          have e65 : b__.eval (.tmp 65) = .agg #[u] := pq hpre 1 9 65
          exact opw_call rfl (by kernel_rfl) (by simp only [List.map_cons, List.map_nil, e64, e65]) (hclos_any (kh _ _ (kc.out _ _ (hS.ext (undrew hW)).ro).1) (kt _ _ (kc.out _ _ (hS.ext (undrew hW)).ro).1) HH.out (kc.out _ _ (hS.ext (undrew hW)).ro).2.1) fun v w' h hb => hK v w' (h.imp fun _ _ _ => trivial) hb
         case r11 =>
          refine trule fun b__ w hW hold hpre => wT rfl rfl rfl (show b__.eval (.tmp 59) = .bool true from pq hpre 3 3 59) fun K hK => ?_
          have e62 : b__.eval (.tmp 62) = .agg #[.slice Ay my cy] := pq hpre 0 6 62
          have e66 : (fun (v : Value) (w : World) => IsSet w (fun _ => True) v (closM L N0)) (b__.eval (.tmp 66)) w := hpre ⟨10, _⟩ (Array.mem_of_getElem? (i := 1) rfl) rfl _ _ rfl rfl
          exact opw_call rfl (by kernel_rfl) (by simp only [List.map_cons, List.map_nil, e62]) (within_any _ _ ry (closM L N0) _ _ _ (kc.out _ _ (hS.ext (undrew hW)).ro).2.2.1 e66) fun v w' h hb => hK v w' (h.trans (by rw [HB2.out])) hb
         case r12 =>
          refine trule fun b__ w hW hold hpre => wT rfl rfl rfl (show b__.eval (.tmp 59) = .bool true from pq hpre 1 3 59) fun K hK => ?_
          have e67 : b__.eval (.tmp 67) = .bool b2 := pq hpre 0 11 67
          exact opw_un rfl e67 rfl (hK _ _ rfl (Below.refl _ _))
         case r13 =>
          refine trule fun b__ w hW hold hpre => wU rfl fun K hK => ?_
          have e59 : b__.eval (.tmp 59) = .bool true := pq hpre 0 3 59
          have e68 : b__.eval (.tmp 68) = .bool (!b2) := pq hpre 1 12 68
          exact opw_pick rfl e59 e68 (hK _ _ rfl (Below.refl _ _))
         case post =>
          intro b__ wz hW hdf hsz hold hT
          have e56 : b__.eval (.tmp 56) = .pointer (some ⟨g9, 0, none⟩) := hT 0 _ 56 rfl rfl
          have e57 : b__.eval (.tmp 57) = .bool false := hT 1 _ 57 rfl rfl
          have e58 : b__.eval (.tmp 58) = .bool true := hT 2 _ 58 rfl rfl
          have e59 : b__.eval (.tmp 59) = .bool true := hT 3 _ 59 rfl rfl
          have e60 : b__.eval (.tmp 60) = .pointer (some ⟨g9, 1, none⟩) := hT 4 _ 60 rfl rfl
          have e61 : b__.eval (.tmp 61) = .pointer (some ⟨g9, 1, none⟩) := hT 5 _ 61 rfl rfl
          have e62 : b__.eval (.tmp 62) = .agg #[.slice Ay my cy] := hT 6 _ 62 rfl rfl
          have e63 : b__.eval (.tmp 63) = .pointer (some ⟨g1, 1, none⟩) := hT 7 _ 63 rfl rfl
          have e64 : b__.eval (.tmp 64) = .pointer (some ⟨q, 0, none⟩) := hT 8 _ 64 rfl rfl
          have e65 : b__.eval (.tmp 65) = .agg #[u] := hT 9 _ 65 rfl rfl
          have e66 : (fun (v : Value) (w : World) => IsSet w (fun _ => True) v (closM L N0)) (b__.eval (.tmp 66)) wz := hT 10 _ 66 rfl rfl
          have e67 : b__.eval (.tmp 67) = .bool b2 := hT 11 _ 67 rfl rfl
          have e68 : b__.eval (.tmp 68) = .bool (!b2) := hT 12 _ 68 rfl rfl
          have e69 : b__.eval (.tmp 69) = .bool (!b2) := hT 13 _ 69 rfl rfl
          obtain ⟨vs, hvs, hb⟩ := frame_of hdf hsz hold
          replace e56 : vs 56 = .pointer (some ⟨g9, 0, none⟩) := (hvs 56).symm.trans e56
          replace e57 : vs 57 = .bool false := (hvs 57).symm.trans e57
          replace e58 : vs 58 = .bool true := (hvs 58).symm.trans e58
          replace e59 : vs 59 = .bool true := (hvs 59).symm.trans e59
          replace e60 : vs 60 = .pointer (some ⟨g9, 1, none⟩) := (hvs 60).symm.trans e60
          replace e61 : vs 61 = .pointer (some ⟨g9, 1, none⟩) := (hvs 61).symm.trans e61
          replace e62 : vs 62 = .agg #[.slice Ay my cy] := (hvs 62).symm.trans e62
          replace e63 : vs 63 = .pointer (some ⟨g1, 1, none⟩) := (hvs 63).symm.trans e63
          replace e64 : vs 64 = .pointer (some ⟨q, 0, none⟩) := (hvs 64).symm.trans e64
          replace e65 : vs 65 = .agg #[u] := (hvs 65).symm.trans e65
          replace e66 := (hvs 66) ▸ e66
          replace e67 : vs 67 = .bool b2 := (hvs 67).symm.trans e67
          replace e68 : vs 68 = .bool (!b2) := (hvs 68).symm.trans e68
          replace e69 : vs 69 = .bool (!b2) := (hvs 69).symm.trans e69
          subst hb
          clear hvs hold hT hdf hsz
          simp only [setAll, Act.put, List.setIfInBounds_toArray, List.set_cons_zero, List.set_cons_succ, List.getElem_toArray, List.getElem_cons_succ, List.getElem_cons_zero]
          rw [hb2'] at e69
          rw [e69]
          replace hS := hS.ext hW
          clear hW
          go_wp2_with (first
           | ((with_reducible refine qA 72 ?_); refine st_push hS 1 rfl rfl _ _ _ _ rfl rfl ty_ints kv KN.length (ints KN) (.int .i64 (j : Nat)) #[.int .i64 (j : Nat)] rfl (by kernel_rfl) rfl rfl rfl rfl (by intro u hu; simp at hu; subst hu; rfl) (by omega) (by omega) ?_; clear hS; intro z_ kv' w_ hS; (try simp only [Act.put, Act.eval, z1, z2, z3, z4, z5, z6, z7, z8, Value.cells] at hS)))
          refine ⟨⟨j + 1, _, by go_num, rfl, hlj, ?_⟩, by simp [intOf]; omega⟩
          rw [HTN.out.trans (if_pos rfl), show (KN ++ [(j : Int)]).length = KN.length + 1 by simp, show ints (KN ++ [(j : Int)]) = ints KN ++ [.int .i64 (j : Nat)] by simp [ints]]
          exact (hS.sub (List.sublist_cons_self _ _)).mono (KS.out.and stable_set) fun D w h => ⟨(kc.out _ _ h).1, (kc.out _ _ h).2.1⟩
        ·obtain ⟨b2, hb2'⟩ : ∃ b, b = true := ⟨_, rfl⟩
         rw [← hb2'] at HB2
         go_wp2_with (first
          | ((with_reducible refine qB ?_); (first | refine q1 ?_ ?_ | refine q2 ?_ ?_ | refine q3 ?_ ?_ | refine q4 ?_ ?_ | refine q5 ?_ ?_ | refine q6 ?_ ?_) <;> intro h_ <;> go_prune)
          | ((with_reducible refine qA 55 ?_); refine BigFrame.wpList_want rfl fun _ hK => opw_mid (cs := [.bool _, .slice Ay my cy, .slice Am mn cm, .int .i64 rt, .int .i64 ro]) rfl rfl (rng5 c0 c1 c2 c3 c4) Tryz.underlying58 rfl (by kernel_rfl) (hK _ _ ?_))
          | ((with_reducible refine qA 9 ?_); refine qa hS #[.bool false, .slice none 0 0, .slice none 0 0, .int .i64 0, .int .i64 0] ?_; clear hS; intro g9 w_ hS)
          | ((with_reducible refine qM ?_); (first | refine qS hS 0 ?_ | refine qS hS 1 ?_ | refine qS hS 2 ?_ | refine qS hS 3 ?_ | refine qT hS 0 ?_ | refine qT hS 1 ?_ | refine qT hS 2 ?_ | refine qT hS 3 ?_); clear hS; intro w_ hS; (try simp only [Act.put, Act.eval, z1, z2, z3, z4, z5, z6, z7, z8, Value.cells] at hS)))
         refine wp_region_typed (fun i__ v w => match i__ with
          | 0 => v = .pointer (some ⟨g9, 0, none⟩)
          | 1 => v = .bool false
          | 2 => v = .bool true
          | 3 => v = .bool true
          | 4 => v = .pointer (some ⟨g9, 1, none⟩)
          | 5 => v = .pointer (some ⟨g9, 1, none⟩)
          | 6 => v = .agg #[.slice Ay my cy]
          | 7 => v = .pointer (some ⟨g1, 1, none⟩)
          | 8 => v = .pointer (some ⟨q, 0, none⟩)
          | 9 => v = .agg #[u]
          | 10 => IsSet w (fun _ => True) v (closM L N0)
          | 11 => v = .bool b2
          | 12 => v = .bool (!b2)
          | 13 => v = .bool (!b2)
          | _ => True) (by kernel_rfl) (by kernel_rfl) ?mono ⟨?r0, ?r1, ?r2, ?r3, ?r4, ?r5, ?r6, ?r7, ?r8, ?r9, ?r10, ?r11, ?r12, ?r13, trivial⟩ ?post
         case mono =>
          intro i v w w' h hb
          match i, h with
          | 0, h | 1, h | 2, h | 3, h | 4, h | 5, h | 6, h | 7, h | 8, h | 9, h => exact h
          | 10, h => exact h.ext hb
          | 11, h | 12, h | 13, h => exact h
          | _ + 14, h => trivial
         case r0 =>
          refine trule fun b__ w hW hold hpre => wU rfl fun K hK => ?_
          have e9 : b__.eval (.tmp 9) = .pointer (some ⟨g9, 0, none⟩) := (hold 9 (by kernel_rfl)).trans rfl
          exact opw_faddr rfl e9 (by kernel_rfl) (hK _ _ rfl (Below.refl _ _))
         case r1 =>
          refine trule fun b__ w hW hold hpre => wU rfl fun K hK => ?_
          have e56 : b__.eval (.tmp 56) = .pointer (some ⟨g9, 0, none⟩) := pq hpre 0 0 56
          exact opw_cell rfl e56 (by kernel_rfl) (((hS.ext (undrew hW)).box 0 rfl).cell 0) (hK _ _ rfl (Below.refl _ _))
         case r2 =>
          refine trule fun b__ w hW hold hpre => wU rfl fun K hK => ?_
          have e57 : b__.eval (.tmp 57) = .bool false := pq hpre 0 1 57
          exact opw_un rfl e57 rfl (hK _ _ rfl (Below.refl _ _))
         case r3 =>
          refine trule fun b__ w hW hold hpre => wU rfl fun K hK => ?_
          have e58 : b__.eval (.tmp 58) = .bool true := pq hpre 0 2 58
          exact opw_move rfl e58 (hK _ _ rfl (Below.refl _ _))
         case r4 =>
          refine trule fun b__ w hW hold hpre => wT rfl rfl rfl (show b__.eval (.tmp 59) = .bool true from pq hpre 0 3 59) fun K hK => ?_
          have e9 : b__.eval (.tmp 9) = .pointer (some ⟨g9, 0, none⟩) := (hold 9 (by kernel_rfl)).trans rfl
          exact opw_faddr rfl e9 (by kernel_rfl) (hK _ _ rfl (Below.refl _ _))
         case r5 =>
          refine trule fun b__ w hW hold hpre => wT rfl rfl rfl (show b__.eval (.tmp 59) = .bool true from pq hpre 1 3 59) fun K hK => ?_
          have e60 : b__.eval (.tmp 60) = .pointer (some ⟨g9, 1, none⟩) := pq hpre 0 4 60
          exact opw_faddr rfl e60 (by kernel_rfl) (hK _ _ rfl (Below.refl _ _))
         case r6 =>
          refine trule fun b__ w hW hold hpre => wT rfl rfl rfl (show b__.eval (.tmp 59) = .bool true from pq hpre 1 3 59) fun K hK => ?_
          have e61 : b__.eval (.tmp 61) = .pointer (some ⟨g9, 1, none⟩) := pq hpre 0 5 61
          exact opw_row1 rfl e61 ((hS.ext (undrew hW)).box 0 rfl) rfl Tryz.underlying27 (by kernel_rfl) (by kernel_rfl) (hK _ _ rfl (Below.refl _ _))
         case r7 =>
          refine trule fun b__ w hW hold hpre => wT rfl rfl rfl (show b__.eval (.tmp 59) = .bool true from pq hpre 0 3 59) fun K hK => ?_
          have e1 : b__.eval (.tmp 1) = .pointer (some ⟨g1, 0, none⟩) := (hold 1 (by kernel_rfl)).trans rfl
          exact opw_faddr rfl e1 (by kernel_rfl) (hK _ _ rfl (Below.refl _ _))
         case r8 =>
          refine trule fun b__ w hW hold hpre => wT rfl rfl rfl (show b__.eval (.tmp 59) = .bool true from pq hpre 1 3 59) fun K hK => ?_
          have e63 : b__.eval (.tmp 63) = .pointer (some ⟨g1, 1, none⟩) := pq hpre 0 7 63
          exact opw_cell rfl e63 (by kernel_rfl) (((hS.ext (undrew hW)).box 3 rfl).cell 1) (hK _ _ rfl (Below.refl _ _))
         case r9 =>
          refine trule fun b__ w hW hold hpre => wT rfl rfl rfl (show b__.eval (.tmp 59) = .bool true from pq hpre 0 3 59) fun K hK => ?_
          have e3 : b__.eval (.tmp 3) = .pointer (some ⟨g3, 0, none⟩) := (hold 3 (by kernel_rfl)).trans rfl
          exact opw_row rfl e3 ((hS.ext (undrew hW)).box 2 rfl) Tryz.underlying27 rfl (by kernel_rfl) (hK _ _ rfl (Below.refl _ _))
         case r10 =>
          refine trule fun b__ w hW hold hpre => wT rfl rfl rfl (show b__.eval (.tmp 59) = .bool true from pq hpre 2 3 59) fun K hK => ?_
          have e64 : b__.eval (.tmp 64) = .pointer (some ⟨q, 0, none⟩) := pq hpre 0 8 64
          have e65 : b__.eval (.tmp 65) = .agg #[u] := pq hpre 1 9 65
          exact opw_call rfl (by kernel_rfl) (by simp only [List.map_cons, List.map_nil, e64, e65]) (hclos_any (kh _ _ (kc.out _ _ (hS.ext (undrew hW)).ro).1) (kt _ _ (kc.out _ _ (hS.ext (undrew hW)).ro).1) HH.out (kc.out _ _ (hS.ext (undrew hW)).ro).2.1) fun v w' h hb => hK v w' (h.imp fun _ _ _ => trivial) hb
         case r11 =>
          refine trule fun b__ w hW hold hpre => wT rfl rfl rfl (show b__.eval (.tmp 59) = .bool true from pq hpre 3 3 59) fun K hK => ?_
          have e62 : b__.eval (.tmp 62) = .agg #[.slice Ay my cy] := pq hpre 0 6 62
          have e66 : (fun (v : Value) (w : World) => IsSet w (fun _ => True) v (closM L N0)) (b__.eval (.tmp 66)) w := hpre ⟨10, _⟩ (Array.mem_of_getElem? (i := 1) rfl) rfl _ _ rfl rfl
          exact opw_call rfl (by kernel_rfl) (by simp only [List.map_cons, List.map_nil, e62]) (within_any _ _ ry (closM L N0) _ _ _ (kc.out _ _ (hS.ext (undrew hW)).ro).2.2.1 e66) fun v w' h hb => hK v w' (h.trans (by rw [HB2.out])) hb
         case r12 =>
          refine trule fun b__ w hW hold hpre => wT rfl rfl rfl (show b__.eval (.tmp 59) = .bool true from pq hpre 1 3 59) fun K hK => ?_
          have e67 : b__.eval (.tmp 67) = .bool b2 := pq hpre 0 11 67
          exact opw_un rfl e67 rfl (hK _ _ rfl (Below.refl _ _))
         case r13 =>
          refine trule fun b__ w hW hold hpre => wU rfl fun K hK => ?_
          have e59 : b__.eval (.tmp 59) = .bool true := pq hpre 0 3 59
          have e68 : b__.eval (.tmp 68) = .bool (!b2) := pq hpre 1 12 68
          exact opw_pick rfl e59 e68 (hK _ _ rfl (Below.refl _ _))
         case post =>
          intro b__ wz hW hdf hsz hold hT
          have e56 : b__.eval (.tmp 56) = .pointer (some ⟨g9, 0, none⟩) := hT 0 _ 56 rfl rfl
          have e57 : b__.eval (.tmp 57) = .bool false := hT 1 _ 57 rfl rfl
          have e58 : b__.eval (.tmp 58) = .bool true := hT 2 _ 58 rfl rfl
          have e59 : b__.eval (.tmp 59) = .bool true := hT 3 _ 59 rfl rfl
          have e60 : b__.eval (.tmp 60) = .pointer (some ⟨g9, 1, none⟩) := hT 4 _ 60 rfl rfl
          have e61 : b__.eval (.tmp 61) = .pointer (some ⟨g9, 1, none⟩) := hT 5 _ 61 rfl rfl
          have e62 : b__.eval (.tmp 62) = .agg #[.slice Ay my cy] := hT 6 _ 62 rfl rfl
          have e63 : b__.eval (.tmp 63) = .pointer (some ⟨g1, 1, none⟩) := hT 7 _ 63 rfl rfl
          have e64 : b__.eval (.tmp 64) = .pointer (some ⟨q, 0, none⟩) := hT 8 _ 64 rfl rfl
          have e65 : b__.eval (.tmp 65) = .agg #[u] := hT 9 _ 65 rfl rfl
          have e66 : (fun (v : Value) (w : World) => IsSet w (fun _ => True) v (closM L N0)) (b__.eval (.tmp 66)) wz := hT 10 _ 66 rfl rfl
          have e67 : b__.eval (.tmp 67) = .bool b2 := hT 11 _ 67 rfl rfl
          have e68 : b__.eval (.tmp 68) = .bool (!b2) := hT 12 _ 68 rfl rfl
          have e69 : b__.eval (.tmp 69) = .bool (!b2) := hT 13 _ 69 rfl rfl
          obtain ⟨vs, hvs, hb⟩ := frame_of hdf hsz hold
          replace e56 : vs 56 = .pointer (some ⟨g9, 0, none⟩) := (hvs 56).symm.trans e56
          replace e57 : vs 57 = .bool false := (hvs 57).symm.trans e57
          replace e58 : vs 58 = .bool true := (hvs 58).symm.trans e58
          replace e59 : vs 59 = .bool true := (hvs 59).symm.trans e59
          replace e60 : vs 60 = .pointer (some ⟨g9, 1, none⟩) := (hvs 60).symm.trans e60
          replace e61 : vs 61 = .pointer (some ⟨g9, 1, none⟩) := (hvs 61).symm.trans e61
          replace e62 : vs 62 = .agg #[.slice Ay my cy] := (hvs 62).symm.trans e62
          replace e63 : vs 63 = .pointer (some ⟨g1, 1, none⟩) := (hvs 63).symm.trans e63
          replace e64 : vs 64 = .pointer (some ⟨q, 0, none⟩) := (hvs 64).symm.trans e64
          replace e65 : vs 65 = .agg #[u] := (hvs 65).symm.trans e65
          replace e66 := (hvs 66) ▸ e66
          replace e67 : vs 67 = .bool b2 := (hvs 67).symm.trans e67
          replace e68 : vs 68 = .bool (!b2) := (hvs 68).symm.trans e68
          replace e69 : vs 69 = .bool (!b2) := (hvs 69).symm.trans e69
          subst hb
          clear hvs hold hT hdf hsz
          simp only [setAll, Act.put, List.setIfInBounds_toArray, List.set_cons_zero, List.set_cons_succ, List.getElem_toArray, List.getElem_cons_succ, List.getElem_cons_zero]
          rw [hb2'] at e69
          rw [e69]
          replace hS := hS.ext hW
          clear hW
          go_wp2_with fail
          refine ⟨⟨j + 1, kv, by go_num, rfl, hlj, ?_⟩, by simp [intOf]; omega⟩
          rw [HTN.out.trans (if_neg (by decide))]
          exact (hS.sub (List.sublist_cons_self _ _)).mono (KS.out.and stable_set) fun D w h => ⟨(kc.out _ _ h).1, (kc.out _ _ h).2.1⟩
       ·skip
        go_wp2_with (first
         | ((with_reducible refine qB ?_); (first | refine q1 ?_ ?_ | refine q2 ?_ ?_ | refine q3 ?_ ?_ | refine q4 ?_ ?_ | refine q5 ?_ ?_ | refine q6 ?_ ?_) <;> intro h_ <;> go_prune)
         | ((with_reducible refine qA 55 ?_); refine BigFrame.wpList_want rfl fun _ hK => opw_mid (cs := [.bool _, .slice Ay my cy, .slice Am mn cm, .int .i64 rt, .int .i64 ro]) rfl rfl (rng5 c0 c1 c2 c3 c4) Tryz.underlying58 rfl (by kernel_rfl) (hK _ _ ?_))
         | ((with_reducible refine qA 9 ?_); refine qa hS #[.bool false, .slice none 0 0, .slice none 0 0, .int .i64 0, .int .i64 0] ?_; clear hS; intro g9 w_ hS)
         | ((with_reducible refine qM ?_); (first | refine qS hS 0 ?_ | refine qS hS 1 ?_ | refine qS hS 2 ?_ | refine qS hS 3 ?_ | refine qT hS 0 ?_ | refine qT hS 1 ?_ | refine qT hS 2 ?_ | refine qT hS 3 ?_); clear hS; intro w_ hS; (try simp only [Act.put, Act.eval, z1, z2, z3, z4, z5, z6, z7, z8, Value.cells] at hS)))
        refine wp_region_typed (fun i__ v w => match i__ with
         | 0 => v = .pointer (some ⟨g9, 0, none⟩)
         | 1 => v = .bool true
         | 2 => v = .bool false
         | 3 => v = .bool false
         | 4 => True
         | 5 => True
         | 6 => True
         | 7 => True
         | 8 => True
         | 9 => True
         | 10 => True
         | 11 => True
         | 12 => True
         | 13 => v = .bool false
         | _ => True) (by kernel_rfl) (by kernel_rfl) ?mono ⟨?r0, ?r1, ?r2, ?r3, ?r4, ?r5, ?r6, ?r7, ?r8, ?r9, ?r10, ?r11, ?r12, ?r13, trivial⟩ ?post
        case mono =>
         intro i v w w' h hb
         match i, h with
         | 0, h | 1, h | 2, h | 3, h | 4, h | 5, h | 6, h | 7, h | 8, h | 9, h | 10, h | 11, h | 12, h | 13, h => exact h
         | _ + 14, h => trivial
        case r0 =>
         refine trule fun b__ w hW hold hpre => wU rfl fun K hK => ?_
         have e9 : b__.eval (.tmp 9) = .pointer (some ⟨g9, 0, none⟩) := (hold 9 (by kernel_rfl)).trans rfl
         exact opw_faddr rfl e9 (by kernel_rfl) (hK _ _ rfl (Below.refl _ _))
        case r1 =>
         refine trule fun b__ w hW hold hpre => wU rfl fun K hK => ?_
         have e56 : b__.eval (.tmp 56) = .pointer (some ⟨g9, 0, none⟩) := pq hpre 0 0 56
         exact opw_cell rfl e56 (by kernel_rfl) (((hS.ext (undrew hW)).box 0 rfl).cell 0) (hK _ _ rfl (Below.refl _ _))
        case r2 =>
         refine trule fun b__ w hW hold hpre => wU rfl fun K hK => ?_
         have e57 : b__.eval (.tmp 57) = .bool true := pq hpre 0 1 57
         exact opw_un rfl e57 rfl (hK _ _ rfl (Below.refl _ _))
        case r3 =>
         refine trule fun b__ w hW hold hpre => wU rfl fun K hK => ?_
         have e58 : b__.eval (.tmp 58) = .bool false := pq hpre 0 2 58
         exact opw_move rfl e58 (hK _ _ rfl (Below.refl _ _))
        case r4 =>
         refine trule fun b__ w hW hold hpre => ⟨fun hwant K hK => ?_, fun hwant => ?_⟩
         ·rw [want_some rfl rfl rfl (show b__.eval (.tmp 59) = .bool false from hpre ⟨3, _⟩ (Array.mem_of_getElem? (i := 0) rfl) rfl _ _ rfl rfl)] at hwant; cases hwant
         ·exact trivial
        case r5 =>
         refine trule fun b__ w hW hold hpre => ⟨fun hwant K hK => ?_, fun hwant => ?_⟩
         ·rw [want_some rfl rfl rfl (show b__.eval (.tmp 59) = .bool false from hpre ⟨3, _⟩ (Array.mem_of_getElem? (i := 1) rfl) rfl _ _ rfl rfl)] at hwant; cases hwant
         ·exact trivial
        case r6 =>
         refine trule fun b__ w hW hold hpre => ⟨fun hwant K hK => ?_, fun hwant => ?_⟩
         ·rw [want_some rfl rfl rfl (show b__.eval (.tmp 59) = .bool false from hpre ⟨3, _⟩ (Array.mem_of_getElem? (i := 1) rfl) rfl _ _ rfl rfl)] at hwant; cases hwant
         ·exact trivial
        case r7 =>
         refine trule fun b__ w hW hold hpre => ⟨fun hwant K hK => ?_, fun hwant => ?_⟩
         ·rw [want_some rfl rfl rfl (show b__.eval (.tmp 59) = .bool false from hpre ⟨3, _⟩ (Array.mem_of_getElem? (i := 0) rfl) rfl _ _ rfl rfl)] at hwant; cases hwant
         ·exact trivial
        case r8 =>
         refine trule fun b__ w hW hold hpre => ⟨fun hwant K hK => ?_, fun hwant => ?_⟩
         ·rw [want_some rfl rfl rfl (show b__.eval (.tmp 59) = .bool false from hpre ⟨3, _⟩ (Array.mem_of_getElem? (i := 1) rfl) rfl _ _ rfl rfl)] at hwant; cases hwant
         ·exact trivial
        case r9 =>
         refine trule fun b__ w hW hold hpre => ⟨fun hwant K hK => ?_, fun hwant => ?_⟩
         ·rw [want_some rfl rfl rfl (show b__.eval (.tmp 59) = .bool false from hpre ⟨3, _⟩ (Array.mem_of_getElem? (i := 0) rfl) rfl _ _ rfl rfl)] at hwant; cases hwant
         ·exact trivial
        case r10 =>
         refine trule fun b__ w hW hold hpre => ⟨fun hwant K hK => ?_, fun hwant => ?_⟩
         ·rw [want_some rfl rfl rfl (show b__.eval (.tmp 59) = .bool false from hpre ⟨3, _⟩ (Array.mem_of_getElem? (i := 2) rfl) rfl _ _ rfl rfl)] at hwant; cases hwant
         ·exact trivial
        case r11 =>
         refine trule fun b__ w hW hold hpre => ⟨fun hwant K hK => ?_, fun hwant => ?_⟩
         ·rw [want_some rfl rfl rfl (show b__.eval (.tmp 59) = .bool false from hpre ⟨3, _⟩ (Array.mem_of_getElem? (i := 3) rfl) rfl _ _ rfl rfl)] at hwant; cases hwant
         ·exact trivial
        case r12 =>
         refine trule fun b__ w hW hold hpre => ⟨fun hwant K hK => ?_, fun hwant => ?_⟩
         ·rw [want_some rfl rfl rfl (show b__.eval (.tmp 59) = .bool false from hpre ⟨3, _⟩ (Array.mem_of_getElem? (i := 1) rfl) rfl _ _ rfl rfl)] at hwant; cases hwant
         ·exact trivial
        case r13 =>
         refine trule fun b__ w hW hold hpre => wU rfl fun K hK => ?_
         have e59 : b__.eval (.tmp 59) = .bool false := pq hpre 0 3 59
         have e68 : (fun (v : Value) (w : World) => True) (b__.eval (.tmp 68)) w := hpre ⟨12, _⟩ (Array.mem_of_getElem? (i := 1) rfl) rfl _ _ rfl rfl
         exact opw_pick rfl e59 rfl (hK _ _ rfl (Below.refl _ _))
        case post =>
         intro b__ wz hW hdf hsz hold hT
         have e56 : b__.eval (.tmp 56) = .pointer (some ⟨g9, 0, none⟩) := hT 0 _ 56 rfl rfl
         have e57 : b__.eval (.tmp 57) = .bool true := hT 1 _ 57 rfl rfl
         have e58 : b__.eval (.tmp 58) = .bool false := hT 2 _ 58 rfl rfl
         have e59 : b__.eval (.tmp 59) = .bool false := hT 3 _ 59 rfl rfl
         have e69 : b__.eval (.tmp 69) = .bool false := hT 13 _ 69 rfl rfl
         obtain ⟨vs, hvs, hb⟩ := frame_of hdf hsz hold
         replace e56 : vs 56 = .pointer (some ⟨g9, 0, none⟩) := (hvs 56).symm.trans e56
         replace e57 : vs 57 = .bool true := (hvs 57).symm.trans e57
         replace e58 : vs 58 = .bool false := (hvs 58).symm.trans e58
         replace e59 : vs 59 = .bool false := (hvs 59).symm.trans e59
         replace e69 : vs 69 = .bool false := (hvs 69).symm.trans e69
         subst hb
         clear hvs hold hT hdf hsz
         simp only [setAll, Act.put, List.setIfInBounds_toArray, List.set_cons_zero, List.set_cons_succ, List.getElem_toArray, List.getElem_cons_succ, List.getElem_cons_zero]
         rw [e69]
         replace hS := hS.ext hW
         clear hW
         go_wp2_with fail
         refine ⟨⟨j + 1, kv, by go_num, rfl, hlj, ?_⟩, by simp [intOf]; omega⟩
         rw [HTN.out.trans (if_neg (by cases b2 <;> decide))]
         exact (hS.sub (List.sublist_cons_self _ _)).mono (KS.out.and stable_set) fun D w h => ⟨(kc.out _ _ h).1, (kc.out _ _ h).2.1⟩
      ·obtain rfl : rl.length = j := by omega
       go_wp2_with (first | ((with_reducible refine qB ?_); (first | refine q1 ?_ ?_ | refine q2 ?_ ?_ | refine q3 ?_ ?_ | refine q4 ?_ ?_ | refine q5 ?_ ?_ | refine q6 ?_ ?_) <;> intro h_ <;> go_prune))
       go_ret
       rw [← HU.out]
       exact ⟨_, rfl, (hS.sub (F' := [_]) ((List.nil_sublist _).cons_cons _)).mono (Stable.pure True) fun _ _ _ => trivial⟩
    ·go_wp2_with (first | ((with_reducible refine qK ?_); first | refine qC hS 0 ?_ | refine qC hS 1 ?_ | refine qC hS 2 ?_ | refine qC hS 3 ?_ | refine qC hS 4 ?_ | refine qC hS 5 ?_ | refine qC hS 6 ?_ | refine qC hS 7 ?_))
     go_loopw [4, 19] (fun mv i wr => ∃ (j : Nat) (mb : Bool) (u : Value) (N : Nat), i = .int .i64 (j : Nat) ∧ mv = .bool mb ∧ j ≤ rl.length ∧ Hid (URnd L ⟨R, some L, st, rl, nl, gl⟩ B N mb j) ∧ St w0 wr [.box g3 27 #[u], .box g1 31 #[.int .i64 R, .pointer (some ⟨q, 0, none⟩), .slice Cs ns cs, .slice Ar rl.length cr, .slice An nl.length cn, .slice Ag gl.length cg]] (fun D w => K D w ∧ IsSet w D (.agg #[u]) N)) (fun _ i _ => rl.length - (intOf i).toNat)
     case atStart => exact ⟨0, false, u, B, rfl, rfl, by omega, Lib.hid ⟨HI.out.1, nofun, fun _ => ⟨rfl, fun r hr => by simp at hr⟩⟩, hS⟩
     case round =>
      clear hS HI
      obtain ⟨j, mb, u, N0, rfl, rfl, hj, HI, hS⟩ := hrel
      by_cases hlj : j < rl.length
      ·obtain ⟨b, o2, y, n, rfl, _, hb, c0, c1, c2, c3, c4, hy, hn⟩ := (kr _ _ hS.ro.1).at_ hlj
       obtain ⟨Ay, my, cy, rfl⟩ := hy.shape
       obtain ⟨Am, mn, cm, rfl⟩ := hn.shape
       have HGj := Lib.hid (getD_at dfltR hlj)
       have HTj := Lib.hid (HTG.out _ (List.mem_of_getElem? HGj.out))
       obtain ⟨KC, kc, hS2⟩ : ∃ KC : (Nat → Prop) → World → Prop, Hid (∀ D w, KC D w → K D w ∧ IsSet w D (.agg #[u]) N0 ∧ IsSet w D (.agg #[.slice Ay my cy]) (rl.getD j dfltR).yes ∧ IsSet w D (.agg #[.slice Am mn cm]) (rl.getD j dfltR).no) ∧ St w0 wr [.box g3 27 #[u], .box g1 31 #[.int .i64 R, .pointer (some ⟨q, 0, none⟩), .slice Cs ns cs, .slice (some ⟨b, o2, none⟩) rl.length cr, .slice An nl.length cn, .slice Ag gl.length cg]] KC := ⟨_, Lib.hid fun D w h => ⟨h.1.1, h.1.2, h.2.1, h.2.2⟩, hS.add (D := Free _) (stable_set.and stable_set) ⟨hy, hn⟩ fun _ h _ => h⟩
       clear hS hy hn
       have hS := hS2
       clear hS2
       generalize rl.getD j dfltR = z at *
       obtain ⟨rv, ry, rn, rt, ro⟩ := z
       dsimp only at kc c0 c1 c2 c3 c4
       obtain ⟨b1, hb1⟩ : ∃ b, b = hasB N0 rt := ⟨_, rfl⟩
       have HB1 := Lib.hid hb1
       obtain ⟨b2, hb2⟩ : ∃ b, b = (ry &&& closM L N0 == ry) := ⟨_, rfl⟩
       have HB2 := Lib.hid hb2
       cases rv
       ·cases b1
        ·cases b2
         ·have HI2 := Lib.hid (HI.out.skip HGj.out (.inr (.inr hb2.symm)))
          obtain ⟨b2, hb2'⟩ : ∃ b, b = false := ⟨_, rfl⟩
          rw [← hb2'] at HB2
          clear hb1 hb2 HI
          go_wp2_with (first
           | ((with_reducible refine qB ?_); (first | refine q1 ?_ ?_ | refine q2 ?_ ?_ | refine q3 ?_ ?_ | refine q4 ?_ ?_ | refine q5 ?_ ?_ | refine q6 ?_ ?_) <;> intro h_ <;> go_prune)
           | ((with_reducible refine qA 22 ?_); refine BigFrame.wpList_want rfl fun _ hK => opw_mid (cs := [.bool _, .slice Ay my cy, .slice Am mn cm, .int .i64 rt, .int .i64 ro]) rfl rfl (rng5 c0 c1 c2 c3 c4) Tryz.underlying58 rfl (by kernel_rfl) (hK _ _ ?_))
           | ((with_reducible refine qA 6 ?_); refine qa hS #[.bool false, .slice none 0 0, .slice none 0 0, .int .i64 0, .int .i64 0] ?_; clear hS; intro g6 w_ hS)
           | ((with_reducible refine qM ?_); (first | refine qS hS 0 ?_ | refine qS hS 1 ?_ | refine qS hS 2 ?_ | refine qS hS 3 ?_ | refine qT hS 0 ?_ | refine qT hS 1 ?_ | refine qT hS 2 ?_ | refine qT hS 3 ?_); clear hS; intro w_ hS; (try simp only [Act.put, Act.eval, z1, z2, z3, z4, z5, z6, z7, z8, Value.cells] at hS)))
          refine wp_region_typed (fun i__ v w => match i__ with
           | 0 => v = .pointer (some ⟨g6, 0, none⟩)
           | 1 => v = .bool false
           | 2 => v = .bool true
           | 3 => v = .bool true
           | 4 => v = .agg #[u]
           | 5 => v = .pointer (some ⟨g6, 3, none⟩)
           | 6 => v = .int .i64 rt
           | 7 => v = .bool false
           | 8 => v = .bool true
           | 9 => v = .bool true
           | 10 => v = .bool true
           | 11 => v = .pointer (some ⟨g6, 1, none⟩)
           | 12 => v = .pointer (some ⟨g6, 1, none⟩)
           | 13 => v = .agg #[.slice Ay my cy]
           | 14 => v = .pointer (some ⟨g1, 1, none⟩)
           | 15 => v = .pointer (some ⟨q, 0, none⟩)
           | 16 => v = .agg #[u]
           | 17 => IsSet w (fun _ => True) v (closM L N0)
           | 18 => v = .bool b2
           | 19 => v = .bool b2
           | _ => True) (by kernel_rfl) (by kernel_rfl) ?mono ⟨?r0, ?r1, ?r2, ?r3, ?r4, ?r5, ?r6, ?r7, ?r8, ?r9, ?r10, ?r11, ?r12, ?r13, ?r14, ?r15, ?r16, ?r17, ?r18, ?r19, trivial⟩ ?post
          case mono =>
           intro i v w w' h hb
           match i, h with
           | 0, h | 1, h | 2, h | 3, h | 4, h | 5, h | 6, h | 7, h | 8, h | 9, h | 10, h | 11, h | 12, h | 13, h | 14, h | 15, h | 16, h => exact h
           | 17, h => exact h.ext hb
           | 18, h | 19, h => exact h
           | _ + 20, h => trivial
          case r0 =>
           refine trule fun b__ w hW hold hpre => wU rfl fun K hK => ?_
           have e6 : b__.eval (.tmp 6) = .pointer (some ⟨g6, 0, none⟩) := (hold 6 (by kernel_rfl)).trans rfl
           exact opw_faddr rfl e6 (by kernel_rfl) (hK _ _ rfl (Below.refl _ _))
          case r1 =>
           refine trule fun b__ w hW hold hpre => wU rfl fun K hK => ?_
           have e23 : b__.eval (.tmp 23) = .pointer (some ⟨g6, 0, none⟩) := pq hpre 0 0 23
           exact opw_cell rfl e23 (by kernel_rfl) (((hS.ext (undrew hW)).box 0 rfl).cell 0) (hK _ _ rfl (Below.refl _ _))
          case r2 =>
           refine trule fun b__ w hW hold hpre => wU rfl fun K hK => ?_
           have e24 : b__.eval (.tmp 24) = .bool false := pq hpre 0 1 24
           exact opw_un rfl e24 rfl (hK _ _ rfl (Below.refl _ _))
          case r3 =>
           refine trule fun b__ w hW hold hpre => wU rfl fun K hK => ?_
           have e25 : b__.eval (.tmp 25) = .bool true := pq hpre 0 2 25
           exact opw_move rfl e25 (hK _ _ rfl (Below.refl _ _))
          case r4 =>
           refine trule fun b__ w hW hold hpre => wT rfl rfl rfl (show b__.eval (.tmp 26) = .bool true from pq hpre 0 3 26) fun K hK => ?_
           have e3 : b__.eval (.tmp 3) = .pointer (some ⟨g3, 0, none⟩) := (hold 3 (by kernel_rfl)).trans rfl
           exact opw_row rfl e3 ((hS.ext (undrew hW)).box 1 rfl) Tryz.underlying27 rfl (by kernel_rfl) (hK _ _ rfl (Below.refl _ _))
          case r5 =>
           refine trule fun b__ w hW hold hpre => wT rfl rfl rfl (show b__.eval (.tmp 26) = .bool true from pq hpre 0 3 26) fun K hK => ?_
           have e6 : b__.eval (.tmp 6) = .pointer (some ⟨g6, 0, none⟩) := (hold 6 (by kernel_rfl)).trans rfl
           exact opw_faddr rfl e6 (by kernel_rfl) (hK _ _ rfl (Below.refl _ _))
          case r6 =>
           refine trule fun b__ w hW hold hpre => wT rfl rfl rfl (show b__.eval (.tmp 26) = .bool true from pq hpre 1 3 26) fun K hK => ?_
           have e28 : b__.eval (.tmp 28) = .pointer (some ⟨g6, 3, none⟩) := pq hpre 0 5 28
           exact opw_cell rfl e28 (by kernel_rfl) (((hS.ext (undrew hW)).box 0 rfl).cell 3) (hK _ _ rfl (Below.refl _ _))
          case r7 =>
           refine trule fun b__ w hW hold hpre => wT rfl rfl rfl (show b__.eval (.tmp 26) = .bool true from pq hpre 2 3 26) fun K hK => ?_
           have e27 : b__.eval (.tmp 27) = .agg #[u] := pq hpre 0 4 27
           have e29 : b__.eval (.tmp 29) = .int .i64 rt := pq hpre 1 6 29
           exact opw_call rfl (by kernel_rfl) (by simp only [List.map_cons, List.map_nil, e27, e29]) (has_any _ N0 rt _ _ (kc.out _ _ (hS.ext (undrew hW)).ro).2.1) fun v w' h hb => hK v w' (h.trans (by rw [← HB1.out])) hb
          case r8 =>
           refine trule fun b__ w hW hold hpre => wT rfl rfl rfl (show b__.eval (.tmp 26) = .bool true from pq hpre 1 3 26) fun K hK => ?_
           have e30 : b__.eval (.tmp 30) = .bool false := pq hpre 0 7 30
           exact opw_un rfl e30 rfl (hK _ _ rfl (Below.refl _ _))
          case r9 =>
           refine trule fun b__ w hW hold hpre => wU rfl fun K hK => ?_
           have e26 : b__.eval (.tmp 26) = .bool true := pq hpre 0 3 26
           have e31 : b__.eval (.tmp 31) = .bool true := pq hpre 1 8 31
           exact opw_pick rfl e26 e31 (hK _ _ rfl (Below.refl _ _))
          case r10 =>
           refine trule fun b__ w hW hold hpre => wU rfl fun K hK => ?_
           have e32 : b__.eval (.tmp 32) = .bool true := pq hpre 0 9 32
           exact opw_move rfl e32 (hK _ _ rfl (Below.refl _ _))
          case r11 =>
           refine trule fun b__ w hW hold hpre => wT rfl rfl rfl (show b__.eval (.tmp 33) = .bool true from pq hpre 0 10 33) fun K hK => ?_
           have e6 : b__.eval (.tmp 6) = .pointer (some ⟨g6, 0, none⟩) := (hold 6 (by kernel_rfl)).trans rfl
           exact opw_faddr rfl e6 (by kernel_rfl) (hK _ _ rfl (Below.refl _ _))
          case r12 =>
           refine trule fun b__ w hW hold hpre => wT rfl rfl rfl (show b__.eval (.tmp 33) = .bool true from pq hpre 1 10 33) fun K hK => ?_
           have e34 : b__.eval (.tmp 34) = .pointer (some ⟨g6, 1, none⟩) := pq hpre 0 11 34
           exact opw_faddr rfl e34 (by kernel_rfl) (hK _ _ rfl (Below.refl _ _))
          case r13 =>
           refine trule fun b__ w hW hold hpre => wT rfl rfl rfl (show b__.eval (.tmp 33) = .bool true from pq hpre 1 10 33) fun K hK => ?_
           have e35 : b__.eval (.tmp 35) = .pointer (some ⟨g6, 1, none⟩) := pq hpre 0 12 35
           exact opw_row1 rfl e35 ((hS.ext (undrew hW)).box 0 rfl) rfl Tryz.underlying27 (by kernel_rfl) (by kernel_rfl) (hK _ _ rfl (Below.refl _ _))
          case r14 =>
           refine trule fun b__ w hW hold hpre => wT rfl rfl rfl (show b__.eval (.tmp 33) = .bool true from pq hpre 0 10 33) fun K hK => ?_
           have e1 : b__.eval (.tmp 1) = .pointer (some ⟨g1, 0, none⟩) := (hold 1 (by kernel_rfl)).trans rfl
           exact opw_faddr rfl e1 (by kernel_rfl) (hK _ _ rfl (Below.refl _ _))
          case r15 =>
           refine trule fun b__ w hW hold hpre => wT rfl rfl rfl (show b__.eval (.tmp 33) = .bool true from pq hpre 1 10 33) fun K hK => ?_
           have e37 : b__.eval (.tmp 37) = .pointer (some ⟨g1, 1, none⟩) := pq hpre 0 14 37
           exact opw_cell rfl e37 (by kernel_rfl) (((hS.ext (undrew hW)).box 2 rfl).cell 1) (hK _ _ rfl (Below.refl _ _))
          case r16 =>
           refine trule fun b__ w hW hold hpre => wT rfl rfl rfl (show b__.eval (.tmp 33) = .bool true from pq hpre 0 10 33) fun K hK => ?_
           have e3 : b__.eval (.tmp 3) = .pointer (some ⟨g3, 0, none⟩) := (hold 3 (by kernel_rfl)).trans rfl
           exact opw_row rfl e3 ((hS.ext (undrew hW)).box 1 rfl) Tryz.underlying27 rfl (by kernel_rfl) (hK _ _ rfl (Below.refl _ _))
          case r17 =>
           refine trule fun b__ w hW hold hpre => wT rfl rfl rfl (show b__.eval (.tmp 33) = .bool true from pq hpre 2 10 33) fun K hK => ?_
           have e38 : b__.eval (.tmp 38) = .pointer (some ⟨q, 0, none⟩) := pq hpre 0 15 38
           have e39 : b__.eval (.tmp 39) = .agg #[u] := pq hpre 1 16 39
           exact opw_call rfl (by kernel_rfl) (by simp only [List.map_cons, List.map_nil, e38, e39]) (hclos_any (kh _ _ (kc.out _ _ (hS.ext (undrew hW)).ro).1) (kt _ _ (kc.out _ _ (hS.ext (undrew hW)).ro).1) HH.out (kc.out _ _ (hS.ext (undrew hW)).ro).2.1) fun v w' h hb => hK v w' (h.imp fun _ _ _ => trivial) hb
          case r18 =>
           refine trule fun b__ w hW hold hpre => wT rfl rfl rfl (show b__.eval (.tmp 33) = .bool true from pq hpre 3 10 33) fun K hK => ?_
           have e36 : b__.eval (.tmp 36) = .agg #[.slice Ay my cy] := pq hpre 0 13 36
           have e40 : (fun (v : Value) (w : World) => IsSet w (fun _ => True) v (closM L N0)) (b__.eval (.tmp 40)) w := hpre ⟨17, _⟩ (Array.mem_of_getElem? (i := 1) rfl) rfl _ _ rfl rfl
           exact opw_call rfl (by kernel_rfl) (by simp only [List.map_cons, List.map_nil, e36]) (within_any _ _ ry (closM L N0) _ _ _ (kc.out _ _ (hS.ext (undrew hW)).ro).2.2.1 e40) fun v w' h hb => hK v w' (h.trans (by rw [HB2.out])) hb
          case r19 =>
           refine trule fun b__ w hW hold hpre => wU rfl fun K hK => ?_
           have e33 : b__.eval (.tmp 33) = .bool true := pq hpre 0 10 33
           have e41 : b__.eval (.tmp 41) = .bool b2 := pq hpre 1 18 41
           exact opw_pick rfl e33 e41 (hK _ _ rfl (Below.refl _ _))
          case post =>
           intro b__ wz hW hdf hsz hold hT
           have e23 : b__.eval (.tmp 23) = .pointer (some ⟨g6, 0, none⟩) := hT 0 _ 23 rfl rfl
           have e24 : b__.eval (.tmp 24) = .bool false := hT 1 _ 24 rfl rfl
           have e25 : b__.eval (.tmp 25) = .bool true := hT 2 _ 25 rfl rfl
           have e26 : b__.eval (.tmp 26) = .bool true := hT 3 _ 26 rfl rfl
           have e27 : b__.eval (.tmp 27) = .agg #[u] := hT 4 _ 27 rfl rfl
           have e28 : b__.eval (.tmp 28) = .pointer (some ⟨g6, 3, none⟩) := hT 5 _ 28 rfl rfl
           have e29 : b__.eval (.tmp 29) = .int .i64 rt := hT 6 _ 29 rfl rfl
           have e30 : b__.eval (.tmp 30) = .bool false := hT 7 _ 30 rfl rfl
           have e31 : b__.eval (.tmp 31) = .bool true := hT 8 _ 31 rfl rfl
           have e32 : b__.eval (.tmp 32) = .bool true := hT 9 _ 32 rfl rfl
           have e33 : b__.eval (.tmp 33) = .bool true := hT 10 _ 33 rfl rfl
           have e34 : b__.eval (.tmp 34) = .pointer (some ⟨g6, 1, none⟩) := hT 11 _ 34 rfl rfl
           have e35 : b__.eval (.tmp 35) = .pointer (some ⟨g6, 1, none⟩) := hT 12 _ 35 rfl rfl
           have e36 : b__.eval (.tmp 36) = .agg #[.slice Ay my cy] := hT 13 _ 36 rfl rfl
           have e37 : b__.eval (.tmp 37) = .pointer (some ⟨g1, 1, none⟩) := hT 14 _ 37 rfl rfl
           have e38 : b__.eval (.tmp 38) = .pointer (some ⟨q, 0, none⟩) := hT 15 _ 38 rfl rfl
           have e39 : b__.eval (.tmp 39) = .agg #[u] := hT 16 _ 39 rfl rfl
           have e40 : (fun (v : Value) (w : World) => IsSet w (fun _ => True) v (closM L N0)) (b__.eval (.tmp 40)) wz := hT 17 _ 40 rfl rfl
           have e41 : b__.eval (.tmp 41) = .bool b2 := hT 18 _ 41 rfl rfl
           have e42 : b__.eval (.tmp 42) = .bool b2 := hT 19 _ 42 rfl rfl
           obtain ⟨vs, hvs, hb⟩ := frame_of hdf hsz hold
           replace e23 : vs 23 = .pointer (some ⟨g6, 0, none⟩) := (hvs 23).symm.trans e23
           replace e24 : vs 24 = .bool false := (hvs 24).symm.trans e24
           replace e25 : vs 25 = .bool true := (hvs 25).symm.trans e25
           replace e26 : vs 26 = .bool true := (hvs 26).symm.trans e26
           replace e27 : vs 27 = .agg #[u] := (hvs 27).symm.trans e27
           replace e28 : vs 28 = .pointer (some ⟨g6, 3, none⟩) := (hvs 28).symm.trans e28
           replace e29 : vs 29 = .int .i64 rt := (hvs 29).symm.trans e29
           replace e30 : vs 30 = .bool false := (hvs 30).symm.trans e30
           replace e31 : vs 31 = .bool true := (hvs 31).symm.trans e31
           replace e32 : vs 32 = .bool true := (hvs 32).symm.trans e32
           replace e33 : vs 33 = .bool true := (hvs 33).symm.trans e33
           replace e34 : vs 34 = .pointer (some ⟨g6, 1, none⟩) := (hvs 34).symm.trans e34
           replace e35 : vs 35 = .pointer (some ⟨g6, 1, none⟩) := (hvs 35).symm.trans e35
           replace e36 : vs 36 = .agg #[.slice Ay my cy] := (hvs 36).symm.trans e36
           replace e37 : vs 37 = .pointer (some ⟨g1, 1, none⟩) := (hvs 37).symm.trans e37
           replace e38 : vs 38 = .pointer (some ⟨q, 0, none⟩) := (hvs 38).symm.trans e38
           replace e39 : vs 39 = .agg #[u] := (hvs 39).symm.trans e39
           replace e40 := (hvs 40) ▸ e40
           replace e41 : vs 41 = .bool b2 := (hvs 41).symm.trans e41
           replace e42 : vs 42 = .bool b2 := (hvs 42).symm.trans e42
           subst hb
           clear hvs hold hT hdf hsz
           simp only [setAll, Act.put, List.setIfInBounds_toArray, List.set_cons_zero, List.set_cons_succ, List.getElem_toArray, List.getElem_cons_succ, List.getElem_cons_zero]
           rw [hb2'] at e42
           rw [e42]
           replace hS := hS.ext hW
           clear hW
           go_wp2_with fail
           exact ⟨⟨j + 1, mb, u, N0, by go_num, rfl, hlj, HI2, (hS.sub (List.sublist_cons_self _ _)).mono (KS.out.and stable_set) fun D w h => ⟨(kc.out _ _ h).1, (kc.out _ _ h).2.1⟩⟩, by simp [intOf]; omega⟩
         ·obtain ⟨t, ht, ht64⟩ := HTj.out
          dsimp only at ht
          have HI2 := Lib.hid (HI.out.add HGj.out rfl hb1.symm hb2.symm ht)
          have HWT : Hid (withN N0 rt = N0 ||| 2 ^ t) := Lib.hid (by rw [ht]; exact withN_nat ht64)
          obtain ⟨b2, hb2'⟩ : ∃ b, b = true := ⟨_, rfl⟩
          rw [← hb2'] at HB2
          clear hb1 hb2 HI ht ht64
          go_wp2_with (first
           | ((with_reducible refine qB ?_); (first | refine q1 ?_ ?_ | refine q2 ?_ ?_ | refine q3 ?_ ?_ | refine q4 ?_ ?_ | refine q5 ?_ ?_ | refine q6 ?_ ?_) <;> intro h_ <;> go_prune)
           | ((with_reducible refine qA 22 ?_); refine BigFrame.wpList_want rfl fun _ hK => opw_mid (cs := [.bool _, .slice Ay my cy, .slice Am mn cm, .int .i64 rt, .int .i64 ro]) rfl rfl (rng5 c0 c1 c2 c3 c4) Tryz.underlying58 rfl (by kernel_rfl) (hK _ _ ?_))
           | ((with_reducible refine qA 6 ?_); refine qa hS #[.bool false, .slice none 0 0, .slice none 0 0, .int .i64 0, .int .i64 0] ?_; clear hS; intro g6 w_ hS)
           | ((with_reducible refine qM ?_); (first | refine qS hS 0 ?_ | refine qS hS 1 ?_ | refine qS hS 2 ?_ | refine qS hS 3 ?_ | refine qT hS 0 ?_ | refine qT hS 1 ?_ | refine qT hS 2 ?_ | refine qT hS 3 ?_); clear hS; intro w_ hS; (try simp only [Act.put, Act.eval, z1, z2, z3, z4, z5, z6, z7, z8, Value.cells] at hS)))
          refine wp_region_typed (fun i__ v w => match i__ with
           | 0 => v = .pointer (some ⟨g6, 0, none⟩)
           | 1 => v = .bool false
           | 2 => v = .bool true
           | 3 => v = .bool true
           | 4 => v = .agg #[u]
           | 5 => v = .pointer (some ⟨g6, 3, none⟩)
           | 6 => v = .int .i64 rt
           | 7 => v = .bool false
           | 8 => v = .bool true
           | 9 => v = .bool true
           | 10 => v = .bool true
           | 11 => v = .pointer (some ⟨g6, 1, none⟩)
           | 12 => v = .pointer (some ⟨g6, 1, none⟩)
           | 13 => v = .agg #[.slice Ay my cy]
           | 14 => v = .pointer (some ⟨g1, 1, none⟩)
           | 15 => v = .pointer (some ⟨q, 0, none⟩)
           | 16 => v = .agg #[u]
           | 17 => IsSet w (fun _ => True) v (closM L N0)
           | 18 => v = .bool b2
           | 19 => v = .bool b2
           | _ => True) (by kernel_rfl) (by kernel_rfl) ?mono ⟨?r0, ?r1, ?r2, ?r3, ?r4, ?r5, ?r6, ?r7, ?r8, ?r9, ?r10, ?r11, ?r12, ?r13, ?r14, ?r15, ?r16, ?r17, ?r18, ?r19, trivial⟩ ?post
          case mono =>
           intro i v w w' h hb
           match i, h with
           | 0, h | 1, h | 2, h | 3, h | 4, h | 5, h | 6, h | 7, h | 8, h | 9, h | 10, h | 11, h | 12, h | 13, h | 14, h | 15, h | 16, h => exact h
           | 17, h => exact h.ext hb
           | 18, h | 19, h => exact h
           | _ + 20, h => trivial
          case r0 =>
           refine trule fun b__ w hW hold hpre => wU rfl fun K hK => ?_
           have e6 : b__.eval (.tmp 6) = .pointer (some ⟨g6, 0, none⟩) := (hold 6 (by kernel_rfl)).trans rfl
           exact opw_faddr rfl e6 (by kernel_rfl) (hK _ _ rfl (Below.refl _ _))
          case r1 =>
           refine trule fun b__ w hW hold hpre => wU rfl fun K hK => ?_
           have e23 : b__.eval (.tmp 23) = .pointer (some ⟨g6, 0, none⟩) := pq hpre 0 0 23
           exact opw_cell rfl e23 (by kernel_rfl) (((hS.ext (undrew hW)).box 0 rfl).cell 0) (hK _ _ rfl (Below.refl _ _))
          case r2 =>
           refine trule fun b__ w hW hold hpre => wU rfl fun K hK => ?_
           have e24 : b__.eval (.tmp 24) = .bool false := pq hpre 0 1 24
           exact opw_un rfl e24 rfl (hK _ _ rfl (Below.refl _ _))
          case r3 =>
           refine trule fun b__ w hW hold hpre => wU rfl fun K hK => ?_
           have e25 : b__.eval (.tmp 25) = .bool true := pq hpre 0 2 25
           exact opw_move rfl e25 (hK _ _ rfl (Below.refl _ _))
          case r4 =>
           refine trule fun b__ w hW hold hpre => wT rfl rfl rfl (show b__.eval (.tmp 26) = .bool true from pq hpre 0 3 26) fun K hK => ?_
           have e3 : b__.eval (.tmp 3) = .pointer (some ⟨g3, 0, none⟩) := (hold 3 (by kernel_rfl)).trans rfl
           exact opw_row rfl e3 ((hS.ext (undrew hW)).box 1 rfl) Tryz.underlying27 rfl (by kernel_rfl) (hK _ _ rfl (Below.refl _ _))
          case r5 =>
           refine trule fun b__ w hW hold hpre => wT rfl rfl rfl (show b__.eval (.tmp 26) = .bool true from pq hpre 0 3 26) fun K hK => ?_
           have e6 : b__.eval (.tmp 6) = .pointer (some ⟨g6, 0, none⟩) := (hold 6 (by kernel_rfl)).trans rfl
           exact opw_faddr rfl e6 (by kernel_rfl) (hK _ _ rfl (Below.refl _ _))
          case r6 =>
           refine trule fun b__ w hW hold hpre => wT rfl rfl rfl (show b__.eval (.tmp 26) = .bool true from pq hpre 1 3 26) fun K hK => ?_
           have e28 : b__.eval (.tmp 28) = .pointer (some ⟨g6, 3, none⟩) := pq hpre 0 5 28
           exact opw_cell rfl e28 (by kernel_rfl) (((hS.ext (undrew hW)).box 0 rfl).cell 3) (hK _ _ rfl (Below.refl _ _))
          case r7 =>
           refine trule fun b__ w hW hold hpre => wT rfl rfl rfl (show b__.eval (.tmp 26) = .bool true from pq hpre 2 3 26) fun K hK => ?_
           have e27 : b__.eval (.tmp 27) = .agg #[u] := pq hpre 0 4 27
           have e29 : b__.eval (.tmp 29) = .int .i64 rt := pq hpre 1 6 29
           exact opw_call rfl (by kernel_rfl) (by simp only [List.map_cons, List.map_nil, e27, e29]) (has_any _ N0 rt _ _ (kc.out _ _ (hS.ext (undrew hW)).ro).2.1) fun v w' h hb => hK v w' (h.trans (by rw [← HB1.out])) hb
          case r8 =>
           refine trule fun b__ w hW hold hpre => wT rfl rfl rfl (show b__.eval (.tmp 26) = .bool true from pq hpre 1 3 26) fun K hK => ?_
           have e30 : b__.eval (.tmp 30) = .bool false := pq hpre 0 7 30
           exact opw_un rfl e30 rfl (hK _ _ rfl (Below.refl _ _))
          case r9 =>
           refine trule fun b__ w hW hold hpre => wU rfl fun K hK => ?_
           have e26 : b__.eval (.tmp 26) = .bool true := pq hpre 0 3 26
           have e31 : b__.eval (.tmp 31) = .bool true := pq hpre 1 8 31
           exact opw_pick rfl e26 e31 (hK _ _ rfl (Below.refl _ _))
          case r10 =>
           refine trule fun b__ w hW hold hpre => wU rfl fun K hK => ?_
           have e32 : b__.eval (.tmp 32) = .bool true := pq hpre 0 9 32
           exact opw_move rfl e32 (hK _ _ rfl (Below.refl _ _))
          case r11 =>
           refine trule fun b__ w hW hold hpre => wT rfl rfl rfl (show b__.eval (.tmp 33) = .bool true from pq hpre 0 10 33) fun K hK => ?_
           have e6 : b__.eval (.tmp 6) = .pointer (some ⟨g6, 0, none⟩) := (hold 6 (by kernel_rfl)).trans rfl
           exact opw_faddr rfl e6 (by kernel_rfl) (hK _ _ rfl (Below.refl _ _))
          case r12 =>
           refine trule fun b__ w hW hold hpre => wT rfl rfl rfl (show b__.eval (.tmp 33) = .bool true from pq hpre 1 10 33) fun K hK => ?_
           have e34 : b__.eval (.tmp 34) = .pointer (some ⟨g6, 1, none⟩) := pq hpre 0 11 34
           exact opw_faddr rfl e34 (by kernel_rfl) (hK _ _ rfl (Below.refl _ _))
          case r13 =>
           refine trule fun b__ w hW hold hpre => wT rfl rfl rfl (show b__.eval (.tmp 33) = .bool true from pq hpre 1 10 33) fun K hK => ?_
           have e35 : b__.eval (.tmp 35) = .pointer (some ⟨g6, 1, none⟩) := pq hpre 0 12 35
           exact opw_row1 rfl e35 ((hS.ext (undrew hW)).box 0 rfl) rfl Tryz.underlying27 (by kernel_rfl) (by kernel_rfl) (hK _ _ rfl (Below.refl _ _))
          case r14 =>
           refine trule fun b__ w hW hold hpre => wT rfl rfl rfl (show b__.eval (.tmp 33) = .bool true from pq hpre 0 10 33) fun K hK => ?_
           have e1 : b__.eval (.tmp 1) = .pointer (some ⟨g1, 0, none⟩) := (hold 1 (by kernel_rfl)).trans rfl
           exact opw_faddr rfl e1 (by kernel_rfl) (hK _ _ rfl (Below.refl _ _))
          case r15 =>
           refine trule fun b__ w hW hold hpre => wT rfl rfl rfl (show b__.eval (.tmp 33) = .bool true from pq hpre 1 10 33) fun K hK => ?_
           have e37 : b__.eval (.tmp 37) = .pointer (some ⟨g1, 1, none⟩) := pq hpre 0 14 37
           exact opw_cell rfl e37 (by kernel_rfl) (((hS.ext (undrew hW)).box 2 rfl).cell 1) (hK _ _ rfl (Below.refl _ _))
          case r16 =>
           refine trule fun b__ w hW hold hpre => wT rfl rfl rfl (show b__.eval (.tmp 33) = .bool true from pq hpre 0 10 33) fun K hK => ?_
           have e3 : b__.eval (.tmp 3) = .pointer (some ⟨g3, 0, none⟩) := (hold 3 (by kernel_rfl)).trans rfl
           exact opw_row rfl e3 ((hS.ext (undrew hW)).box 1 rfl) Tryz.underlying27 rfl (by kernel_rfl) (hK _ _ rfl (Below.refl _ _))
          case r17 =>
           refine trule fun b__ w hW hold hpre => wT rfl rfl rfl (show b__.eval (.tmp 33) = .bool true from pq hpre 2 10 33) fun K hK => ?_
           have e38 : b__.eval (.tmp 38) = .pointer (some ⟨q, 0, none⟩) := pq hpre 0 15 38
           have e39 : b__.eval (.tmp 39) = .agg #[u] := pq hpre 1 16 39
           exact opw_call rfl (by kernel_rfl) (by simp only [List.map_cons, List.map_nil, e38, e39]) (hclos_any (kh _ _ (kc.out _ _ (hS.ext (undrew hW)).ro).1) (kt _ _ (kc.out _ _ (hS.ext (undrew hW)).ro).1) HH.out (kc.out _ _ (hS.ext (undrew hW)).ro).2.1) fun v w' h hb => hK v w' (h.imp fun _ _ _ => trivial) hb
          case r18 =>
           refine trule fun b__ w hW hold hpre => wT rfl rfl rfl (show b__.eval (.tmp 33) = .bool true from pq hpre 3 10 33) fun K hK => ?_
           have e36 : b__.eval (.tmp 36) = .agg #[.slice Ay my cy] := pq hpre 0 13 36
           have e40 : (fun (v : Value) (w : World) => IsSet w (fun _ => True) v (closM L N0)) (b__.eval (.tmp 40)) w := hpre ⟨17, _⟩ (Array.mem_of_getElem? (i := 1) rfl) rfl _ _ rfl rfl
           exact opw_call rfl (by kernel_rfl) (by simp only [List.map_cons, List.map_nil, e36]) (within_any _ _ ry (closM L N0) _ _ _ (kc.out _ _ (hS.ext (undrew hW)).ro).2.2.1 e40) fun v w' h hb => hK v w' (h.trans (by rw [HB2.out])) hb
          case r19 =>
           refine trule fun b__ w hW hold hpre => wU rfl fun K hK => ?_
           have e33 : b__.eval (.tmp 33) = .bool true := pq hpre 0 10 33
           have e41 : b__.eval (.tmp 41) = .bool b2 := pq hpre 1 18 41
           exact opw_pick rfl e33 e41 (hK _ _ rfl (Below.refl _ _))
          case post =>
           intro b__ wz hW hdf hsz hold hT
           have e23 : b__.eval (.tmp 23) = .pointer (some ⟨g6, 0, none⟩) := hT 0 _ 23 rfl rfl
           have e24 : b__.eval (.tmp 24) = .bool false := hT 1 _ 24 rfl rfl
           have e25 : b__.eval (.tmp 25) = .bool true := hT 2 _ 25 rfl rfl
           have e26 : b__.eval (.tmp 26) = .bool true := hT 3 _ 26 rfl rfl
           have e27 : b__.eval (.tmp 27) = .agg #[u] := hT 4 _ 27 rfl rfl
           have e28 : b__.eval (.tmp 28) = .pointer (some ⟨g6, 3, none⟩) := hT 5 _ 28 rfl rfl
           have e29 : b__.eval (.tmp 29) = .int .i64 rt := hT 6 _ 29 rfl rfl
           have e30 : b__.eval (.tmp 30) = .bool false := hT 7 _ 30 rfl rfl
           have e31 : b__.eval (.tmp 31) = .bool true := hT 8 _ 31 rfl rfl
           have e32 : b__.eval (.tmp 32) = .bool true := hT 9 _ 32 rfl rfl
           have e33 : b__.eval (.tmp 33) = .bool true := hT 10 _ 33 rfl rfl
           have e34 : b__.eval (.tmp 34) = .pointer (some ⟨g6, 1, none⟩) := hT 11 _ 34 rfl rfl
           have e35 : b__.eval (.tmp 35) = .pointer (some ⟨g6, 1, none⟩) := hT 12 _ 35 rfl rfl
           have e36 : b__.eval (.tmp 36) = .agg #[.slice Ay my cy] := hT 13 _ 36 rfl rfl
           have e37 : b__.eval (.tmp 37) = .pointer (some ⟨g1, 1, none⟩) := hT 14 _ 37 rfl rfl
           have e38 : b__.eval (.tmp 38) = .pointer (some ⟨q, 0, none⟩) := hT 15 _ 38 rfl rfl
           have e39 : b__.eval (.tmp 39) = .agg #[u] := hT 16 _ 39 rfl rfl
           have e40 : (fun (v : Value) (w : World) => IsSet w (fun _ => True) v (closM L N0)) (b__.eval (.tmp 40)) wz := hT 17 _ 40 rfl rfl
           have e41 : b__.eval (.tmp 41) = .bool b2 := hT 18 _ 41 rfl rfl
           have e42 : b__.eval (.tmp 42) = .bool b2 := hT 19 _ 42 rfl rfl
           obtain ⟨vs, hvs, hb⟩ := frame_of hdf hsz hold
           replace e23 : vs 23 = .pointer (some ⟨g6, 0, none⟩) := (hvs 23).symm.trans e23
           replace e24 : vs 24 = .bool false := (hvs 24).symm.trans e24
           replace e25 : vs 25 = .bool true := (hvs 25).symm.trans e25
           replace e26 : vs 26 = .bool true := (hvs 26).symm.trans e26
           replace e27 : vs 27 = .agg #[u] := (hvs 27).symm.trans e27
           replace e28 : vs 28 = .pointer (some ⟨g6, 3, none⟩) := (hvs 28).symm.trans e28
           replace e29 : vs 29 = .int .i64 rt := (hvs 29).symm.trans e29
           replace e30 : vs 30 = .bool false := (hvs 30).symm.trans e30
           replace e31 : vs 31 = .bool true := (hvs 31).symm.trans e31
           replace e32 : vs 32 = .bool true := (hvs 32).symm.trans e32
           replace e33 : vs 33 = .bool true := (hvs 33).symm.trans e33
           replace e34 : vs 34 = .pointer (some ⟨g6, 1, none⟩) := (hvs 34).symm.trans e34
           replace e35 : vs 35 = .pointer (some ⟨g6, 1, none⟩) := (hvs 35).symm.trans e35
           replace e36 : vs 36 = .agg #[.slice Ay my cy] := (hvs 36).symm.trans e36
           replace e37 : vs 37 = .pointer (some ⟨g1, 1, none⟩) := (hvs 37).symm.trans e37
           replace e38 : vs 38 = .pointer (some ⟨q, 0, none⟩) := (hvs 38).symm.trans e38
           replace e39 : vs 39 = .agg #[u] := (hvs 39).symm.trans e39
           replace e40 := (hvs 40) ▸ e40
           replace e41 : vs 41 = .bool b2 := (hvs 41).symm.trans e41
           replace e42 : vs 42 = .bool b2 := (hvs 42).symm.trans e42
           subst hb
           clear hvs hold hT hdf hsz
           simp only [setAll, Act.put, List.setIfInBounds_toArray, List.set_cons_zero, List.set_cons_succ, List.getElem_toArray, List.getElem_cons_succ, List.getElem_cons_zero]
           rw [hb2'] at e42
           rw [e42]
           replace hS := hS.ext hW
           clear hW
           go_wp2_with (first
            | ((with_reducible refine qk 27 ?_); first | (refine st_setl hS 0 rfl _ _ rfl _ _ rfl _ _ rfl _ (by first | rfl | assumption) Tryz.underlying27 rfl (by kernel_rfl) ?_) | (refine st_setl hS 1 rfl _ _ rfl _ _ rfl _ _ rfl _ (by first | rfl | assumption) Tryz.underlying27 rfl (by kernel_rfl) ?_) | (refine st_setl hS 2 rfl _ _ rfl _ _ rfl _ _ rfl _ (by first | rfl | assumption) Tryz.underlying27 rfl (by kernel_rfl) ?_) | (refine st_setl hS 3 rfl _ _ rfl _ _ rfl _ _ rfl _ (by first | rfl | assumption) Tryz.underlying27 rfl (by kernel_rfl) ?_) | (refine st_setl hS 4 rfl _ _ rfl _ _ rfl _ _ rfl _ (by first | rfl | assumption) Tryz.underlying27 rfl (by kernel_rfl) ?_) | (refine st_setl hS 5 rfl _ _ rfl _ _ rfl _ _ rfl _ (by first | rfl | assumption) Tryz.underlying27 rfl (by kernel_rfl) ?_))
            | ((with_reducible refine qK ?_); first | refine qC hS 0 ?_ | refine qC hS 1 ?_ | refine qC hS 2 ?_ | refine qC hS 3 ?_ | refine qC hS 4 ?_ | refine qC hS 5 ?_ | refine qC hS 6 ?_ | refine qC hS 7 ?_)
            | (go_at_call 59; refine (with_any _ N0 rt _ _ (kc.out _ _ hS.ro).2.1).mono ?_; rw [HWT.out]; rintro r_ w_ ⟨_, rfl, hM, hb_⟩; obtain ⟨A4, c4, l4, rfl, -⟩ := hM.parts; replace hS := hS.ret2 hb_ stable_set hM; clear hb_ hM)
            | ((with_reducible refine qM ?_); (first | refine qS hS 0 ?_ | refine qS hS 1 ?_ | refine qS hS 2 ?_ | refine qS hS 3 ?_ | refine qT hS 0 ?_ | refine qT hS 1 ?_ | refine qT hS 2 ?_ | refine qT hS 3 ?_); clear hS; intro w_ hS; (try simp only [Act.put, Act.eval, z1, z2, z3, z4, z5, z6, z7, z8, Value.cells] at hS)))
           exact ⟨⟨j + 1, true, _, N0 ||| 2 ^ t, by go_num, rfl, hlj, HI2, (hS.sub (List.sublist_cons_self _ _)).mono (KS.out.and stable_set) fun D w h => ⟨(kc.out _ _ h.1).1, h.2⟩⟩, by simp [intOf]; omega⟩
        ·have HI2 := Lib.hid (HI.out.skip HGj.out (.inr (.inl hb1.symm)))
         clear hb1 hb2 HI
         go_wp2_with (first
          | ((with_reducible refine qB ?_); (first | refine q1 ?_ ?_ | refine q2 ?_ ?_ | refine q3 ?_ ?_ | refine q4 ?_ ?_ | refine q5 ?_ ?_ | refine q6 ?_ ?_) <;> intro h_ <;> go_prune)
          | ((with_reducible refine qA 22 ?_); refine BigFrame.wpList_want rfl fun _ hK => opw_mid (cs := [.bool _, .slice Ay my cy, .slice Am mn cm, .int .i64 rt, .int .i64 ro]) rfl rfl (rng5 c0 c1 c2 c3 c4) Tryz.underlying58 rfl (by kernel_rfl) (hK _ _ ?_))
          | ((with_reducible refine qA 6 ?_); refine qa hS #[.bool false, .slice none 0 0, .slice none 0 0, .int .i64 0, .int .i64 0] ?_; clear hS; intro g6 w_ hS)
          | ((with_reducible refine qM ?_); (first | refine qS hS 0 ?_ | refine qS hS 1 ?_ | refine qS hS 2 ?_ | refine qS hS 3 ?_ | refine qT hS 0 ?_ | refine qT hS 1 ?_ | refine qT hS 2 ?_ | refine qT hS 3 ?_); clear hS; intro w_ hS; (try simp only [Act.put, Act.eval, z1, z2, z3, z4, z5, z6, z7, z8, Value.cells] at hS)))
         refine wp_region_typed (fun i__ v w => match i__ with
          | 0 => v = .pointer (some ⟨g6, 0, none⟩)
          | 1 => v = .bool false
          | 2 => v = .bool true
          | 3 => v = .bool true
          | 4 => v = .agg #[u]
          | 5 => v = .pointer (some ⟨g6, 3, none⟩)
          | 6 => v = .int .i64 rt
          | 7 => v = .bool true
          | 8 => v = .bool false
          | 9 => v = .bool false
          | 10 => v = .bool false
          | 11 => True
          | 12 => True
          | 13 => True
          | 14 => True
          | 15 => True
          | 16 => True
          | 17 => True
          | 18 => True
          | 19 => v = .bool false
          | _ => True) (by kernel_rfl) (by kernel_rfl) ?mono ⟨?r0, ?r1, ?r2, ?r3, ?r4, ?r5, ?r6, ?r7, ?r8, ?r9, ?r10, ?r11, ?r12, ?r13, ?r14, ?r15, ?r16, ?r17, ?r18, ?r19, trivial⟩ ?post
         case mono =>
          intro i v w w' h hb
          match i, h with
          | 0, h | 1, h | 2, h | 3, h | 4, h | 5, h | 6, h | 7, h | 8, h | 9, h | 10, h | 11, h | 12, h | 13, h | 14, h | 15, h | 16, h | 17, h | 18, h | 19, h => exact h
          | _ + 20, h => trivial
         case r0 =>
          refine trule fun b__ w hW hold hpre => wU rfl fun K hK => ?_
          have e6 : b__.eval (.tmp 6) = .pointer (some ⟨g6, 0, none⟩) := (hold 6 (by kernel_rfl)).trans rfl
          exact opw_faddr rfl e6 (by kernel_rfl) (hK _ _ rfl (Below.refl _ _))
         case r1 =>
          refine trule fun b__ w hW hold hpre => wU rfl fun K hK => ?_
          have e23 : b__.eval (.tmp 23) = .pointer (some ⟨g6, 0, none⟩) := pq hpre 0 0 23
          exact opw_cell rfl e23 (by kernel_rfl) (((hS.ext (undrew hW)).box 0 rfl).cell 0) (hK _ _ rfl (Below.refl _ _))
         case r2 =>
          refine trule fun b__ w hW hold hpre => wU rfl fun K hK => ?_
          have e24 : b__.eval (.tmp 24) = .bool false := pq hpre 0 1 24
          exact opw_un rfl e24 rfl (hK _ _ rfl (Below.refl _ _))
         case r3 =>
          refine trule fun b__ w hW hold hpre => wU rfl fun K hK => ?_
          have e25 : b__.eval (.tmp 25) = .bool true := pq hpre 0 2 25
          exact opw_move rfl e25 (hK _ _ rfl (Below.refl _ _))
         case r4 =>
          refine trule fun b__ w hW hold hpre => wT rfl rfl rfl (show b__.eval (.tmp 26) = .bool true from pq hpre 0 3 26) fun K hK => ?_
          have e3 : b__.eval (.tmp 3) = .pointer (some ⟨g3, 0, none⟩) := (hold 3 (by kernel_rfl)).trans rfl
          exact opw_row rfl e3 ((hS.ext (undrew hW)).box 1 rfl) Tryz.underlying27 rfl (by kernel_rfl) (hK _ _ rfl (Below.refl _ _))
         case r5 =>
          refine trule fun b__ w hW hold hpre => wT rfl rfl rfl (show b__.eval (.tmp 26) = .bool true from pq hpre 0 3 26) fun K hK => ?_
          have e6 : b__.eval (.tmp 6) = .pointer (some ⟨g6, 0, none⟩) := (hold 6 (by kernel_rfl)).trans rfl
          exact opw_faddr rfl e6 (by kernel_rfl) (hK _ _ rfl (Below.refl _ _))
         case r6 =>
          refine trule fun b__ w hW hold hpre => wT rfl rfl rfl (show b__.eval (.tmp 26) = .bool true from pq hpre 1 3 26) fun K hK => ?_
          have e28 : b__.eval (.tmp 28) = .pointer (some ⟨g6, 3, none⟩) := pq hpre 0 5 28
          exact opw_cell rfl e28 (by kernel_rfl) (((hS.ext (undrew hW)).box 0 rfl).cell 3) (hK _ _ rfl (Below.refl _ _))
         case r7 =>
          refine trule fun b__ w hW hold hpre => wT rfl rfl rfl (show b__.eval (.tmp 26) = .bool true from pq hpre 2 3 26) fun K hK => ?_
          have e27 : b__.eval (.tmp 27) = .agg #[u] := pq hpre 0 4 27
          have e29 : b__.eval (.tmp 29) = .int .i64 rt := pq hpre 1 6 29
          exact opw_call rfl (by kernel_rfl) (by simp only [List.map_cons, List.map_nil, e27, e29]) (has_any _ N0 rt _ _ (kc.out _ _ (hS.ext (undrew hW)).ro).2.1) fun v w' h hb => hK v w' (h.trans (by rw [← HB1.out])) hb
         case r8 =>
          refine trule fun b__ w hW hold hpre => wT rfl rfl rfl (show b__.eval (.tmp 26) = .bool true from pq hpre 1 3 26) fun K hK => ?_
          have e30 : b__.eval (.tmp 30) = .bool true := pq hpre 0 7 30
          exact opw_un rfl e30 rfl (hK _ _ rfl (Below.refl _ _))
         case r9 =>
          refine trule fun b__ w hW hold hpre => wU rfl fun K hK => ?_
          have e26 : b__.eval (.tmp 26) = .bool true := pq hpre 0 3 26
          have e31 : b__.eval (.tmp 31) = .bool false := pq hpre 1 8 31
          exact opw_pick rfl e26 e31 (hK _ _ rfl (Below.refl _ _))
         case r10 =>
          refine trule fun b__ w hW hold hpre => wU rfl fun K hK => ?_
          have e32 : b__.eval (.tmp 32) = .bool false := pq hpre 0 9 32
          exact opw_move rfl e32 (hK _ _ rfl (Below.refl _ _))
         case r11 =>
          refine trule fun b__ w hW hold hpre => ⟨fun hwant K hK => ?_, fun hwant => ?_⟩
          ·rw [want_some rfl rfl rfl (show b__.eval (.tmp 33) = .bool false from hpre ⟨10, _⟩ (Array.mem_of_getElem? (i := 0) rfl) rfl _ _ rfl rfl)] at hwant; cases hwant
          ·exact trivial
         case r12 =>
          refine trule fun b__ w hW hold hpre => ⟨fun hwant K hK => ?_, fun hwant => ?_⟩
          ·rw [want_some rfl rfl rfl (show b__.eval (.tmp 33) = .bool false from hpre ⟨10, _⟩ (Array.mem_of_getElem? (i := 1) rfl) rfl _ _ rfl rfl)] at hwant; cases hwant
          ·exact trivial
         case r13 =>
          refine trule fun b__ w hW hold hpre => ⟨fun hwant K hK => ?_, fun hwant => ?_⟩
          ·rw [want_some rfl rfl rfl (show b__.eval (.tmp 33) = .bool false from hpre ⟨10, _⟩ (Array.mem_of_getElem? (i := 1) rfl) rfl _ _ rfl rfl)] at hwant; cases hwant
          ·exact trivial
         case r14 =>
          refine trule fun b__ w hW hold hpre => ⟨fun hwant K hK => ?_, fun hwant => ?_⟩
          ·rw [want_some rfl rfl rfl (show b__.eval (.tmp 33) = .bool false from hpre ⟨10, _⟩ (Array.mem_of_getElem? (i := 0) rfl) rfl _ _ rfl rfl)] at hwant; cases hwant
          ·exact trivial
         case r15 =>
          refine trule fun b__ w hW hold hpre => ⟨fun hwant K hK => ?_, fun hwant => ?_⟩
          ·rw [want_some rfl rfl rfl (show b__.eval (.tmp 33) = .bool false from hpre ⟨10, _⟩ (Array.mem_of_getElem? (i := 1) rfl) rfl _ _ rfl rfl)] at hwant; cases hwant
          ·exact trivial
         case r16 =>
          refine trule fun b__ w hW hold hpre => ⟨fun hwant K hK => ?_, fun hwant => ?_⟩
          ·rw [want_some rfl rfl rfl (show b__.eval (.tmp 33) = .bool false from hpre ⟨10, _⟩ (Array.mem_of_getElem? (i := 0) rfl) rfl _ _ rfl rfl)] at hwant; cases hwant
          ·exact trivial
         case r17 =>
          refine trule fun b__ w hW hold hpre => ⟨fun hwant K hK => ?_, fun hwant => ?_⟩
          ·rw [want_some rfl rfl rfl (show b__.eval (.tmp 33) = .bool false from hpre ⟨10, _⟩ (Array.mem_of_getElem? (i := 2) rfl) rfl _ _ rfl rfl)] at hwant; cases hwant
          ·exact trivial
         case r18 =>
          refine trule fun b__ w hW hold hpre => ⟨fun hwant K hK => ?_, fun hwant => ?_⟩
          ·rw [want_some rfl rfl rfl (show b__.eval (.tmp 33) = .bool false from hpre ⟨10, _⟩ (Array.mem_of_getElem? (i := 3) rfl) rfl _ _ rfl rfl)] at hwant; cases hwant
          ·exact trivial
         case r19 =>
          refine trule fun b__ w hW hold hpre => wU rfl fun K hK => ?_
          have e33 : b__.eval (.tmp 33) = .bool false := pq hpre 0 10 33
          have e41 : (fun (v : Value) (w : World) => True) (b__.eval (.tmp 41)) w := hpre ⟨18, _⟩ (Array.mem_of_getElem? (i := 1) rfl) rfl _ _ rfl rfl
          exact opw_pick rfl e33 rfl (hK _ _ rfl (Below.refl _ _))
         case post =>
          intro b__ wz hW hdf hsz hold hT
          have e23 : b__.eval (.tmp 23) = .pointer (some ⟨g6, 0, none⟩) := hT 0 _ 23 rfl rfl
          have e24 : b__.eval (.tmp 24) = .bool false := hT 1 _ 24 rfl rfl
          have e25 : b__.eval (.tmp 25) = .bool true := hT 2 _ 25 rfl rfl
          have e26 : b__.eval (.tmp 26) = .bool true := hT 3 _ 26 rfl rfl
          have e27 : b__.eval (.tmp 27) = .agg #[u] := hT 4 _ 27 rfl rfl
          have e28 : b__.eval (.tmp 28) = .pointer (some ⟨g6, 3, none⟩) := hT 5 _ 28 rfl rfl
          have e29 : b__.eval (.tmp 29) = .int .i64 rt := hT 6 _ 29 rfl rfl
          have e30 : b__.eval (.tmp 30) = .bool true := hT 7 _ 30 rfl rfl
          have e31 : b__.eval (.tmp 31) = .bool false := hT 8 _ 31 rfl rfl
          have e32 : b__.eval (.tmp 32) = .bool false := hT 9 _ 32 rfl rfl
          have e33 : b__.eval (.tmp 33) = .bool false := hT 10 _ 33 rfl rfl
          have e42 : b__.eval (.tmp 42) = .bool false := hT 19 _ 42 rfl rfl
          obtain ⟨vs, hvs, hb⟩ := frame_of hdf hsz hold
          replace e23 : vs 23 = .pointer (some ⟨g6, 0, none⟩) := (hvs 23).symm.trans e23
          replace e24 : vs 24 = .bool false := (hvs 24).symm.trans e24
          replace e25 : vs 25 = .bool true := (hvs 25).symm.trans e25
          replace e26 : vs 26 = .bool true := (hvs 26).symm.trans e26
          replace e27 : vs 27 = .agg #[u] := (hvs 27).symm.trans e27
          replace e28 : vs 28 = .pointer (some ⟨g6, 3, none⟩) := (hvs 28).symm.trans e28
          replace e29 : vs 29 = .int .i64 rt := (hvs 29).symm.trans e29
          replace e30 : vs 30 = .bool true := (hvs 30).symm.trans e30
          replace e31 : vs 31 = .bool false := (hvs 31).symm.trans e31
          replace e32 : vs 32 = .bool false := (hvs 32).symm.trans e32
          replace e33 : vs 33 = .bool false := (hvs 33).symm.trans e33
          replace e42 : vs 42 = .bool false := (hvs 42).symm.trans e42
          subst hb
          clear hvs hold hT hdf hsz
          simp only [setAll, Act.put, List.setIfInBounds_toArray, List.set_cons_zero, List.set_cons_succ, List.getElem_toArray, List.getElem_cons_succ, List.getElem_cons_zero]
          rw [e42]
          replace hS := hS.ext hW
          clear hW
          go_wp2_with fail
          exact ⟨⟨j + 1, mb, u, N0, by go_num, rfl, hlj, HI2, (hS.sub (List.sublist_cons_self _ _)).mono (KS.out.and stable_set) fun D w h => ⟨(kc.out _ _ h).1, (kc.out _ _ h).2.1⟩⟩, by simp [intOf]; omega⟩
       ·have HI2 := Lib.hid (HI.out.skip HGj.out (.inl rfl))
        clear hb1 hb2 HI
        go_wp2_with (first
         | ((with_reducible refine qB ?_); (first | refine q1 ?_ ?_ | refine q2 ?_ ?_ | refine q3 ?_ ?_ | refine q4 ?_ ?_ | refine q5 ?_ ?_ | refine q6 ?_ ?_) <;> intro h_ <;> go_prune)
         | ((with_reducible refine qA 22 ?_); refine BigFrame.wpList_want rfl fun _ hK => opw_mid (cs := [.bool _, .slice Ay my cy, .slice Am mn cm, .int .i64 rt, .int .i64 ro]) rfl rfl (rng5 c0 c1 c2 c3 c4) Tryz.underlying58 rfl (by kernel_rfl) (hK _ _ ?_))
         | ((with_reducible refine qA 6 ?_); refine qa hS #[.bool false, .slice none 0 0, .slice none 0 0, .int .i64 0, .int .i64 0] ?_; clear hS; intro g6 w_ hS)
         | ((with_reducible refine qM ?_); (first | refine qS hS 0 ?_ | refine qS hS 1 ?_ | refine qS hS 2 ?_ | refine qS hS 3 ?_ | refine qT hS 0 ?_ | refine qT hS 1 ?_ | refine qT hS 2 ?_ | refine qT hS 3 ?_); clear hS; intro w_ hS; (try simp only [Act.put, Act.eval, z1, z2, z3, z4, z5, z6, z7, z8, Value.cells] at hS)))
        refine wp_region_typed (fun i__ v w => match i__ with
         | 0 => v = .pointer (some ⟨g6, 0, none⟩)
         | 1 => v = .bool true
         | 2 => v = .bool false
         | 3 => v = .bool false
         | 4 => True
         | 5 => True
         | 6 => True
         | 7 => True
         | 8 => True
         | 9 => v = .bool false
         | 10 => v = .bool false
         | 11 => True
         | 12 => True
         | 13 => True
         | 14 => True
         | 15 => True
         | 16 => True
         | 17 => True
         | 18 => True
         | 19 => v = .bool false
         | _ => True) (by kernel_rfl) (by kernel_rfl) ?mono ⟨?r0, ?r1, ?r2, ?r3, ?r4, ?r5, ?r6, ?r7, ?r8, ?r9, ?r10, ?r11, ?r12, ?r13, ?r14, ?r15, ?r16, ?r17, ?r18, ?r19, trivial⟩ ?post
        case mono =>
         intro i v w w' h hb
         match i, h with
         | 0, h | 1, h | 2, h | 3, h | 4, h | 5, h | 6, h | 7, h | 8, h | 9, h | 10, h | 11, h | 12, h | 13, h | 14, h | 15, h | 16, h | 17, h | 18, h | 19, h => exact h
         | _ + 20, h => trivial
        case r0 =>
         refine trule fun b__ w hW hold hpre => wU rfl fun K hK => ?_
         have e6 : b__.eval (.tmp 6) = .pointer (some ⟨g6, 0, none⟩) := (hold 6 (by kernel_rfl)).trans rfl
         exact opw_faddr rfl e6 (by kernel_rfl) (hK _ _ rfl (Below.refl _ _))
        case r1 =>
         refine trule fun b__ w hW hold hpre => wU rfl fun K hK => ?_
         have e23 : b__.eval (.tmp 23) = .pointer (some ⟨g6, 0, none⟩) := pq hpre 0 0 23
         exact opw_cell rfl e23 (by kernel_rfl) (((hS.ext (undrew hW)).box 0 rfl).cell 0) (hK _ _ rfl (Below.refl _ _))
        case r2 =>
         refine trule fun b__ w hW hold hpre => wU rfl fun K hK => ?_
         have e24 : b__.eval (.tmp 24) = .bool true := pq hpre 0 1 24
         exact opw_un rfl e24 rfl (hK _ _ rfl (Below.refl _ _))
        case r3 =>
         refine trule fun b__ w hW hold hpre => wU rfl fun K hK => ?_
         have e25 : b__.eval (.tmp 25) = .bool false := pq hpre 0 2 25
         exact opw_move rfl e25 (hK _ _ rfl (Below.refl _ _))
        case r4 =>
         refine trule fun b__ w hW hold hpre => ⟨fun hwant K hK => ?_, fun hwant => ?_⟩
         ·rw [want_some rfl rfl rfl (show b__.eval (.tmp 26) = .bool false from hpre ⟨3, _⟩ (Array.mem_of_getElem? (i := 0) rfl) rfl _ _ rfl rfl)] at hwant; cases hwant
         ·exact trivial
        case r5 =>
         refine trule fun b__ w hW hold hpre => ⟨fun hwant K hK => ?_, fun hwant => ?_⟩
         ·rw [want_some rfl rfl rfl (show b__.eval (.tmp 26) = .bool false from hpre ⟨3, _⟩ (Array.mem_of_getElem? (i := 0) rfl) rfl _ _ rfl rfl)] at hwant; cases hwant
         ·exact trivial
        case r6 =>
         refine trule fun b__ w hW hold hpre => ⟨fun hwant K hK => ?_, fun hwant => ?_⟩
         ·rw [want_some rfl rfl rfl (show b__.eval (.tmp 26) = .bool false from hpre ⟨3, _⟩ (Array.mem_of_getElem? (i := 1) rfl) rfl _ _ rfl rfl)] at hwant; cases hwant
         ·exact trivial
        case r7 =>
         refine trule fun b__ w hW hold hpre => ⟨fun hwant K hK => ?_, fun hwant => ?_⟩
         ·rw [want_some rfl rfl rfl (show b__.eval (.tmp 26) = .bool false from hpre ⟨3, _⟩ (Array.mem_of_getElem? (i := 2) rfl) rfl _ _ rfl rfl)] at hwant; cases hwant
         ·exact trivial
        case r8 =>
         refine trule fun b__ w hW hold hpre => ⟨fun hwant K hK => ?_, fun hwant => ?_⟩
         ·rw [want_some rfl rfl rfl (show b__.eval (.tmp 26) = .bool false from hpre ⟨3, _⟩ (Array.mem_of_getElem? (i := 1) rfl) rfl _ _ rfl rfl)] at hwant; cases hwant
         ·exact trivial
        case r9 =>
         refine trule fun b__ w hW hold hpre => wU rfl fun K hK => ?_
         have e26 : b__.eval (.tmp 26) = .bool false := pq hpre 0 3 26
         have e31 : (fun (v : Value) (w : World) => True) (b__.eval (.tmp 31)) w := hpre ⟨8, _⟩ (Array.mem_of_getElem? (i := 1) rfl) rfl _ _ rfl rfl
         exact opw_pick rfl e26 rfl (hK _ _ rfl (Below.refl _ _))
        case r10 =>
         refine trule fun b__ w hW hold hpre => wU rfl fun K hK => ?_
         have e32 : b__.eval (.tmp 32) = .bool false := pq hpre 0 9 32
         exact opw_move rfl e32 (hK _ _ rfl (Below.refl _ _))
        case r11 =>
         refine trule fun b__ w hW hold hpre => ⟨fun hwant K hK => ?_, fun hwant => ?_⟩
         ·rw [want_some rfl rfl rfl (show b__.eval (.tmp 33) = .bool false from hpre ⟨10, _⟩ (Array.mem_of_getElem? (i := 0) rfl) rfl _ _ rfl rfl)] at hwant; cases hwant
         ·exact trivial
        case r12 =>
         refine trule fun b__ w hW hold hpre => ⟨fun hwant K hK => ?_, fun hwant => ?_⟩
         ·rw [want_some rfl rfl rfl (show b__.eval (.tmp 33) = .bool false from hpre ⟨10, _⟩ (Array.mem_of_getElem? (i := 1) rfl) rfl _ _ rfl rfl)] at hwant; cases hwant
         ·exact trivial
        case r13 =>
         refine trule fun b__ w hW hold hpre => ⟨fun hwant K hK => ?_, fun hwant => ?_⟩
         ·rw [want_some rfl rfl rfl (show b__.eval (.tmp 33) = .bool false from hpre ⟨10, _⟩ (Array.mem_of_getElem? (i := 1) rfl) rfl _ _ rfl rfl)] at hwant; cases hwant
         ·exact trivial
        case r14 =>
         refine trule fun b__ w hW hold hpre => ⟨fun hwant K hK => ?_, fun hwant => ?_⟩
         ·rw [want_some rfl rfl rfl (show b__.eval (.tmp 33) = .bool false from hpre ⟨10, _⟩ (Array.mem_of_getElem? (i := 0) rfl) rfl _ _ rfl rfl)] at hwant; cases hwant
         ·exact trivial
        case r15 =>
         refine trule fun b__ w hW hold hpre => ⟨fun hwant K hK => ?_, fun hwant => ?_⟩
         ·rw [want_some rfl rfl rfl (show b__.eval (.tmp 33) = .bool false from hpre ⟨10, _⟩ (Array.mem_of_getElem? (i := 1) rfl) rfl _ _ rfl rfl)] at hwant; cases hwant
         ·exact trivial
        case r16 =>
         refine trule fun b__ w hW hold hpre => ⟨fun hwant K hK => ?_, fun hwant => ?_⟩
         ·rw [want_some rfl rfl rfl (show b__.eval (.tmp 33) = .bool false from hpre ⟨10, _⟩ (Array.mem_of_getElem? (i := 0) rfl) rfl _ _ rfl rfl)] at hwant; cases hwant
         ·exact trivial
        case r17 =>
         refine trule fun b__ w hW hold hpre => ⟨fun hwant K hK => ?_, fun hwant => ?_⟩
         ·rw [want_some rfl rfl rfl (show b__.eval (.tmp 33) = .bool false from hpre ⟨10, _⟩ (Array.mem_of_getElem? (i := 2) rfl) rfl _ _ rfl rfl)] at hwant; cases hwant
         ·exact trivial
        case r18 =>
         refine trule fun b__ w hW hold hpre => ⟨fun hwant K hK => ?_, fun hwant => ?_⟩
         ·rw [want_some rfl rfl rfl (show b__.eval (.tmp 33) = .bool false from hpre ⟨10, _⟩ (Array.mem_of_getElem? (i := 3) rfl) rfl _ _ rfl rfl)] at hwant; cases hwant
         ·exact trivial
        case r19 =>
         refine trule fun b__ w hW hold hpre => wU rfl fun K hK => ?_
         have e33 : b__.eval (.tmp 33) = .bool false := pq hpre 0 10 33
         have e41 : (fun (v : Value) (w : World) => True) (b__.eval (.tmp 41)) w := hpre ⟨18, _⟩ (Array.mem_of_getElem? (i := 1) rfl) rfl _ _ rfl rfl
         exact opw_pick rfl e33 rfl (hK _ _ rfl (Below.refl _ _))
        case post =>
         intro b__ wz hW hdf hsz hold hT
         have e23 : b__.eval (.tmp 23) = .pointer (some ⟨g6, 0, none⟩) := hT 0 _ 23 rfl rfl
         have e24 : b__.eval (.tmp 24) = .bool true := hT 1 _ 24 rfl rfl
         have e25 : b__.eval (.tmp 25) = .bool false := hT 2 _ 25 rfl rfl
         have e26 : b__.eval (.tmp 26) = .bool false := hT 3 _ 26 rfl rfl
         have e32 : b__.eval (.tmp 32) = .bool false := hT 9 _ 32 rfl rfl
         have e33 : b__.eval (.tmp 33) = .bool false := hT 10 _ 33 rfl rfl
         have e42 : b__.eval (.tmp 42) = .bool false := hT 19 _ 42 rfl rfl
         obtain ⟨vs, hvs, hb⟩ := frame_of hdf hsz hold
         replace e23 : vs 23 = .pointer (some ⟨g6, 0, none⟩) := (hvs 23).symm.trans e23
         replace e24 : vs 24 = .bool true := (hvs 24).symm.trans e24
         replace e25 : vs 25 = .bool false := (hvs 25).symm.trans e25
         replace e26 : vs 26 = .bool false := (hvs 26).symm.trans e26
         replace e32 : vs 32 = .bool false := (hvs 32).symm.trans e32
         replace e33 : vs 33 = .bool false := (hvs 33).symm.trans e33
         replace e42 : vs 42 = .bool false := (hvs 42).symm.trans e42
         subst hb
         clear hvs hold hT hdf hsz
         simp only [setAll, Act.put, List.setIfInBounds_toArray, List.set_cons_zero, List.set_cons_succ, List.getElem_toArray, List.getElem_cons_succ, List.getElem_cons_zero]
         rw [e42]
         replace hS := hS.ext hW
         clear hW
         go_wp2_with fail
         exact ⟨⟨j + 1, mb, u, N0, by go_num, rfl, hlj, HI2, (hS.sub (List.sublist_cons_self _ _)).mono (KS.out.and stable_set) fun D w h => ⟨(kc.out _ _ h).1, (kc.out _ _ h).2.1⟩⟩, by simp [intOf]; omega⟩
      ·obtain rfl : rl.length = j := by omega
       have HI2 : Hid (ULow L ⟨R, some L, st, rl, nl, gl⟩ N0 ∧ (mb = false → ∀ r ∈ rl, r.revoke = false → (r.yes &&& closM L N0 == r.yes) = true → hasB N0 r.target = true)) := Lib.hid ⟨HI.out.low, fun e r hr => (HI.out.no e).2 r (by rw [List.take_length]; exact hr)⟩
       have HLK : Hid (2 * lacks N0 rl + (if mb = true then 1 else 0) < 2 * lacks B rl + 1) := Lib.hid (by
        cases mb with
        | true => have h := HI.out.yes rfl; dsimp only at h; simp; omega
        | false => have h := (HI.out.no rfl).1; rw [h]; simp)
       clear HI
       go_wp2_with (first | ((with_reducible refine qB ?_); (first | refine q1 ?_ ?_ | refine q2 ?_ ?_ | refine q3 ?_ ?_ | refine q4 ?_ ?_ | refine q5 ?_ ?_ | refine q6 ?_ ?_) <;> intro h_ <;> go_prune))
       go_roundg (2 * lacks N0 rl + (if mb = true then 1 else 0))
       case measure => have h2 := HGK.out; simp only [if_true] at h2; exact Nat.lt_of_lt_of_le HLK.out h2
       case rel => exact ⟨mb, u, N0, rfl, Nat.le_refl _, HI2, hS⟩
 ·have HUS : Hid (useN ⟨R, lk, st, rl, nl, gl⟩ = []) := Lib.hid (by unfold useN; rw [if_neg (fun h => h0 (HE.out.trans h))])
  rw [HUS.out]
  go_enter Tryz.func21, Tryz.ntmps21
  go_wp2_with (first
   | ((with_reducible refine qA 1 ?_); refine st_box hS rfl _ _ rfl (.agg #[.int .i64 R, lp, .slice Cs ns cs, .slice Ar rl.length cr, .slice An nl.length cn, .slice Ag gl.length cg]) _ rfl rfl ?_; clear hS; intro g1 w_ hS; (try simp only [Act.put, Act.eval, z1, z2, z3, z4, z5, z6, z7, z8, Value.cells] at hS))
   | ((with_reducible refine qB ?_); (first | refine q1 ?_ ?_ | refine q2 ?_ ?_ | refine q3 ?_ ?_ | refine q4 ?_ ?_ | refine q5 ?_ ?_ | refine q6 ?_ ?_) <;> intro h_ <;> go_prune)
   | ((with_reducible refine qK ?_); first | refine qL hS 0 Tryz.underlying31 ?_ | refine qL hS 1 Tryz.underlying31 ?_ | refine qL hS 2 Tryz.underlying31 ?_ | refine qL hS 3 Tryz.underlying31 ?_)
   | (go_at_call 18; refine (schk_any (kp _ _ hS.ro) HP.out (kt _ _ hS.ro)).mono ?_; rw [← HE.out]; rintro r_ w_ ⟨_, rfl, rfl, hb_⟩; replace hS := hS.ext hb_; clear hb_))
  go_ret
  exact ⟨_, rfl, ((hS.sub (List.nil_sublist _)).nil 3 1).mono (Stable.pure True) fun _ _ _ => trivial⟩
end Go.Proofs.YtihpgmbinhmmlaaGreatDoor
namespace Go.Proofs.YtihpgmbinhmmlaaGreatDoor
open Go.RowKit
set_option exponentiation.threshold 5000

def InR (N : Nat) : Prop := ∀ i, N.testBit i = true → 1 ≤ i ∧ i < 64
theorem tc_nil {a b : Nat} : ¬ TC [] a b := fun h => by obtain ⟨y, h, _⟩ := h.first; simp at h
theorem closM_nil {N : Nat} (h : InR N) : closM [] N = N := mask_ext fun i => by
 rw [tb_closM]
 constructor
 ·rintro ⟨r, h1, h2, h3, h4⟩
  rcases (tb_jun (by intro x hx; simp at hx) h1).1 h4 with rfl | h5
  ·exact h3
  ·exact absurd h5 tc_nil
 ·intro hi
  exact ⟨i, (h i hi).2, (h i hi).1, hi, (tb_jun (by intro x hx; simp at hx) (h i hi).2).2 (.inl rfl)⟩
theorem depM_nil {N : Nat} (h : InR N) : depM [] N = N := mask_ext fun i => by
 rw [tb_dep (by intro x hx; simp at hx)]
 constructor
 ·rintro ⟨r, h1, h2, h3, h4⟩
  rcases (tb_sen (by intro x hx; simp at hx)).1 h4 with rfl | h5
  ·exact h3
  ·exact absurd h5 tc_nil
 ·intro hi
  exact ⟨i, (h i hi).1, (h i hi).2, hi, (tb_sen (by intro x hx; simp at hx)).2 (.inl rfl)⟩
theorem inR_of {N : Nat} (h : N < 2 ^ 7) (h0 : N.testBit 0 = false) : InR N := fun i hi => by
 have : i < 7 := by
  rcases Nat.lt_or_ge i 7 with h1 | h1
  ·exact h1
  ·rw [Nat.testBit_lt_two_pow (Nat.lt_of_lt_of_le h (Nat.pow_le_pow_right (by decide) h1))] at hi; cases hi
 refine ⟨?_, by omega⟩
 rcases Nat.eq_zero_or_pos i with rfl | h1
 ·rw [h0] at hi; cases hi
 ·exact h1
def P1 : ProbD := ⟨5, some [], 0, [⟨false, 4, 0, 1, 0⟩, ⟨false, 0, 0, 2, 0⟩, ⟨false, 2, 0, 3, 0⟩, ⟨true, 0, 0, 4, 0⟩], [(36, 0)], [(2, 0)]⟩
def P2 : ProbD := ⟨5, some [], 4, [⟨false, 12, 0, 1, 0⟩], [], [(2, 0)]⟩
theorem dep2 : depM [] 2 = 2 := depM_nil (inR_of (by decide) (by decide))
theorem dep4 : depM [] 4 = 4 := depM_nil (inR_of (by decide) (by decide))
theorem dep36 : depM [] 36 = 36 := depM_nil (inR_of (by decide) (by decide))
theorem dep0 : depM [] 0 = 0 := depM_nil (inR_of (by decide) (by decide))
theorem check1 : checkE P1 = 0 := by
 have hg : goodB P1 0 = true := by
  show (!(P1.never.any fun z => holdsB z (closM [] 0))) = true
  rw [closM_nil (inR_of (by decide) (by decide))]; decide
 show (if (5 : Int) < 1 ∨ 63 < (5 : Int) then (1 : Int) else if 64 < P1.rules.length ∨ 2000 < P1.never.length ∨ 2000 < P1.goal.length then 3
  else if knownB P1 [] (rolesN 5) = false then 4 else if (P1.cubes.any fun z => z.1 &&& z.2 != 0) = true ∨ P1.rules.all revB = false then 6
  else if goodB P1 0 = false then 7 else 0) = 0
 rw [if_neg (by decide), if_neg (by decide), if_neg (by decide), if_neg (by decide), if_neg (by rw [hg]; decide)]
theorem check2 : checkE P2 = 0 := by
 have hg : goodB P2 4 = true := by
  show (!(P2.never.any fun z => holdsB z (closM [] 4))) = true
  rfl
 show (if (5 : Int) < 1 ∨ 63 < (5 : Int) then (1 : Int) else if 64 < P2.rules.length ∨ 2000 < P2.never.length ∨ 2000 < P2.goal.length then 3
  else if knownB P2 [] (rolesN 5) = false then 4 else if (P2.cubes.any fun z => z.1 &&& z.2 != 0) = true ∨ P2.rules.all revB = false then 6
  else if goodB P2 4 = false then 7 else 0) = 0
 rw [if_neg (by decide), if_neg (by decide), if_neg (by decide), if_neg (by decide), if_neg (by rw [hg]; decide)]
theorem rel1 : relM [] P1 = 38 := by
 refine (Low.eq ⟨fun T hT => ?_, by decide⟩ ⟨fun c hc => ?_, fun r hr h1 h2 => ?_, fun c hc _ => ?_⟩).symm
 ·have a1 : Sub 2 T := by
   have := hT.goal (2, 0) (by simp [P1])
   rw [show depC [] (2, 0) = depM [] 2 from rfl, dep2] at this; exact this
  have a2 : Sub 4 T := by
   have := hT.rules ⟨false, 4, 0, 1, 0⟩ (by simp [P1]) rfl (a1.has (by decide))
   rw [show depR [] ⟨false, 4, 0, 1, 0⟩ = depM [] 4 from rfl, dep4] at this; exact this
  have a3 : Sub 36 T := by
   have := hT.never (36, 0) (by simp [P1]) (by rw [show depC [] (36, 0) = depM [] 36 from rfl, dep36]; exact meets_iff.2 ⟨2, by decide, a2 2 (by decide)⟩)
   rw [show depC [] (36, 0) = depM [] 36 from rfl, dep36] at this; exact this
  have e : (38 : Nat) = 2 ||| 36 := by decide
  rw [e]; exact a1.or a3
 ·obtain rfl : c = (2, 0) := by simpa [P1] using hc
  rw [show depC [] (2, 0) = depM [] 2 from rfl, dep2]; exact within_iff.1 (by decide)
 ·simp only [P1, List.mem_cons, List.not_mem_nil, or_false] at hr
  rcases hr with rfl | rfl | rfl | rfl
  ·rw [show depR [] ⟨false, 4, 0, 1, 0⟩ = depM [] 4 from rfl, dep4]; exact within_iff.1 (by decide)
  ·rw [show depR [] ⟨false, 0, 0, 2, 0⟩ = depM [] 0 from rfl, dep0]; exact within_iff.1 (by decide)
  ·exact absurd h2 (by decide)
  ·cases h1
 ·obtain rfl : c = (36, 0) := by simpa [P1] using hc
  rw [show depC [] (36, 0) = depM [] 36 from rfl, dep36]; exact within_iff.1 (by decide)
theorem relS1 : relS P1 = 38 := by unfold relS; rw [if_pos check1]; exact rel1
theorem ofP1 : (ofP P1).rules.length = 2 ∧ (ofP P1).never.length = 1 := by
 have e : ofP P1 = ⟨5, some [], 0 &&& relM [] P1, keepR (relM [] P1) P1.rules, keepC [] (relM [] P1) P1.never, P1.goal⟩ := by unfold ofP; rw [if_pos check1]; rfl
 rw [e, rel1]
 refine ⟨by decide, ?_⟩
 show (List.filter (fun c => depC [] c &&& 38 != 0) [(36, 0)]).length = 1
 rw [List.filter_cons, show depC [] (36, 0) = depM [] 36 from rfl, dep36]; rfl
theorem ofK1 : ofKept P1 = [0, 1] := by
 have e : ofKept P1 = keepN (relM [] P1) P1.rules P1.rules.length := by unfold ofKept; rw [if_pos check1]; rfl
 rw [e, rel1]; decide
theorem upp2 : uppM [] P2 = 4 := by
 refine (ULeast.eq ⟨⟨Sub.refl _, fun r hr h1 h2 => ?_⟩, fun T hT => hT.start⟩).symm
 obtain rfl : r = ⟨false, 12, 0, 1, 0⟩ := by simpa [P2] using hr
 rw [closM_nil (inR_of (by decide) (by decide))] at h2
 revert h2; decide
theorem use2 : useN P2 = [0] := by
 have e : useN P2 = uslN (closM [] (uppM [] P2)) P2.rules P2.rules.length := by unfold useN; rw [if_pos check2]; rfl
 rw [e, upp2, closM_nil (inR_of (by decide) (by decide))]; rfl
theorem ok1 : P1.Ok := ⟨by decide, by decide, by decide, fun L h => by cases h; exact ⟨HOK.nil, by decide⟩⟩
theorem ok2 : P2.Ok := ⟨by decide, by decide, by decide, fun L h => by cases h; exact ⟨HOK.nil, by decide⟩⟩
end Go.Proofs.YtihpgmbinhmmlaaGreatDoor
namespace Go.Proofs.YtihpgmbinhmmlaaGreatDoor
open Go.RowKit
attribute [local go_sem ↓] Go.wp_at_zero Go.wp_at_succ
set_option maxRecDepth 20000
set_option exponentiation.threshold 5000

theorem one_any {w0 : World} {D : Nat → Prop} {v : Value} {l : List Int} {N : Nat} (hs : Sl w0 D 1 v l.length (ints l)) (hN : ofN l = N) : Calls Tryz.prog 49 #[v] w0 (Ret (fun x w' => IsCube w' (w0.heap.size ≤ ·) x (N, 0)) w0) := by
 obtain ⟨K, k1, hS⟩ : ∃ K : (Nat → Prop) → World → Prop, (∀ D w, K D w → Sl w D 1 v l.length (ints l)) ∧ St w0 w0 [] K := ⟨_, fun _ _ h => h, St.start (stable_sl (by decide)) hs⟩
 clear hs
 go_enter Tryz.func49, Tryz.ntmps49
 go_wp2_with (first
  | ((with_reducible refine qA 2 ?_); refine qa hS #[.slice none 0 0, .slice none 0 0] ?_; clear hS; intro g2 w_ hS)
  | (go_at_call 50; have hsW := hS.size; refine (of_any _ l _ _ (k1 _ _ hS.ro)).mono ?_; rw [hN]; rintro r_ w_ ⟨_, rfl, h1, hb_⟩; obtain ⟨A, c, lw, rfl, -⟩ := h1.parts; replace hS := hS.ret hb_ (stable_inter stable_set fun z => w0.heap.size ≤ z) (h1.imp fun z hz _ => ⟨hz, Nat.le_trans hsW hz⟩); clear h1 hb_ hsW)
  | ((with_reducible show wpList _ _ _ (⟨_, .build _ _, _, _, _, _⟩ :: _) _ _); refine wpList_build_of rfl _ _ rfl #[.slice A lw.length c, .slice none 0 0] (by kernel_rfl) ?_)
  | ((with_reducible refine qM ?_); (first | refine qS hS 0 ?_ | refine qS hS 1 ?_ | refine qS hS 2 ?_ | refine qS hS 3 ?_ | refine qT hS 0 ?_ | refine qT hS 1 ?_ | refine qT hS 2 ?_ | refine qT hS 3 ?_); clear hS; intro w_ hS; (try simp only [Act.put, Act.eval, z1, z2, z3, z4, z5, z6, z7, z8, Value.cells] at hS)))
 refine ret_cell Tryz.results49 rfl (hS.box 0 rfl) Tryz.underlying56 rfl (by kernel_rfl) rfl ?_
 exact Ret.mk ⟨_, _, rfl, hS.ro.2.imp fun z hz _ => hz.2, IsSet.empty⟩ hS.below
theorem st_litg {P : Program} {ops : Array Oper} {rest : List Oper} {o : Oper} {a : Act} {Q : Exit → Act → World → Prop} {w0 w : World} {F : List Fact} {K : (Nat → Prop) → World → Prop} (h : St w0 w F K) (hg : Region.wanted o (yielded ops a.tmps) = true) (t e : TypeId) (len : Nat) (parts : Array (Nat × Operand)) (ho : o.op = .buildSlice t len parts) (ht : P.underlying t = some (.slice e)) (cells : Array Value)
  (hb : builtSlice P e len (parts.map fun (i, x) => (i, a.eval x)).toList = some cells) (size : Nat) (hs : cells.size = len * size) (hm : len ≤ 1000000000000)
  (hk : ∀ g w', St w0 w' (.own (.slice (some ⟨g, 0, none⟩) len len) e size len cells.toList :: F) K → wpList P ops Q rest (a.put o.dst (.slice (some ⟨g, 0, none⟩) len len)) w') : wpList P ops Q (o :: rest) a w :=
 BigFrame.wpList_want hg fun _ hK => opw_slice ho ht rfl hb fun w' hX hB => hK _ _ (hk _ w' (h.new hB _ ⟨by simpa using hs, .inr ⟨w.heap.size, len, cells, rfl, Nat.le_refl _, hX, Nat.le_refl _, by unfold maxLen; omega, hs, by rw [← hs, show cells.size = cells.toList.length by simp, List.take_length]⟩⟩))
theorem st_litp {P : Program} {ops : Array Oper} {rest : List Oper} {o : Oper} {a : Act} {Q : Exit → Act → World → Prop} {w0 w : World} {F : List Fact} {K : (Nat → Prop) → World → Prop} (h : St w0 w F K) (hg : Region.wanted o (yielded ops a.tmps) = true) (t e : TypeId) (len : Nat) (parts : Array (Nat × Operand)) (ho : o.op = .buildSlice t len parts) (ht : P.underlying t = some (.slice e)) (ps : List (Nat × Value)) (hp : (parts.map fun (i, x) => (i, a.eval x)).toList = ps) (cells : Array Value)
  (hb : builtSlice P e len ps = some cells) (size : Nat) (hs : cells.size = len * size) (hm : len ≤ 1000000000000)
  (hk : ∀ g w', St w0 w' (.own (.slice (some ⟨g, 0, none⟩) len len) e size len cells.toList :: F) K → wpList P ops Q rest (a.put o.dst (.slice (some ⟨g, 0, none⟩) len len)) w') : wpList P ops Q (o :: rest) a w :=
 BigFrame.wpList_want hg fun _ hK => opw_slice ho ht hp hb fun w' hX hB => hK _ _ (hk _ w' (h.new hB _ ⟨by simpa using hs, .inr ⟨w.heap.size, len, cells, rfl, Nat.le_refl _, hX, Nat.le_refl _, by unfold maxLen; omega, hs, by rw [← hs, show cells.size = cells.toList.length by simp, List.take_length]⟩⟩))
theorem IsCube.sets {w : World} {D : Nat → Prop} {a b : Value} {z : Nat × Nat} (h : IsCube w D (.agg #[a, b]) z) : IsSet w D (.agg #[a]) z.1 ∧ IsSet w D (.agg #[b]) z.2 := by
 obtain ⟨x, y, he, h1, h2⟩ := h
 have e : a = x ∧ b = y := by simpa using he
 obtain ⟨rfl, rfl⟩ := e
 exact ⟨h1, h2⟩
theorem cc1 {w : World} {D : Nat → Prop} {a b : Value} {z : Nat × Nat} (h : IsCube w D (.agg #[a, b]) z) : CubeCells w D [a, b] [z] := fun i y n hi => by
 cases i with
 | zero => obtain rfl := Option.some.inj (show some z = some (y, n) from hi); exact ⟨a, b, rfl, rfl, h.sets.1, h.sets.2⟩
 | succ i => simp at hi
theorem rcells1 {w : World} {D : Nat → Prop} {a1 b1 a3 b3 : Value} (h1 : IsCube w D (.agg #[a1, b1]) (4, 0)) (h3 : IsCube w D (.agg #[a3, b3]) (2, 0)) :
  RuleCells w D [.bool false, a1, b1, .int .i64 1, .int .i64 0, .bool false, .slice none 0 0, .slice none 0 0, .int .i64 2, .int .i64 0, .bool false, a3, b3, .int .i64 3, .int .i64 0, .bool true, .slice none 0 0, .slice none 0 0, .int .i64 4, .int .i64 0] P1.rules :=
 RuleCells.append (l := [⟨false, 4, 0, 1, 0⟩]) (xs := [.bool false, a1, b1, .int .i64 1, .int .i64 0]) rfl (RuleCells.single h1.sets.1 h1.sets.2)
  (RuleCells.append (l := [⟨false, 0, 0, 2, 0⟩]) (xs := [.bool false, .slice none 0 0, .slice none 0 0, .int .i64 2, .int .i64 0]) rfl (RuleCells.single IsSet.empty IsSet.empty)
   (RuleCells.append (l := [⟨false, 2, 0, 3, 0⟩]) (xs := [.bool false, a3, b3, .int .i64 3, .int .i64 0]) rfl (RuleCells.single h3.sets.1 h3.sets.2) (RuleCells.single (z := ⟨true, 0, 0, 4, 0⟩) IsSet.empty IsSet.empty)))
theorem ofL1 : (ofP P1).links = some [] := by unfold ofP; rw [if_pos check1]; rfl
theorem of1_any {w0 w : World} {F : List Fact} {K : (Nat → Prop) → World → Prop} {v : Value} (hS : St w0 w F K) (kp : ∀ D w, K D w → IsProb w D v P1) (kt : ∀ D w, K D w → DTab w) :
  Calls Tryz.prog 19 #[v] w fun e w' => ∃ (R : Int) (q n3 c3 cr3 cn3 ng3 cg3 : Nat) (A3 Ar3 An3 Ag3 : Option Addr) (k : Value), e = .returned (.tuple #[.agg #[.int .i64 R, .pointer (some ⟨q, 0, none⟩), .slice A3 n3 c3, .slice Ar3 2 cr3, .slice An3 1 cn3, .slice Ag3 ng3 cg3], k, .int .i64 0]) ∧ St w0 w' F fun D w => K D w ∧ Sl w D 1 k ([0, 1] : List Int).length (ints [0, 1]) := by
 have KS := hS.stable
 refine (of_slice_any ok1 hS kp kt).mono ?_
 rintro e w3 ⟨u3, k3, rfl, hS⟩
 obtain ⟨lp3, s3, rv3, nv3, gv3, rfl, hh, hs, hr, hn, hg⟩ := id hS.ro.1.2
 have e1 := ofL1
 have e2 := ofP1
 have e3 := ofK1
 have e4 := check1
 obtain ⟨A3, n3, c3, rfl⟩ := hs.shape
 obtain ⟨Ar3, cr3, rfl, _, _⟩ := hr.shape
 obtain ⟨An3, cn3, rfl, _, _⟩ := hn.shape
 obtain ⟨Ag3, cg3, rfl, _, _⟩ := hg.shape
 rw [e1] at hh
 obtain ⟨q3, o3, rfl, -⟩ := hh
 refine ⟨_, q3, n3, c3, cr3, cn3, _, cg3, A3, Ar3, An3, Ag3, k3, by rw [e2.1, e2.2, e4], ?_⟩
 refine hS.mono (KS.and (stable_sl (by decide))) fun D w h => ⟨h.1.1, ?_⟩
 have h2 := h.2
 rw [e3] at h2
 exact h2
set_option maxHeartbeats 4000000 in
theorem lawake33_any {w0 w : World} {F : List Fact} {K : (Nat → Prop) → World → Prop} (hS : St w0 w F K) (kt : ∀ D w, K D w → DTab w ∧ D 0) : Calls Tryz.prog 11 #[] w fun e w' => e = .returned (.bool true) ∧ St w0 w' F K := by
 have KS := Lib.hid hS.stable
 go_enter Tryz.func11, Tryz.ntmps11
 go_wp2_with (first
  | (go_at_call 51; refine (hnew_any hS kt).mono ?_; clear hS; rintro e w_ ⟨p, rfl, hS⟩; obtain ⟨q, o, rfl, -⟩ := id hS.ro.2)
  | ((with_reducible refine qA 9 ?_); refine st_litown hS rfl _ 3 1 _ rfl Tryz.underlying48 #[.int .i64 2] (by kernel_rfl) 1 rfl (by decide) ?_; clear hS; intro g9 w_ hS; (try simp only [Act.put, List.setIfInBounds_toArray, List.set_cons_zero, List.set_cons_succ]))
  | ((with_reducible refine qA 10 ?_); refine BigFrame.wpList_want rfl fun _ hK => opw_callv (f := 49) (first := #[]) (caps := #[]) (vs := [.slice (some ⟨g9, 0, none⟩) 1 1]) rfl rfl (by kernel_rfl) (by simp [Act.eval, Act.put]) (one_any (l := [2]) (N := 4) (Sl.of_own (hS.own 0 rfl)) (by decide)) fun e w' ⟨x_, he_, hx_, hb_⟩ => ⟨x_, he_, hK _ _ ?_⟩; clear hK; obtain ⟨ya_, na_, rfl, hy_, hn_⟩ := id hx_; obtain ⟨A10, m10, c10, rfl⟩ := hy_.shape; obtain ⟨B10, k10, d10, rfl⟩ := hn_.shape; replace hS := hS.ret hb_ stable_cube hx_; clear hx_ hb_ hy_ hn_ he_; (try simp only [Act.put, List.setIfInBounds_toArray, List.set_cons_zero, List.set_cons_succ]))
  | ((with_reducible refine qA 11 ?_); refine wpList_build_of rfl _ _ rfl #[.bool false, .slice A10 m10 c10, .slice B10 k10 d10, .int .i64 1, .int .i64 0] (by kernel_rfl) ?_; (try simp only [Act.put, List.setIfInBounds_toArray, List.set_cons_zero, List.set_cons_succ]))
  | ((with_reducible refine qA 12 ?_); refine wpList_build_of rfl _ _ rfl #[.bool false, .slice none 0 0, .slice none 0 0, .int .i64 2, .int .i64 0] (by kernel_rfl) ?_; (try simp only [Act.put, List.setIfInBounds_toArray, List.set_cons_zero, List.set_cons_succ]))
  | ((with_reducible refine qA 14 ?_); refine st_litown hS rfl _ 3 1 _ rfl Tryz.underlying48 #[.int .i64 1] (by kernel_rfl) 1 rfl (by decide) ?_; clear hS; intro g14 w_ hS; (try simp only [Act.put, List.setIfInBounds_toArray, List.set_cons_zero, List.set_cons_succ]))
  | ((with_reducible refine qA 15 ?_); refine BigFrame.wpList_want rfl fun _ hK => opw_callv (f := 49) (first := #[]) (caps := #[]) (vs := [.slice (some ⟨g14, 0, none⟩) 1 1]) rfl rfl (by kernel_rfl) (by simp [Act.eval, Act.put]) (one_any (l := [1]) (N := 2) (Sl.of_own (hS.own 0 rfl)) (by decide)) fun e w' ⟨x_, he_, hx_, hb_⟩ => ⟨x_, he_, hK _ _ ?_⟩; clear hK; obtain ⟨ya_, na_, rfl, hy_, hn_⟩ := id hx_; obtain ⟨A15, m15, c15, rfl⟩ := hy_.shape; obtain ⟨B15, k15, d15, rfl⟩ := hn_.shape; replace hS := hS.ret hb_ stable_cube hx_; clear hx_ hb_ hy_ hn_ he_; (try simp only [Act.put, List.setIfInBounds_toArray, List.set_cons_zero, List.set_cons_succ]))
  | ((with_reducible refine qA 16 ?_); refine wpList_build_of rfl _ _ rfl #[.bool false, .slice A15 m15 c15, .slice B15 k15 d15, .int .i64 3, .int .i64 0] (by kernel_rfl) ?_; (try simp only [Act.put, List.setIfInBounds_toArray, List.set_cons_zero, List.set_cons_succ]))
  | ((with_reducible refine qA 17 ?_); refine wpList_build_of rfl _ _ rfl #[.bool true, .slice none 0 0, .slice none 0 0, .int .i64 4, .int .i64 0] (by kernel_rfl) ?_; (try simp only [Act.put, List.setIfInBounds_toArray, List.set_cons_zero, List.set_cons_succ]))
  | ((with_reducible refine qA 18 ?_); refine st_litp hS rfl _ 58 4 _ rfl Tryz.underlying28 [(0, .agg #[.bool false, .slice A10 m10 c10, .slice B10 k10 d10, .int .i64 1, .int .i64 0]), (1, .agg #[.bool false, .slice none 0 0, .slice none 0 0, .int .i64 2, .int .i64 0]), (2, .agg #[.bool false, .slice A15 m15 c15, .slice B15 k15 d15, .int .i64 3, .int .i64 0]), (3, .agg #[.bool true, .slice none 0 0, .slice none 0 0, .int .i64 4, .int .i64 0])] (by simp [Act.eval]) #[.bool false, .slice A10 m10 c10, .slice B10 k10 d10, .int .i64 1, .int .i64 0, .bool false, .slice none 0 0, .slice none 0 0, .int .i64 2, .int .i64 0, .bool false, .slice A15 m15 c15, .slice B15 k15 d15, .int .i64 3, .int .i64 0, .bool true, .slice none 0 0, .slice none 0 0, .int .i64 4, .int .i64 0] (by kernel_rfl) 5 rfl (by decide) ?_; clear hS; intro g18 w_ hS; (try simp only [Act.put, List.setIfInBounds_toArray, List.set_cons_zero, List.set_cons_succ]))
  | ((with_reducible refine qA 20 ?_); refine st_litown hS rfl _ 3 2 _ rfl Tryz.underlying48 #[.int .i64 2, .int .i64 5] (by kernel_rfl) 1 rfl (by decide) ?_; clear hS; intro g20 w_ hS; (try simp only [Act.put, List.setIfInBounds_toArray, List.set_cons_zero, List.set_cons_succ]))
  | ((with_reducible refine qA 21 ?_); refine BigFrame.wpList_want rfl fun _ hK => opw_callv (f := 49) (first := #[]) (caps := #[]) (vs := [.slice (some ⟨g20, 0, none⟩) 2 2]) rfl rfl (by kernel_rfl) (by simp [Act.eval, Act.put]) (one_any (l := [2, 5]) (N := 36) (Sl.of_own (hS.own 0 rfl)) (by decide)) fun e w' ⟨x_, he_, hx_, hb_⟩ => ⟨x_, he_, hK _ _ ?_⟩; clear hK; obtain ⟨ya_, na_, rfl, hy_, hn_⟩ := id hx_; obtain ⟨A21, m21, c21, rfl⟩ := hy_.shape; obtain ⟨B21, k21, d21, rfl⟩ := hn_.shape; replace hS := hS.ret hb_ stable_cube hx_; clear hx_ hb_ hy_ hn_ he_; (try simp only [Act.put, List.setIfInBounds_toArray, List.set_cons_zero, List.set_cons_succ]))
  | ((with_reducible refine qA 22 ?_); refine st_litp hS rfl _ 56 1 _ rfl Tryz.underlying29 [(0, .agg #[.slice A21 m21 c21, .slice B21 k21 d21])] (by simp [Act.eval]) #[.slice A21 m21 c21, .slice B21 k21 d21] (by kernel_rfl) 2 rfl (by decide) ?_; clear hS; intro g22 w_ hS; (try simp only [Act.put, List.setIfInBounds_toArray, List.set_cons_zero, List.set_cons_succ]))
  | ((with_reducible refine qA 24 ?_); refine st_litown hS rfl _ 3 1 _ rfl Tryz.underlying48 #[.int .i64 1] (by kernel_rfl) 1 rfl (by decide) ?_; clear hS; intro g24 w_ hS; (try simp only [Act.put, List.setIfInBounds_toArray, List.set_cons_zero, List.set_cons_succ]))
  | ((with_reducible refine qA 25 ?_); refine BigFrame.wpList_want rfl fun _ hK => opw_callv (f := 49) (first := #[]) (caps := #[]) (vs := [.slice (some ⟨g24, 0, none⟩) 1 1]) rfl rfl (by kernel_rfl) (by simp [Act.eval, Act.put]) (one_any (l := [1]) (N := 2) (Sl.of_own (hS.own 0 rfl)) (by decide)) fun e w' ⟨x_, he_, hx_, hb_⟩ => ⟨x_, he_, hK _ _ ?_⟩; clear hK; obtain ⟨ya_, na_, rfl, hy_, hn_⟩ := id hx_; obtain ⟨A25, m25, c25, rfl⟩ := hy_.shape; obtain ⟨B25, k25, d25, rfl⟩ := hn_.shape; replace hS := hS.ret hb_ stable_cube hx_; clear hx_ hb_ hy_ hn_ he_; (try simp only [Act.put, List.setIfInBounds_toArray, List.set_cons_zero, List.set_cons_succ]))
  | ((with_reducible refine qA 26 ?_); refine st_litp hS rfl _ 56 1 _ rfl Tryz.underlying29 [(0, .agg #[.slice A25 m25 c25, .slice B25 k25 d25])] (by simp [Act.eval]) #[.slice A25 m25 c25, .slice B25 k25 d25] (by kernel_rfl) 2 rfl (by decide) ?_; clear hS; intro g26 w_ hS; (try simp only [Act.put, List.setIfInBounds_toArray, List.set_cons_zero, List.set_cons_succ]))
  | ((with_reducible refine qA 27 ?_); refine wpList_build_of rfl _ _ rfl #[.int .i64 5, .pointer (some ⟨q, 0, none⟩), .slice none 0 0, .slice (some ⟨g18, 0, none⟩) 4 4, .slice (some ⟨g22, 0, none⟩) 1 1, .slice (some ⟨g26, 0, none⟩) 1 1] (by kernel_rfl) ?_; (try simp only [Act.put, List.setIfInBounds_toArray, List.set_cons_zero, List.set_cons_succ]))
  | ((with_reducible refine qA 2 ?_); refine qa hS #[.int .i64 0, .pointer none, .slice none 0 0, .slice none 0 0, .slice none 0 0, .slice none 0 0] ?_; clear hS; intro g2 w_ hS)
  | ((with_reducible refine qM ?_); (first | refine qS hS 0 ?_ | refine qS hS 1 ?_ | refine qS hS 2 ?_ | refine qS hS 3 ?_ | refine qT hS 0 ?_ | refine qT hS 1 ?_ | refine qT hS 2 ?_ | refine qT hS 3 ?_); clear hS; intro w_ hS; (try simp only [Act.put, Act.eval, z1, z2, z3, z4, z5, z6, z7, z8, Value.cells] at hS))
  | ((with_reducible refine qA 29 ?_)
     replace hS := ((hS.freeze 1 (by decide) rfl).freeze 2 (by decide) rfl).freeze 3 (by decide) rfl
     obtain ⟨K1, k0, kp1, hS2⟩ : ∃ K1 : (Nat → Prop) → World → Prop, (∀ D w, K1 D w → K D w) ∧ (∀ D w, K1 D w → IsProb w D (.agg #[.int .i64 5, .pointer (some ⟨q, 0, none⟩), .slice none 0 0, .slice (some ⟨g18, 0, none⟩) 4 4, .slice (some ⟨g22, 0, none⟩) 1 1, .slice (some ⟨g26, 0, none⟩) 1 1]) P1) ∧ St w0 w_ (.box g2 31 #[.int .i64 5, .pointer (some ⟨q, 0, none⟩), .slice none 0 0, .slice (some ⟨g18, 0, none⟩) 4 4, .slice (some ⟨g22, 0, none⟩) 1 1, .slice (some ⟨g26, 0, none⟩) 1 1] :: F) K1 :=
       ⟨_, fun D w h => h.1.1.1.1.1.1.1.1, fun D w h => ⟨_, _, _, _, _, rfl, h.1.1.1.1.1.1.1.2, IsSet.empty, ⟨_, h.2, rcells1 h.1.1.1.1.1.1.2 h.1.1.1.1.1.2⟩, ⟨_, h.1.2, cc1 h.1.1.1.1.2⟩, _, h.1.1.2, cc1 h.1.1.1.2⟩, hS.sub (.cons_cons _ ((((List.sublist_cons_self _ _).trans (List.sublist_cons_self _ _)).trans (List.sublist_cons_self _ _)).trans (List.sublist_cons_self _ _)))⟩
     clear hS
     have hS := hS2
     clear hS2
     refine BigFrame.wpList_want rfl fun _ hK => opw_row rfl rfl (hS.box 0 rfl) Tryz.underlying31 rfl (by kernel_rfl) (hK _ _ ?_)))
 refine (of1_any hS kp1 (fun D w h => (kt D w (k0 D w h)).1)).mono ?_
 clear hS
 rintro e w3 ⟨R3, q3, n3, c3, cr3, cn3, ng3, cg3, A3, Ar3, An3, Ag3, k3, rfl, hS⟩
 obtain ⟨K3, j0, jk, hS2⟩ : ∃ K3 : (Nat → Prop) → World → Prop, (∀ D w, K3 D w → K1 D w) ∧ (∀ D w, K3 D w → Sl w D 1 k3 ([0, 1] : List Int).length (ints [0, 1])) ∧ St w0 w3 (.box g2 31 #[.int .i64 5, .pointer (some ⟨q, 0, none⟩), .slice none 0 0, .slice (some ⟨g18, 0, none⟩) 4 4, .slice (some ⟨g22, 0, none⟩) 1 1, .slice (some ⟨g26, 0, none⟩) 1 1] :: F) K3 := ⟨_, fun D w h => h.1, fun D w h => h.2, hS⟩
 clear hS
 have hS := hS2
 clear hS2
 have hj := Lib.hid fun D w h => kt D w (k0 D w (j0 D w h))
 go_wp2_with (first
  | ((with_reducible refine qA 3 ?_); refine qa hS #[.int .i64 0, .pointer none, .slice none 0 0, .slice none 0 0, .slice none 0 0, .slice none 0 0] ?_; clear hS; intro g3 w_ hS)
  | (go_at_call 51; refine (hnew_any hS hj.out).mono ?_; clear hS; rintro e w_ ⟨p, rfl, hS⟩; obtain ⟨q4, o4, rfl, -⟩ := id hS.ro.2)
  | ((with_reducible refine qA 35 ?_); refine st_litown hS rfl _ 3 1 _ rfl Tryz.underlying48 #[.int .i64 2] (by kernel_rfl) 1 rfl (by decide) ?_; clear hS; intro g35 w_ hS; (try simp only [Act.put, List.setIfInBounds_toArray, List.set_cons_zero, List.set_cons_succ]))
  | (go_at_call 50; refine (of_any _ [2] _ _ (Sl.of_own (hS.own 0 rfl))).mono ?_; rw [show ofN [2] = 4 from by decide]; rintro r_ w_ ⟨_, rfl, h1, hb_⟩; replace hS := hS.ret hb_ stable_set h1; clear h1 hb_; obtain ⟨A36, c36, l36, rfl, -⟩ := hS.ro.2.parts; obtain ⟨n36, hn36⟩ : ∃ n, n = l36.length := ⟨_, rfl⟩; rw [← hn36] at hS ⊢; clear hn36)
  | ((with_reducible refine qA 38 ?_); refine st_litown hS rfl _ 3 2 _ rfl Tryz.underlying48 #[.int .i64 2, .int .i64 3] (by kernel_rfl) 1 rfl (by decide) ?_; clear hS; intro g38 w_ hS; (try simp only [Act.put, List.setIfInBounds_toArray, List.set_cons_zero, List.set_cons_succ]))
  | ((with_reducible refine qA 39 ?_); refine BigFrame.wpList_want rfl fun _ hK => opw_callv (f := 49) (first := #[]) (caps := #[]) (vs := [.slice (some ⟨g38, 0, none⟩) 2 2]) rfl rfl (by kernel_rfl) (by simp [Act.eval, Act.put]) (one_any (l := [2, 3]) (N := 12) (Sl.of_own (hS.own 0 rfl)) (by decide)) fun e w' ⟨x_, he_, hx_, hb_⟩ => ⟨x_, he_, hK _ _ ?_⟩; clear hK; obtain ⟨ya_, na_, rfl, hy_, hn_⟩ := id hx_; obtain ⟨A39, m39, c39, rfl⟩ := hy_.shape; obtain ⟨B39, k39, d39, rfl⟩ := hn_.shape; replace hS := hS.ret hb_ stable_cube hx_; clear hx_ hb_ hy_ hn_ he_; (try simp only [Act.put, List.setIfInBounds_toArray, List.set_cons_zero, List.set_cons_succ]))
  | ((with_reducible refine qA 40 ?_); refine wpList_build_of rfl _ _ rfl #[.bool false, .slice A39 m39 c39, .slice B39 k39 d39, .int .i64 1, .int .i64 0] (by kernel_rfl) ?_; (try simp only [Act.put, List.setIfInBounds_toArray, List.set_cons_zero, List.set_cons_succ]))
  | ((with_reducible refine qA 41 ?_); refine st_litp hS rfl _ 58 1 _ rfl Tryz.underlying28 [(0, .agg #[.bool false, .slice A39 m39 c39, .slice B39 k39 d39, .int .i64 1, .int .i64 0])] (by simp [Act.eval]) #[.bool false, .slice A39 m39 c39, .slice B39 k39 d39, .int .i64 1, .int .i64 0] (by kernel_rfl) 5 rfl (by decide) ?_; clear hS; intro g41 w_ hS; (try simp only [Act.put, List.setIfInBounds_toArray, List.set_cons_zero, List.set_cons_succ]))
  | ((with_reducible refine qA 43 ?_); refine st_litown hS rfl _ 3 1 _ rfl Tryz.underlying48 #[.int .i64 1] (by kernel_rfl) 1 rfl (by decide) ?_; clear hS; intro g43 w_ hS; (try simp only [Act.put, List.setIfInBounds_toArray, List.set_cons_zero, List.set_cons_succ]))
  | ((with_reducible refine qA 44 ?_); refine BigFrame.wpList_want rfl fun _ hK => opw_callv (f := 49) (first := #[]) (caps := #[]) (vs := [.slice (some ⟨g43, 0, none⟩) 1 1]) rfl rfl (by kernel_rfl) (by simp [Act.eval, Act.put]) (one_any (l := [1]) (N := 2) (Sl.of_own (hS.own 0 rfl)) (by decide)) fun e w' ⟨x_, he_, hx_, hb_⟩ => ⟨x_, he_, hK _ _ ?_⟩; clear hK; obtain ⟨ya_, na_, rfl, hy_, hn_⟩ := id hx_; obtain ⟨A44, m44, c44, rfl⟩ := hy_.shape; obtain ⟨B44, k44, d44, rfl⟩ := hn_.shape; replace hS := hS.ret hb_ stable_cube hx_; clear hx_ hb_ hy_ hn_ he_; (try simp only [Act.put, List.setIfInBounds_toArray, List.set_cons_zero, List.set_cons_succ]))
  | ((with_reducible refine qA 45 ?_); refine st_litp hS rfl _ 56 1 _ rfl Tryz.underlying29 [(0, .agg #[.slice A44 m44 c44, .slice B44 k44 d44])] (by simp [Act.eval]) #[.slice A44 m44 c44, .slice B44 k44 d44] (by kernel_rfl) 2 rfl (by decide) ?_; clear hS; intro g45 w_ hS; (try simp only [Act.put, List.setIfInBounds_toArray, List.set_cons_zero, List.set_cons_succ]))
  | ((with_reducible refine qA 46 ?_); refine wpList_build_of rfl _ _ rfl #[.int .i64 5, .pointer (some ⟨q4, 0, none⟩), .slice A36 n36 c36, .slice (some ⟨g41, 0, none⟩) 1 1, .slice none 0 0, .slice (some ⟨g45, 0, none⟩) 1 1] (by kernel_rfl) ?_; (try simp only [Act.put, List.setIfInBounds_toArray, List.set_cons_zero, List.set_cons_succ]))
  | ((with_reducible refine qA 6 ?_); refine qa hS #[.int .i64 0, .pointer none, .slice none 0 0, .slice none 0 0, .slice none 0 0, .slice none 0 0] ?_; clear hS; intro g6 w_ hS)
  | ((with_reducible refine qM ?_); (first | refine qS hS 0 ?_ | refine qS hS 1 ?_ | refine qS hS 2 ?_ | refine qS hS 3 ?_ | refine qT hS 0 ?_ | refine qT hS 1 ?_ | refine qT hS 2 ?_ | refine qT hS 3 ?_); clear hS; intro w_ hS; (try simp only [Act.put, Act.eval, z1, z2, z3, z4, z5, z6, z7, z8, Value.cells] at hS))
  | ((with_reducible refine qA 50 ?_)
     replace hS := (hS.freeze 1 (by decide) rfl).freeze 2 (by decide) rfl
     obtain ⟨K5, m0, kp2, hS2⟩ : ∃ K5 : (Nat → Prop) → World → Prop, (∀ D w, K5 D w → K3 D w) ∧ (∀ D w, K5 D w → IsProb w D (.agg #[.int .i64 5, .pointer (some ⟨q4, 0, none⟩), .slice A36 n36 c36, .slice (some ⟨g41, 0, none⟩) 1 1, .slice none 0 0, .slice (some ⟨g45, 0, none⟩) 1 1]) P2) ∧ St w0 w_ (.box g6 31 #[.int .i64 5, .pointer (some ⟨q4, 0, none⟩), .slice A36 n36 c36, .slice (some ⟨g41, 0, none⟩) 1 1, .slice none 0 0, .slice (some ⟨g45, 0, none⟩) 1 1] :: .box g3 31 #[.int .i64 R3, .pointer (some ⟨q3, 0, none⟩), .slice A3 n3 c3, .slice Ar3 2 cr3, .slice An3 1 cn3, .slice Ag3 ng3 cg3] :: .box g2 31 #[.int .i64 5, .pointer (some ⟨q, 0, none⟩), .slice none 0 0, .slice (some ⟨g18, 0, none⟩) 4 4, .slice (some ⟨g22, 0, none⟩) 1 1, .slice (some ⟨g26, 0, none⟩) 1 1] :: F) K5 :=
       ⟨_, fun D w h => h.1.1.1.1.1.1, fun D w h => ⟨_, _, _, _, _, rfl, h.1.1.1.1.1.2, h.1.1.1.1.2, ⟨_, h.2, RuleCells.single (z := ⟨false, 12, 0, 1, 0⟩) h.1.1.1.2.sets.1 h.1.1.1.2.sets.2⟩, ⟨[], Sl.none_, fun i y n hi => by simp [P2] at hi⟩, _, h.1.2, cc1 h.1.1.2⟩, hS.sub (.cons_cons _ (((List.sublist_cons_self _ _).trans (List.sublist_cons_self _ _)).trans (List.sublist_cons_self _ _)))⟩
     clear hS
     have hS := hS2
     clear hS2
     refine BigFrame.wpList_want rfl fun _ hK => opw_row rfl rfl (hS.box 2 rfl) Tryz.underlying31 rfl (by kernel_rfl) (hK _ _ ?_)))
 have hkp : ∀ D w, K5 D w → IsProb w D (.agg #[.int .i64 5, .pointer (some ⟨q, 0, none⟩), .slice none 0 0, .slice (some ⟨g18, 0, none⟩) 4 4, .slice (some ⟨g22, 0, none⟩) 1 1, .slice (some ⟨g26, 0, none⟩) 1 1]) P1 := fun D w h => kp1 D w (j0 D w (m0 D w h))
 have hkt : ∀ D w, K5 D w → DTab w := fun D w h => (kt D w (k0 D w (j0 D w (m0 D w h)))).1
 have hjk : ∀ D w, K5 D w → Sl w D 1 k3 ([0, 1] : List Int).length (ints [0, 1]) := fun D w h => jk D w (m0 D w h)
 refine (relevant_any (hkp _ _ hS.ro) ok1 (hkt _ _ hS.ro)).mono ?_
 rw [relS1]
 rintro r_ w7 ⟨_, rfl, h1, hb_⟩
 replace hS := hS.ret hb_ stable_set h1
 clear h1 hb_
 go_wp2_with (first
  | ((with_reducible refine qA 52 ?_); refine st_litg hS rfl _ 3 3 _ rfl Tryz.underlying48 #[.int .i64 1, .int .i64 2, .int .i64 5] (by kernel_rfl) 1 rfl (by decide) ?_; clear hS; intro g52 w_ hS; (try simp only [Act.put, List.setIfInBounds_toArray, List.set_cons_zero, List.set_cons_succ]))
  | (go_at_call 50; refine (of_any _ [1, 2, 5] _ _ (Sl.of_own (hS.own 0 rfl))).mono ?_; rw [show ofN [1, 2, 5] = 38 from by decide]; rintro r_ w_ ⟨_, rfl, h1, hb_⟩; replace hS := hS.ret hb_ stable_set h1; clear h1 hb_)
  | (go_at_call 14; refine (equal_any _ _ 38 38 _ _ _ hS.ro.1.2 hS.ro.2).mono ?_; rintro r_ w_ ⟨_, rfl, rfl, hb_⟩; rw [show ((38 : Nat) == 38) = true from rfl]; replace hS := hS.ext hb_; clear hb_)
  | ((with_reducible refine qA 58 ?_); refine st_litg hS rfl _ 3 2 _ rfl Tryz.underlying48 #[.int .i64 0, .int .i64 1] (by kernel_rfl) 1 rfl (by decide) ?_; clear hS; intro g58 w_ hS; (try simp only [Act.put, List.setIfInBounds_toArray, List.set_cons_zero, List.set_cons_succ])))
 refine (sleq_any _ _ [0, 1] [0, 1] _ _ _ (hjk _ _ hS.ro.1.1) (Sl.of_own (hS.own 0 rfl))).mono ?_
 rintro r_ w8 ⟨_, rfl, rfl, hb_⟩
 rw [show (([0, 1] : List Int) == [0, 1]) = true from rfl]
 replace hS := hS.ext hb_
 clear hb_
 go_wp2_with (first
  | ((with_reducible refine qK ?_); first | refine qC hS 0 ?_ | refine qC hS 1 ?_ | refine qC hS 2 ?_ | refine qC hS 3 ?_ | refine qC hS 4 ?_ | refine qC hS 5 ?_ | refine qC hS 6 ?_ | refine qC hS 7 ?_)
  | ((with_reducible refine qA 74 ?_); refine BigFrame.wpList_want rfl fun _ hK => opw_row rfl rfl (hS.box 2 rfl) Tryz.underlying31 rfl (by kernel_rfl) (hK _ _ ?_))
  | (go_at_call 21; refine (useless_any (kp2 _ _ hS.ro.1.1) ok2 (hkt _ _ hS.ro.1.1)).mono ?_; rw [use2]; rintro e_ w_ ⟨u9, rfl, hs⟩; replace hS := hS.new hs.below (.own u9 3 1 ([0] : List Int).length (ints [0])) (hs.own 0 rfl); clear hs)
  | ((with_reducible refine qA 76 ?_); refine st_litg hS rfl _ 3 1 _ rfl Tryz.underlying48 #[.int .i64 0] (by kernel_rfl) 1 rfl (by decide) ?_; clear hS; intro g76 w_ hS; (try simp only [Act.put, List.setIfInBounds_toArray, List.set_cons_zero, List.set_cons_succ]))
  | (go_at_call 30; refine (sleq_any _ _ [0] [0] _ _ _ (Sl.of_own (hS.own 1 rfl)) (Sl.of_own (hS.own 0 rfl))).mono ?_; rintro r_ w_ ⟨_, rfl, rfl, hb_⟩; rw [show (([0] : List Int) == [0]) = true from rfl]; replace hS := hS.ext hb_; clear hb_))
 go_ret
 exact ⟨rfl, (hS.sub (.cons _ (.cons _ (.cons _ (.cons _ (.cons _ (.cons _ (.cons _ (List.Sublist.refl _))))))))).mono KS.out fun D w h => k0 _ _ (j0 _ _ (m0 _ _ h.1.1))⟩
end Go.Proofs.YtihpgmbinhmmlaaGreatDoor
namespace Go.Proofs.YtihpgmbinhmmlaaGreatDoor
open Go.RowKit
attribute [local go_sem ↓] Go.wp_at_zero Go.wp_at_succ
set_option maxRecDepth 20000
set_option exponentiation.threshold 5000

theorem start_bytes1 {W : World} {D : Nat → Prop} {v : Value} {l : List Nat} (h : DTab W) (hv : Sl W D 1 v l.length (u8s l)) : ∃ K : (Nat → Prop) → World → Prop, (∀ D w, K D w → DTab w ∧ D 0) ∧ (∀ D w, K D w → Sl w D 1 v l.length (u8s l)) ∧ St W W [] K :=
 ⟨fun D w => (DTab w ∧ D 0) ∧ Sl w D 1 v l.length (u8s l), fun _ _ h => h.1, fun _ _ h => h.2, St.start (D := fun _ => True) (dtab_stable.and (stable_sl (by decide))) ⟨⟨h, trivial⟩, hv.imp fun _ _ _ => trivial⟩⟩
set_option maxHeartbeats 1000000 in
theorem lrelevant_any (v : Value) (l : List Nat) (W : World) (D : Nat → Prop) (hl : ∀ x ∈ l, x < 256) (hv : Sl W D 1 v l.length (u8s l)) (hT : DTab W) : Calls Tryz.prog 3 #[v] W (Ret (fun x _ => x = .bool true) W) := by
 obtain ⟨K, kt, k1, hS⟩ := start_bytes1 hT hv
 clear hv hT
 have HL := Lib.hid hl
 clear hl
 go_enter Tryz.func3, Tryz.ntmps3
 go_wp2_with (first
  | (go_at_call 11; refine (lawake33_any hS kt).mono ?_; clear hS; rintro e w_ ⟨rfl, hS⟩)
  | (go_at_call 12; refine (lmake31_any HL.out hS k1 kt).mono ?_; clear hS; rintro e w_ ⟨x, u, rfl, p, ⟨L, R, hM⟩, hS⟩; replace hM := Lib.hid hM; obtain ⟨xs, rfl, hx6, hx1⟩ := hS.ro.2.1.cells; replace hx6 := Lib.hid hx6; obtain ⟨us, rfl, hu6, hu1⟩ := hS.ro.2.2.cells; replace hu6 := Lib.hid hu6)
  | ((with_reducible refine qA 3 ?_); refine qa hS #[.int .i64 0, .pointer none, .slice none 0 0, .slice none 0 0, .slice none 0 0, .slice none 0 0] ?_; clear hS; intro g3 w_ hS)
  | ((with_reducible refine qA 4 ?_); refine qa hS #[.int .i64 0, .slice none 0 0, .int .u64 0, .slice none 0 0, .slice none 0 0, .slice none 0 0] ?_; clear hS; intro g4 w_ hS)
  | ((with_reducible refine qm 37 ?_); refine st_store hS 0 rfl _ _ _ rfl _ _ rfl rfl _ _ rfl (by rw [hu6.out]; kernel_rfl) (by rw [hu6.out]; rfl) hu1 ?_; clear hS; intro w_ hS; (try simp only [Act.put, Act.eval, z1, z2, z3, z4, z5, z6, z7, z8, Value.cells] at hS))
  | ((with_reducible refine qm 31 ?_); refine st_store hS 1 rfl _ _ _ rfl _ _ rfl rfl _ _ rfl (by rw [hx6.out]; kernel_rfl) (by rw [hx6.out]; rfl) hx1 ?_; clear hS; intro w_ hS; (try simp only [Act.put, Act.eval, z1, z2, z3, z4, z5, z6, z7, z8, Value.cells] at hS)))
 obtain ⟨S, hSS⟩ : ∃ S, S = relM L p := ⟨_, rfl⟩
 have HR1 : Hid (relS p = S) := Lib.hid (by rw [hSS]; exact hM.out.rel)
 have HR2 : Hid (relM L p = S) := Lib.hid hSS.symm
 have hS64 : S < T64 := by rw [hSS]; exact relM_lt L p
 clear hSS
 refine wp_region_typed (fun i__ v w => match i__ with
  | 0 => v = .bool true
  | 1 => v = .bool true
  | 2 => v = .agg xs
  | 3 => IsSet w (fun _ => True) v S
  | 4 => v = .agg us
  | 5 => v = .int .u64 (S : Nat)
  | 6 => IsSet w (fun _ => True) v S
  | 7 => v = .bool true
  | 8 => v = .bool true
  | 9 => v = .bool true
  | _ => True) (by kernel_rfl) (by kernel_rfl) ?mono ⟨?r0, ?r1, ?r2, ?r3, ?r4, ?r5, ?r6, ?r7, ?r8, ?r9, trivial⟩ ?post
 case mono =>
  intro i v w w' h hb
  match i, h with
  | 0, h | 1, h | 2, h => exact h
  | 3, h => exact h.ext hb
  | 4, h | 5, h => exact h
  | 6, h => exact h.ext hb
  | 7, h | 8, h | 9, h => exact h
  | _ + 10, h => trivial
 case r0 =>
  refine trule fun b__ w hW hold hpre => wU rfl fun K hK => ?_
  have e5 : b__.eval (.tmp 5) = .bool true := (hold 5 (by kernel_rfl)).trans rfl
  exact opw_move rfl e5 (hK _ _ rfl (Below.refl _ _))
 case r1 =>
  refine trule fun b__ w hW hold hpre => wU rfl fun K hK => ?_
  have e14 : b__.eval (.tmp 14) = .bool true := pq hpre 0 0 14
  exact opw_move rfl e14 (hK _ _ rfl (Below.refl _ _))
 case r2 =>
  refine trule fun b__ w hW hold hpre => wT rfl rfl rfl (show b__.eval (.tmp 15) = .bool true from pq hpre 0 1 15) fun K hK => ?_
  have e3 : b__.eval (.tmp 3) = .pointer (some ⟨g3, 0, none⟩) := (hold 3 (by kernel_rfl)).trans rfl
  exact opw_row rfl e3 ((hS.ext (undrew hW)).box 1 rfl) Tryz.underlying31 rfl (by rw [hx6.out]; kernel_rfl) (hK _ _ rfl (Below.refl _ _))
 case r3 =>
  refine trule fun b__ w hW hold hpre => wT rfl rfl rfl (show b__.eval (.tmp 15) = .bool true from pq hpre 1 1 15) fun K hK => ?_
  have e16 : b__.eval (.tmp 16) = .agg xs := pq hpre 0 2 16
  refine opw_call rfl (by kernel_rfl) (by simp only [List.map_cons, List.map_nil, e16]) (relevant_any (hS.ext (undrew hW)).ro.2.1 hM.out.ok (kt _ _ (hS.ext (undrew hW)).ro.1).1) fun v w' h hb => ?_
  exact hK v w' (by rw [← HR1.out]; exact h.imp fun _ _ _ => trivial) hb
 case r4 =>
  refine trule fun b__ w hW hold hpre => wT rfl rfl rfl (show b__.eval (.tmp 15) = .bool true from pq hpre 0 1 15) fun K hK => ?_
  have e4 : b__.eval (.tmp 4) = .pointer (some ⟨g4, 0, none⟩) := (hold 4 (by kernel_rfl)).trans rfl
  exact opw_row rfl e4 ((hS.ext (undrew hW)).box 0 rfl) Tryz.underlying37 rfl (by rw [hu6.out]; kernel_rfl) (hK _ _ rfl (Below.refl _ _))
 case r5 =>
  refine trule fun b__ w hW hold hpre => wT rfl rfl rfl (show b__.eval (.tmp 15) = .bool true from pq hpre 2 1 15) fun K hK => ?_
  have e18 : b__.eval (.tmp 18) = .agg us := pq hpre 0 4 18
  exact opw_call rfl (by kernel_rfl) (by simp only [List.map_cons, List.map_nil, e18]) (rrel_any (hS.ext (undrew hW)).ro.2.2 hM.out) fun v w' h hb => hK v w' (by rw [← HR2.out]; exact h) hb
 case r6 =>
  refine trule fun b__ w hW hold hpre => wT rfl rfl rfl (show b__.eval (.tmp 15) = .bool true from pq hpre 2 1 15) fun K hK => ?_
  have e19 : b__.eval (.tmp 19) = .int .u64 (S : Nat) := pq hpre 0 5 19
  exact opw_call rfl (by kernel_rfl) (by simp only [List.map_cons, List.map_nil, e19]) (lset_any S hS64 _) fun v w' h hb => hK v w' (h.imp fun _ _ _ => trivial) hb
 case r7 =>
  refine trule fun b__ w hW hold hpre => wT rfl rfl rfl (show b__.eval (.tmp 15) = .bool true from pq hpre 3 1 15) fun K hK => ?_
  have e17 : (fun (v : Value) (w : World) => IsSet w (fun _ => True) v S) (b__.eval (.tmp 17)) w := hpre ⟨3, _⟩ (Array.mem_of_getElem? (i := 0) rfl) rfl _ _ rfl rfl
  have e20 : (fun (v : Value) (w : World) => IsSet w (fun _ => True) v S) (b__.eval (.tmp 20)) w := hpre ⟨6, _⟩ (Array.mem_of_getElem? (i := 1) rfl) rfl _ _ rfl rfl
  exact opw_call rfl (by kernel_rfl) (by simp only [List.map_cons, List.map_nil]) (equal_any _ _ S S _ _ _ e17 e20) fun v w' h hb => hK v w' (h.trans (by simp)) hb
 case r8 =>
  refine trule fun b__ w hW hold hpre => wU rfl fun K hK => ?_
  have e15 : b__.eval (.tmp 15) = .bool true := pq hpre 0 1 15
  have e21 : b__.eval (.tmp 21) = .bool true := pq hpre 1 7 21
  exact opw_pick rfl e15 (if_pos rfl) (hK _ _ e21 (Below.refl _ _))
 case r9 =>
  refine trule fun b__ w hW hold hpre => wU rfl fun K hK => ?_
  have e22 : b__.eval (.tmp 22) = .bool true := pq hpre 0 8 22
  exact opw_assign rfl e22 (hK _ _ rfl (Below.refl _ _))
 case post =>
  intro b__ wz hW hdf hsz hold hT
  have e14 : b__.eval (.tmp 14) = .bool true := hT 0 _ 14 rfl rfl
  have e15 : b__.eval (.tmp 15) = .bool true := hT 1 _ 15 rfl rfl
  have e16 : b__.eval (.tmp 16) = .agg xs := hT 2 _ 16 rfl rfl
  have e17 : (fun (v : Value) (w : World) => IsSet w (fun _ => True) v S) (b__.eval (.tmp 17)) wz := hT 3 _ 17 rfl rfl
  have e18 : b__.eval (.tmp 18) = .agg us := hT 4 _ 18 rfl rfl
  have e19 : b__.eval (.tmp 19) = .int .u64 (S : Nat) := hT 5 _ 19 rfl rfl
  have e20 : (fun (v : Value) (w : World) => IsSet w (fun _ => True) v S) (b__.eval (.tmp 20)) wz := hT 6 _ 20 rfl rfl
  have e21 : b__.eval (.tmp 21) = .bool true := hT 7 _ 21 rfl rfl
  have e22 : b__.eval (.tmp 22) = .bool true := hT 8 _ 22 rfl rfl
  have e2 : b__.eval (.tmp 2) = .bool true := hT 9 _ 2 rfl rfl
  obtain ⟨vs, hvs, hb⟩ := frame_of hdf hsz hold
  replace e14 : vs 14 = .bool true := (hvs 14).symm.trans e14
  replace e15 : vs 15 = .bool true := (hvs 15).symm.trans e15
  replace e16 : vs 16 = .agg xs := (hvs 16).symm.trans e16
  replace e17 := (hvs 17) ▸ e17
  replace e18 : vs 18 = .agg us := (hvs 18).symm.trans e18
  replace e19 : vs 19 = .int .u64 (S : Nat) := (hvs 19).symm.trans e19
  replace e20 := (hvs 20) ▸ e20
  replace e21 : vs 21 = .bool true := (hvs 21).symm.trans e21
  replace e22 : vs 22 = .bool true := (hvs 22).symm.trans e22
  replace e2 : vs 2 = .bool true := (hvs 2).symm.trans e2
  subst hb
  clear hvs hold hT hdf hsz
  simp only [setAll, Act.put, List.setIfInBounds_toArray, List.set_cons_zero, List.set_cons_succ, List.getElem_toArray, List.getElem_cons_succ, List.getElem_cons_zero]
  replace hS := hS.ext hW
  go_wp2_with fail
  go_ret
  exact Ret.mk rfl hS.below
end Go.Proofs.YtihpgmbinhmmlaaGreatDoor
namespace Go.Proofs.YtihpgmbinhmmlaaGreatDoor
open Go.RowKit Go.ChangeShapes Go.WideShapes

section
variable {H : Type} {enc : TypeId × Value → H} {P : Program} {w : World} {base : Nat} {sp : Nat → Bool} {held : Bool}
theorem sl_of_trod {t e : TypeId} {size fuel : Nat} {cs : List Value} {x : DataW H × List MemPlace} (ht : P.underlying t = some (.slice e)) (hc : P.cellsOf e = size) (hsz : 0 < size) (h : DataW.trod enc P w base sp held fuel t cs = some x) :
  ∃ v n xs, cs = [v] ∧ Sl w (fun _ => True) size v n xs ∧ ∀ k, k < n → ∃ f' y, DataW.trod enc P w base sp held f' e ((xs.drop (k * size)).take size) = some y := by
 rcases DataW.trod_slice ht h with ⟨rfl, _⟩ | ⟨a, len, cap, elems, rest, n, _, rfl, _, hb, hl, hm, hlen, hel, _⟩
 ·exact ⟨_, 0, [], rfl, ⟨by simp, none, 0, rfl, Nat.le_refl _, Nat.zero_le _, fun h => by omega⟩, fun k hk => by omega⟩
 ·rw [hc] at hel
  have each : ∀ k, k < len → ∃ ck y, w.cells? base (a.add (k * size)) size = some ck ∧ DataW.trod enc P w base sp held n e ck = some y := by
   intro k hk
   have h1 := hel k hk
   rw [List.getElem?_eq_getElem (by omega)] at h1
   obtain ⟨ck, h2, h3⟩ := Option.bind_eq_some_iff.1 h1
   exact ⟨ck, _, h2, h3⟩
  have hadd : ∀ i j, (a.add i).add j = a.add (i + j) := by
   intro i j
   unfold Addr.add
   by_cases h1 : i = 0 <;> by_cases h2 : j = 0 <;> simp [h1, h2, Nat.add_assoc]
  have cell : ∀ j, j < len * size → ∃ x, w.cell? (a.add j) = some x := by
   intro j hj
   have hk : j / size < len := (Nat.div_lt_iff_lt_mul hsz).2 hj
   obtain ⟨ck, y, h1, h2⟩ := each _ hk
   obtain ⟨_, h3, h4⟩ := World.cells?_some h1
   have h5 := h4 (j % size) (Nat.mod_lt _ hsz)
   rw [hadd, Nat.mul_comm, Nat.div_add_mod] at h5
   rw [h5, List.getElem?_eq_getElem (by rw [h3]; exact Nat.mod_lt _ hsz)]
   exact ⟨_, rfl⟩
  refine ⟨.slice (some a) len cap, len, (List.range (len * size)).map fun j => (w.cell? (a.add j)).getD undef, rfl, ⟨by simp, some a, cap, rfl, hl, hm, fun h0 => ?_⟩, fun k hk => ?_⟩
  ·obtain ⟨x0, hx0⟩ := cell 0 (Nat.mul_pos h0 hsz)
   obtain ⟨b, o, s⟩ := a
   have hs : s = none := cell_spot hx0
   subst hs
   refine ⟨b, o, rfl, trivial, ?_, fun j x hx => ?_⟩
   ·have := hx0
    unfold World.cell? at this
    simp only [Addr.add] at this
    rcases Nat.lt_or_ge b w.heap.size with hlt | hge
    ·exact hlt
    ·simp [Array.getElem?_eq_none hge] at this
   ·simp only [List.getElem?_map, Option.map_eq_some_iff] at hx
    obtain ⟨j', hj', rfl⟩ := hx
    have hjl := (List.getElem?_eq_some_iff.1 hj').1
    rw [List.getElem?_range (by simpa using hjl)] at hj'
    obtain rfl := Option.some.inj hj'
    obtain ⟨y, hy⟩ := cell j (by simpa using hjl)
    rw [hy]
    have e : (⟨b, o, none⟩ : Addr).add j = ⟨b, o + j, none⟩ := by
     unfold Addr.add; split <;> simp [*]
    rw [e] at hy
    exact hy
  ·obtain ⟨ck, y, h1, h2⟩ := each k hk
   obtain ⟨_, h3, h4⟩ := World.cells?_some h1
   refine ⟨n, y, ?_⟩
   rw [← h2]
   congr 1
   have hle : k * size + size ≤ len * size := by
    rw [← Nat.succ_mul]; exact Nat.mul_le_mul_right _ hk
   apply List.ext_getElem?
   intro i
   rcases Nat.lt_or_ge i size with hi | hi
   ·rw [List.getElem?_take_of_lt hi, List.getElem?_drop, List.getElem?_map, List.getElem?_range (by omega)]
    have h5 := h4 i hi
    rw [hadd] at h5
    simp only [Option.map_some]
    rw [h5, List.getElem?_eq_getElem (by omega)]
    simp
   ·rw [List.getElem?_eq_none (by simp; omega), List.getElem?_eq_none (by omega)]
end
theorem u8_nat {n : Int} (h : (Lit.int .u8 n).wf = true) : ∃ m : Nat, n = (m : Int) ∧ m < 256 := by
 have := bounds_u8 h
 exact ⟨n.toNat, by omega, by omega⟩
end Go.Proofs.YtihpgmbinhmmlaaGreatDoor
namespace Go.Proofs.YtihpgmbinhmmlaaGreatDoor
open Go.ChangeShapes Go.WideShapes Go.ChangeAt Go.RowKit

set_option maxRecDepth 20000 in
theorem bytes_open {H : Type} {enc : TypeId × Value → H} {W : World} {r : Reach} {b0 base : Nat} {sp : Nat → Bool} {held : Bool} {v : Value} {d : DataW H} {p : List MemPlace} (hv : Value.okWide Tryz.prog W r b0 22 v) (h : DataW.Trod enc Tryz.prog W base sp held 22 v d p) :
  ∃ l : List Nat, (∀ x ∈ l, x < 256) ∧ Sl W (fun _ => True) 1 v l.length (u8s l) := by
 obtain ⟨a0, len0, cap0, rfl⟩ := okWide_slice Tryz.underlying22 hv
 obtain ⟨fuel, hf⟩ := h
 obtain ⟨v, n, xs, e, hs, he⟩ := sl_of_trod Tryz.underlying22 (size := 1) (by kernel_rfl) (by decide) hf
 have hl := hs.1
 have : ∃ zs : List Nat, (∀ x ∈ zs, x < 256) ∧ xs = u8s zs := by
  have : ∀ v ∈ xs, ∃ z : Nat, z < 256 ∧ v = .int .u8 (z : Nat) := by
   intro v hv
   obtain ⟨k, hk, hkv⟩ := List.mem_iff_getElem.1 hv
   obtain ⟨f', y, hy⟩ := he k (by omega)
   obtain ⟨z, hz, _, hw⟩ := DataW.trod_int Tryz.underlying5 hy
   obtain ⟨m, rfl, hm⟩ := u8_nat hw
   have h0 := congrArg (·[0]?) hz
   simp only [Nat.mul_one, List.getElem?_take_of_lt Nat.zero_lt_one, List.getElem?_drop, Nat.add_zero] at h0
   rw [List.getElem?_eq_getElem hk, hkv] at h0
   exact ⟨m, hm, by simpa using h0⟩
  clear hs he hl
  induction xs with
  | nil => exact ⟨[], fun x hx => by simp at hx, rfl⟩
  | cons a r ih =>
   obtain ⟨zs, hzs, rfl⟩ := ih fun v hv => this v (List.mem_cons_of_mem _ hv)
   obtain ⟨z, hz, rfl⟩ := this a List.mem_cons_self
   exact ⟨z :: zs, fun x hx => by rcases List.mem_cons.1 hx with rfl | hx; exact hz; exact hzs x hx, rfl⟩
 obtain ⟨zs, hzs, rfl⟩ := this
 have hz : zs.length = n := by simpa [u8s] using hl
 obtain rfl : v = .slice a0 len0 cap0 := by simpa [Value.cells] using e.symm
 exact ⟨zs, hzs, hz ▸ hs⟩
end Go.Proofs.YtihpgmbinhmmlaaGreatDoor
namespace Go.Proofs.YtihpgmbinhmmlaaGreatDoor
open Go.RowKit Go.ChangeShapes Go.WideShapes

theorem boxF_of_reads {w : World} {n : String} {g : Nat} {t e : TypeId} {m : Nat} {k : IntKind} {zs : List Int} (hg : Tryz.prog.globalNamed n = some g) (hty : (Tryz.prog.globals[g]?).map (·.type) = some t)
  (ht : Tryz.prog.underlying t = some (.array m e)) (he : Tryz.prog.underlying e = some (.int k)) (hce : Tryz.prog.cellsOf e = 1) (hct : Tryz.prog.cellsOf t = m) (h : Lib.VarReads Tryz.prog w n (Lib.tabData k zs)) :
  ∃ t, BoxF w g t (zs.map fun z => Value.int k z).toArray := by
 obtain ⟨g', t', cs, fuel, p, hg', hty', hvar, hd⟩ := h
 obtain rfl := Option.some.inj (hg.symm.trans hg')
 obtain rfl := Option.some.inj (hty.symm.trans hty')
 have hcs := Lib.cells_of_tab ht he hce hct hd
 simp only [World.var?, hg, Option.bind_some] at hvar
 split at hvar
 ·rename_i cs' t'' f heq
  obtain rfl := Option.some.inj hvar
  refine ⟨(t'', f), ?_⟩
  rw [← hcs]
  exact heq
 ·cases hvar
end Go.Proofs.YtihpgmbinhmmlaaGreatDoor
namespace Go.Proofs.YtihpgmbinhmmlaaGreatDoor
open Go.RowKit Go.ChangeShapes Go.WideShapes

theorem dtab_of_reads {w : World} (h1 : Lib.VarReads Tryz.prog w "math/bits.deBruijn64tab" Rows.laid_math_bits_deBruijn64tab) : DTab w := by
 have e1 : (Rows.laid_math_bits_deBruijn64tab : DataW Unit) = Lib.tabData .u8 (dbL.map fun x : Nat => (x : Int)) := by kernel_rfl
 rw [e1] at h1
 obtain ⟨t, b1⟩ := boxF_of_reads (g := 0) (by kernel_rfl) (t := 188) (by kernel_rfl) Tryz.underlying188 Tryz.underlying5 (by kernel_rfl) (by kernel_rfl) h1
 have e : (List.map (fun z => Value.int .u8 z) (dbL.map fun x : Nat => (x : Int))) = u8s dbL := by simp [u8s]
 rw [e] at b1
 intro q hq
 rw [b1.cell, List.getElem?_toArray]
 exact u8s_at _ _ hq
end Go.Proofs.YtihpgmbinhmmlaaGreatDoor
namespace Go.Proofs.YtihpgmbinhmmlaaGreatDoor
open Go.ChangeShapes Go.WideShapes Go.ChangeAt Go.RowKit

theorem srel_laid_plain (W : World) (h : laidMetH Tryz.prog Rows.sliceRelevantRow.laid W) : DTab W := by
 have h' : laidMetH Tryz.prog [("math/bits.deBruijn64tab", Rows.laid_math_bits_deBruijn64tab)] W := h
 rw [MakeChecks.laidMetH_plain _ _ _ (by kernel_rfl)] at h'
 exact dtab_of_reads (Lib.laidMet.reads h' (.head _))
noncomputable def srelStart (os : Os) : World := World.laidAll Tryz.prog os Rows.sliceRelevantRow.laid
theorem srel_start_met (os : Os) (args : Array Value) : laidMetH Tryz.prog Rows.sliceRelevantRow.laid ((srelStart os).forCall (fun _ _ => 0) ⟨#[], args, []⟩).memory := by
 rw [MakeChecks.laidMetH_plain _ _ _ (by kernel_rfl)]
 exact laidMet_laidAll _ (by kernel_rfl) (by kernel_rfl)
theorem srel_own : ownKnob Tryz.prog.godebug = none := by kernel_rfl
theorem srel_laidOut : laidOutB Tryz.prog = true := by kernel_rfl

set_option maxRecDepth 100000 in
theorem srel_lifted (os : Os) (started : os.Started) (H : Type) (enc : TypeId × Value → H) :
  ReturnsInHanded {} Tryz.checked os 3 .any (fun w args => (Rows.sliceRelevantSpec.pre enc Tryz.prog Tryz.f3 [] false w args ∧ laidMetH Tryz.prog Rows.sliceRelevantRow.laid w) ∧ sizedMet enc Tryz.prog Tryz.f3 (OpenSpec.ofChange Rows.sliceRelevantSpec) false w args)
   (Rows.sliceRelevantSpec.post enc Tryz.prog Tryz.f3 false true false false) := by
 refine returnsInHanded_of_change_and (C := Tryz.checked) (X := fun w _ => laidMetH Tryz.prog Rows.sliceRelevantRow.laid w) (fun _ _ _ hh h => h.of_heap hh) srel_own started (by kernel_rfl) Tryz.func3
  (ChangeSpec.witness_shaped (enc := enc) (C := Tryz.checked) (os := os) (X := fun w _ => laidMetH Tryz.prog Rows.sliceRelevantRow.laid w) false (srelStart os) #[.slice none 0 0] 8 (World.laidAll_os _ _ _) (World.shaped_of_ZipB (by kernel_rfl) (by kernel_rfl)) (by kernel_rfl) (by kernel_rfl) (by kernel_rfl) (srel_start_met os _)) ?_
 intro W base args ds gs before hval0 hW _ _ hL _
 have hval : ∀ (j : Nat) t v, Tryz.f3.params[j]? = some t → args[j]? = some v → Value.okWide Tryz.prog W .any base t v := hval0
 have hW' := hW
 obtain ⟨p, q, hA0, hV, rfl, hfz, hnd⟩ := hW
 have hA : DataW.TrodAll enc Tryz.prog W 0 (fun _ => true) true Tryz.f3.params.toList args.toList ds p := hA0
 rw [Tryz.params3] at hA hval
 obtain ⟨v0, d0, rfl, rfl, h0⟩ := trodAll_one hA
 obtain ⟨rfl, rfl⟩ := trodVars_none hV
 obtain ⟨l, hl, hs⟩ := bytes_open (hval 0 _ v0 rfl rfl) h0
 have hT := srel_laid_plain W hL
 have lt : ∀ z ∈ p, z.block < W.heap.size := fun z hz => by simpa using hW'.lt z (by simpa using hz)
 refine (lrelevant_any v0 l W _ hl hs hT).mono fun E W' he => ?_
 obtain ⟨r, rfl, rfl, hb⟩ := he
 refine ⟨_, rfl, _, _, _, [], p, [], hW', ?_, ?_, ?_, hb.frame _, fun h => by cases h⟩
 ·exact trodAll_mk1 (shut_bool Tryz.underlying4 true)
 ·rw [Tryz.params3]
  exact trodAll_mk1 (Below.trod srel_laidOut (by kernel_rfl) (of_decide_eq_true (by kernel_rfl)) h0 hb fun z hz => lt z (hz))
 ·rfl

theorem srel_holds : Rows.SliceRelevantSaid :=
 OpenClaim.holds_of_wide 3 Tryz.f3 rfl rfl rfl rfl rfl rfl rfl ⟨rfl, rfl, rfl, rfl, rfl⟩ rfl rfl rfl rfl rfl (by kernel_rfl) Tryz.func3 (by kernel_rfl)
  (of_decide_eq_true (by kernel_rfl)) (by unfold Func.isWrapper; rw [if_neg (by decide +kernel)]; exact ⟨rfl, rfl⟩)
  (fun os started H enc _ => srel_lifted os started H enc)
end Go.Proofs.YtihpgmbinhmmlaaGreatDoor
namespace Go.Proofs.YtihpgmbinhmmlaaGreatDoor
open Go

theorem srel_card : Rows.SliceRelevantCardSaid :=
 Claim7.holds_tied_plain_at .later [] [.data] true (true, "2d0cce7fd9cc136f77960caa9ad49f21584df77fdf1a824aa537d6f087b5c6e9") false
  srel_holds (fun _ h => by cases h) (by kernel_rfl) (fun _ h => by cases h) sliceRelevant_row_tie rfl ⟨rfl, rfl⟩ (by kernel_rfl) rfl
  (fun f fn hf hfn => by
   obtain rfl : f = 3 := Option.some.inj ((show Tryz.prog.funcNamed "arbac/arbaclaw33.SliceRelevant" = some 3 by kernel_rfl).symm.trans hf) |>.symm
   obtain rfl : fn = Tryz.f3 := (Option.some.inj (Tryz.func3.symm.trans hfn)).symm
   exact ⟨by kernel_rfl, fun j t ht => by
    rw [Tryz.params3] at ht
    have h3 : t = 22 := by
     rcases j with _ | j
     ·simp at ht; simp [← ht]
     ·simp at ht
    rcases h3 with rfl
    ·exact (show Tryz.prog.wantsStandIn 22 = false by kernel_rfl)⟩)
  (by kernel_rfl)
end Go.Proofs.YtihpgmbinhmmlaaGreatDoor
namespace Go.Proofs.YtihpgmbinhmmlaaGreatDoor
#print axioms srel_card
end Go.Proofs.YtihpgmbinhmmlaaGreatDoor
